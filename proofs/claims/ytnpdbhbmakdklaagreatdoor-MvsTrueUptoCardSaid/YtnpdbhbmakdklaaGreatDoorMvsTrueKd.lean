/- What the proof of MvsTrue leans on, part 4: May2 May3 Path5 Ref3 PathLaw Open Laid Op1 QuotePlain QuotePlain2 QuotePlain3 OpV Op2 Wld0 Ent1 Ent2 EntW TabW Wld1 Wld2 Wld3 Wld4 Wld5 Room Plc Crt Drp Mov SlcK Sts OpenW StW Sts2 StX Kep Stp Stp2 Stp3 Stp4 Deed Doo Dra1 Dra2 Rf4 Rf5 Rf6 Rf7 Op3 Op4 Op5 Ref19 Rf8 Snd2 Snd3 Snd4 Snd5 Snd6 Snd7 Rf9. No condition beyond what each theorem states. -/
import Derived.Test.YtnpdbhbmakdklaaGreatDoorMvsTrueKc
import Derived.Lib.QuoteLoop
import Derived.Lib.IndexAny
import Derived.ProofKit
import Derived.Deep.Slices
import Derived.Deep.Fields
import Derived.ChangeSame
import Derived.ChangeOld
import Derived.Lib.SmallJoins
import Derived.Lib.LaidU8
import Derived.OpenShut
import Derived.FnData
import Derived.Lib.Bytealg
set_option linter.unusedVariables false
set_option linter.unusedSimpArgs false
set_option linter.unusedSectionVars false
set_option maxRecDepth 100000
set_option maxHeartbeats 4000000
namespace Go.Proofs.YtnpdbhbmakdklaaGreatDoor.Vcg
variable {P:Program} {W:World} {l:List (Int×Int)} {x:zo} {f:FsV} {args:List C} {n i:Int} {k N:Nat} {xs:List zo} {α κ:Type} {S:List Int}
section
open Go.RowKit Go.Shelf
def bad (b:UInt8):Bool:=decide (b=47)||decide (b=0)
theorem V9 (b:UInt8):[47,0].contains b=bad b:=by simp[bad,List.contains_iff_mem,Bool.eq_iff_iff]
theorem uP {b:Nat} {s:ByteArray} {pos:Nat} (hb:W.heap[b]?=some (.stringIter s pos)) (h:pos<s.size) (ty:TypeId) :
  (Instr.next (.pointer (some ⟨b,0,none⟩)) true ty).run P W = .ok (.tuple #[.bool true,.int .i64 pos,.int .i32 (Utf8.decode s pos).1]) (W.putObj b (.stringIter s (pos+(Utf8.decode s pos).2))):=by
 simp only[Instr.next,getObj,setObj,Wp,Sem.run,hb,Result.andThen,h,if_true];simp[goInt,Sem.run,hb,World.putObj]
theorem kR {b:Nat} {s:ByteArray} {pos:Nat} (hb:W.heap[b]?=some (.stringIter s pos)) (h:¬pos<s.size) (ty:TypeId) :
  (Instr.next (.pointer (some ⟨b,0,none⟩)) true ty).run P W = .ok (.tuple #[.bool false]) W:=by
 simp[Instr.next,getObj,Sem.run,hb,h]
theorem get!_eq (s:ByteArray) (k:Nat) (hk:k<s.size):s.get! k=s[k]'hk:=by
 simp[ByteArray.get!,BW,hk];rfl
theorem zk8 {c:Nat} (h:c<55296∨(57344<=c/\c<=1114111)):Utf8.valid (c:Int)=true:=by
 unfold Utf8.valid;rcases h with h | h
 ·have h1:((c:Int)<55296):=by omega
  simp;omega
 ·simp;omega
theorem vW (s:ByteArray) (i:Nat) (h:i<s.size):(((s[i]'h).toNat<128/\Utf8.decode s i=((s[i]'h).toNat,1))∨(128<=(Utf8.decode s i).1/\Utf8.valid ((Utf8.decode s i).1:Int)=true/\1<=(Utf8.decode s i).2/\i+(Utf8.decode s i).2<=s.size/\∀ j (hj:j<s.size),i<=j->j<i+(Utf8.decode s i).2->128<=(s[j]'hj).toNat)):=by
 by_cases ha:(s[i]'h).toNat<128
 ·exact .inl ⟨ha,decode_ascii s i h ha⟩
 ·refine .inr ?_;have hb0:¬(s.get! (i+0)).toNat<128:=by rw[Ap,get!_eq s i h];exact ha
  have hby:∀ n,(∀ k,k<n->128<=(s.get! (i+k)).toNat)->∀ j (hj:j<s.size),i<=j->j<i+n->128<=(s[j]'hj).toNat:=fun n hn j hj h1 h2=>by
   have:=hn (j-i) (by omega);rw[show i+(j-i)=j by omega,get!_eq s j hj]at this;exact this
  have hone:128<=65533/\Utf8.valid ((65533:Nat):Int)=true/\1<=1/\i+1<=s.size/\∀ j (hj:j<s.size),i<=j->j<i+1->128<=(s[j]'hj).toNat:=
   ⟨by omega,by decide,by omega,by omega,hby 1 fun k hk=>by rw[show k=0 by omega];omega⟩
  unfold Utf8.decode;simp only[if_neg hb0,Utf8.runeError];obtain ⟨b0,hg0⟩:∃ b,(s.get! (i+0)).toNat=b:=⟨_,rfl⟩;obtain ⟨b1,hg1⟩:∃ b,(s.get! (i+1)).toNat=b:=⟨_,rfl⟩;obtain ⟨b2,hg2⟩:∃ b,(s.get! (i+2)).toNat=b:=⟨_,rfl⟩;obtain ⟨b3,hg3⟩:∃ b,(s.get! (i+3)).toNat=b:=⟨_,rfl⟩;rw[hg0]at hb0;simp only[hg0,hg1,hg2,hg3];have hlt:b0<256:=by rw[←hg0];exact (s.get! (i+0)).toNat_lt
  split
  ·rename_i hc;simp only[Wt,OC,W6]at hc;split
   ·rename_i hv;refine ⟨by show 128<=_;omega,zk8 (.inl (by omega)),by show 1<=2;omega,by show i+2<=_;omega,hby 2 fun k hk=>?_⟩;rcases (show k=0∨k=1 by omega) with rfl | rfl
    ·rw[hg0];omega
    ·rw[hg1];omega
   ·exact hone
  ·split
   ·rename_i hc;simp only[Wt,OC,W6]at hc;split
    ·rename_i hv;simp only[Wt,W6]at hv;refine ⟨by show 128<=_;omega,hv.2,by show 1<=3;omega,by show i+3<=_;omega,hby 3 fun k hk=>?_⟩;rcases (show k=0∨k=1∨k=2 by omega) with rfl | rfl | rfl
     ·rw[hg0];omega
     ·rw[hg1];omega
     ·rw[hg2];omega
    ·exact hone
   ·split
    ·rename_i hc;simp only[Wt,OC,W6]at hc;split
     ·rename_i hv;simp only[Wt,W6]at hv;refine ⟨by show 128<=_;omega,hv.2,by show 1<=4;omega,by show i+4<=_;omega,hby 4 fun k hk=>?_⟩;rcases (show k=0∨k=1∨k=2∨k=3 by omega) with rfl | rfl | rfl | rfl
      ·rw[hg0];omega
      ·rw[hg1];omega
      ·rw[hg2];omega
      ·rw[hg3];omega
     ·exact hone
    ·exact hone
theorem GS (r:Int) (h1:128<=r) (hv:Utf8.valid r=true) (w:World):Calls Tryz.prog 234 #[.string ⟨#[47,0]⟩,.int .i32 r] w fun e w'=>e = .returned (.int .i64 (-1))/\Below w.heap.size w w':=by
 by_cases h2:r=65533
 ·subst h2;exact Nj w
 ·refine ((xA r h1 hv h2).2 ⟨w,fun _ _=>False,fun _=>False⟩ [.string ⟨#[47,0]⟩,.int .i32 r] (fun g cs h=>by cases h) ?_).mono ?_
  ·exact zh.2 ⟨_,_,rfl,z6.2 rfl,zh.2 ⟨_,_,rfl,zr.2 rfl,zm.2 rfl⟩⟩
  ·rintro e w' ⟨v,R',L',rfl,rfl,hst,hr⟩;rw[zr]at hr;exact ⟨by rw[hr],hst.below⟩
theorem zhJ (w:World) (s:ByteArray):(w.iter s 0).heap[w.heap.size]?=some (.stringIter s 0):=World.iter_heap w s 0
theorem v7 {w:World} {s:ByteArray} {p:Nat} (hb:Below w.heap.size w W) (hs:W.heap[w.heap.size]?=some (.stringIter s p)) (p':Nat):Below w.heap.size w (W.putObj w.heap.size (.stringIter s p'))/\(W.putObj w.heap.size (.stringIter s p')).heap[w.heap.size]?=some (.stringIter s p'):=
 ⟨⟨hb.os,hb.tape,hb.output,by simpa using hb.size,fun k hk=>(WZ (by omega)).trans (hb.block k hk)⟩,Bc (qi hs)⟩
theorem zdK {w W':World} {s:ByteArray} {p:Nat} (hb:Below w.heap.size w W) (hs:W.heap[w.heap.size]?=some (.stringIter s p)) (h:Below W.heap.size W W'):Below w.heap.size w W'/\W'.heap[w.heap.size]?=some (.stringIter s p):=
 ⟨hb.trans (h.mono hb.size),(h.block _ (qi hs)).trans hs⟩
theorem H3 (s:ByteArray) (w:World) (h8:s.size<=8):Calls Tryz.prog 202 #[.string s,.string ⟨#[47,0]⟩] w fun e w'=>e = .returned (.int .i64 (Lib.indexAny s.data.toList [47,0]))/\Below w.heap.size w w':=by
 have h8z:decide ((8:Int)<(s.size:Int))=false:=Wk (by omega);have hsi:=zhJ w s;have hbi:Below w.heap.size w (w.iter s 0):=(W7 _ _).alloc (Wb _) _;have HI:Aside ((w.iter s 0).heap[w.heap.size]?=some (.stringIter s 0)/\Below w.heap.size w (w.iter s 0)):=⟨hsi,hbi⟩;clear hsi hbi
 go_enter Tryz.func202,Tryz.ntmps202
 go_wp2_with (go_at_call 235;refine (Tryz.strings_shouldUseASCIISet _ _).mono ?_;rintro e w' ⟨rfl,hw⟩;rw[hw,h8z])
 go_loopg [9,10] s.size (fun g _ _ wx=>∃ i:Nat,i+g=s.size/\wx.heap[w.heap.size]?=some (.stringIter s i)/\Below w.heap.size w wx/\Lib.NoAny s.data.toList [47,0] i)
 case atStart=>exact ⟨0,by omega,HI.out.1,HI.out.2,Lib.NoAny.zero _ _⟩
 case round =>
  obtain ⟨i,hig,hs,hbl,hno⟩:=hrel;have HN:Aside (Lib.NoAny s.data.toList [47,0] i/\wr.heap[w.heap.size]?=some (.stringIter s i)/\Below w.heap.size w wr):=⟨hno,hs,hbl⟩;cases gk with
  | zero =>
   obtain rfl:i=s.size:=by omega
   have hnx:=fun ty=>kR (P:=Tryz.prog) hs (by omega) ty;clear hno hs hbl
   go_wp2
   go_ret
   exact ⟨by rw[Lib.indexAny_none (by rw[←Lib.size_eq];exact HN.out.1)];rfl,HN.out.2.2⟩
  | succ g =>
   have hi:i<s.size:=by omega
   have hnx:=fun ty=>uP (P:=Tryz.prog) hs hi ty;have hpi:=v7 hbl hs (i+(Utf8.decode s i).2);have HP:Aside (Below w.heap.size w (wr.putObj w.heap.size (.stringIter s (i+(Utf8.decode s i).2)))/\(wr.putObj w.heap.size (.stringIter s (i+(Utf8.decode s i).2))).heap[w.heap.size]?=some (.stringIter s (i+(Utf8.decode s i).2))):=hpi;clear hno hs hbl hpi;obtain ⟨x,hx⟩:∃ x:UInt8,s[i]'hi=x:=⟨_,rfl⟩;have hxl:s.data.toList[i]?=some x:=by rw[←hx];exact Lib.data_getElem? s i hi
   rcases vW s i hi with ⟨hd1,hd2⟩ | ⟨hd1,hd2,hd3,hd4,hd5⟩
   ·rw[hx]at hd1 hd2;rw[hd2]at hnx HP;have Hx:Aside (s.data.toList[i]?=some x):=hxl;clear hxl hx hd2;have hcon:=Lib.contains_iff_indexByte [47,0] x;have hback:((x.toNat:Int)).toNat.toUInt8=x:=by simp
    cases hin:([47,0]:Lz).contains x
    ·rw[hin]at hcon;have hlt:¬((0:Int)<=Lib.indexByte [47,0] x):=OQ hcon.symm;clear hcon
     go_wp2_with (go_at_call 234;refine (Tryz.strings_IndexRune_ascii _ _ _ (by omega) (by omega)).mono ?_;rintro e w' ⟨rfl,hw⟩;rw[hw,hback])
     go_roundg g
     case measure=>omega
     case rel=>exact ⟨i+1,by omega,HP.out.2,HP.out.1,HN.out.1.succ Hx.out hin⟩
    ·rw[hin]at hcon;have hge:(0:Int)<=Lib.indexByte [47,0] x:=WR hcon.symm;clear hcon
     go_wp2_with (go_at_call 234;refine (Tryz.strings_IndexRune_ascii _ _ _ (by omega) (by omega)).mono ?_;rintro e w' ⟨rfl,hw⟩;rw[hw,hback])
     go_ret
     exact ⟨by rw[Lib.indexAny_hit HN.out.1 Hx.out hin];rfl,HP.out.1⟩
   ·obtain ⟨c,hc⟩:∃ c,(Utf8.decode s i).1=c:=⟨_,rfl⟩;obtain ⟨n,hn⟩:∃ n,(Utf8.decode s i).2=n:=⟨_,rfl⟩;rw[hc,hn]at hnx;rw[hn]at HP hd3 hd4 hd5;rw[hc]at hd1 hd2;have H5:Aside (∀ j (hj:j<s.size),i<=j->j<i+n->128<=(s[j]'hj).toNat):=hd5;have H2:Aside (Utf8.valid (c:Int)=true):=hd2;clear hd5 hd2 hxl hx hc hn
    go_wp2_with (go_at_call 234;refine (GS _ (by omega) H2.out _).mono ?_;rintro e w' ⟨rfl,hw⟩;have HW:=zdK HP.out.1 HP.out.2 hw)
    go_roundg (s.size-(i+n))
    case measure=>omega
    case rel =>
     refine ⟨i+n,by omega,HW.2,HW.1,fun j b hj hb=>?_⟩;rcases Wr j i with g | g
     ·exact HN.out.1 j b g hb
     ·have hjs:j<s.size:=by omega
      have:=H5.out j hjs g hj;have hb2:=Lib.data_getElem? s j hjs;rw[hb]at hb2;have hb3:b=s[j]'hjs:=Option.some.inj hb2;rw[V9,hb3];have h47:s[j]'hjs≠47:=fun e=>by rw[e]at this;revert this;decide
      have h00:s[j]'hjs≠0:=fun e=>by rw[e]at this;revert this;decide
      simp[bad,h47,h00]
end
section
open Go.RowKit Go.Shelf
theorem H6 (w:World):(zeroValue 254).run Tryz.prog w = .ok (.agg (Array.replicate 256 (.bool false))) w:=by kernel_rfl
theorem Uo:∀ l:Lz,decide (0<=Lib.indexAny l [47,0])=l.any bad
 | []=>rfl
 | b :: l=>by
  have ih:=Uo l;have hg:=Lib.indexAny_ge [47,0] l;unfold Lib.indexAny;rw[V9,A7];cases hb:bad b with
  | true=>simp
  | false =>
   simp only[W0,Oi,O7,←ih];split
   ·rename_i h;have:=OC.1 h
    first | rw[this];done | (rw[this];rfl)
   ·rename_i h;have h':Lib.indexAny l [47,0]≠-1:=by simpa using h
    rw[Bb];omega
theorem xZ (l:Lz) (hl:l.length<=1000000):Fun Tryz.prog G0 202 [.str l,.str [47,0]] (.sc (.int .i64 (Lib.indexAny l [47,0]))) 0:=by
 refine Fun.wrap (by kernel_rfl) fun R vs h=>?_;obtain ⟨v1,us1,rfl,h1,h⟩:=zh.1 h;obtain ⟨v2,us2,rfl,h2,h⟩:=zh.1 h;rw[zm]at h;subst h;rw[z6]at h1 h2;subst h1 h2;have hsz:(ByteArray.mk l.toArray).size=l.length:=by simp[ByteArray.size]
 by_cases h8:l.length<=8
 ·refine (H3 ⟨l.toArray⟩ R.w (by omega)).mono ?_;rintro e w' ⟨rfl,hb⟩;exact ⟨_,rfl,hb,fun R' _=>zr.2 (by simp)⟩
 ·refine (Tryz.strings_IndexAny_long H6 ⟨l.toArray⟩ ⟨#[47,0]⟩ R.w (by decide) (by omega) (by omega) (by decide) ?_).mono ?_
  ·intro j b hb;have:b=47∨b=0:=by
    have:=Wg hb;simpa using this
   rcases this with rfl | rfl<;>decide
  ·rintro e w' ⟨rfl,rfl⟩;exact ⟨_,rfl,((W7 _ _).alloc (Wb _) _).alloc (by simp) _,fun R' _=>zr.2 (by simp)⟩
theorem YI (l:Lz) (hl:l.length<=1000000):Fun Tryz.prog G0 169 [.str l,.str [47,0]] (qQ (l.any bad)) 0:=by
 have h:=Uo l;refine fon Tryz.func169 ?_;dsimp only[Tryz.f169];push_cast;refine call (xZ l hl) ?_;push_cast;exact dn (by push_cast [ze,zd,CLe,zg,h])
def may (l:Lz):Bool:=!decide (l = [])&&decide (l.length<=255)&&!l.any bad&&!decide (l = [46])&&!decide (l = [46,46])
theorem zhL (l:Lz) (hl:l.length<=1000000):Fun Tryz.prog G0 126 [.str l] (qQ (may l)) 0:=by
 by_cases h1:l = []
 ·refine fon Tryz.func126 ?_;dsimp only[Tryz.f126];push_cast [h1];exact ⟨[],rfl,rfl,by push_cast [ze,zd,CLe,zg];simp[may]⟩
 ·by_cases h2:l.length<=255
  ·have h2':(l.length:Int)<=255:=by omega
   cases h3:l.any bad with
   | true =>
    refine fon Tryz.func126 ?_;dsimp only[Tryz.f126];push_cast [h1,h2'];refine call (YI l hl) ?_;push_cast [h3];exact ⟨[],rfl,rfl,by push_cast [ze,zd,CLe,zg];simp[may,h3]⟩
   | false =>
    by_cases h4:l = [46]
    ·subst h4;refine fon Tryz.func126 ?_;dsimp only[Tryz.f126];push_cast [h2'];refine call (YI _ hl) ?_;push_cast [h3];exact ⟨[],rfl,rfl,by push_cast [ze,zd,CLe,zg];simp[may]⟩
    ·refine fon Tryz.func126 ?_;dsimp only[Tryz.f126];push_cast [h1,h2'];refine call (YI l hl) ?_;push_cast [h3,h4];exact ⟨[],rfl,rfl,by push_cast [ze,zd,CLe,zg];simp[may,h1,h2,h3,h4]⟩
  ·have h2':¬(l.length:Int)<=255:=by omega
   refine fon Tryz.func126 ?_;dsimp only[Tryz.f126];push_cast [h1,h2'];exact ⟨[],rfl,rfl,by push_cast [ze,zd,CLe,zg];simp[may,h2]⟩
theorem zcL (l:Lz) (hl:l.length<=1000000):Fun Tryz.prog G0 267 [.str l] (qQ (!may l)) 0:=by
 refine fon Tryz.func267 ?_;dsimp only[Tryz.f267];push_cast;refine call (zhL l hl) ?_;push_cast;exact dn
end
section
open Go.RowKit
def zgU (xs:List Lz):Int:=match xs.findIdx? (fun x=>!may x) with | some i=>(i:Int) | none=>-1
theorem zkF (xs:List Lz):decide (0<=zgU xs) = !xs.all may:=by
 unfold zgU;cases h:xs.findIdx? (fun x=>!may x) with
 | none =>
  have:=List.findIdx?_eq_none_iff.1 h;have h2:xs.all may=true:=WE.2 fun x hx=>by simpa using this x hx
  rw[h2];rfl
 | some i =>
  have h1:=List.findIdx?_eq_some_iff_getElem.1 h;obtain ⟨hi,hp,_⟩:=h1;have h2:xs.all may=false:=List.all_eq_false.2 ⟨xs[i],Wx hi,by simpa using hp⟩;rw[h2];simp
theorem GU (xs:List Lz) (hx:xs.length<=1000001) (hl:∀ x∈xs,x.length<=1000000):Fun Tryz.prog G0 288 [.sl 1 (zE xs),.clo (.func 267) [] []] (.sc (.int .i64 (zgU xs))) 0:=by
 refine fon Tryz.func288 ?_;dsimp only[Tryz.f288];push_cast;refine loop (fun k:Nat=>⟨[(0,.sl 1 (zE xs)),(1,.clo (.func 267) [] []),(7,.sc (.int .i64 (xs.length:Int))),(8,.sc (.int .i64 k))],[],0,0⟩) (fun k=>k<=xs.length/\∀ j (hj:j<xs.length),j<k->may (xs[j]'hj)=true) (fun k=>xs.length-k) 0 ⟨Wc _,fun j _ hj=>by omega⟩ ?_ ?_
 ·exact wk
 ·intro k hk;have hk1:=hk.1;have hk2:=hk.2;by_cases h:k<xs.length
  ·have hg:(zE xs)[k]?=some [.str (xs[k]'h)]:=by rw[strs_get?,Wa h];rfl
   push_cast [h,hg];refine ⟨by omega,?_⟩;refine call (zcL (xs[k]'h) (hl _ (Wx h))) ?_;push_cast;cases hm:may (xs[k]'h) with
   | true =>
    push_cast;refine ⟨by omega,k+1,⟨by omega,fun j hj hjk=>?_⟩,by omega,wk⟩;rcases Wr j k with g | g
    ·exact hk2 j hj g
    ·have:j=k:=by omega
     subst this;exact hm
   | false =>
    push_cast;refine ⟨[],rfl,rfl,?_⟩;push_cast [ze,zd,CLe,zg];have:xs.findIdx? (fun x=>!may x)=some k:=List.findIdx?_eq_some_iff_getElem.2 ⟨h,by simp[hm],fun j hj=>by simp[hk2 j (by omega) hj]⟩;simp[zgU,this]
  ·push_cast [h];refine ⟨[],rfl,rfl,?_⟩;push_cast [ze,zd,CLe,zg];have:xs.findIdx? (fun x=>!may x)=none:=List.findIdx?_eq_none_iff.2 fun x hx=>by
    obtain ⟨j,hj,rfl⟩:=WH hx;simp[hk2 j hj (by omega)]
   simp[zgU,this]
theorem UC (xs:List Lz) (hx:xs.length<=1000001) (hl:∀ x∈xs,x.length<=1000000):Fun Tryz.prog G0 266 [.sl 1 (zE xs),.clo (.func 267) [] []] (qQ (!xs.all may)) 0:=by
 have h:=zkF xs;refine fon Tryz.func266 ?_;dsimp only[Tryz.f266];push_cast;refine call (GU xs hx hl) ?_;push_cast;exact dn (by push_cast [ze,zd,CLe,zg,h])
def JY (p:Lz):Bool:=decide (qy (zn p)=p)&&(zn p).all may
def YP (p:Lz):C:=.tup [.own 0 9 1 (zE (if JY p then zn p else [])),qQ (JY p)]
theorem Jg (x y:Lz) (r:List Lz) (sep:Lz):Lib.join (x :: y :: r) sep=x++sep++Lib.join (y :: r) sep:=by
 simp[Lib.join,List.intercalate,List.intersperse]
theorem QX:∀ xs:List Lz,xs≠[]->(Lib.join xs [47]).length+1=(xs.map fun x=>x.length+1).sum
 | [],h=>absurd rfl h
 | [x],_=>by simp[Lib.join]
 | x :: y :: r,_=>by
  have ih:=QX (y :: r) (by simp);rw[Jg];simp only[Wi,Wh,Wz,Wo,OY]at ih ⊢;omega
theorem zgy:∀ l:Lz,((Jb l).map fun x=>x.length+1).sum=l.length+1
 | []=>rfl
 | b :: l=>by
  have ih:=zgy l;unfold Jb;split
  ·simp only[Wo,OY,Wz,Wh,ih];omega
  ·cases h:Jb l with
   | nil=>exact absurd h (Gm l)
   | cons x r =>
    rw[h]at ih;simp only[Wo,OY,Wh]at ih ⊢;omega
theorem Gk (f:Lz->Bool):∀ xs:List Lz,((xs.filter f).map fun x=>x.length+1).sum<=(xs.map fun x=>x.length+1).sum
 | []=>by simp
 | x :: r=>by
  have ih:=Gk f r;rw[O5];split
  ·simp only[Wo,OY];omega
  ·simp only[Wo,OY];omega
theorem zea:∀ (xs:List Lz) (x:Lz),x∈xs->x.length+1<=(xs.map fun x=>x.length+1).sum
 | y :: r,x,h=>by
  simp only[Wo,OY];rcases WK.1 h with rfl | h
  ·omega
  ·have:=zea r x h;omega
theorem Qe (l:Lz):(Lib.join (zn l) [47]).length<=l.length/\∀ x∈zn l,x.length<=l.length:=by
 have h1:=zgy l;have h2:=Gk (fun x=>!decide (x = [])) (Jb l);rw[←JZ]at h2;refine ⟨?_,fun x hx=>?_⟩
 ·by_cases h:zn l = []
  ·rw[h];simp[Lib.join]
  ·have:=QX (zn l) h;omega
 ·have:=zea (zn l) x hx;omega
theorem Mv (p:Lz) (hp:p.length<=1000000):Fun Tryz.prog G0 236 [.str p] (YP p) 1:=by
 have hz:=qw p;have hj:=Qe p;by_cases h1:qy (zn p)=p
 ·have h1':(p=qy (zn p)):=h1.symm;refine fon Tryz.func236 ?_;dsimp only[Tryz.f236];push_cast;refine call (Yv p) ?_;push_cast;refine call (Qk p hp) ?_;push_cast;refine call (Qd (zn p) (by omega) (by omega)) ?_;push_cast [h1];refine call (UC (zn p) (by omega) fun x hx=>by have:=hj.2 x hx;omega) ?_;push_cast;cases hm:(zn p).all may with
  | true =>
   push_cast;exact ⟨[.inl 0],rfl,rfl,by simp only[YP,JY,h1,hm];push_cast [ze,zd,CLe,zg]<;>simp⟩
  | false =>
   push_cast;exact ⟨[.inr (9,1)],rfl,rfl,by simp only[YP,JY,h1,hm];push_cast [ze,zd,CLe,zg]<;>simp⟩
 ·refine fon Tryz.func236 ?_;dsimp only[Tryz.f236];push_cast;refine call (Yv p) ?_;push_cast;refine call (Qk p hp) ?_;push_cast;refine call (Qd (zn p) (by omega) (by omega)) ?_;push_cast [h1];exact ⟨[.inr (9,1)],rfl,rfl,by simp only[YP,JY,h1];push_cast [ze,zd,CLe,zg]<;>simp⟩
end
section
open Go.RowKit
theorem zlE (l:Lz) (b:UInt8) (h:l[0]?=some b):Lib.hasPrefix l [47]=decide ((b.toNat:Int)=47):=by
 cases l with
 | nil=>simp at h
 | cons x r =>
  simp at h;subst h;unfold Lib.hasPrefix;by_cases h:x=47
  ·subst h;rfl
  ·have h2:¬((x.toNat:Int)=47):=yx h;have h3:¬(47=x):=fun e=>h e.symm;simp[List.isPrefixOf,h2,h3]
theorem zl9 (l:Lz) (b:UInt8) (h:l[l.length-1]?=some b):Lib.hasSuffix l [47]=decide ((b.toNat:Int)=47):=by
 have hne:l≠[]:=fun e=>by subst e;simp at h
 have hl:l=l.take (l.length-1)++[b]:=by
  have hlt:l.length-1<l.length:=by have:=WB.2 hne;omega
  have:=Oa (l.length-1) l;rw[Oc hlt]at this;rw[Wa hlt]at h;cases h;rw[AY (by omega)]at this;exact this.symm
 rw[hl];unfold Lib.hasSuffix;by_cases h:b=47
 ·subst h;have:([47]:Lz) <:+ l.take (l.length-1)++[47]:=List.suffix_append _ _;rw[List.isSuffixOf_iff_suffix.2 this];rfl
 ·have h2:¬((b.toNat:Int)=47):=yx h;have h3:¬([47]:Lz) <:+ l.take (l.length-1)++[b]:=fun ⟨t,ht⟩=>by
   have:=List.append_inj_right' ht rfl;simp at this;exact h this.symm
  have h4:([47]:Lz).isSuffixOf (l.take (l.length-1)++[b])=false:=by
   rw[Oo];exact fun e=>h3 (List.isSuffixOf_iff_suffix.1 e)
  rw[h4];simp[h2]
theorem zgf:zn [] = []:=rfl
theorem Zr (p:Lz) (hp:p.length<=100000):Fun Tryz.prog G0 82 [.str p] (HQ p) 1:=by
 have hn:=ZG p (by omega);have hs:=qw p;by_cases hp0:p = []
 ·subst hp0;have h0:=zgf;refine fon Tryz.func82 ?_;dsimp only[Tryz.f82];push_cast;refine call hn ?_;push_cast [h0];exact ⟨[.inl 0],rfl,rfl,by simp only[HQ];push_cast [ze,zd,CLe,zg,h0]<;>exact ⟨rfl,rfl⟩⟩
 ·have hl:0<p.length:=WB.2 hp0;obtain ⟨b,hb⟩:∃ b,p[0]?=some b:=⟨_,Wa hl⟩;have hpb:=zlE p b hb;by_cases h0:zn p = []
  ·refine fon Tryz.func82 ?_;dsimp only[Tryz.f82];push_cast;refine call hn ?_;push_cast [h0,hl,hb];exact ⟨[.inl 0],rfl,rfl,by simp only[HQ];push_cast [ze,zd,CLe,zg,h0,hpb]<;>simp⟩
  ·have hlen:0<(zn p).length:=WB.2 h0;obtain ⟨c,hc⟩:∃ c,p[p.length-1]?=some c:=⟨_,Wa (by omega)⟩;have hsf:=zl9 p c hc;have hidx:((p.length:Int)-1).toNat=p.length-1:=by omega
   refine fon Tryz.func82 ?_;dsimp only[Tryz.f82];push_cast;refine call hn ?_;push_cast [hlen,hl,hb,hidx,hc];refine ⟨by omega,by omega,[.inl 0],rfl,rfl,by simp only[HQ];push_cast [ze,zd,CLe,zg,h0,hpb,hsf]<;>simp⟩
theorem M5 (xs:List Lz) (k:Nat) (x:Lz) (h:xs[k]?=some x):Lib.join (xs.take (k+1)) [47]=(if k=0 then x else Lib.join (xs.take k) [47]++[47]++x):=by
 cases xs with
 | nil=>simp at h
 | cons y r =>
  cases k with
  | zero=>simp at h;subst h;simp[Lib.join_one]
  | succ k =>
   simp only[AH,Nat.succ_ne_zero,Oi];rw[Lib.join_cons,Lib.join_cons,Lib.joinTail_take_succ _ _ _ x (by simpa using h)];simp[WI]
theorem znh (xs:List Lz) (k:Nat):(Lib.join (xs.take k) [47]).length<=(Lib.join xs [47]).length:=by
 by_cases h:xs.take k = []
 ·rw[h];simp[Lib.join]
 ·have h1:=QX (xs.take k) h;have hx:xs≠[]:=fun e=>h (by rw[e];simp);have h2:=QX xs hx;have h3:((xs.take k).map fun x=>x.length+1).sum<=(xs.map fun x=>x.length+1).sum:=by
   conv=>rhs;rw[←Oa k xs,WY,BR]
   omega
  omega
theorem zcQ (xs:List Lz) (k:Nat) (x:Lz) (h:xs[k]?=some x):(if xs.take (k+1) = [] then [] else qy (xs.take (k+1)))=(if xs.take k = [] then [] else qy (xs.take k))++[47]++x:=by
 have hk:k<xs.length:=(Wd.1 h).1;have h1:xs.take (k+1)≠[]:=fun e=>by have:=WA List.length e;rw[Ob]at this;simp only[Wz]at this;omega
 rw[if_neg h1];unfold qy;rw[if_neg h1,M5 xs k x h];by_cases hk0:k=0
 ·subst hk0;simp
 ·have h2:xs.take k≠[]:=fun e=>by have:=WA List.length e;rw[Ob]at this;simp only[Wz]at this;omega
  simp[h2,hk0]
def jst (xs:List Lz) (k:Nat):Lz:=if xs.take k = [] then [] else qy (xs.take k)
theorem zeV (xs:List Lz) (k:Nat):(jst xs k).length<=(Lib.join xs [47]).length+1:=by
 unfold jst;split
 ·simp
 ·rename_i h;have:=znh xs k;unfold qy;rw[if_neg h];simp;omega
theorem uD (xs:List Lz) (hx:xs.length<=2000001) (hl:(Lib.join xs [47]).length<=100000000):Fun Tryz.prog G0 60 [.sl 1 (zE xs)] (.str (qy xs)) 0:=by
 by_cases h0:xs = []
 ·subst h0;refine fon Tryz.func60 ?_;dsimp only[Tryz.f60];push_cast;exact ⟨[],rfl,rfl,by push_cast [ze,zd,CLe,zg]<;>simp[qy]⟩
 ·have h0':¬((xs.length:Int)=0):=by have:=WB.2 h0;omega
  refine fon Tryz.func60 ?_;dsimp only[Tryz.f60];push_cast [h0'];refine loop (fun k:Nat=>⟨[(0,.sl 1 (zE xs)),(3,.str (jst xs k)),(4,.sc (.int .i64 k))],[],0,0⟩) (fun k=>k<=xs.length) (fun k=>xs.length-k) 0 (Wc _) ?_ ?_
  ·exact JW.mk [] rfl rfl (Wc _) rfl (by push_cast [ze,zd,CLe,zg]<;>simp[jst]) (by push_cast [ze,zd,CLe,zg])
  ·intro k hk;by_cases h:k<xs.length
   ·have hg:=Zz xs k h;have hst:jst xs (k+1)=jst xs k++[47]++xs[k]'h:=zcQ xs k (xs[k]'h) (Wa h);have hjk:=zeV xs k;have hjl:=zeV xs (k+1);rw[hst]at hjl;simp only[Wi,Wh,Wz]at hjl;push_cast [h,hg]
    repeat refine an ?_
    refine ⟨k+1,by omega,by omega,JW.mk [] rfl rfl (Wc _) rfl ?_ (by push_cast [ze,zd,CLe,zg])⟩;push_cast [ze,zd,CLe,zg];simp[hst]
   ·have hkl:k=xs.length:=by omega
    push_cast [h];exact ⟨[],rfl,rfl,by push_cast [ze,zd,CLe,zg]<;>simp[jst,hkl,h0]⟩
theorem VM (l:Lz) (hl:l.length<=2000000):Fun Tryz.prog G0 59 [.str l] (qQ (may l)) 0:=by
 refine fon Tryz.func59 ?_;dsimp only[Tryz.f59];push_cast;refine loop (fun k:Nat=>⟨[(0,.str l),(3,.sc (.int .i64 k))],[],0,0⟩) (fun k=>k<=l.length/\∀ j (hj:j<l.length),j<k->bad (l[j]'hj)=false) (fun k=>l.length-k) 0 ⟨Wc _,fun j _ hj=>by omega⟩ ?_ ?_
 ·exact wk
 ·intro k hk;have hk1:=hk.1;have hk2:=hk.2;by_cases h:k<l.length
  ·have hb:l[k]?=some (l[k]'h):=Wa h;have hbad:bad (l[k]'h)=true->may l=false:=fun hb=>by
    have:l.any bad=true:=Oq.2 ⟨l[k]'h,Wx h,hb⟩;simp[may,this]
   by_cases h47:l[k]'h=47
   ·have h1:(((l[k]'h).toNat:Int)=47):=by rw[h47];rfl
    push_cast [h,hb,h1];refine ⟨by omega,[],rfl,rfl,?_⟩;push_cast [ze,zd,CLe,zg];rw[hbad (by simp[bad,h47])]
   ·have h1:¬(((l[k]'h).toNat:Int)=47):=yx h47;by_cases h00:l[k]'h=0
    ·have h2:(((l[k]'h).toNat:Int)=0):=by rw[h00];rfl
     push_cast [h,hb,h1,h2];refine ⟨by omega,by omega,[],rfl,rfl,?_⟩;push_cast [ze,zd,CLe,zg];rw[hbad (by simp[bad,h00])]
    ·have h2:¬(((l[k]'h).toNat:Int)=0):=yx h00;push_cast [h,hb,h1,h2]
     repeat refine an ?_
     refine ⟨k+1,⟨by omega,fun j hj hjk=>?_⟩,by omega,wk⟩;rcases Wr j k with g | g
     ·exact hk2 j hj g
     ·have:j=k:=by omega
      subst this;simp[bad,h47,h00]
  ·have hany:l.any bad=false:=Og.2 fun x hx=>by
    obtain ⟨j,hj,rfl⟩:=WH hx;simp[hk2 j hj (by omega)]
   obtain rfl:k=l.length:=by omega
   by_cases h0:l = []
   ·subst h0;push_cast;exact ⟨[],rfl,rfl,by push_cast [ze,zd,CLe,zg]<;>simp[may]⟩
   ·have h1:(1:Int)<=(l.length:Int):=by have:=WB.2 h0;omega
    by_cases h2:(l.length:Int)<=255
    ·have h2':l.length<=255:=by omega
     by_cases h4:l = [46]
     ·subst h4;push_cast;exact ⟨[],rfl,rfl,by push_cast [ze,zd,CLe,zg]<;>simp[may]⟩
     ·by_cases h5:l = [46,46]
      ·subst h5;push_cast [h4];exact ⟨[],rfl,rfl,by push_cast [ze,zd,CLe,zg]<;>simp[may]⟩
      ·push_cast [h,h1,h2,h4,h5];exact ⟨[],rfl,rfl,by push_cast [ze,zd,CLe,zg]<;>simp[may,h0,h2',hany,h4,h5]⟩
    ·have h2':¬l.length<=255:=by omega
     push_cast [h,h1,h2];exact ⟨[],rfl,rfl,by push_cast [ze,zd,CLe,zg]<;>simp[may,h2']⟩
theorem Hh (p:Lz) (hp:p.length<=100000):Fun Tryz.prog G0 131 [.str p] (qQ (X7 p)) 0:=by
 have hn:=ZG p (by omega);refine fon Tryz.func131 ?_;dsimp only[Tryz.f131];push_cast;refine call hn ?_;push_cast;refine loop (fun k:Nat=>⟨[(0,.str p),(3,.own 0 9 1 (zE (zn p))),(4,.sc (.int .i64 k))],[],1,0⟩) (fun k=>k<=(zn p).length/\∀ j (hj:j<(zn p).length),j<k->((zn p)[j]'hj).length<=255) (fun k=>(zn p).length-k) 0 ⟨Wc _,fun j _ hj=>by omega⟩ ?_ ?_
 ·exact wks [.inl 0]
 ·intro k hk;have hk1:=hk.1;have hk2:=hk.2;have hs:=qw p;by_cases h:k<(zn p).length
  ·have hg:=Zz (zn p) k h;by_cases h2:((zn p)[k]'h).length<=255
   ·have h2':¬(255:Int)<(((zn p)[k]'h).length:Int):=by omega
    push_cast [h,hg,h2']
    repeat refine an ?_
    refine ⟨k+1,⟨by omega,fun j hj hjk=>?_⟩,by omega,wks [.inl 0]⟩;rcases Wr j k with g | g
    ·exact hk2 j hj g
    ·have:j=k:=by omega
     subst this;exact h2
   ·have h2':(255:Int)<(((zn p)[k]'h).length:Int):=by omega
    push_cast [h,hg,h2'];refine ⟨by omega,[],rfl,rfl,?_⟩;push_cast [ze,zd,CLe,zg];have:(zn p).any (fun x=>decide (255<x.length))=true:=Oq.2 ⟨(zn p)[k]'h,Wx h,by simp;omega⟩;simp[X7,this]
  ·have:(zn p).any (fun x=>decide (255<x.length))=false:=Og.2 fun x hx=>by
    obtain ⟨j,hj,rfl⟩:=WH hx;have:=hk2 j hj (by omega);simp;omega
   push_cast [h];refine ⟨[],rfl,rfl,?_⟩;push_cast [ze,zd,CLe,zg];simp[X7,this];omega
theorem k7 (p:Lz) (hp:p.length<=100000) (hb:zn p = []->Lib.hasPrefix p [47] = !decide (p = [])):Fun Tryz.prog G0 76 [.str p] (.str (J8 p)) 0:=by
 have hn:=ZG p (by omega);have hs:=qw p;by_cases h:zn p = []
 ·by_cases h0:p = []
  ·subst h0;refine fon Tryz.func76 ?_;dsimp only[Tryz.f76];push_cast;refine call hn ?_;push_cast [h];exact ⟨[],rfl,rfl,by push_cast [ze,zd,CLe,zg]<;>rfl⟩
  ·have hb':=hb h;refine fon Tryz.func76 ?_;dsimp only[Tryz.f76];push_cast;refine call hn ?_;push_cast [h,h0];exact ⟨[],rfl,rfl,by push_cast [ze,zd,CLe,zg]<;>simp[J8,h,hb',h0]⟩
 ·have hl:0<(zn p).length:=WB.2 h;have hg:=Zz (zn p) ((zn p).length-1) (by omega);have hidx:(((zn p).length:Int)-1).toNat=(zn p).length-1:=by omega
  refine fon Tryz.func76 ?_;dsimp only[Tryz.f76];push_cast;refine call hn ?_;push_cast [hl,hidx,hg];refine ⟨by omega,by omega,[],rfl,rfl,?_⟩;push_cast [ze,zd,CLe,zg];unfold J8;rw[List.getLastD_eq_getLast?,List.getLast?_eq_getElem?,Wa (by omega)]
  rfl
theorem Uh (p:Lz) (hp:p.length<=2000000):Fun Tryz.prog G0 33 [.str p] (YP p) 1:=by
 have hn:=ZG p (by omega);have hs:=qw p;have hj:=Qe p;refine fon Tryz.func33 ?_;dsimp only[Tryz.f33];push_cast;refine call hn ?_;push_cast;refine loop (fun k:Nat=>⟨[(0,.str p),(4,.own 0 9 1 (zE (zn p))),(5,.sc (.int .i64 k))],[],1,0⟩) (fun k=>k<=(zn p).length/\∀ j (hj:j<(zn p).length),j<k->may ((zn p)[j]'hj)=true) (fun k=>(zn p).length-k) 0 ⟨Wc _,fun j _ hj=>by omega⟩ ?_ ?_
 ·exact wks [.inl 0]
 ·intro k hk;have hk1:=hk.1;have hk2:=hk.2;by_cases h:k<(zn p).length
  ·have hg:=Zz (zn p) k h;have hlen:=hj.2 ((zn p)[k]'h) (Wx h);push_cast [h,hg];refine ⟨by omega,?_⟩;refine call (VM ((zn p)[k]'h) (by omega)) ?_;push_cast;cases hm:may ((zn p)[k]'h) with
   | true =>
    push_cast
    repeat refine an ?_
    refine ⟨k+1,⟨by omega,fun j hj hjk=>?_⟩,by omega,wks [.inl 0]⟩;rcases Wr j k with g | g
    ·exact hk2 j hj g
    ·have:j=k:=by omega
     subst this;exact hm
   | false =>
    have hall:(zn p).all may=false:=List.all_eq_false.2 ⟨(zn p)[k]'h,Wx h,by simp[hm]⟩;push_cast;exact ⟨[.inr (9,1)],rfl,rfl,by simp only[YP,JY,hall];push_cast [ze,zd,CLe,zg]<;>simp⟩
  ·have hall:(zn p).all may=true:=WE.2 fun x hx=>by
    obtain ⟨j,hj,rfl⟩:=WH hx;exact hk2 j hj (by omega)
   push_cast [h];refine call (uD (zn p) (by omega) (by omega)) ?_;push_cast;by_cases h1:qy (zn p)=p
   ·push_cast [h1];exact ⟨[.inl 0],rfl,rfl,by simp only[YP,JY,h1,hall];push_cast [ze,zd,CLe,zg]<;>simp⟩
   ·push_cast [h1];exact ⟨[.inr (9,1)],rfl,rfl,by simp only[YP,JY,h1];push_cast [ze,zd,CLe,zg]<;>simp⟩
end
section
open Go.RowKit
def Vp (x:Lz):Prop:=x≠[]/\(47:UInt8)∉x
theorem ze2:∀ a t:Lz,Jb (a++47 :: t)=Jb a++Jb t
 | [],t=>by
  have:Jb (47 :: t) = [] :: Jb t:=rfl;exact this
 | b :: a,t=>by
  have ih:=ze2 a t;have e1:Jb (b :: (a++47 :: t))=if b=47 then [] :: Jb (a++47 :: t) else match Jb (a++47 :: t) with
   | []=>[[b]]
   | x :: r=>(b :: x) :: r:=rfl
  have e2:Jb (b :: a)=if b=47 then [] :: Jb a else match Jb a with
   | []=>[[b]]
   | x :: r=>(b :: x) :: r:=rfl
  rw[Oh,e1,e2,ih];by_cases hb:b=47
  ·simp[hb]
  ·rw[if_neg hb,if_neg hb];have hne:=Gm a;cases hs:Jb a with
   | nil=>exact absurd hs hne
   | cons x r=>simp
theorem zg7:∀ x:Lz,(47:UInt8)∉x->Jb x = [x]
 | [],_=>rfl
 | b :: x,h=>by
  have hb:¬(b=47):=fun e=>h (by rw[e];exact Wl);have ih:=zg7 x (fun hx=>h (Wn _ hx));unfold Jb;rw[if_neg hb,ih]
theorem zhf:∀ (l x:Lz),x∈Jb l->(47:UInt8)∉x
 | [],x,h=>by simp[Jb]at h;subst h;simp
 | b :: l,x,h=>by
  have ih:=zhf l;unfold Jb at h;by_cases hb:b=47
  ·rw[if_pos hb]at h;rcases WK.1 h with rfl | h
   ·simp
   ·exact ih x h
  ·rw[if_neg hb]at h;have hne:=Gm l;cases hs:Jb l with
   | nil=>exact absurd hs hne
   | cons y r =>
    rw[hs]at h ih;simp only at h;rcases WK.1 h with rfl | h
    ·intro hm;rcases WK.1 hm with e | hm
     ·exact hb e.symm
     ·exact ih y Wl hm
    ·exact ih x (Wn _ h)
theorem M9 {l x:Lz} (h:x∈zn l):Vp x:=by
 rw[JZ,Oy]at h;exact ⟨by simpa using h.2,zhf l x h.1⟩
theorem ke (a t:Lz):zn (a++47 :: t)=zn a++zn t:=by
 rw[JZ,JZ,JZ,ze2,OR]
theorem xc {x:Lz} (h:Vp x):zn x = [x]:=by
 rw[JZ,zg7 x h.2];simp[h.1]
theorem y5 (l:Lz):zn (47 :: l)=zn l:=ke [] l
theorem GN:∀ xs:List Lz,(∀ x∈xs,Vp x)->zn (Lib.join xs [47])=xs
 | [],_=>rfl
 | [x],h=>by rw[Lib.join_one];exact xc (h x Wl)
 | x :: y :: r,h=>by
  have ih:=GN (y :: r) fun z hz=>h z (Wn _ hz);rw[Jg,WI];show zn (x++47 :: Lib.join (y :: r) [47])=_;rw[ke,ih,xc (h x Wl)]
  rfl
theorem XP (xs:List Lz) (h:∀ x∈xs,Vp x):zn (qy xs)=xs:=by
 unfold qy;by_cases hx:xs = []
 ·rw[if_pos hx,hx];rfl
 ·rw[if_neg hx,y5,GN xs h]
theorem zj2 (b:UInt8) (l:Lz):Lib.hasPrefix (b :: l) [47]=decide (b=47):=by
 have:=zlE (b :: l) b rfl;rw[this];by_cases h:b=47
 ·subst h;rfl
 ·have h2:¬((b.toNat:Int)=47):=yx h;simp[h,h2]
theorem zkQ (l:Lz) (b:UInt8):Lib.hasSuffix (l++[b]) [47]=decide (b=47):=by
 have:=zl9 (l++[b]) b (by simp);rw[this];by_cases h:b=47
 ·subst h;rfl
 ·have h2:¬((b.toNat:Int)=47):=yx h;simp[h,h2]
theorem zcp (p:Lz) (h:zn p = []):Lib.hasPrefix p [47] = !decide (p = []):=by
 cases p with
 | nil=>rfl
 | cons b l =>
  rw[zj2];by_cases hb:b=47
  ·simp[hb]
  ·exfalso
   rw[JZ]at h;have hne:=Gm l;have:∃ x r,Jb (b :: l)=(b :: x) :: r:=by
    unfold Jb;rw[if_neg hb];cases hs:Jb l with
    | nil=>exact absurd hs hne
    | cons x r=>exact ⟨x,r,rfl⟩
   obtain ⟨x,r,e⟩:=this;rw[e]at h;simp at h
theorem JR {x:Lz} (h:may x=true):Vp x:=by
 simp only[may,Wt,AE,Ou]at h;refine ⟨h.1.1.1.1,fun hm=>?_⟩;have:=Og.1 h.1.1.2 47 hm;exact this (by decide)
theorem zf3 (xs zs:List Lz) (hx:xs≠[]) (hz:zs≠[]):qy (xs++zs)=qy xs++47 :: Lib.join zs [47]:=by
 unfold qy;rw[if_neg hx,if_neg (by simp[hx])];simp only[Oh,List.cons.injEq,true_and]
 induction xs with
 | nil=>exact absurd rfl hx
 | cons x r ih =>
  cases r with
  | nil =>
   cases zs with
   | nil=>exact absurd rfl hz
   | cons z zs=>simp only[Oh,Ox];rw[Jg,Lib.join_one];simp
  | cons y r =>
   have:=ih (by simp);simp only[Oh]at this ⊢;rw[Jg,Jg,this];simp
theorem Zk (xs ys:List Lz) (hx:∀ x∈xs,Vp x) (hy:∀ y∈ys,Vp y):YQ (qy xs) (qy ys)=decide (xs.take ys.length=ys):=by
 have nx:=XP xs hx;have ny:=XP ys hy;rw[Bool.eq_iff_iff];simp only[W6,YQ,Ow];constructor
 ·rintro ((h | h) | h)
  ·have:xs=ys:=by rw[←nx,←ny,h]
   rw[this,Of]
  ·have:ys = []:=by rw[←ny,h];rfl
   rw[this];rfl
  ·unfold Lib.hasPrefix at h;obtain ⟨t,ht⟩:=List.isPrefixOf_iff_prefix.1 h;have:xs=ys++zn t:=by
    rw[←nx,←ht,WI];show zn (qy ys++47 :: t)=_;rw[ke,ny]
   rw[this,BC]
 ·intro h;have e:xs=ys++xs.drop ys.length:=by
   conv=>lhs;rw[←Oa ys.length xs,h]
  by_cases hys:ys = []
  ·exact .inl (.inr (by rw[hys];rfl))
  ·by_cases hd:xs.drop ys.length = []
   ·refine .inl (.inl ?_);rw[hd,W4]at e;rw[e]
   ·refine .inr ?_;rw[e,zf3 _ _ hys hd];unfold Lib.hasPrefix;refine List.isPrefixOf_iff_prefix.2 ⟨Lib.join (xs.drop ys.length) [47],?_⟩;simp
theorem He {p:Lz} (h:JY p=true):qy (zn p)=p:=by
 unfold JY at h;simp only[Wt,W6]at h;exact h.1
end
section
open Go.RowKit Go.ChangeMaps Go.ChangeShapes Go.WideShapes Go.Deep Go.Joins
theorem uM (R:Env):XZ G0 R:=fun g cs h=>by cases h
theorem Ut:∀ {rows:List (List C)},(∀ r∈rows,∃ c,r = [c]/\∃ l:Lz,c = .str l/\l.length<=maxLen)->∃ xs:List Lz,rows=zE xs/\∀ x∈xs,x.length<=maxLen
 | [],_=>⟨[],rfl,fun x h=>by cases h⟩
 | r :: rows,h=>by
  obtain ⟨xs,rfl,hx⟩:=Ut fun r' hr=>h r' (Wn _ hr);obtain ⟨c,rfl,l,rfl,hl⟩:=h r Wl;exact ⟨l :: xs,rfl,fun x hx'=>(WK.1 hx').elim (fun e=>e▸hl) (hx x)⟩
section
variable {H:Type} {enc:TypeId×Value->H} {W:World}
theorem ziT:Opn enc Tryz.prog W 30 fun c=>∃ xs:List Lz,c = .sl 1 (zE xs)/\xs.length<=maxLen/\∀ x∈xs,x.length<=maxLen:=fun fuel cs x hx=>by
 obtain ⟨v,c,rfl,⟨rows,rfl,hl,hr⟩,h1,h2⟩:=Opn.slice (W:=W) (enc:=enc) Tryz.underlying30 (show Tryz.prog.cellsOf 9=1 by kernel_rfl) (Nat.zero_lt_one) (jE.one (Opn.str Tryz.underlying9)) fuel cs x hx;obtain ⟨xs,rfl,hx'⟩:=Ut hr;exact ⟨v,_,rfl,⟨xs,rfl,by simpa using hl,hx'⟩,h1,h2⟩
end
end
section
open Go.RowKit
mutual
/-- the cells that read as a datum of JY data -/
def VL:DataW Unit->Option (List Value)
 | .lit (.int k n)=>some [.int k n]
 | .lit (.bool b)=>some [.bool b]
 | .lit (.string l)=>some [.string ⟨l.toArray⟩]
 | .agg ds=>km ds
 | _=>none
def km:List (DataW Unit)->Option (List Value)
 | []=>some []
 | d :: ds=>match VL d,km ds with
  | some a,some b=>some (a++b)
  | _,_=>none
end
def xy (P:Program):Nat->List Field->Nat->Bool
 | j,[],n=>j==n
 | j,f :: fs,n=>f.offset==j&&xy P (j+P.cellsOf f.type) fs n
def k8 (P:Program):Nat->TypeId->Bool
 | 0,_=>false
 | m+1,t=>match P.underlying t with
  | some .bool=>true
  | some (.int _)=>true
  | some .string=>true
  | some (.struct fs)=>xy P 0 fs.toList (P.cellsOf t)&&fs.toList.all fun f=>k8 P m f.type
  | some (.array n e)=>k8 P m e&&P.cellsOf t==n*P.cellsOf e
  | _=>false
section
variable {enc:TypeId×Value->Unit} {P:Program} {w:World} {base:Nat} {spare:Nat->Bool} {held:Bool}
theorem U5 {d:DataW Unit} {ds:List (DataW Unit)} {a b:List Value} (h1:VL d=some a) (h2:km ds=some b):km (d :: ds)=some (a++b):=by
 rw[km,h1,h2]
theorem ZN {n:Nat} {cs:List Value} (ih:∀ t cs d p,k8 P n t=true->DataW.trod enc P w base spare held n t cs=some (d,p)->VL d=some cs) {m:Nat} (hm:∀ t cs d p,k8 P m t=true->DataW.trod enc P w base spare held n t cs=some (d,p)->VL d=some cs) :
  ∀ (fs:List Field) (j N:Nat) (xs:List (DataW Unit×List MemPlace)),xy P j fs N=true->(fs.all fun f=>k8 P m f.type)=true->cs.length=N->xs.length=fs.length ->
   (∀ (i:Nat) (f:Field),fs[i]?=some f->DataW.trod enc P w base spare held n f.type ((cs.drop f.offset).take (P.cellsOf f.type))=xs[i]?)->km (xs.map (·.1))=some (cs.drop j)
 | [],j,N,xs,hc,_,hl,hx,_=>by
  simp only[xy,OC]at hc
  match xs,hx with
  | [],_=>rw[OA (by omega)];rfl
 | f :: fs,j,N,xs,hc,ha,hl,hx,hf=>by
  simp only[xy,Wt,OC]at hc;simp only[A1,Wt]at ha
  match xs,hx with
  | x :: xs,hx =>
   have h0:=hf 0 f rfl;have e0:VL x.1=some ((cs.drop f.offset).take (P.cellsOf f.type)):=hm _ _ _ x.2 ha.1 h0;have e1:=ZN ih hm fs _ N xs hc.2 ha.2 hl (by simpa using hx) fun i g hg=>hf (i+1) g hg;rw[Wo,U5 e0 e1,hc.1,←AB,Oa]
theorem Uv {n:Nat} {e:TypeId} {cs:List Value}:∀ (N j:Nat) (xs:List (DataW Unit×List MemPlace)),(∀ cs d p,DataW.trod enc P w base spare held n e cs=some (d,p)->VL d=some cs)->cs.length=(j+N)*P.cellsOf e->xs.length=N ->
   (∀ (i:Nat),i<N->DataW.trod enc P w base spare held n e ((cs.drop ((j+i)*P.cellsOf e)).take (P.cellsOf e))=xs[i]?)->km (xs.map (·.1))=some (cs.drop (j*P.cellsOf e))
 | 0,j,xs,_,hl,hx,_=>by
  match xs,hx with
  | [],_=>rw[OA (by simp at hl;omega)];rfl
 | N+1,j,xs,hm,hl,hx,hf=>by
  match xs,hx with
  | x :: xs,hx =>
   have e0:=hm _ _ x.2 (hf 0 (A2 _));have e1:=Uv N (j+1) xs hm (by rw[hl];congr 1;omega) (by simpa using hx) fun i hi=>by
    have:=hf (i+1) (by omega);rw[show j+(i+1)=j+1+i by omega]at this;exact this
   rw[Wo,U5 e0 e1,Ap,show (j+1)*P.cellsOf e=j*P.cellsOf e+P.cellsOf e by rw[On];omega,←AB,Oa]
theorem Qc:∀ (n m:Nat) (t:TypeId) (cs:List Value) (d:DataW Unit) (p:List MemPlace),k8 P m t=true->DataW.trod enc P w base spare held n t cs=some (d,p)->VL d=some cs
 | 0,m,t,cs,d,p,_,h=>by simp[DataW.trod]at h
 | n+1,0,t,cs,d,p,hf,h=>by simp[k8]at hf
 | n+1,m+1,t,cs,d,p,hf,h=>by
  unfold k8 at hf;split at hf
  ·rename_i hu;obtain ⟨b,rfl,e⟩:=DataW.trod_bool hu h;cases e;rfl
  ·rename_i k hu;obtain ⟨b,rfl,e,_⟩:=DataW.trod_int hu h;cases e;rfl
  ·rename_i hu;obtain ⟨s,rfl,e,_⟩:=DataW.trod_string hu h;cases e;rw[VL]
  ·rename_i fs hu;simp only[Wt]at hf;obtain ⟨xs,n',hn,e,hl,hx,hg⟩:=DataW.trod_struct hu h;cases hn;cases e;have hrec:∀ t cs d p,k8 P m t=true->DataW.trod enc P w base spare held n t cs=some (d,p)->VL d=some cs:=fun t cs d p=>Qc n m t cs d p;have:=ZN (n:=n) (fun t cs d p=>Qc n n t cs d p) hrec fs.toList 0 _ xs hf.1 hf.2 hl (by rw[hx];rfl) fun i f hif=>hg i f (by simpa using hif);rw[AT]at this;rw[VL,this]
  ·rename_i N e hu;simp only[Wt,OC]at hf;obtain ⟨xs,n',hn,e',hl,hx,hg⟩:=DataW.trod_array hu h;cases hn;cases e';have:=Uv (n:=n) (e:=e) (cs:=cs) N 0 xs (fun cs d p=>Qc n m e cs d p hf.1) (by rw[hl,hf.2,Ov]) hx fun i hi=>by rw[Ov];exact hg i hi
   rw[Nat.zero_mul,AT]at this;rw[VL,this]
  ·cases hf
end
theorem Nu {g:Nat}:∀ (vs:List Value) (o:Nat),(∀ (i:Nat) v,vs[i]?=some v->W.cell? ⟨g,o+i,none⟩=some v)->(vs.all fun v=>v.oneCell')=true->zR (M1 W) (vs.map zF) g o:=fun vs o h ho=>by
 refine qk fun i c hc=>?_;rw[Ws,AA]at hc;obtain ⟨v,hv,rfl⟩:=hc;exact ⟨v,h i v hv,fun hf=>hf,jM _ _ v,WE.1 ho v (Wg hv)⟩
theorem G6 {l:List (String×DataW Unit)} (h:laidMetH P l W) (hp:(l.filter fun x=>x.2.handleName?.isSome) = []) {n:String} {d:DataW Unit} (hm:(n,d)∈l) {g:Nat} {t:TypeId} {m:Nat} {vs:List Value}
  (hg:P.globalNamed n=some g) (ht:(P.globals[g]?).map (·.type)=some t) (hf:k8 P m t=true) (hd:VL d=some vs) (ho:(vs.all fun v=>v.oneCell')=true):zR (M1 W) (vs.map zF) g 0:=by
 unfold laidMetH at h;rw[hp]at h;obtain ⟨g',t',cs,fuel,p,hg',ht',hvar,htr⟩:=Lib.laidMet.reads h hm;rw[hg]at hg';cases hg';rw[ht]at ht';cases ht';have e:=Qc _ _ _ _ _ _ hf htr;have e':vs=cs.toList:=Option.some.inj (hd.symm.trans e);subst e';refine Nu _ 0 (fun i v hv=>?_) ho;rw[World.var?_cell hg hvar,Ov];simpa using hv
theorem JK {l:List (String×DataW Unit)} (h:laidMetH P l W) (hp:(l.filter fun x=>x.2.handleName?.isSome) = []) {n:String} {d:DataW Unit} (hm:(n,d)∈l) {g:Nat} {t:TypeId} {m:Nat} {vs:List Value}
  (hg:P.globalNamed n=some g) (ht:(P.globals[g]?).map (·.type)=some t) (hf:k8 P m t=true) (hd:VL d=some vs) (ho:(vs.all fun v=>v.oneCell')=true) :
  zR (M1 W) (vs.map zF) g 0/\(∃ us ty fl,(M1 W).w.heap[g]?=some (.cells us ty fl)/\us.size=(vs.map zF).length)/\∀ o,¬(M1 W).M g o:=by
 refine ⟨G6 h hp hm hg ht hf hd ho,?_,fun o h=>h⟩;unfold laidMetH at h;rw[hp]at h;obtain ⟨g',t',cs,fuel,p,hg',ht',hvar,htr⟩:=Lib.laidMet.reads h hm;rw[hg]at hg';cases hg';rw[ht]at ht';cases ht';have e:=Qc _ _ _ _ _ _ hf htr;have e':vs=cs.toList:=Option.some.inj (hd.symm.trans e);subst e';unfold World.var? at hvar;rw[hg]at hvar;simp only[AM]at hvar;split at hvar
 ·rename_i cs' ty fl hh;cases hvar;exact ⟨_,_,_,hh,by simp⟩
 ·cases hvar
theorem Fun.glob {G G':zt} {f:FuncId} {r:C} {n:Nat} (h:Fun P G f args r n) (hG:∀ g cs,G g=some cs->G' g=some cs):Fun P G' f args r n:=
 ⟨h.1,fun R vs hg ha=>h.2 R vs (fun g cs e=>hg g cs (hG g cs e)) ha⟩
theorem Fun.glob0 {G':zt} {f:FuncId} {r:C} {n:Nat} (h:Fun P G0 f args r n):Fun P G' f args r n:=h.glob fun g cs e=>by cases e
end
section
open CA CB
open Go.RowKit
def zqz:List Value:=[.bool false,.bool false,.bool false,.bool false,.bool false,.bool false,.bool false,.bool true,.bool false,.bool true,.bool true,.bool false,.bool false,.bool false,.bool true,.bool false,.bool true,.bool false,.bool false,.bool true,.bool false,.bool true,.bool false,.bool false,.bool false,.bool false,.bool false,.bool true,.bool false,.bool false,.bool true,.bool false,.bool false]
def G1:zt:=fun g=>if g=3 then some (zqz.map zF) else none
theorem zpx:G1 3=some [.sc (.bool false),.sc (.bool false),.sc (.bool false),.sc (.bool false),.sc (.bool false),.sc (.bool false),.sc (.bool false),.sc (.bool true),.sc (.bool false),.sc (.bool true),.sc (.bool true),.sc (.bool false),.sc (.bool false),.sc (.bool false),.sc (.bool true),.sc (.bool false),.sc (.bool true),.sc (.bool false),.sc (.bool false),.sc (.bool true),.sc (.bool false),.sc (.bool true),.sc (.bool false),.sc (.bool false),.sc (.bool false),.sc (.bool false),.sc (.bool false),.sc (.bool true),.sc (.bool false),.sc (.bool false),.sc (.bool true),.sc (.bool false),.sc (.bool false)]:=rfl
attribute [push_cast] zpx
def qG (p:Lz):Bool:=JY p&&!decide (zn p = [])
theorem xi (p:Lz) (hp:p.length<=1000000):Fun Tryz.prog G0 203 [.str p] (qQ (qG p)) 0:=by
 have h:=Mv p hp;unfold YP at h;cases hb:JY p with
 | false =>
  rw[hb]at h;refine fon Tryz.func203 ?_;dsimp only[Tryz.f203];push_cast;refine cl h ?_;push_cast;exact ⟨[],rfl,rfl,by push_cast [ze,zd,CLe,zg];simp[qG,hb]⟩
 | true =>
  rw[hb,if_pos rfl]at h;refine fon Tryz.func203 ?_;dsimp only[Tryz.f203];push_cast;refine cl h ?_;push_cast;refine ⟨[],rfl,rfl,?_⟩;push_cast [ze,zd,CLe,zg];by_cases hn:zn p = []
  ·simp[qG,hb,hn]
  ·have:=WB.2 hn;simp[qG,hb,hn,this]
theorem zb8 (l:Lz):Fun Tryz.prog G0 192 [.str l,.str [0]] (.sc (.int .i64 (Lib.indexByte l 0))) 0:=by
 refine Fun.wrap (by kernel_rfl) fun R vs h=>?_;obtain ⟨v1,us1,rfl,h1,h⟩:=zh.1 h;obtain ⟨v2,us2,rfl,h2,h⟩:=zh.1 h;rw[zm]at h;subst h;rw[z6]at h1 h2;subst h1 h2;refine (Tryz.strings_Index_one ⟨l.toArray⟩ 0 R.w).mono ?_;rintro e w' ⟨rfl,rfl⟩;exact ⟨_,rfl,W7 _ _,fun R' _=>zr.2 (by simp)⟩
theorem Gg:∀ l:Lz,decide (0<=Lib.indexByte l 0)=l.any (fun b=>decide (b=0))/\-1<=Lib.indexByte l 0
 | []=>⟨rfl,by decide⟩
 | b :: l=>by
  obtain ⟨h1,h2⟩:=Gg l;unfold Lib.indexByte;by_cases hb:b=0
  ·subst hb;simp
  ·have hb':(b==0)=false:=by simpa using hb
   rw[hb'];simp only[W0,Oi,A7,hb,decide_false,O7,←h1];split
   ·rename_i hm;have:=OC.1 hm;rw[this];simp
   ·rename_i hm;have:¬Lib.indexByte l 0 = -1:=fun e=>hm (by rw[e];rfl);constructor
    ·rw[Bb];omega
    ·omega
theorem N5 (l:Lz) (hl:l.length<=1000000):Fun Tryz.prog G0 237 [.str l,.str [0]] (qQ (l.any fun b=>decide (b=0))) 0:=by
 have h:=(Gg l).1;refine fon Tryz.func237 ?_;dsimp only[Tryz.f237];push_cast;refine cl (zb8 l) ?_;push_cast;exact dn (by push_cast [ze,zd,CLe,zg,h])
def QB (s:Lz):Bool:=!decide (s = [])&&decide (s.length<=4095)&&!(s.any fun b=>decide (b=0))
theorem zcD (s:Lz) (hs:s.length<=1000000):Fun Tryz.prog G0 204 [.str s] (qQ (QB s)) 0:=by
 have h:=N5 s hs;by_cases h1:s = []
 ·refine fon Tryz.func204 ?_;dsimp only[Tryz.f204];push_cast [h1];exact ⟨[],rfl,rfl,by push_cast [ze,zd,CLe,zg];simp[QB,h1]⟩
 ·by_cases h2:s.length<=4095
  ·have h2':(s.length:Int)<=4095:=by omega
   refine fon Tryz.func204 ?_;dsimp only[Tryz.f204];push_cast [h1,h2'];refine cl h ?_;push_cast;exact ⟨[],rfl,rfl,by push_cast [ze,zd,CLe,zg];simp[QB,h1,h2]⟩
  ·have h2':¬(s.length:Int)<=4095:=by omega
   refine fon Tryz.func204 ?_;dsimp only[Tryz.f204];push_cast [h1,h2'];exact ⟨[],rfl,rfl,by push_cast [ze,zd,CLe,zg];simp[QB,h1,h2]⟩
end
end Go.Proofs.YtnpdbhbmakdklaaGreatDoor.Vcg
section
namespace Go.Proofs.YtnpdbhbmakdklaaGreatDoor.QuotePlain
abbrev Bs:=Lz
def good (c:UInt8):Bool:=decide (32<=c.toNat/\c.toNat<=126/\c.toNat≠34/\c.toNat≠92)
def zlV:Bs:=[48,49,50,51,52,53,54,55,56,57,97,98,99,100,101,102]
def N4 (n:Nat):UInt8:=zlV.getD n 0
def qb (c:UInt8):Bs:=if good c then [c] else [92,120,N4 (c.toNat / 16),N4 (c.toNat % 16)]
def mid (l:Bs):Bs:=l.flatMap qb
def quoteL (l:Bs):Bs:=34 :: (mid l++[34])
def zqW (l:Bs):Bool:=decide (l≠[])&&l.all fun c=>decide (33<=c.toNat/\c.toNat<=126/\c.toNat≠34)
def zo9 (c:UInt8):Nat:=(zlV.findIdx? (·==c)).getD 16
def zkU:Bs->UInt8×Nat
 | []=>(0,0)
 | c :: r =>
  if c≠92 then (if good c then (c,1) else (0,0))
  else match r with
   | x :: a :: b :: _=>if x=120/\zo9 a<16/\zo9 b<16/\good (UInt8.ofNat (zo9 a*16+zo9 b))=false then (UInt8.ofNat (zo9 a*16+zo9 b),4) else (0,0)
   | _=>(0,0)
theorem zh2 {p:UInt8->Bool} (h:(List.range 256).all (fun n=>p (UInt8.ofNat n))=true) (c:UInt8):p c=true:=by
 have h1:=WE.1 h c.toNat (List.mem_range.2 c.toNat_lt);simpa using h1
def zrL:Nat->Bs->Option (Bs×Nat)
 | 0,_=>none
 | _+1,[]=>none
 | f+1,c :: r=>if c=34 then some ([],1) else if (zkU (c :: r)).2=0 then none else (zrL f ((c :: r).drop (zkU (c :: r)).2)).map fun x=>((zkU (c :: r)).1 :: x.1,(zkU (c :: r)).2+x.2)
def body (l:Bs):Option (Bs×Nat):=zrL (l.length+1) l
def qtd:Bs->Option (Bs×Nat)
 | []=>none
 | c :: r=>if c=34 then (body r).map fun x=>(x.1,x.2+1) else none
def unq (l:Bs):Option Bs:=match qtd l with | some (t,n)=>if n=l.length then some t else none | none=>none
end Go.Proofs.YtnpdbhbmakdklaaGreatDoor.QuotePlain
end
section
namespace Go.Proofs.YtnpdbhbmakdklaaGreatDoor.QuotePlain
def okw (w:Bs):Bool:=(unq w).isSome||zqW w
def cut:Bs->Bs->Bool->Option (List Bs)
 | [],w,_=>if okw w then some [w] else none
 | c :: r,w,i=>if c=32/\i=false then (if okw w then (cut r [] i).map (w :: ·) else none) else cut r (w++[c]) (if c=34 then !i else i)
end Go.Proofs.YtnpdbhbmakdklaaGreatDoor.QuotePlain
end
section
namespace Go.Proofs.YtnpdbhbmakdklaaGreatDoor.QuotePlain
def F (q:List Bs):Bs:=q.flatMap (·++[32])
end Go.Proofs.YtnpdbhbmakdklaaGreatDoor.QuotePlain
end
namespace Go.Proofs.YtnpdbhbmakdklaaGreatDoor.Vcg
variable {P:Program} {W:World} {l:List (Int×Int)} {x:zo} {f:FsV} {args:List C} {n i:Int} {k N:Nat} {xs:List zo} {α κ:Type} {S:List Int}
section
structure OpV where
 kind:Int
 slot:Int
 a:Lz
 b:Lz
 d:Lz
deriving DecidableEq,Inhabited
def Vu (k:Int):Bool:=decide (k=3)||decide (k=7)||decide (k=9)||decide (k=10)
def zrG (k:Int):Bool:=decide (k=2)||decide (k=3)||decide (k=5)||decide (k=6)
end
section
open CA CB
open Go.RowKit
def opL (o:OpV):List C:=[.sc (.int .i64 o.kind),.sc (.int .i64 o.slot),.str o.a,.str o.b,.str o.d]
def HO (o:OpV):Bool:=decide (1<=o.kind)&&decide (o.kind<=10)&&qG o.a&&(if Vu o.kind then decide (1<=o.slot)&&decide (o.slot<=1073741824) else decide (o.slot=0))&&(if zrG o.kind then qG o.b else decide (o.b = []))
 && (if o.kind=4 then QB o.d else decide (o.d = []))&&(!decide (o.kind=6)||(!YQ o.a o.b&&!YQ o.b o.a))
def zdE (o:OpV):Prop:=o.a.length<=1000000/\o.b.length<=1000000/\o.d.length<=1000000
theorem MB (k s:Int) (a b d:Lz) (hs:zdE ⟨k,s,a,b,d⟩):Fun Tryz.prog G1 170 [.agg (opL ⟨k,s,a,b,d⟩)] (qQ (HO ⟨k,s,a,b,d⟩)) 0:=by
 have hs1:a.length<=1000000:=hs.1;have hs2:b.length<=1000000:=hs.2.1;have hs3:d.length<=1000000:=hs.2.2;have h1:=(xi a (by omega)).glob0 (G':=G1);have h2:=(xi b (by omega)).glob0 (G':=G1);have h3:=(zcD d (by omega)).glob0 (G':=G1);have h4:=(Gy a b (by omega)).glob0 (G':=G1);have h5:=(Gy b a (by omega)).glob0 (G':=G1);unfold opL;by_cases hk1:k<1
 ·have:¬1<=k:=by omega
  refine fon Tryz.func170 ?_;dsimp only[Tryz.f170];push_cast [hk1];exact ⟨[],rfl,rfl,by push_cast [ze,zd,CLe,zg];simp[HO,this]⟩
 by_cases hk2:10<k
 ·have:¬k<=10:=by omega
  refine fon Tryz.func170 ?_;dsimp only[Tryz.f170];push_cast [hk1,hk2];exact ⟨[],rfl,rfl,by push_cast [ze,zd,CLe,zg];simp[HO,this]⟩
 cases hp:qG a with
 | false =>
  rw[hp]at h1;refine fon Tryz.func170 ?_;dsimp only[Tryz.f170];push_cast [hk1,hk2];refine cl h1 ?_;push_cast;exact ⟨[],rfl,rfl,by push_cast [ze,zd,CLe,zg];simp[HO,hp]⟩
 | true =>
  rw[hp]at h1;have hk:k=1∨k=2∨k=3∨k=4∨k=5∨k=6∨k=7∨k=8∨k=9∨k=10:=by omega
  clear hk1 hk2 hs hs1 hs2 hs3;rcases hk with rfl | rfl | rfl | rfl | rfl | rfl | rfl | rfl | rfl | rfl
  all_goals
   refine fon Tryz.func170 ?_;dsimp only[Tryz.f170];push_cast;refine cl h1 ?_;push_cast
   repeat' (first
    | (refine call h2 ?_;push_cast)
    | (refine zb0 h2 ?_;push_cast)
    | (refine call h3 ?_;push_cast)
    | (refine zb0 h3 ?_;push_cast)
    | (refine call h4 ?_;push_cast)
    | (refine zb0 h4 ?_;push_cast)
    | (refine call h5 ?_;push_cast)
    | (refine zb0 h5 ?_;push_cast)
    | (refine br (fun h=>?_) (fun h=>?_)<;>push_cast [h])
    | (refine ⟨[],rfl,rfl,?_⟩;push_cast [ze,zd,CLe,zg];clear h1 h2 h3 h4 h5;simp_all [HO,Vu,zrG]<;>omega))
end
section
structure zK where
 dir:Int
 name:Lz
 ino:Int
deriving DecidableEq,Inhabited
structure zY where
 slot:Int
 ino:Int
 content:Bool
 data:Lz
deriving DecidableEq,Inhabited
structure qV where
 fs:FsV
 kept:List zY
 pool:List zo
deriving DecidableEq,Inhabited
def qu:zK:=⟨0,[],0⟩
def znf:zY:=⟨0,0,false,[]⟩
abbrev JE (es:List zS):Prop:=qT jI zS.name es
def Yo (n:Lz) (es:List zS):Bool:=Ya zS.name n es
def zL (n:Lz) (es:List zS):Int:=match jk zS.name n es with | some e=>e.ino | none=>0
def zi (n:Lz) (es:List zS):List zS:=JH zS.name n es
def zZ (n:Lz) (i:Int) (es:List zS):List zS:=Q5 jI zS.name ⟨n,i⟩ (JH zS.name n es)
def atW (xs:List zo):List Lz->zK->zK×Int
 | [],s=>(s,0)
 | n :: r,s=>if s.ino=0 then (qu,1) else if (zf s.ino xs).kind≠2 then (qu,3) else atW xs r ⟨(zf s.ino xs).ino,n,zL n (zf s.ino xs).es⟩
def atV (f:FsV) (p:Lz):zK×Int:=if JY p then atW f.xs (zn p) ⟨0,[],1⟩ else (qu,9)
def Vi (f:FsV) (n b:Int):Bool:=decide (f.xs.length+n<=f.maxI)&&decide (ql f.xs+b<=f.maxB)
def qr (d:Int) (es:List zS->List zS) (xs:List zo):List zo:=qq { zf d xs with es:=es (zf d xs).es } xs
def zdR (f:FsV) (s:zK) (k:Int) (t:Lz):FsV:={ f with next:=f.next+1,xs:=qq ⟨f.next,k,1,t,if k=2 then s.dir else 0,[]⟩ (qr s.dir (zZ s.name f.next) f.xs) }
def zdX (f:FsV) (s:zK) (k:Int) (t:Lz):FsV×Int:=
 if may s.name then (if Vi f 1 (if k=1 then (t.length:Int) else 0) then (zdR f s k t,0) else (f,8)) else (f,9)
def zl (f:FsV) (s:zK):FsV:=
 if (zf s.ino f.xs).links-1=0 then { f with xs:=qf s.ino (qr s.dir (zi s.name) f.xs) }
 else { f with xs:=qq { zf s.ino f.xs with links:=(zf s.ino f.xs).links-1 } (qr s.dir (zi s.name) f.xs) }
def kC (f:FsV) (s:zK) (i:Int):FsV:={ f with xs:=qq { zf i f.xs with links:=(zf i f.xs).links+1 } (qr s.dir (zZ s.name i) f.xs) }
def jN (f:FsV) (a b:zK):FsV:=
 let g:=qr b.dir (zZ b.name a.ino) (qr a.dir (zi a.name) f.xs)
 if (zf a.ino g).kind=2 then { f with xs:=qq { zf a.ino g with parent:=b.dir } g } else { f with xs:=g }
def X8 (f:FsV) (i:Int) (t:Lz):FsV:={ f with xs:=qq { zf i f.xs with data:=t } f.xs }
def kr (f:FsV) (i:Int) (t:Lz):FsV×Int:=
 if Vi f 0 ((t.length:Int)-(zf i f.xs).data.length) then (X8 f i t,0) else (f,8)
def yL (n:Int) (ks:List zY):Bool:=Ya zY.slot n ks
def qL (k:zY) (ks:List zY):List zY:=Q5 Jk zY.slot k ks
def Xp (w:qV) (n:Int) (s:zK):qV×Int:=
 if yL n w.kept then (w,13)
 else (⟨zl w.fs s,qL ⟨n,s.ino,false,[]⟩ w.kept,if (zf s.ino w.fs.xs).links=1 then qq { zf s.ino w.fs.xs with links:=0,parent:=0 } w.pool else w.pool⟩,0)
def JU (w:qV) (n i:Int):qV×Int:=
 if yL n w.kept then (w,13) else ({ w with kept:=qL ⟨n,i,true,(zf i w.fs.xs).data⟩ w.kept },0)
def isV (f:FsV) (p:Lz) (want:Bool):zK×zo×Int:=
 let a:=atV f p
 (a.1,zf a.1.ino f.xs,if a.2≠0 then a.2 else if want&&!zk a.1.ino f.xs then 1 else if !want&&zk a.1.ino f.xs then 2 else 0)
def js (f:FsV) (p:Lz):zo×Int:=
 let a:=isV f p true
 (a.2.1,if a.2.2≠0 then a.2.2 else if a.2.1.kind=2 then 4 else if a.2.1.kind=3 then 9 else 0)
def VD (w:qV) (p:Lz) (k:Int) (t:Lz):qV×Int:=
 if (isV w.fs p false).2.2≠0 then (w,(isV w.fs p false).2.2) else ({ w with fs:=(zdX w.fs (isV w.fs p false).1 k t).1 },(zdX w.fs (isV w.fs p false).1 k t).2)
def Vs (w:qV) (o:OpV):qV×Int:=
 if (js w.fs o.a).2≠0 then (w,(js w.fs o.a).2) else VD w o.b 1 (js w.fs o.a).1.data
def QV (w:qV) (o:OpV):qV×Int:=
 if (js w.fs o.a).2≠0 then (w,(js w.fs o.a).2)
 else if (js w.fs o.b).2≠0 then (w,(js w.fs o.b).2)
 else if (js w.fs o.a).1.ino=(js w.fs o.b).1.ino then (w,9)
 else if (JU w o.slot (js w.fs o.b).1.ino).2≠0 then (w,(JU w o.slot (js w.fs o.b).1.ino).2)
 else if (kr w.fs (js w.fs o.b).1.ino (js w.fs o.a).1.data).2≠0 then (w,(kr w.fs (js w.fs o.b).1.ino (js w.fs o.a).1.data).2)
 else ({ (JU w o.slot (js w.fs o.b).1.ino).1 with fs:=(kr w.fs (js w.fs o.b).1.ino (js w.fs o.a).1.data).1 },0)
def VK (w:qV) (o:OpV):qV×Int:=
 let a:=isV w.fs o.a true
 if a.2.2≠0 then (w,a.2.2) else if a.2.1.kind=2 then (w,11)
 else if (isV w.fs o.b false).2.2≠0 then (w,(isV w.fs o.b false).2.2)
 else ({ w with fs:=kC w.fs (isV w.fs o.b false).1 a.2.1.ino },0)
def JV (w:qV) (o:OpV):qV×Int:=
 if (isV w.fs o.a true).2.2≠0 then (w,(isV w.fs o.a true).2.2)
 else if (isV w.fs o.b false).2.2≠0 then (w,(isV w.fs o.b false).2.2)
 else ({ w with fs:=jN w.fs (isV w.fs o.a true).1 (isV w.fs o.b false).1 },0)
def qW (w:qV) (o:OpV):qV×Int:=
 let a:=isV w.fs o.a true
 if a.2.2≠0 then (w,a.2.2) else if a.2.1.es≠[] then (w,5) else Xp w o.slot a.1
def doV (w:qV) (o:OpV):qV×Int:=
 if !HO o then (w,12)
 else if o.kind=1 then VD w o.a 2 []
 else if o.kind=2 then Vs w o
 else if o.kind=3 then QV w o
 else if o.kind=4 then VD w o.a 3 o.d
 else if o.kind=5 then VK w o
 else if o.kind=6 then JV w o
 else qW w o
def Jd (ks:List zY):Int:=match ks.getLast? with | some k=>k.slot | none=>0
structure zW where
 w:qV
 ops:List OpV
 diags:List Lz
 status:Int
 slot:Int
deriving DecidableEq,Inhabited
def GV (w:qV):zW:=⟨w,[],[],0,Jd w.kept⟩
def Zl (d:zW) (o:OpV):OpV:={ o with slot:=if o.kind=3∨o.kind=7 then d.slot+1 else 0 }
def Qa (d:zW) (o:OpV):zW×Int:=
 if 7<o.kind then (d,12)
 else if (doV d.w (Zl d o)).2≠0 then (d,(doV d.w (Zl d o)).2)
 else (⟨(doV d.w (Zl d o)).1,d.ops++[Zl d o],d.diags,d.status,if 0<(Zl d o).slot then (Zl d o).slot else d.slot⟩,0)
end
variable {w:qV} {ks:List zY}
section
open CA CB
open Go.RowKit
theorem zcg (a b:Lz):Fun Tryz.prog G0 260 [.str a,.str b] (.sc (.int .i64 (Lib.compareBytes a b))) 0:=by
 refine Fun.wrap (by kernel_rfl) fun R vs h=>?_;obtain ⟨v1,us1,rfl,h1,h⟩:=zh.1 h;obtain ⟨v2,us2,rfl,h2,h⟩:=zh.1 h;rw[zm]at h;subst h;rw[z6]at h1 h2;subst h1 h2;refine (Tryz.strings_Compare ⟨a.toArray⟩ ⟨b.toArray⟩ R.w).mono ?_;rintro e w' ⟨rfl,rfl⟩;exact ⟨_,rfl,W7 _ _,fun R' _=>zr.2 (by simp)⟩
section
variable {G:zt}
theorem zaH (e:zS) (n:Lz):Fun Tryz.prog G 259 [.agg (Nc e),.str n] (.sc (.int .i64 (Lib.compareBytes e.name n))) 0:=by
 have h:=(zcg e.name n).glob0 (G':=G);refine fon Tryz.func259 ?_;dsimp only[Tryz.f259];push_cast;refine cl h ?_;push_cast;exact dn
theorem xf (es:List zS) (n:Lz) (hl:es.length<=100000) (hR:qT jI zS.name es) :
  Fun Tryz.prog G 258 [.sl 2 (zJ es),.str n,.clo (.func 259) [] []] (.tup [.sc (.int .i64 (qv jI zS.name n es:Nat)),.sc (.bool (Ya zS.name n es))]) 0:=by
 refine fon Tryz.func258 ?_;dsimp only[Tryz.f258];push_cast;refine loop (fun p:Nat×Nat=>⟨[(0,.sl 2 (zJ es)),(1,.str n),(2,.clo (.func 259) [] []),(8,.sc (.int .i64 (es.length:Nat))),(9,.sc (.int .i64 p.1)),(10,.sc (.int .i64 p.2))],[],0,0⟩)
  (fun p=>p.1<=p.2/\p.2<=es.length/\(∀ t (h:t<es.length),t<p.1->(jI).lt (zS.name es[t]) n=true)/\∀ t (h:t<es.length),p.2<=t->(jI).lt (zS.name es[t]) n=false) (fun p=>p.2-p.1) (0,es.length) ⟨Wc _,Wb _,fun t _ h=>by (simp at h),fun t h h'=>by (dsimp only at h';omega)⟩ ?_ ?_
 ·exact wk (by push_cast [ze,zd,CLe,zg,We])
 ·rintro ⟨i,j⟩ ⟨h1,h2,h3,h4⟩;dsimp only at h1 h2 h3 h4 ⊢;by_cases h:i<j
  ·obtain ⟨m,hm⟩:∃ m,m=(i+j) / 2:=⟨_,rfl⟩;have hmi:((i:Int)+(j:Int)) / 2=(m:Int):=by omega
   have hml:m<es.length:=by omega
   have hat:=Je es m hml;have hlt:=(zez es[m].name n).to_iff;push_cast [h,hmi,hat]
   repeat refine an ?_
   refine cl ((zaH es[m] n)) ?_;push_cast;cases hc:(jI).lt (zS.name es[m]) n with
   | true =>
    have hcv:(Lib.compareBytes es[m].name n<0)=True:=eq_true (hlt.mpr hc);push_cast [hcv]
    repeat refine an ?_
    refine ⟨(m+1,j),⟨by omega,h2,fun t ht hlt2=>?_,h4⟩,by dsimp only;omega,wk⟩;dsimp only at hlt2;rcases Wr t m with q | q
    ·exact (jI).tr ((WV.1 hR) t m ht hml q) hc
    ·have:t=m:=by omega
     subst this;exact hc
   | false =>
    have hcv:(Lib.compareBytes es[m].name n<0)=False:=Wu (fun e=>by have h7:(jI).lt (zS.name es[m]) n=true:=hlt.mp e;rw[hc]at h7;cases h7);push_cast [hcv]
    repeat refine an ?_
    refine ⟨(i,m),⟨by omega,by omega,h3,fun t ht hge=>?_⟩,by dsimp only;omega,wk⟩;dsimp only at hge;rcases Wr m t with q | q
    ·cases h9:(jI).lt (zS.name es[t]) n with
     | false=>rfl
     | true=>have:=(jI).tr ((WV.1 hR) m t hml ht q) h9;rw[hc]at this;cases this
    ·have:t=m:=by omega
     subst this;exact hc
  ·have hij:i=j:=by omega
   subst hij;have hrk:=ZQ (o:=jI) (key:=zS.name) n es i h2 h3 h4;push_cast [h];refine br (fun hx=>?_) (fun hx=>?_)
   ·have hx:i<es.length:=by simpa using hx
    have hat:=Je es i hx;have hh:=y9 n hR hrk hx;push_cast [hx,hat]
    repeat refine an ?_
    refine cl ((zaH es[i] n)) ?_;push_cast;have hcv:decide (Lib.compareBytes es[i].name n=0)=Ya zS.name n es:=by
     rw[hh];exact Bb.2 (zfz es[i].name n).to_iff
    push_cast [hcv];exact dn (by push_cast [ze,zd,CLe,zg,hrk])
   ·have hx:¬i<es.length:=by simpa using hx
    have hh:=Nw n hR (by omega);push_cast [hx];exact dn (by push_cast [ze,zd,CLe,zg,hrk,hh])
theorem vJ (es:List zS) (n:Lz) (hl:es.length<=100000) (hR:JE es):Fun Tryz.prog G 224 [.sl 2 (zJ es),.str n] (.tup [.sc (.int .i64 (qv jI zS.name n es:Nat)),.sc (.bool (Ya zS.name n es))]) 0:=by
 refine fon Tryz.func224 ?_;dsimp only[Tryz.f224];push_cast;refine cl (xf es n hl hR) ?_;push_cast;exact dn
theorem x8 (es:List zS) (n:Lz) (hl:es.length<=100000) (hR:JE es):Fun Tryz.prog G 177 [.sl 2 (zJ es),.str n] (.tup [.sc (.int .i64 (zL n es)),.sc (.bool (Yo n es))]) 0:=by
 obtain ⟨_,_,h3,h4⟩:=UB n hR;have h:=vJ (G:=G) es n hl hR;cases hh:Ya zS.name n es with
 | false =>
  have hf:zL n es=0:=by unfold zL;rw[(h4 hh).1]
  have he:Yo n es=false:=hh;rw[hh]at h;refine fon Tryz.func177 ?_;dsimp only[Tryz.f177];push_cast;refine cl h ?_;push_cast;exact dn (by push_cast [ze,zd,CLe,zg,hf,he])
 | true =>
  obtain ⟨hlt,_,g2,_⟩:=h3 hh;have hf:zL n es=es[qv jI zS.name n es].ino:=by unfold zL;rw[g2]
  have he:Yo n es=true:=hh;have hat:=Je es _ hlt;rw[hh]at h;refine fon Tryz.func177 ?_;dsimp only[Tryz.f177];push_cast;refine cl h ?_;push_cast [hat]
  repeat refine an ?_
  exact dn (by push_cast [ze,zd,CLe,zg,hf,he])
end
end
section
open CA CB
open Go.RowKit
section
variable {G:zt}
theorem jl {es:List zS}:∀ r∈zJ es,r.length=2:=fun r hr=>by
 obtain ⟨x,_,rfl⟩:=WS.1 hr;rfl
theorem jo {es:List zS}:ji (zJ es):=fun r hr=>by
 obtain ⟨x,_,rfl⟩:=WS.1 hr;rfl
theorem zaT {c i:Nat} {rows:List (List C)} (hk:∀ r∈rows,r.length=k) (hi:i<=rows.length):(qB k rows c).take (i*k)=(rows.take i).flatten:=by
 have hf:=zM hk;have h1:i*k<=rows.length*k:=WT _ hi;unfold qB;rw[OT (by omega),Z7 hk]
theorem zkY {es:List zS} {c r:Nat} (hr:r<es.length) :
  (qB 2 (zJ es) c).take (r*2+1)++[C.sc (.int .i64 i)]++(qB 2 (zJ es) c).drop (r*2+1+1)=qB 2 (zJ (es.set r ⟨es[r].name,i⟩)) c:=by
 have hll:(zJ es).length=es.length:=We ..;have h:=zaz (c:=c) (row:=Nc ⟨es[r].name,i⟩) (i:=r) jl rfl (show r<(zJ es).length by omega);have e1:(zJ es).set r (Nc ⟨es[r].name,i⟩)=zJ (es.set r ⟨es[r].name,i⟩):=by simp[List.map_set]
 rw[e1]at h;rw[←h];have t0:=zaT (c:=c) (i:=r) (jl (es:=es)) (by omega);have t1:=zaT (c:=c) (i:=r+1) (jl (es:=es)) (by omega);have e2:((zJ es).take (r+1)).flatten=((zJ es).take r).flatten++Nc es[r]:=by
  rw[WX,Je es r hr];simp
 have e3:(qB 2 (zJ es) c).take (r*2+1)=(qB 2 (zJ es) c).take (r*2)++[C.str es[r].name]:=by
  have e4:(qB 2 (zJ es) c).take (r*2+1)=((qB 2 (zJ es) c).take ((r+1)*2)).take (r*2+1):=by rw[B4,OH (by omega)]
  have hl0:((zJ es).take r).flatten.length=r*2:=by
   rw[zM (k:=2) fun x hx=>jl x (WC hx),Ob,hll,OH (by omega)]
  rw[e4,t1,e2,t0,Ax,hl0,Wf (by omega),show r*2+1-r*2=1 by omega]
  rfl
 rw[e3];simp
theorem zfx (es:List zS) (n:Lz) (i:Int) (hl:es.length<=90000) (hR:JE es) :
  Fun Tryz.prog G 270 [.sl 2 (zJ es),.str n,.sc (.int .i64 i)] (.own 0 112 2 (zJ (zZ n i es))) 1:=by
 obtain ⟨_,_,h3,h4⟩:=UB n hR;have hll:(zJ es).length=es.length:=We ..;have hat:=vJ (G:=G) es n (by omega) hR;have hrl:=Z0 (o:=jI) (key:=zS.name) n es;refine foF (fun _=>[]) Tryz.func270 ?_;dsimp only[Tryz.f270];push_cast;refine cl hat ?_;push_cast;refine ju [] [] (zcA (zJ es) jl jo (by omega)) rfl (by decide) (by decide) (by simp) (by push_cast) (by push_cast) (fun r bx' m hp=>?_);obtain ⟨rfl,⟨hne,c,h1,h2,rfl,rfl⟩ | ⟨he,⟨rfl,rfl⟩ | ⟨rfl,rfl⟩⟩⟩:=hp
 ·have hbl:=JM jl h1;have hre:∀ fp fo,C.reL fp fo (qB 2 (zJ es) c)=qB 2 (zJ es) c:=fun fp fo=>zG (zI jo);have hpos:=WB.2 hne;cases hh:Ya zS.name n es with
  | true =>
   obtain ⟨hlt,g1,g2,g3,g4⟩:=h3 hh;have hset:zZ n i es=es.set (qv jI zS.name n es) ⟨n,i⟩:=g4 ⟨n,i⟩ rfl;have hbs:=zkY (c:=c) (i:=i) hlt;rw[g1,←hset]at hbs;have hwl:(zZ n i es).length=es.length:=by rw[hset,Br]
   push_cast [hh,hre];rw[hbs];refine ⟨by omega,by omega,by rw[hbl];omega,[(1,112,2,zJ (zZ n i es),c)],[.inl 0],zC rfl (by omega) (by rw[We,hwl];omega) h2 jl jo,rfl,rfl,?_⟩;rw[hll,←hwl];push_cast [ze,zd,CLe,zg,show (zJ (zZ n i es)).length=(zZ n i es).length from We ..]
  | false =>
   have hw:zZ n i es=es.take (qv jI zS.name n es)++⟨n,i⟩ :: es.drop (qv jI zS.name n es):=by
    unfold zZ;rw[(h4 hh).2.1];exact (h4 hh).2.2 ⟨n,i⟩ rfl
   have hset:zJ (zZ n i es)=(zJ es).take (qv jI zS.name n es)++Nc ⟨n,i⟩ :: (zJ es).drop (qv jI zS.name n es):=by rw[hw];simp
   have hsl:(zJ (zZ n i es)).length=(zJ es).length+1:=by rw[hset];simp;omega
   push_cast [hh,hre];refine ju [1] [0] (zbu (e:=112) (zJ es) (Nc ⟨n,i⟩) (qv jI zS.name n es) c jl rfl jo rfl (by omega) (by omega) h1 h2) rfl (by decide) (by decide) (by simp) (by push_cast) (by push_cast [hre]) (fun r bx' m hp=>?_);rw[←hset]at hp;have hre2:∀ fp fo c,C.reL fp fo (qB 2 (zJ (zZ n i es)) c)=qB 2 (zJ (zZ n i es)) c:=fun fp fo c=>zG (zI jo);obtain ⟨rfl,c',g1,g2,⟨rfl,rfl⟩ | ⟨rfl,rfl⟩⟩:=hp
   ·push_cast [hre2,hre];exact ⟨[(1,112,2,zJ (zZ n i es),c')],[.inl 1],zC rfl (by omega) g1 g2 jl jo,rfl,rfl,by push_cast [ze,zd,CLe,zg]⟩
   ·have hra:∀ fp fo,C.reL fp fo (List.replicate (c*2) .any)=List.replicate (c*2) .any:=fun fp fo=>zG (by simp[OK,C.stayB]);push_cast [hre2,hre,hra];exact ⟨[(2,112,2,zJ (zZ n i es),c')],[.inl 1],zC rfl (by omega) g1 g2 jl jo,rfl,rfl,by push_cast [ze,zd,CLe,zg]⟩
 ·have he:es = []:=by simpa using he
  have hh:Ya zS.name n es=false:=by rw[he];rfl
  have hr0:qv jI zS.name n es=0:=by rw[he];rfl
  have hset:zZ n i es = [⟨n,i⟩]:=by rw[he];rfl
  push_cast [hh,hr0];refine ju [] [0] (zlo (e:=112) (Nc ⟨n,i⟩) rfl rfl) rfl (by decide) (by decide) (by simp) (by push_cast) (by push_cast) (fun r bx' m hp=>?_);obtain ⟨rfl,c,g1,g2,rfl,rfl⟩:=hp;have hre:∀ fp fo,C.reL fp fo (qB 2 [Nc ⟨n,i⟩] c)=qB 2 [Nc ⟨n,i⟩] c:=fun fp fo=>zG (zI (jo (es:=[⟨n,i⟩])));push_cast [hre];exact ⟨[(0,112,2,zJ [⟨n,i⟩],c)],[.inl 1],zC rfl (by omega) g1 g2 jl jo,rfl,rfl,by push_cast [ze,zd,CLe,zg,hset]⟩
 ·have he:es = []:=by simpa using he
  have hh:Ya zS.name n es=false:=by rw[he];rfl
  have hr0:qv jI zS.name n es=0:=by rw[he];rfl
  have hset:zZ n i es = [⟨n,i⟩]:=by rw[he];rfl
  push_cast [hh,hr0];refine ju [0] [0] (zbu (e:=112) [] (Nc ⟨n,i⟩) 0 0 (fun r hr=>by cases hr) rfl (fun r hr=>by cases hr) rfl (by simp) (by simp) (by simp) (by simp)) rfl (by decide) (by decide) (by simp) (by push_cast) (by push_cast [qB]) (fun r bx' m hp=>?_);obtain ⟨rfl,c,g1,g2,hp⟩:=hp;have hre:∀ fp fo,C.reL fp fo (qB 2 [Nc ⟨n,i⟩] c)=qB 2 [Nc ⟨n,i⟩] c:=fun fp fo=>zG (zI (jo (es:=[⟨n,i⟩])));rcases hp with ⟨rfl,rfl⟩ | ⟨rfl,rfl⟩
  ·push_cast [hre];exact ⟨[(0,112,2,zJ [⟨n,i⟩],c)],[.inl 1],zC rfl (WM (A2 _) g1) g1 g2 jl jo,rfl,rfl,by push_cast [ze,zd,CLe,zg,hset]⟩
  ·push_cast [hre];exact ⟨[(1,112,2,zJ [⟨n,i⟩],c)],[.inl 1],zC rfl (WM (A2 _) g1) g1 g2 jl jo,rfl,rfl,by push_cast [ze,zd,CLe,zg,hset]⟩
end
end
section
open CA CB
open Go.RowKit
section
variable {G:zt}
theorem znd {A B Z:List C} {r:Nat} (hA:A.length=r*2) (hB:B.length=(k-r)*2) (hZ:Z.length=k*2) (hr:r<=k):spl (A++Z.drop (r*2)) (r*2) (B.take ((k-r)*2))=A++B:=by
 unfold spl;rw[Wf (l:=B) (by omega),OT (by omega),Wf (l:=A) (by omega),OA (l:=A++Z.drop (r*2)) (by rw[Wi,W1];omega),W4]
theorem Ub (es:List zS) (n:Lz) (hl:es.length<=90000) (hR:JE es) (hh:Ya zS.name n es=true) :
  Fun Tryz.prog G 272 [.sl 2 (zJ es),.str n] (.own 0 112 2 (zJ (zi n es))) 1:=by
 obtain ⟨_,_,h3,h4⟩:=UB n hR;have hll:(zJ es).length=es.length:=We ..;have hat:=vJ (G:=G) es n (by omega) hR;have hrl:=Z0 (o:=jI) (key:=zS.name) n es;rw[hh]at hat;obtain ⟨hlt,g1,g2,g3,g4⟩:=h3 hh;have hw:zi n es=es.take (qv jI zS.name n es)++es.drop (qv jI zS.name n es+1):=g3;obtain ⟨k,hk⟩:∃ k,es.length=k+1:=⟨es.length-1,by omega⟩;have hkc:(zJ es).length=k+1:=by omega
 have hn:((zJ es).length:Int)-1=(k:Int):=by omega
 have hwl:(zi n es).length=k:=by rw[hw];simp;omega
 generalize qv jI zS.name n es=r at *;have hm:min r k=r:=by omega
 rcases O9 k with h1 | h1
 ·subst h1;obtain rfl:r=0:=by omega
  have hn:((zJ es).length:Int)-1=0:=hn;have hwe:zi n es = []:=Ak.1 hwl;refine fof (fun i=>if i=5 then Ys [(0,.pure),(1,.pure),(2,.pure),(3,.pure),(4,.pure),(7,.pure),(8,.pure),(9,.pure),(10,.pure),(5,.flt [0,5,6,7,8]),(6,.pure),(11,.bar)] else []) Tryz.func272 ?_;dsimp only[Tryz.f272];push_cast;refine cl hat ?_;push_cast [hn,Int.toNat_zero];refine ⟨by omega,by omega,zrn (m:=0) (xs:=[]) Zf YE rfl rfl (fun _ _ _ _ _ h=>by cases h) rfl ?_⟩;push_cast;have hd:(zJ es).drop 1 = []:=OA (by omega);rw[hd];refine ⟨⟨by split<;>first | omega | trivial,by split<;>first | omega | trivial⟩,zrn (m:=0) (xs:=[]) Zf YE rfl rfl (fun _ _ _ _ _ h=>by cases h) rfl ?_⟩;push_cast;exact ⟨[.inl 0],rfl,rfl,by push_cast [ze,zd,CLe,zg,hwe]⟩
 ·refine foF (fun i=>if i=5 then Ys [(0,.pure),(1,.pure),(2,.pure),(3,.pure),(4,.pure),(7,.pure),(8,.pure),(9,.pure),(10,.pure),(5,.flt [0,5,6,7,8]),(6,.pure),(11,.bar)] else if i=1000000+62 then [true,true] else []) Tryz.func272 ?_;dsimp only[Tryz.f272];push_cast;refine cl hat ?_;push_cast [hn,Ol];have hA:((zJ es).take r).flatten.length=r*2:=by
   rw[zM (k:=2) fun x hx=>jl x (WC hx),Ob,hkc,OH (by omega)]
  have hB:((zJ es).drop (r+1)).flatten.length=(k-r)*2:=by
   rw[zM (k:=2) fun x hx=>jl x (WU hx),W1,hkc];omega
  have hZ:((List.replicate k [C.str [],C.sc (.int .i64 0)]).flatten).length=k*2:=by simp
  refine ⟨⟨by omega,by omega⟩,by omega,by omega,by omega,by omega,⟨by omega,by omega⟩,⟨by omega,by omega⟩,⟨by omega,by omega⟩,zmE (m:=r) (xs:=((zJ es).take r).flatten) Zf YE (by simp[C.xs?,C.rows?,hkc];omega) rfl hA (by rw[hZ];omega) ?_⟩;rw[hm];push_cast;have hS:spl (List.replicate k [C.str [],C.sc (.int .i64 0)]).flatten 0 (((zJ es).take r).flatten.take (r*2))=((zJ es).take r).flatten++((List.replicate k [C.str [],C.sc (.int .i64 0)]).flatten).drop (r*2):=by
   unfold spl;rw[OD,Ox,Ov,Wf (by omega),hA]
  have hm2:min (k-r) (k-r)=k-r:=Nat.min_self _;rw[hS];refine ⟨⟨by split<;>first | exact ⟨by omega,by omega⟩ | trivial,by split<;>first | exact ⟨by omega,by omega⟩ | trivial,by split<;>first | exact ⟨by omega,by omega⟩ | trivial⟩,Wb _,⟨by omega,by omega⟩,zmE (m:=k-r) (xs:=((zJ es).drop (r+1)).flatten) Zf YE (by simp[C.xs?,C.rows?,hkc]) rfl hB (by rw[Wi,W1,hA,hZ];omega) ?_⟩;rw[hm2];push_cast;have hwc:(zJ (zi n es)).length=k:=(We ..).trans hwl;have hF:spl (((zJ es).take r).flatten++((List.replicate k [C.str [],C.sc (.int .i64 0)]).flatten).drop (r*2)) (r*2) (((zJ es).drop (r+1)).flatten.take ((k-r)*2))=qB 2 (zJ (zi n es)) k:=by
   rw[znd hA hB hZ (by omega)];unfold qB;rw[hwc,Nat.sub_self,Nat.zero_mul,hw];simp
  rw[hF];refine ⟨[(0,112,2,zJ (zi n es),k)],[.inl 0],zC rfl h1 (by omega) (by omega) jl jo,rfl,rfl,?_⟩;push_cast [ze,zd,CLe,zg,hwc]
end
end
section
theorem Va (n:Int) (xs:List zo):zk n xs=(Xy n xs).isSome:=by
 unfold zk Xy
 induction xs with
 | nil=>rfl
 | cons y r ih =>
  rw[A7,Aw];cases h:(y.ino==n) with
  | true=>rfl
  | false=>rw[O7,ih]
theorem NY (h:Xy n xs=some x):x.ino=n/\x∈xs:=by
 unfold Xy at h;have h1:=List.find?_some h;exact ⟨by simpa using h1,Bk h⟩
theorem zaf (n:Int) (x:zo):∀ xs:List zo,(∀ z∈xs,z.ino≠x.ino)->Xy n (ZH x xs)=if x.ino=n then some x else Xy n xs
 | [],_=>by
  unfold ZH Xy;by_cases h:x.ino=n<;>simp[h]
 | y :: r,hn=>by
  have hy:=hn y Wl;have ih:=zaf n x r fun z hz=>hn z (Wn _ hz);unfold Xy at ih ⊢;unfold ZH;split
  ·by_cases h:x.ino=n
   ·simp[h]
   ·simp[h,Aw]
  ·by_cases h:x.ino=n
   ·rw[if_pos h]at ih ⊢;have hyn:(y.ino==n)=false:=by simp;omega
    rw[Aw,hyn];exact ih
   ·rw[if_neg h]at ih ⊢;rw[Aw,Aw,ih]
theorem ZL (n m:Int):∀ xs:List zo,Xy n (qf m xs)=if n=m then none else Xy n xs
 | []=>by unfold Xy qf;simp
 | y :: r=>by
  have ih:=ZL n m r;by_cases hy:y.ino=m
  ·rw[Jf hy,ih];by_cases h:n=m
   ·rw[if_pos h,if_pos h]
   ·rw[if_neg h,if_neg h];have hyn:(y.ino==n)=false:=by simp;omega
    unfold Xy;rw[Aw,hyn]
  ·rw[JS hy];unfold Xy at ih ⊢;rw[Aw,Aw,ih];by_cases h:n=m
   ·have hyn:(y.ino==n)=false:=by simp;omega
    simp only[hyn,if_pos h]
   ·simp only[if_neg h]
theorem zmJ:∀ z∈qf n xs,z.ino≠n:=fun z hz=>by
 unfold qf at hz;simpa using (Oy.1 hz).2
theorem zbC (n:Int) (x:zo) (xs:List zo):Xy n (qq x xs)=if x.ino=n then some x else Xy n xs:=by
 unfold qq;rw[zaf n x _ zmJ,ZL];by_cases h:x.ino=n
 ·rw[if_pos h,if_pos h]
 ·rw[if_neg h,if_neg h,if_neg (fun e=>h e.symm)]
theorem ja (n:Int) (x:zo) (xs:List zo):zk n (qq x xs)=(decide (x.ino=n)||zk n xs):=by
 rw[Va,zbC,Va];by_cases h:x.ino=n<;>simp[h]
theorem Xu (n m:Int) (xs:List zo):zk n (qf m xs)=(!decide (n=m)&&zk n xs):=by
 rw[Va,ZL,Va];by_cases h:n=m<;>simp[h]
theorem yv {x:zo}:∀ {xs:List zo},qc xs->Xy x.ino xs=some x->qq x xs=xs
 | [],_,h=>by unfold Xy at h;simp at h
 | y :: r,hR,h=>by
  obtain ⟨h1,h2⟩:=jY.1 hR;by_cases hy:y.ino=x.ino
  ·have e:y=x:=by
    unfold Xy at h;rw[AG (by simpa using hy)]at h;simpa using h
   subst e;have hb:zk y.ino r=false:=VH h1;unfold qq;rw[Jf rfl,QS hb,zeP h1]
  ·have hx:Xy x.ino r=some x:=by
    unfold Xy at h ⊢;rwa [Aq (by simpa using hy)]at h
   have hlt:=h1 x (NY hx).2;rw[Zv hlt,yv h2 hx]
theorem znH:∀ {x:zo},qc xs->(x∈xs↔Xy x.ino xs=some x):=by
 induction xs with
 | nil=>intro x _;simp[Xy]
 | cons y r ih =>
  intro x hR;obtain ⟨h1,h2⟩:=jY.1 hR;constructor
  ·intro hx;rcases WK.1 hx with rfl | hx
   ·unfold Xy;rw[AG (by simp)]
   ·have:=h1 x hx;unfold Xy;rw[Aq (by simp;omega)];exact (ih h2).1 hx
  ·intro h;exact (NY h).2
def Mj (g:zo->Nat) (xs:List zo):Nat:=(xs.map g).sum
theorem ZI (g:zo->Nat) {n:Int}:∀ {xs:List zo},qc xs->Mj g xs=Mj g (qf n xs)+(match Xy n xs with | some x=>g x | none=>0)
 | [],_=>rfl
 | y :: r,hR=>by
  obtain ⟨h1,h2⟩:=jY.1 hR;have ih:=ZI g (n:=n) h2;unfold Mj at ih ⊢;by_cases hy:y.ino=n
  ·have hb:zk n r=false:=VH fun z hz=>by have:=h1 z hz;omega
   have hg:Xy n (y :: r)=some y:=by unfold Xy;rw[AG (by simpa using hy)]
   rw[hg,Jf hy,QS hb];simp;omega
  ·have hg:Xy n (y :: r)=Xy n r:=by unfold Xy;rw[Aq (by simpa using hy)]
   rw[hg,JS hy];simp only[Wo,OY];omega
theorem zbr (g:zo->Nat) (x:zo):∀ xs:List zo,Mj g (ZH x xs)=Mj g xs+g x
 | []=>by unfold ZH Mj;simp
 | y :: r=>by
  have ih:=zbr g x r;unfold Mj at ih ⊢;unfold ZH;split
  ·simp;omega
  ·simp only[Wo,OY];omega
theorem UO (g:zo->Nat) {x:zo} {xs:List zo} (hR:qc xs):Mj g (qq x xs)+(match Xy x.ino xs with | some y=>g y | none=>0)=Mj g xs+g x:=by
 unfold qq;rw[zbr,ZI g (n:=x.ino) hR];omega
end
section
def Yc (n:Int) (x:zo):Nat:=(x.es.filter fun e=>decide (e.ino=n)).length
def J5 (n:Int) (xs:List zo):Nat:=Mj (Yc n) xs
structure FsI (f:FsV):Prop where
 rises:qc f.xs
 ino:∀ x∈f.xs,1<=x.ino/\x.ino<f.next
 kind:∀ x∈f.xs,x.kind=1∨x.kind=2∨x.kind=3
 es:∀ x∈f.xs,JE x.es
 file:∀ x∈f.xs,x.kind≠2->x.es = []
 led:∀ x∈f.xs,∀ e∈x.es,zk e.ino f.xs=true
 links:∀ x∈f.xs,x.links=(J5 x.ino f.xs:Int)
 root:zk 1 f.xs=true
 base:(zf 1 f.xs).kind=2
 bare:J5 1 f.xs=0
theorem zj (h:zk n xs=true):Xy n xs=some (zf n xs)/\zf n xs∈xs/\(zf n xs).ino=n:=by
 rw[Va]at h;obtain ⟨x,hx⟩:=AQ.1 h;have e:zf n xs=x:=by unfold zf;rw[hx];rfl
 obtain ⟨h1,h2⟩:=NY hx;rw[e];exact ⟨hx,h2,h1⟩
theorem Jn (h:zk n xs=false):Xy n xs=none/\zf n xs=Mn:=by
 have h1:=NF h;exact ⟨h1,by unfold zf;rw[h1];rfl⟩
theorem qN (n:Int) (x:zo) (xs:List zo):zf n (qq x xs)=if x.ino=n then x else zf n xs:=by
 unfold zf;rw[zbC];split<;>rfl
theorem ZP (n m:Int) (xs:List zo):zf n (qf m xs)=if n=m then Mn else zf n xs:=by
 unfold zf;rw[ZL];split<;>rfl
theorem qz {z:zo}:z∈qq x xs↔z=x∨(z∈xs/\z.ino≠x.ino):=by
 unfold qq;rw[GR];unfold qf;simp
theorem Xw {z:zo}:z∈qf n xs↔z∈xs/\z.ino≠n:=by
 unfold qf;simp
theorem Ym (h:x∈xs):zk x.ino xs=true:=by
 unfold zk;exact Oq.2 ⟨x,h,by simp⟩
theorem za5 {α κ:Type} [DecidableEq κ] {o:zlH κ} {key:α->κ} (p:α->Bool) (x:α):∀ xs:List α,((Q5 o key x xs).filter p).length=(xs.filter p).length+if p x then 1 else 0
 | []=>by unfold Q5;cases h:p x<;>simp[h]
 | y :: r=>by
  have ih:=za5 (o:=o) (key:=key) p x r;unfold Q5;split
  ·cases h:p x<;>simp[h,O5]
  ·rw[O5,O5];cases h:p y
   ·simpa using ih
   ·simp[ih];omega
theorem zfY [DecidableEq κ] {o:zlH κ} {key:α->κ} (p:α->Bool) {n:κ} {xs:List α} (hR:qT o key xs) {e:α} (h:jk key n xs=some e):(xs.filter p).length=((JH key n xs).filter p).length+if p e then 1 else 0:=by
 obtain ⟨_,_,h3,h4⟩:=UB n hR;cases hh:Ya key n xs with
 | false=>rw[(h4 hh).1]at h;cases h
 | true =>
  obtain ⟨g,_,g2,g3,_⟩:=h3 hh;rw[g2]at h;simp only[Option.some.injEq]at h;have e0:xs=xs.take (qv o key n xs)++e :: xs.drop (qv o key n xs+1):=by
   rw[←h,←Oc g,Oa]
  rw[g3]
  conv=>lhs;rw[e0]
  rw[OR,OR,O5];cases hp:p e<;>simp<;>omega
theorem zT [DecidableEq κ] {key:α->κ} {n:κ} {xs:List α} {e:α} (h:jk key n xs=some e):key e=n/\e∈xs:=by
 unfold jk at h;exact ⟨by have:=List.find?_some h;simpa using this,Bk h⟩
theorem qC [DecidableEq κ] {key:α->κ} {n:κ} {xs:List α}:Ya key n xs=(jk key n xs).isSome:=by
 unfold Ya jk
 induction xs with
 | nil=>rfl
 | cons y r ih =>
  rw[A7,Aw];cases h:decide (key y=n) with
  | true=>rfl
  | false=>rw[O7,ih]
theorem Hv {m:Int} (hR:qc xs) (hh:zk n xs=true) (hx:x.ino=n):J5 m (qq x xs)+Yc m (zf n xs)=J5 m xs+Yc m x:=by
 have h:=UO (Yc m) (x:=x) hR;rw[hx,(zj hh).1]at h;exact h
theorem zhc {m:Int} (hR:qc xs) (hh:zk x.ino xs=false):J5 m (qq x xs)=J5 m xs+Yc m x:=by
 have h:=UO (Yc m) (x:=x) hR;rw[(Jn hh).1]at h;exact h
theorem zkm {m:Int} (hR:qc xs) (hh:zk n xs=true):J5 m xs=J5 m (qf n xs)+Yc m (zf n xs):=by
 have h:=ZI (Yc m) (n:=n) hR;rw[(zj hh).1]at h;exact h
theorem zle (h:∀ x∈xs,∀ e∈x.es,e.ino≠n):J5 n xs=0:=by
 unfold J5 Mj;rw[List.sum_eq_zero_iff_forall_eq_nat];intro k hk;obtain ⟨x,hx,rfl⟩:=WS.1 hk;unfold Yc;rw[Ak,A0];intro e he;simpa using h x hx e he
theorem Vc (h:J5 n xs=0):∀ x∈xs,∀ e∈x.es,e.ino≠n:=fun x hx e he hn=>by
 unfold J5 Mj at h;rw[List.sum_eq_zero_iff_forall_eq_nat]at h;have:=h _ (BU hx);unfold Yc at this;rw[Ak,A0]at this;exact this e he (by simpa using hn)
theorem Ve {m:Int} {n:Lz} {es:List zS} (hR:JE es) (h:Yo n es=false):Yc m { x with es:=zZ n i es }=Yc m { x with es:=es }+if i=m then 1 else 0:=by
 obtain ⟨_,_,_,h4⟩:=UB n hR;unfold zZ Yc;rw[(h4 h).2.1];show ((Q5 jI zS.name ⟨n,i⟩ es).filter _).length=_;rw[za5];by_cases hi:i=m<;>simp[hi]
theorem QC {m:Int} {n:Lz} {es:List zS} (hR:JE es) (h:jk zS.name n es=some ⟨n,i⟩):Yc m { x with es:=es }=Yc m { x with es:=zi n es }+if i=m then 1 else 0:=by
 unfold zi Yc;have:=zfY (fun e:zS=>decide (e.ino=m)) hR h;simp only at this ⊢;rw[this];by_cases hi:i=m<;>simp[hi]
theorem YU {n:Lz} {es:List zS} (h:Yo n es=true):jk zS.name n es=some ⟨n,zL n es⟩:=by
 unfold Yo at h;rw[qC]at h;obtain ⟨e,he⟩:=AQ.1 h;have h1:=(zT he).1;unfold zL;rw[he];cases e with
 | mk a b=>simp at h1 ⊢;exact h1
theorem VZ {n:Lz} {es:List zS} (h:JE es):JE (zZ n i es):=kO (x:=(⟨n,i⟩:zS)) h
theorem Yg {n:Lz} {es:List zS} (h:JE es):JE (zi n es):=Hr n h
theorem Yi {n:Lz} {es:List zS} {e:zS} (h:e∈zZ n i es):e=⟨n,i⟩∨e∈es:=by
 unfold zZ at h;rcases QW.1 h with h | h
 ·exact .inl h
 ·exact .inr (ZE.1 h).1
theorem qK {n:Lz} {es:List zS} {e:zS} (h:e∈zi n es):e∈es/\e.name≠n:=ZE.1 h
end
section
structure JF (f:FsV) (s:zK):Prop where
 has:zk s.dir f.xs=true
 kind:(zf s.dir f.xs).kind=2
 free:Yo s.name (zf s.dir f.xs).es=false
structure zx (f:FsV) (s:zK):Prop where
 has:zk s.dir f.xs=true
 kind:(zf s.dir f.xs).kind=2
 there:jk zS.name s.name (zf s.dir f.xs).es=some ⟨s.name,s.ino⟩
theorem zx.ino {s:zK} (hf:FsI f) (h:zx f s):zk s.ino f.xs=true:=by
 have:=hf.led _ (zj h.has).2.1 ⟨s.name,s.ino⟩ (zT h.there).2;exact this
abbrev qj (d:zo) (es:List zS):zo:={ d with es:=es }
theorem qF {F:List zS->List zS} (hh:zk n xs=true) {z:zo}:z∈qr n F xs↔z=qj (zf n xs) (F (zf n xs).es)∨(z∈xs/\z.ino≠n):=by
 unfold qr;rw[qz];show z=qj _ _∨(z∈xs/\z.ino≠(zf n xs).ino)↔_;rw[(zj hh).2.2]
theorem zP {m:Int} {F:List zS->List zS} (hh:zk n xs=true):zk m (qr n F xs)=zk m xs:=by
 unfold qr;rw[ja];show (decide ((zf n xs).ino=m)||zk m xs)=_;rw[(zj hh).2.2];by_cases h:n=m
 ·subst h;rw[hh];simp
 ·simp[h]
theorem j6 {m:Int} {F:List zS->List zS} (hh:zk n xs=true):zf m (qr n F xs)=if n=m then qj (zf n xs) (F (zf n xs).es) else zf m xs:=by
 unfold qr;rw[qN];show (if (zf n xs).ino=m then _ else _)=_;rw[(zj hh).2.2]
theorem Zp {m:Int} {F:List zS->List zS} (hR:qc xs) (hh:zk n xs=true):J5 m (qr n F xs)+Yc m (zf n xs)=J5 m xs+Yc m (qj (zf n xs) (F (zf n xs).es)):=
 Hv hR hh (zj hh).2.2
theorem NQ (hf:FsI f):zk f.next f.xs=false/\∀ x∈f.xs,∀ e∈x.es,e.ino≠f.next:=by
 have h1:zk f.next f.xs=false:=by
  rw[Oo];intro h;have:=(hf.ino _ (zj h).2.1).2;rw[(zj h).2.2]at this;omega
 refine ⟨h1,fun x hx e he hn=>?_⟩;have:=hf.led x hx e he;rw[hn,h1]at this;cases this
theorem uj (hf:FsI f):1<f.next:=by
 have:=(hf.ino _ (zj hf.root).2.1).2;rw[(zj hf.root).2.2]at this;exact this
theorem znT (hf:FsI f) {s:zK} (hs:JF f s) (k:Int) (hk:k=1∨k=2∨k=3) (t:Lz):FsI (zdR f s k t):=by
 obtain ⟨n1,n2⟩:=NQ hf;have hd:=(zj hs.has).2.1;have hR1:qc (qr s.dir (zZ s.name f.next) f.xs):=z8 hf.rises;have hn1:zk f.next (qr s.dir (zZ s.name f.next) f.xs)=false:=by rw[zP hs.has];exact n1
 have hlt:=uj hf;have hdn:s.dir≠f.next:=fun e=>by have:=hs.has;rw[e,n1]at this;cases this
 refine ⟨z8 hR1,fun x hx=>?_,fun x hx=>?_,fun x hx=>?_,fun x hx hk2=>?_,fun x hx e he=>?_,fun x hx=>?_,?_,?_,?_⟩
 ·rcases qz.1 hx with rfl | ⟨hx,_⟩
  ·exact ⟨by show 1<=f.next;omega,by show f.next<f.next+1;omega⟩
  ·rcases (qF hs.has).1 hx with rfl | ⟨hx,_⟩
   ·have:=hf.ino _ hd;exact ⟨this.1,by show (zf s.dir f.xs).ino<f.next+1;omega⟩
   ·have:=hf.ino _ hx;exact ⟨this.1,by show x.ino<f.next+1;omega⟩
 ·rcases qz.1 hx with rfl | ⟨hx,_⟩
  ·exact hk
  ·rcases (qF hs.has).1 hx with rfl | ⟨hx,_⟩
   ·exact .inr (.inl hs.kind)
   ·exact hf.kind _ hx
 ·rcases qz.1 hx with rfl | ⟨hx,_⟩
  ·exact List.Pairwise.nil
  ·rcases (qF hs.has).1 hx with rfl | ⟨hx,_⟩
   ·exact VZ (hf.es _ hd)
   ·exact hf.es _ hx
 ·rcases qz.1 hx with rfl | ⟨hx,_⟩
  ·rfl
  ·rcases (qF hs.has).1 hx with rfl | ⟨hx,_⟩
   ·exact absurd hs.kind hk2
   ·exact hf.file _ hx hk2
 ·show zk e.ino (qq _ _)=true;rw[ja,zP hs.has];show (decide (f.next=e.ino)||zk e.ino f.xs)=true;rcases qz.1 hx with rfl | ⟨hx,_⟩
  ·cases he
  ·rcases (qF hs.has).1 hx with rfl | ⟨hx,_⟩
   ·rcases Yi he with rfl | he
    ·simp
    ·rw[hf.led _ hd e he,BD]
   ·rw[hf.led _ hx e he,BD]
 ·show x.links=(J5 x.ino (qq _ _):Int);rw[zhc hR1 hn1];have hc:=Zp (m:=x.ino) (F:=zZ s.name f.next) hf.rises hs.has;have hw:=Ve (m:=x.ino) (i:=f.next) (x:=zf s.dir f.xs) (hf.es _ hd) hs.free;have hz:Yc x.ino (⟨f.next,k,1,t,if k=2 then s.dir else 0,[]⟩:zo)=0:=rfl;have hw:Yc x.ino (qj (zf s.dir f.xs) (zZ s.name f.next (zf s.dir f.xs).es))=Yc x.ino (zf s.dir f.xs)+if f.next=x.ino then 1 else 0:=hw;rw[hz];rcases qz.1 hx with rfl | ⟨hx,hxn⟩
  ·have h0:J5 f.next f.xs=0:=zle n2;have hw:Yc f.next (qj (zf s.dir f.xs) (zZ s.name f.next (zf s.dir f.xs).es))=Yc f.next (zf s.dir f.xs)+if f.next=f.next then 1 else 0:=hw;rw[if_pos rfl]at hw;show (1:Int)=((J5 f.next (qr s.dir (zZ s.name f.next) f.xs)+0:Nat):Int);have hc:J5 f.next (qr s.dir (zZ s.name f.next) f.xs)+Yc f.next (zf s.dir f.xs)=J5 f.next f.xs+Yc f.next (qj (zf s.dir f.xs) (zZ s.name f.next (zf s.dir f.xs).es)):=hc;omega
  ·have hxn:x.ino≠f.next:=hxn;rw[if_neg fun e=>hxn e.symm]at hw;have hl:x.links=(J5 x.ino f.xs:Int):=by
    rcases (qF hs.has).1 hx with rfl | ⟨hx,_⟩
    ·exact hf.links (zf s.dir f.xs) hd
    ·exact hf.links _ hx
   omega
 ·show zk 1 (qq _ _)=true;rw[ja,zP hs.has,hf.root,BD]
 ·show (zf 1 (qq _ _)).kind=2;rw[qN];rw[if_neg (show ¬f.next=1 by omega),j6 hs.has];split
  ·exact hs.kind
  ·exact hf.base
 ·show J5 1 (qq _ _)=0;rw[zhc hR1 hn1];have hc:=Zp (m:=1) (F:=zZ s.name f.next) hf.rises hs.has;have hw:Yc 1 (qj (zf s.dir f.xs) (zZ s.name f.next (zf s.dir f.xs).es))=Yc 1 (zf s.dir f.xs)+if f.next=1 then 1 else 0:=Ve (m:=1) (i:=f.next) (x:=zf s.dir f.xs) (hf.es (zf s.dir f.xs) hd) hs.free;have hz:Yc 1 (⟨f.next,k,1,t,if k=2 then s.dir else 0,[]⟩:zo)=0:=rfl;have:=hf.bare;rw[if_neg (show ¬f.next=1 by omega)]at hw;omega
theorem zpe (hf:FsI f) {s:zK} (hs:JF f s) (k:Int) (hk:k=1∨k=2∨k=3) (t:Lz):FsI (zdX f s k t).1:=by
 unfold zdX;by_cases h1:may s.name=true
 ·rw[if_pos h1];by_cases h2:Vi f 1 (if k=1 then (t.length:Int) else 0)=true
  ·rw[if_pos h2];exact znT hf hs k hk t
  ·rw[if_neg h2];exact hf
 ·rw[if_neg h1];exact hf
theorem zmI (hf:FsI f) {i:Int} (hh:zk i f.xs=true) (t:Lz):FsI (X8 f i t):=by
 have hg:=zj hh;have hmem:∀ {z:zo},z∈(X8 f i t).xs->∃ y∈f.xs,z.ino=y.ino/\z.kind=y.kind/\z.es=y.es/\z.links=y.links:=fun {z} hz=>by
  rcases qz.1 hz with rfl | ⟨hz,_⟩
  ·exact ⟨_,hg.2.1,rfl,rfl,rfl,rfl⟩
  ·exact ⟨_,hz,rfl,rfl,rfl,rfl⟩
 have hhas:∀ m,zk m (X8 f i t).xs=zk m f.xs:=fun m=>by
  show zk m (qq _ _)=_;rw[ja];show (decide ((zf i f.xs).ino=m)||_)=_;rw[hg.2.2];by_cases h:i=m
  ·subst h;rw[hh];simp
  ·simp[h]
 have hcnt:∀ m,J5 m (X8 f i t).xs=J5 m f.xs:=fun m=>by
  have h:=Hv (m:=m) (x:={ zf i f.xs with data:=t }) hf.rises hh hg.2.2;have e:Yc m { zf i f.xs with data:=t }=Yc m (zf i f.xs):=rfl;show J5 m (qq _ _)=_;omega
 refine ⟨z8 hf.rises,fun x hx=>?_,fun x hx=>?_,fun x hx=>?_,fun x hx hk2=>?_,fun x hx e he=>?_,fun x hx=>?_,by rw[hhas];exact hf.root,?_,?_⟩
 ·obtain ⟨y,hy,e1,_⟩:=hmem hx;rw[e1];exact hf.ino y hy
 ·obtain ⟨y,hy,_,e2,_⟩:=hmem hx;rw[e2];exact hf.kind y hy
 ·obtain ⟨y,hy,_,_,e3,_⟩:=hmem hx;rw[e3];exact hf.es y hy
 ·obtain ⟨y,hy,_,e2,e3,_⟩:=hmem hx;rw[e3];exact hf.file y hy (by rw[←e2];exact hk2)
 ·obtain ⟨y,hy,_,_,e3,_⟩:=hmem hx;rw[hhas];exact hf.led y hy e (by rw[←e3];exact he)
 ·obtain ⟨y,hy,e1,_,_,e4⟩:=hmem hx;rw[hcnt,e4,e1];exact hf.links y hy
 ·show (zf 1 (qq _ _)).kind=2;rw[qN];split
  ·rename_i h;have h:(zf i f.xs).ino=1:=h;rw[hg.2.2]at h;subst h;exact hf.base
  ·exact hf.base
 ·rw[hcnt];exact hf.bare
theorem znz (hf:FsI f) {s:zK} (hs:JF f s) {i:Int} (hi:zk i f.xs=true) (hk:(zf i f.xs).kind≠2):FsI (kC f s i):=by
 have hd:=zj hs.has;have hx:=zj hi;have hne:s.dir≠i:=fun e=>hk (by rw[←e];exact hs.kind);have hR1:qc (qr s.dir (zZ s.name i) f.xs):=z8 hf.rises;have hi1:zk i (qr s.dir (zZ s.name i) f.xs)=true:=by rw[zP hs.has];exact hi
 have hg1:zf i (qr s.dir (zZ s.name i) f.xs)=zf i f.xs:=by rw[j6 hs.has,if_neg hne]
 have hmem:∀ {z:zo},z∈(kC f s i).xs->z = { zf i f.xs with links:=(zf i f.xs).links+1 }∨z=qj (zf s.dir f.xs) (zZ s.name i (zf s.dir f.xs).es)∨(z∈f.xs/\z.ino≠s.dir/\z.ino≠i):=fun {z} hz=>by
  rcases qz.1 hz with rfl | ⟨hz,hzi⟩
  ·exact .inl rfl
  ·have hzi:z.ino≠(zf i f.xs).ino:=hzi;rw[hx.2.2]at hzi;rcases (qF hs.has).1 hz with rfl | ⟨hz,hzd⟩
   ·exact .inr (.inl rfl)
   ·exact .inr (.inr ⟨hz,hzd,hzi⟩)
 have hhas:∀ m,zk m (kC f s i).xs=zk m f.xs:=fun m=>by
  show zk m (qq _ _)=_;rw[ja,zP hs.has];show (decide ((zf i f.xs).ino=m)||_)=_;rw[hx.2.2];by_cases h:i=m
  ·subst h;rw[hi];simp
  ·simp[h]
 have hcnt:∀ m,J5 m (kC f s i).xs=J5 m f.xs+if i=m then 1 else 0:=fun m=>by
  have h:=Hv (m:=m) (x:={ zf i f.xs with links:=(zf i f.xs).links+1 }) hR1 hi1 hx.2.2;rw[hg1]at h;have e:Yc m { zf i f.xs with links:=(zf i f.xs).links+1 }=Yc m (zf i f.xs):=rfl;have hc:=Zp (m:=m) (F:=zZ s.name i) hf.rises hs.has;have hw:Yc m (qj (zf s.dir f.xs) (zZ s.name i (zf s.dir f.xs).es))=Yc m (zf s.dir f.xs)+if i=m then 1 else 0:=Ve (m:=m) (i:=i) (x:=zf s.dir f.xs) (hf.es (zf s.dir f.xs) hd.2.1) hs.free;show J5 m (qq _ _)=_;omega
 refine ⟨z8 hR1,fun x hx'=>?_,fun x hx'=>?_,fun x hx'=>?_,fun x hx' hk2=>?_,fun x hx' e he=>?_,fun x hx'=>?_,by rw[hhas];exact hf.root,?_,?_⟩
 ·rcases hmem hx' with rfl | rfl | ⟨h,_⟩
  ·exact hf.ino (zf i f.xs) hx.2.1
  ·exact hf.ino (zf s.dir f.xs) hd.2.1
  ·exact hf.ino _ h
 ·rcases hmem hx' with rfl | rfl | ⟨h,_⟩
  ·exact hf.kind (zf i f.xs) hx.2.1
  ·exact hf.kind (zf s.dir f.xs) hd.2.1
  ·exact hf.kind _ h
 ·rcases hmem hx' with rfl | rfl | ⟨h,_⟩
  ·exact hf.es (zf i f.xs) hx.2.1
  ·exact VZ (hf.es (zf s.dir f.xs) hd.2.1)
  ·exact hf.es _ h
 ·rcases hmem hx' with rfl | rfl | ⟨h,_⟩
  ·exact hf.file (zf i f.xs) hx.2.1 hk2
  ·exact absurd hs.kind hk2
  ·exact hf.file _ h hk2
 ·rw[hhas];rcases hmem hx' with rfl | rfl | ⟨h,_⟩
  ·exact hf.led (zf i f.xs) hx.2.1 e he
  ·rcases Yi he with rfl | he
   ·exact hi
   ·exact hf.led (zf s.dir f.xs) hd.2.1 e he
  ·exact hf.led _ h e he
 ·rw[hcnt];rcases hmem hx' with rfl | rfl | ⟨h,_,hzi⟩
  ·have:=hf.links (zf i f.xs) hx.2.1;show (zf i f.xs).links+1=((J5 (zf i f.xs).ino f.xs+if i=(zf i f.xs).ino then 1 else 0:Nat):Int);rw[if_pos hx.2.2.symm,this];rfl
  ·have:=hf.links (zf s.dir f.xs) hd.2.1;show (zf s.dir f.xs).links=((J5 (zf s.dir f.xs).ino f.xs+if i=(zf s.dir f.xs).ino then 1 else 0:Nat):Int);rw[if_neg (by rw[hd.2.2];exact fun e=>hne e.symm),this];rfl
  ·rw[if_neg fun e=>hzi e.symm];exact hf.links _ h
 ·show (zf 1 (qq _ _)).kind=2;rw[qN];split
  ·rename_i h;have h:(zf i f.xs).ino=1:=h;rw[hx.2.2]at h;subst h;exact hf.base
  ·rw[j6 hs.has];split
   ·exact hs.kind
   ·exact hf.base
 ·rw[hcnt,hf.bare,if_neg fun e=>hk (by rw[e];exact hf.base)]
theorem QF (hf:FsI f) {s:zK} (hs:zx f s):s.ino≠1:=fun e =>
 Vc hf.bare _ (zj hs.has).2.1 _ (zT hs.there).2 e
theorem kK (hf:FsI f) {s:zK} (hs:zx f s) (he:(zf s.ino f.xs).es = []):FsI (zl f s):=by
 have hi:=zx.ino hf hs;have hd:=zj hs.has;have hx:=zj hi;have hr:=QF hf hs;have hne:s.dir≠s.ino:=fun e=>by
  have:=(zT hs.there).2;rw[e,he]at this;cases this
 have hR1:qc (qr s.dir (zi s.name) f.xs):=z8 hf.rises;have hi1:zk s.ino (qr s.dir (zi s.name) f.xs)=true:=by rw[zP hs.has];exact hi
 have hg1:zf s.ino (qr s.dir (zi s.name) f.xs)=zf s.ino f.xs:=by rw[j6 hs.has,if_neg hne]
 have hc1:∀ m,J5 m (qr s.dir (zi s.name) f.xs)+(if s.ino=m then 1 else 0)=J5 m f.xs:=fun m=>by
  have hc:=Zp (m:=m) (F:=zi s.name) hf.rises hs.has;have hw:Yc m (zf s.dir f.xs)=Yc m (qj (zf s.dir f.xs) (zi s.name (zf s.dir f.xs).es))+if s.ino=m then 1 else 0:=QC (m:=m) (i:=s.ino) (x:=zf s.dir f.xs) (hf.es (zf s.dir f.xs) hd.2.1) hs.there;omega
 have hlk:=hf.links (zf s.ino f.xs) hx.2.1;rw[hx.2.2]at hlk;have hci:=hc1 s.ino;rw[if_pos rfl]at hci;have hz:∀ m,Yc m (zf s.ino f.xs)=0:=fun m=>by unfold Yc;rw[he];rfl
 unfold zl;by_cases hl:(zf s.ino f.xs).links-1=0
 ·rw[if_pos hl];have hc0:J5 s.ino (qr s.dir (zi s.name) f.xs)=0:=by omega
  have hcnt:∀ m,J5 m (qf s.ino (qr s.dir (zi s.name) f.xs))=J5 m (qr s.dir (zi s.name) f.xs):=fun m=>by
   have:=zkm (m:=m) hR1 hi1;rw[hg1,hz]at this;omega
  have hmem:∀ {z:zo},z∈qf s.ino (qr s.dir (zi s.name) f.xs)->(z=qj (zf s.dir f.xs) (zi s.name (zf s.dir f.xs).es)∨(z∈f.xs/\z.ino≠s.dir))/\z.ino≠s.ino:=fun {z} hz=>by
   obtain ⟨hz,hzi⟩:=Xw.1 hz;exact ⟨(qF hs.has).1 hz,hzi⟩
  have hin:∀ {z:zo},z∈qf s.ino (qr s.dir (zi s.name) f.xs)->z∈qr s.dir (zi s.name) f.xs:=fun {z} hz=>(Xw.1 hz).1;refine ⟨GO hR1,fun x hx'=>?_,fun x hx'=>?_,fun x hx'=>?_,fun x hx' hk2=>?_,fun x hx' e hee=>?_,fun x hx'=>?_,?_,?_,?_⟩
  ·rcases hmem hx' with ⟨rfl | ⟨h,_⟩,_⟩
   ·exact hf.ino (zf s.dir f.xs) hd.2.1
   ·exact hf.ino _ h
  ·rcases hmem hx' with ⟨rfl | ⟨h,_⟩,_⟩
   ·exact hf.kind (zf s.dir f.xs) hd.2.1
   ·exact hf.kind _ h
  ·rcases hmem hx' with ⟨rfl | ⟨h,_⟩,_⟩
   ·exact Yg (hf.es (zf s.dir f.xs) hd.2.1)
   ·exact hf.es _ h
  ·rcases hmem hx' with ⟨rfl | ⟨h,_⟩,_⟩
   ·exact absurd hs.kind hk2
   ·exact hf.file _ h hk2
  ·show zk e.ino (qf _ _)=true;rw[Xu,zP hs.has];have h1:e.ino≠s.ino:=Vc hc0 x (hin hx') e hee;rw[Wk h1];show zk e.ino f.xs=true;rcases hmem hx' with ⟨rfl | ⟨h,_⟩,_⟩
   ·exact hf.led (zf s.dir f.xs) hd.2.1 e (qK hee).1
   ·exact hf.led _ h e hee
  ·show x.links=((J5 x.ino (qf _ _):Nat):Int);rw[hcnt];obtain ⟨h1,h2⟩:=hmem hx';have h3:=hc1 x.ino;rw[if_neg fun e=>h2 e.symm]at h3;have h4:x.links=(J5 x.ino f.xs:Int):=by
    rcases h1 with rfl | ⟨h,_⟩
    ·exact hf.links (zf s.dir f.xs) hd.2.1
    ·exact hf.links _ h
   omega
  ·show zk 1 (qf _ _)=true;rw[Xu,zP hs.has,hf.root,Wk fun e=>hr e.symm];rfl
  ·show (zf 1 (qf _ _)).kind=2;rw[ZP,if_neg fun e=>hr e.symm,j6 hs.has];split
   ·exact hs.kind
   ·exact hf.base
  ·show J5 1 (qf _ _)=0;rw[hcnt];have:=hc1 1;have:=hf.bare;omega
 ·rw[if_neg hl];have hmem:∀ {z:zo},z∈qq { zf s.ino f.xs with links:=(zf s.ino f.xs).links-1 } (qr s.dir (zi s.name) f.xs)->z = { zf s.ino f.xs with links:=(zf s.ino f.xs).links-1 }∨z=qj (zf s.dir f.xs) (zi s.name (zf s.dir f.xs).es)∨(z∈f.xs/\z.ino≠s.dir/\z.ino≠s.ino):=fun {z} hz=>by
   rcases qz.1 hz with rfl | ⟨hz,hzi⟩
   ·exact .inl rfl
   ·have hzi:z.ino≠(zf s.ino f.xs).ino:=hzi;rw[hx.2.2]at hzi;rcases (qF hs.has).1 hz with rfl | ⟨hz,hzd⟩
    ·exact .inr (.inl rfl)
    ·exact .inr (.inr ⟨hz,hzd,hzi⟩)
  have hhas:∀ m,zk m (qq { zf s.ino f.xs with links:=(zf s.ino f.xs).links-1 } (qr s.dir (zi s.name) f.xs))=zk m f.xs:=fun m=>by
   rw[ja,zP hs.has];show (decide ((zf s.ino f.xs).ino=m)||_)=_;rw[hx.2.2];by_cases h:s.ino=m
   ·rw[←h,hi];simp
   ·simp[h]
  have hcnt:∀ m,J5 m (qq { zf s.ino f.xs with links:=(zf s.ino f.xs).links-1 } (qr s.dir (zi s.name) f.xs))=J5 m (qr s.dir (zi s.name) f.xs):=fun m=>by
   have h:=Hv (m:=m) (x:={ zf s.ino f.xs with links:=(zf s.ino f.xs).links-1 }) hR1 hi1 hx.2.2;rw[hg1]at h;have e:Yc m { zf s.ino f.xs with links:=(zf s.ino f.xs).links-1 }=Yc m (zf s.ino f.xs):=rfl;omega
  refine ⟨z8 hR1,fun x hx'=>?_,fun x hx'=>?_,fun x hx'=>?_,fun x hx' hk2=>?_,fun x hx' e hee=>?_,fun x hx'=>?_,by rw[hhas];exact hf.root,?_,?_⟩
  ·rcases hmem hx' with rfl | rfl | ⟨h,_⟩
   ·exact hf.ino (zf s.ino f.xs) hx.2.1
   ·exact hf.ino (zf s.dir f.xs) hd.2.1
   ·exact hf.ino _ h
  ·rcases hmem hx' with rfl | rfl | ⟨h,_⟩
   ·exact hf.kind (zf s.ino f.xs) hx.2.1
   ·exact hf.kind (zf s.dir f.xs) hd.2.1
   ·exact hf.kind _ h
  ·rcases hmem hx' with rfl | rfl | ⟨h,_⟩
   ·exact hf.es (zf s.ino f.xs) hx.2.1
   ·exact Yg (hf.es (zf s.dir f.xs) hd.2.1)
   ·exact hf.es _ h
  ·rcases hmem hx' with rfl | rfl | ⟨h,_⟩
   ·exact he
   ·exact absurd hs.kind hk2
   ·exact hf.file _ h hk2
  ·rw[hhas];rcases hmem hx' with rfl | rfl | ⟨h,_⟩
   ·exact hf.led (zf s.ino f.xs) hx.2.1 e hee
   ·exact hf.led (zf s.dir f.xs) hd.2.1 e (qK hee).1
   ·exact hf.led _ h e hee
  ·rw[hcnt];rcases hmem hx' with rfl | rfl | ⟨h,_,hzi⟩
   ·show (zf s.ino f.xs).links-1=((J5 (zf s.ino f.xs).ino (qr s.dir (zi s.name) f.xs):Nat):Int);rw[hx.2.2];omega
   ·have h3:=hc1 (zf s.dir f.xs).ino;have h4:=hf.links (zf s.dir f.xs) hd.2.1;rw[if_neg (by rw[hd.2.2];exact fun e=>hne e.symm)]at h3;show (zf s.dir f.xs).links=((J5 (zf s.dir f.xs).ino (qr s.dir (zi s.name) f.xs):Nat):Int);omega
   ·have h3:=hc1 x.ino;rw[if_neg fun e=>hzi e.symm]at h3;have h4:=hf.links _ h;omega
  ·show (zf 1 (qq _ _)).kind=2;rw[qN,if_neg (show ¬(zf s.ino f.xs).ino=1 by rw[hx.2.2];exact hr),j6 hs.has];split
   ·exact hs.kind
   ·exact hf.base
  ·rw[hcnt];have:=hc1 1;have:=hf.bare;omega
end
section
theorem zax (hf:FsI f) {ys:List zo} (hR:qc ys) (hall:∀ z∈ys,∃ y∈f.xs,z.ino=y.ino/\z.kind=y.kind/\z.links=y.links/\JE z.es/\(z.kind≠2->z.es = [])/\∀ e∈z.es,zk e.ino f.xs=true)
  (hhas:∀ m,zk m ys=zk m f.xs) (hcnt:∀ m,J5 m ys=J5 m f.xs):FsI { f with xs:=ys }:=by
 refine ⟨hR,fun x hx=>?_,fun x hx=>?_,fun x hx=>?_,fun x hx hk=>?_,fun x hx e he=>?_,fun x hx=>?_,by rw[hhas];exact hf.root,?_,by rw[hcnt];exact hf.bare⟩
 ·obtain ⟨y,hy,e1,_⟩:=hall x hx;rw[e1];exact hf.ino y hy
 ·obtain ⟨y,hy,_,e2,_⟩:=hall x hx;rw[e2];exact hf.kind y hy
 ·obtain ⟨y,hy,_,_,_,e4,_⟩:=hall x hx;exact e4
 ·obtain ⟨y,hy,_,_,_,_,e5,_⟩:=hall x hx;exact e5 hk
 ·obtain ⟨y,hy,_,_,_,_,_,e6⟩:=hall x hx;rw[hhas];exact e6 e he
 ·obtain ⟨y,hy,e1,_,e3,_⟩:=hall x hx;rw[hcnt,e3,e1];exact hf.links y hy
 ·have h1:zk 1 ys=true:=by rw[hhas];exact hf.root
  obtain ⟨y,hy,e1,e2,_⟩:=hall _ (zj h1).2.1;rw[(zj h1).2.2]at e1;have e7:=(znH hf.rises).1 hy;rw[←e1,(zj hf.root).1]at e7;simp only[Option.some.injEq]at e7;show (zf 1 ys).kind=2;rw[e2,←e7];exact hf.base
theorem zox (hf:FsI f) {a b:zK} (ha:zx f a) (hb:JF f b):FsI (jN f a b):=by
 have hda:=zj ha.has;have hdb:=zj hb.has;have hai:=zx.ino hf ha;obtain ⟨g1,hg1⟩:∃ g1,qr a.dir (zi a.name) f.xs=g1:=⟨_,rfl⟩;obtain ⟨g2,hg2⟩:∃ g2,qr b.dir (zZ b.name a.ino) g1=g2:=⟨_,rfl⟩;have hR1:qc g1:=by rw[←hg1];exact z8 hf.rises
 have hR2:qc g2:=by rw[←hg2];exact z8 hR1
 have hh1:∀ m,zk m g1=zk m f.xs:=fun m=>by rw[←hg1];exact zP ha.has
 have hb1:zk b.dir g1=true:=by rw[hh1];exact hb.has
 have hh2:∀ m,zk m g2=zk m f.xs:=fun m=>by rw[←hg2,zP hb1];exact hh1 m
 have hgb:zf b.dir g1=if a.dir=b.dir then qj (zf a.dir f.xs) (zi a.name (zf a.dir f.xs).es) else zf b.dir f.xs:=by rw[←hg1,j6 ha.has]
 have hmem1:∀ {z:zo},z∈g1->z=qj (zf a.dir f.xs) (zi a.name (zf a.dir f.xs).es)∨(z∈f.xs/\z.ino≠a.dir):=fun {z} hz=>by rw[←hg1]at hz;exact (qF ha.has).1 hz
 have hmem2:∀ {z:zo},z∈g2->z=qj (zf b.dir g1) (zZ b.name a.ino (zf b.dir g1).es)∨(z∈g1/\z.ino≠b.dir):=fun {z} hz=>by rw[←hg2]at hz;exact (qF hb1).1 hz
 have hal1:∀ z∈g1,∃ y∈f.xs,z.ino=y.ino/\z.kind=y.kind/\z.links=y.links/\JE z.es/\(z.kind≠2->z.es = [])/\∀ e∈z.es,zk e.ino f.xs=true:=fun z hz=>by
  rcases hmem1 hz with rfl | ⟨h,_⟩
  ·exact ⟨_,hda.2.1,rfl,rfl,rfl,Yg (hf.es _ hda.2.1),fun hk=>absurd ha.kind hk,fun e he=>hf.led _ hda.2.1 e (qK he).1⟩
  ·exact ⟨_,h,rfl,rfl,rfl,hf.es _ h,hf.file _ h,hf.led _ h⟩
 have hal2:∀ z∈g2,∃ y∈f.xs,z.ino=y.ino/\z.kind=y.kind/\z.links=y.links/\JE z.es/\(z.kind≠2->z.es = [])/\∀ e∈z.es,zk e.ino f.xs=true:=fun z hz=>by
  rcases hmem2 hz with rfl | ⟨h,_⟩
  ·obtain ⟨y,hy,e1,e2,e3,e4,e5,e6⟩:=hal1 _ (zj hb1).2.1;refine ⟨y,hy,e1,e2,e3,VZ e4,fun hk=>?_,fun e he=>?_⟩
   ·have hk':(zf b.dir g1).kind≠2:=hk;have:(zf b.dir g1).kind=2:=by
     rw[hgb];split
     ·exact ha.kind
     ·exact hb.kind
    exact absurd this hk'
   ·rcases Yi he with rfl | he
    ·exact hai
    ·exact e6 e he
  ·exact hal1 z h
 have hfree:Yo b.name (zf b.dir g1).es=false:=by
  rw[hgb];split
  ·rename_i hab;show Yo b.name (zi a.name (zf a.dir f.xs).es)=false;rw[Oo];intro h;have h1:=YU h;have h2:=(qK (zT h1).2).1;have h3:Yo b.name (zf a.dir f.xs).es=true:=by
    unfold Yo Ya;exact Oq.2 ⟨_,h2,by simp⟩
   have:=hb.free;rw[←hab,h3]at this;cases this
  ·exact hb.free
 have hc1:∀ m,J5 m g1+(if a.ino=m then 1 else 0)=J5 m f.xs:=fun m=>by
  have hc:=Zp (m:=m) (F:=zi a.name) hf.rises ha.has;have hw:Yc m (zf a.dir f.xs)=Yc m (qj (zf a.dir f.xs) (zi a.name (zf a.dir f.xs).es))+if a.ino=m then 1 else 0:=QC (m:=m) (i:=a.ino) (x:=zf a.dir f.xs) (hf.es _ hda.2.1) ha.there;rw[hg1]at hc;omega
 have hc2:∀ m,J5 m g2=J5 m f.xs:=fun m=>by
  have hc:=Zp (m:=m) (F:=zZ b.name a.ino) hR1 hb1;obtain ⟨_,_,_,_,_,e4,_⟩:=hal1 _ (zj hb1).2.1;have hw:Yc m (qj (zf b.dir g1) (zZ b.name a.ino (zf b.dir g1).es))=Yc m (zf b.dir g1)+if a.ino=m then 1 else 0:=Ve (m:=m) (i:=a.ino) (x:=zf b.dir g1) e4 hfree;have:=hc1 m;rw[hg2]at hc;omega
 have key:FsI { f with xs:=g2 }:=zax hf hR2 hal2 hh2 hc2;unfold jN;rw[hg1,hg2];show FsI (if (zf a.ino g2).kind=2 then _ else _);split
 ·have hia:zk a.ino g2=true:=by rw[hh2];exact hai
  have hx:=zj hia;refine zax hf (z8 hR2) (fun z hz=>?_) (fun m=>?_) (fun m=>?_)
  ·rcases qz.1 hz with rfl | ⟨hz,_⟩
   ·exact hal2 (zf a.ino g2) hx.2.1
   ·exact hal2 z hz
  ·rw[ja];show (decide ((zf a.ino g2).ino=m)||_)=_;rw[hx.2.2,hh2];by_cases h:a.ino=m
   ·rw[←h,hai];simp
   ·simp[h]
  ·have h:=Hv (m:=m) (x:={ zf a.ino g2 with parent:=b.dir }) hR2 hia hx.2.2;have e:Yc m { zf a.ino g2 with parent:=b.dir }=Yc m (zf a.ino g2):=rfl;have:=hc2 m;omega
 ·exact key
theorem zlN {f:FsV} (hf:FsI f):∀ (ns:List Lz) (s:zK),(s.ino≠0->zk s.ino f.xs=true)->(atW f.xs ns s).2=0->ns≠[] ->
  zk (atW f.xs ns s).1.dir f.xs=true/\(zf (atW f.xs ns s).1.dir f.xs).kind=2/\(atW f.xs ns s).1.ino=zL (atW f.xs ns s).1.name (zf (atW f.xs ns s).1.dir f.xs).es/\(atW f.xs ns s).1.name∈ns
 | [],s,_,_,h=>absurd rfl h
 | n :: r,s,hs,h0,_=>by
  unfold atW at h0 ⊢;by_cases h1:s.ino=0
  ·rw[if_pos h1]at h0;cases h0
  rw[if_neg h1]at h0 ⊢;by_cases h2:(zf s.ino f.xs).kind≠2
  ·rw[if_pos h2]at h0;cases h0
  rw[if_neg h2]at h0 ⊢;have h2:(zf s.ino f.xs).kind=2:=Wy.1 h2;have hg:=zj (hs h1);have hnx:zL n (zf s.ino f.xs).es≠0->zk (zL n (zf s.ino f.xs).es) f.xs=true:=fun hne=>by
   have hh:Yo n (zf s.ino f.xs).es=true:=by
    unfold Yo;rw[qC];cases hq:jk zS.name n (zf s.ino f.xs).es with
    | some e=>rfl
    | none=>unfold zL at hne;rw[hq]at hne;exact absurd rfl hne
   exact hf.led _ hg.2.1 _ (zT (YU hh)).2
  cases r with
  | nil =>
   unfold atW;rw[hg.2.2];exact ⟨hs h1,h2,rfl,Wl⟩
  | cons m r =>
   obtain ⟨i1,i2,i3,i4⟩:=zlN hf (m :: r) ⟨(zf s.ino f.xs).ino,n,zL n (zf s.ino f.xs).es⟩ hnx h0 (by simp);exact ⟨i1,i2,i3,Wn _ i4⟩
theorem vH {f:FsV} (hf:FsI f):∀ (ns:List Lz) (s:zK),(s.ino≠0->zk s.ino f.xs=true)->(atW f.xs ns s).1.ino≠0->zk (atW f.xs ns s).1.ino f.xs=true
 | [],s,hs,h=>hs h
 | n :: r,s,hs,h=>by
  unfold atW at h ⊢;by_cases h1:s.ino=0
  ·rw[if_pos h1]at h;exact absurd rfl h
  rw[if_neg h1]at h ⊢;by_cases h2:(zf s.ino f.xs).kind≠2
  ·rw[if_pos h2]at h;exact absurd rfl h
  rw[if_neg h2]at h ⊢;have hg:=zj (hs h1);refine vH hf r _ (fun hne=>?_) h;have hne:zL n (zf s.ino f.xs).es≠0:=hne;have hh:Yo n (zf s.ino f.xs).es=true:=by
   unfold Yo;rw[qC];cases hq:jk zS.name n (zf s.ino f.xs).es with
   | some e=>rfl
   | none=>unfold zL at hne;rw[hq]at hne;exact absurd rfl hne
  exact hf.led _ hg.2.1 _ (zT (YU hh)).2
end
section
structure UE (w:qV):Prop where
 fs:FsI w.fs
 kept:qT Jk zY.slot w.kept
 pool:qc w.pool
 apart:∀ x∈w.pool,zk x.ino w.fs.xs=false/\x.ino<w.fs.next
theorem Xq (hf:FsI f) {n:Int} (h:zk n f.xs=true):n≠0:=fun e=>by
 have:=(hf.ino _ (zj h).2.1).1;rw[(zj h).2.2]at this;omega
theorem Qf (hf:FsI f) {d:Int} (hd:zk d f.xs=true) {n:Lz} (h:Yo n (zf d f.xs).es=true):zk (zL n (zf d f.xs).es) f.xs=true:=
 hf.led _ (zj hd).2.1 _ (zT (YU h)).2
theorem zkP (hf:FsI f) {p:Lz} (hp:qG p=true) (h:(atV f p).2=0) :
  zk (atV f p).1.dir f.xs=true/\(zf (atV f p).1.dir f.xs).kind=2/\(atV f p).1.ino=zL (atV f p).1.name (zf (atV f p).1.dir f.xs).es/\(atV f p).1.name∈zn p:=by
 unfold qG at hp;simp only[Wt,AE,Ou]at hp;unfold atV at h ⊢;rw[if_pos hp.1]at h ⊢;exact zlN hf (zn p) ⟨0,[],1⟩ (fun _=>hf.root) h hp.2
theorem j5 (hf:FsI f) {p:Lz} (hp:qG p=true) (h:(isV f p true).2.2=0):zx f (isV f p true).1/\(isV f p true).2.1=zf (isV f p true).1.ino f.xs:=by
 unfold isV at h ⊢;simp only at h ⊢;by_cases h0:(atV f p).2≠0
 ·rw[if_pos h0]at h;exact absurd h h0
 rw[if_neg h0]at h;have h0:(atV f p).2=0:=Wy.1 h0;obtain ⟨a1,a2,a3,_⟩:=zkP hf hp h0;refine ⟨⟨a1,a2,?_⟩,trivial⟩;have hh:zk (atV f p).1.ino f.xs=true:=by
  cases hq:zk (atV f p).1.ino f.xs with
  | true=>rfl
  | false=>rw[hq]at h;simp at h
 have he:Yo (atV f p).1.name (zf (atV f p).1.dir f.xs).es=true:=by
  unfold Yo;rw[qC];cases hq:jk zS.name (atV f p).1.name (zf (atV f p).1.dir f.xs).es with
  | some e=>rfl
  | none =>
   unfold zL at a3;rw[hq]at a3;exact absurd a3 (Xq hf hh)
 rw[YU he,←a3]
theorem Yw (hf:FsI f) {p:Lz} (hp:qG p=true) (h:(isV f p false).2.2=0):JF f (isV f p false).1:=by
 unfold isV at h ⊢;simp only at h ⊢;by_cases h0:(atV f p).2≠0
 ·rw[if_pos h0]at h;exact absurd h h0
 rw[if_neg h0]at h;have h0:(atV f p).2=0:=Wy.1 h0;obtain ⟨a1,a2,a3,_⟩:=zkP hf hp h0;refine ⟨a1,a2,?_⟩;have hh:zk (atV f p).1.ino f.xs=false:=by
  cases hq:zk (atV f p).1.ino f.xs with
  | false=>rfl
  | true=>rw[hq]at h;simp at h
 rw[Oo];intro he;have:=Qf hf a1 he;rw[←a3,hh]at this;cases this
theorem Xj {o:OpV} (h:HO o=true):qG o.a=true/\(zrG o.kind=true->qG o.b=true)/\1<=o.kind/\o.kind<=10:=by
 unfold HO at h;simp only[Wt,W6]at h;obtain ⟨⟨⟨⟨⟨⟨h1,h2⟩,h3⟩,h4⟩,h5⟩,h6⟩,h7⟩:=h;exact ⟨h3,fun hb=>by rw[if_pos hb]at h5;exact h5,h1,h2⟩
theorem zn5 (hw:UE w) {g:FsV} (hg:FsI g) (hn:w.fs.next<=g.next) (hh:∀ x∈w.pool,zk x.ino g.xs=false):UE { w with fs:=g }:=
 ⟨hg,hw.kept,hw.pool,fun x hx=>⟨hh x hx,by have:=(hw.apart x hx).2;show x.ino<g.next;omega⟩⟩
theorem QR (f:FsV) (s:zK) (k:Int) (t:Lz):(zdX f s k t).1=f∨(zdX f s k t).1=zdR f s k t:=by
 unfold zdX;by_cases h1:may s.name=true
 ·rw[if_pos h1];by_cases h2:Vi f 1 (if k=1 then (t.length:Int) else 0)=true
  ·rw[if_pos h2];exact .inr rfl
  ·rw[if_neg h2];exact .inl rfl
 ·rw[if_neg h1];exact .inl rfl
theorem vF (hw:UE w) {p:Lz} (hp:qG p=true) {k:Int} (hk:k=1∨k=2∨k=3) (t:Lz):UE (VD w p k t).1:=by
 unfold VD;by_cases h:(isV w.fs p false).2.2≠0
 ·rw[if_pos h];exact hw
 rw[if_neg h];have hs:=Yw hw.fs hp (Wy.1 h);refine zn5 hw (zpe hw.fs hs k hk t) ?_ ?_
 ·rcases QR w.fs (isV w.fs p false).1 k t with e | e
  ·rw[e];exact Af _
  ·rw[e];show w.fs.next<=w.fs.next+1;omega
 ·intro x hx;obtain ⟨a1,a2⟩:=hw.apart x hx;rcases QR w.fs (isV w.fs p false).1 k t with e | e
  ·rw[e];exact a1
  ·rw[e];show zk x.ino (qq _ _)=false;rw[ja,zP hs.has,a1];show (decide (w.fs.next=x.ino)||false)=false;rw[Wk (by omega)];rfl
theorem kA (hf:FsI f) {p:Lz} (hp:qG p=true) (h:(js f p).2=0):zk (js f p).1.ino f.xs=true/\(js f p).1.kind=1/\(js f p).1=zf (js f p).1.ino f.xs:=by
 unfold js at h ⊢;simp only at h ⊢;by_cases h0:(isV f p true).2.2≠0
 ·rw[if_pos h0]at h;exact absurd h h0
 rw[if_neg h0]at h;obtain ⟨h1,h2⟩:=j5 hf hp (Wy.1 h0);have hi:=zx.ino hf h1;have hg:=zj hi;rw[h2]at h ⊢;rw[hg.2.2];refine ⟨hi,?_,rfl⟩;have hk:=hf.kind _ hg.2.1;by_cases h3:(zf (isV f p true).1.ino f.xs).kind=2
 ·rw[if_pos h3]at h;cases h
 rw[if_neg h3]at h;by_cases h4:(zf (isV f p true).1.ino f.xs).kind=3
 ·rw[if_pos h4]at h;cases h
 omega
theorem zfi {k:zY} (h:qT Jk zY.slot ks) (hn:yL k.slot ks=false):qT Jk zY.slot (qL k ks):=
 VV h fun y hy e=>by
  unfold yL Ya at hn;rw[Og]at hn;exact hn y hy (by simpa using e)
theorem QT {s:zK} (h:zk s.dir f.xs=true) (hi:zk s.ino f.xs=true) (m:Int):zk m (zl f s).xs=if (zf s.ino f.xs).links-1=0 then (!decide (m=s.ino)&&zk m f.xs) else zk m f.xs:=by
 unfold zl;split
 ·show zk m (qf _ _)=_;rw[Xu,zP h]
 ·show zk m (qq _ _)=_;rw[ja,zP h];show (decide ((zf s.ino f.xs).ino=m)||_)=_;rw[(zj hi).2.2];by_cases e:s.ino=m
  ·rw[←e,hi];simp
  ·simp[e]
theorem Yx (f:FsV) (s:zK):(zl f s).next=f.next:=by unfold zl;split<;>rfl
theorem zhE (hw:UE w) {n:Int} {s:zK} (hs:zx w.fs s) (he:(zf s.ino w.fs.xs).es = []):UE (Xp w n s).1:=by
 unfold Xp;cases hn:yL n w.kept with
 | true=>rw[if_pos rfl];exact hw
 | false =>
  rw[if_neg (by simp)];have hi:=zx.ino hw.fs hs;have hg:=zj hi;have hf:=kK hw.fs hs he;refine ⟨hf,zfi hw.kept hn,?_,fun x hx=>?_⟩
  ·show qc (if _ then _ else _);split
   ·exact z8 hw.pool
   ·exact hw.pool
  ·show zk x.ino (zl w.fs s).xs=false/\x.ino<(zl w.fs s).next;rw[QT hs.has hi,Yx];have hx:x∈(if (zf s.ino w.fs.xs).links=1 then qq { zf s.ino w.fs.xs with links:=0,parent:=0 } w.pool else w.pool):=hx;by_cases h1:(zf s.ino w.fs.xs).links=1
   ·rw[if_pos h1]at hx;rw[if_pos (by omega)];rcases qz.1 hx with rfl | ⟨hx,_⟩
    ·refine ⟨?_,?_⟩
     ·show (!decide ((zf s.ino w.fs.xs).ino=s.ino)&&_)=false;rw[hg.2.2];simp
     ·exact (hw.fs.ino _ hg.2.1).2
    ·obtain ⟨a1,a2⟩:=hw.apart x hx;rw[a1,Ad];exact ⟨rfl,a2⟩
   ·rw[if_neg h1]at hx;rw[if_neg (by omega)];exact hw.apart x hx
theorem zsO (hw:UE w) (o:OpV) (hk:o.kind<=7):UE (doV w o).1:=by
 unfold doV;cases hm:HO o with
 | false=>exact hw
 | true =>
  obtain ⟨p1,p2,k1,_⟩:=Xj hm;rw[if_neg (by simp)];by_cases h1:o.kind=1
  ·rw[if_pos h1];exact vF hw p1 (.inr (.inl rfl)) []
  rw[if_neg h1];by_cases h2:o.kind=2
  ·rw[if_pos h2];unfold Vs;split
   ·exact hw
   ·exact vF hw (p2 (by rw[h2];rfl)) (.inl rfl) _
  rw[if_neg h2];by_cases h3:o.kind=3
  ·rw[if_pos h3];have pb:=p2 (by rw[h3];rfl);unfold QV;split
   ·exact hw
   ·split
    ·exact hw
    ·rename_i hfb;have hfb:=kA hw.fs pb (Wy.1 hfb);split
     ·exact hw
     ·split
      ·exact hw
      ·rename_i hkd;split
       ·exact hw
       ·rename_i hda;have hkd:=Wy.1 hkd;have hda:=Wy.1 hda;unfold JU at hkd ⊢;cases hn:yL o.slot w.kept with
        | true=>rw[hn]at hkd;simp at hkd
        | false =>
         rw[if_neg (by simp)];unfold kr at hda ⊢;by_cases hr:Vi w.fs 0 (((js w.fs o.a).1.data.length:Int)-(zf (js w.fs o.b).1.ino w.fs.xs).data.length)=true
         ·rw[if_pos hr];have hfi:=zmI hw.fs hfb.1 (js w.fs o.a).1.data;refine ⟨hfi,zfi hw.kept hn,hw.pool,fun x hx=>⟨?_,(hw.apart x hx).2⟩⟩;show zk x.ino (qq _ _)=false;rw[ja,(hw.apart x hx).1];show (decide ((zf (js w.fs o.b).1.ino w.fs.xs).ino=x.ino)||false)=false;rw[(zj hfb.1).2.2,AS,Ou];intro e;have:=(hw.apart x hx).1;rw[←e,hfb.1]at this;cases this
         ·rw[if_neg hr]at hda;cases hda
  rw[if_neg h3];by_cases h4:o.kind=4
  ·rw[if_pos h4];exact vF hw p1 (.inr (.inr rfl)) _
  rw[if_neg h4];by_cases h5:o.kind=5
  ·rw[if_pos h5];have pb:=p2 (by rw[h5];rfl);unfold VK;simp only;split
   ·exact hw
   ·rename_i ha;obtain ⟨t1,t2⟩:=j5 hw.fs p1 (Wy.1 ha);split
    ·exact hw
    ·rename_i hkd;split
     ·exact hw
     ·rename_i hb;have hfree:=Yw hw.fs pb (Wy.1 hb);have hi:=zx.ino hw.fs t1;rw[t2]at hkd;have e:(isV w.fs o.a true).2.1.ino=(isV w.fs o.a true).1.ino:=by rw[t2,(zj hi).2.2]
      rw[e];have hfi:=znz hw.fs hfree hi hkd;refine zn5 hw hfi (Af _) fun x hx=>?_;show zk x.ino (qq _ _)=false;rw[ja,zP hfree.has,(hw.apart x hx).1];show (decide ((zf (isV w.fs o.a true).1.ino w.fs.xs).ino=x.ino)||false)=false;rw[(zj hi).2.2,AS,Ou];intro e2;have:=(hw.apart x hx).1;rw[←e2,hi]at this;cases this
  rw[if_neg h5];by_cases h6:o.kind=6
  ·rw[if_pos h6];have pb:=p2 (by rw[h6];rfl);unfold JV;split
   ·exact hw
   ·rename_i ha;split
    ·exact hw
    ·rename_i hb;obtain ⟨t1,t2⟩:=j5 hw.fs p1 (Wy.1 ha);have hfree:=Yw hw.fs pb (Wy.1 hb);have hmv:=zox hw.fs t1 hfree;refine zn5 hw hmv ?_ fun x hx=>?_
     ·unfold jN;simp only;split<;>exact Af _
     ·have hi:=zx.ino hw.fs t1;have hb1:zk (isV w.fs o.b false).1.dir (qr (isV w.fs o.a true).1.dir (zi (isV w.fs o.a true).1.name) w.fs.xs)=true:=by rw[zP t1.has];exact hfree.has
      have h2:∀ m,zk m (qr (isV w.fs o.b false).1.dir (zZ (isV w.fs o.b false).1.name (isV w.fs o.a true).1.ino) (qr (isV w.fs o.a true).1.dir (zi (isV w.fs o.a true).1.name) w.fs.xs))=zk m w.fs.xs:=fun m=>by rw[zP hb1,zP t1.has]
      unfold jN;simp only;split
      ·show zk x.ino (qq _ _)=false;have hi2:=h2 (isV w.fs o.a true).1.ino;rw[hi]at hi2;rw[ja,h2,(hw.apart x hx).1];show (decide ((zf (isV w.fs o.a true).1.ino _).ino=x.ino)||false)=false;rw[(zj hi2).2.2,AS,Ou];intro e2;have:=(hw.apart x hx).1;rw[←e2,hi]at this;cases this
      ·show zk x.ino (qr _ _ _)=false;rw[h2];exact (hw.apart x hx).1
  rw[if_neg h6];unfold qW;simp only;split
  ·exact hw
  ·rename_i ha;split
   ·exact hw
   ·rename_i hes;obtain ⟨t1,t2⟩:=j5 hw.fs p1 (Wy.1 ha);rw[t2]at hes;exact zhE hw t1 (Wy.1 hes)
end
section
def HD (N:Nat) (x:zo):Prop:=x.es.length<=N/\x.data.length<=5000/\∀ e∈x.es,e.name.length<=300
structure yK (N:Nat) (w:qV):Prop where
 len:w.fs.xs.length<=N
 node:∀ x∈w.fs.xs,HD N x
 klen:w.kept.length<=N
 kdata:∀ k∈w.kept,k.data.length<=5000
 plen:w.pool.length<=N
 pnode:∀ x∈w.pool,HD N x
 next:w.fs.next<=1099511627776+N
 room:w.fs.maxI<=1073741824/\w.fs.maxB<=1073741824/\-1073741824<=w.fs.maxI/\-1073741824<=w.fs.maxB
theorem HD.up (h:HD N x):HD (N+1) x:=⟨OP h.1,h.2⟩
theorem yK.up (h:yK N w):yK (N+1) w:=
 ⟨OP h.len,fun x hx=>(h.node x hx).up,OP h.klen,h.kdata,OP h.plen,fun x hx=>(h.pnode x hx).up,by have:=h.next;omega,h.room⟩
theorem N2 {n:Lz} (h:may n=true):n.length<=255:=by
 unfold may at h;simp only[Wt,W6]at h;exact h.1.1.1.2
theorem zgV (n:Lz) (i:Int) (es:List zS):(zZ n i es).length<=es.length+1:=by
 unfold zZ;rw[UI];have:=YH (key:=zS.name) n es;omega
theorem kE (h:HD N x) {n:Lz} (hn:n.length<=300) (i:Int):HD (N+1) (qj x (zZ n i x.es)):=by
 refine ⟨?_,h.2.1,fun e he=>?_⟩
 ·have:=zgV n i x.es;have:=h.1;show (zZ n i x.es).length<=N+1;omega
 ·rcases Yi he with rfl | he
  ·exact hn
  ·exact h.2.2 e he
theorem Um (h:HD N x) (n:Lz):HD N (qj x (zi n x.es)):=by
 refine ⟨?_,h.2.1,fun e he=>h.2.2 e (qK he).1⟩;have:=YH (key:=zS.name) n x.es;have:=h.1;show (JH zS.name n x.es).length<=N;omega
theorem jX (h:∀ x∈xs,HD N x) {n:Int} (hh:zk n xs=true):HD N (zf n xs):=h _ (zj hh).2.1
theorem Vx (h:∀ x∈xs,HD N x) (hx:HD N x):∀ z∈qq x xs,HD N z:=fun z hz=>by
 rcases qz.1 hz with rfl | ⟨hz,_⟩
 ·exact hx
 ·exact h z hz
theorem JQ (hR:qc xs) (hh:zk x.ino xs=true):(qq x xs).length=xs.length:=by rw[←uL hR hh];simp
theorem jq {F:List zS->List zS} (hR:qc xs) (hh:zk n xs=true):(qr n F xs).length=xs.length:=by
 unfold qr;refine JQ hR ?_;show zk (zf n xs).ino xs=true;rw[(zj hh).2.2];exact hh
theorem zlx (hf:FsI f) {p:Lz} (hp:qG p=true) (h:(atV f p).2=0):(atV f p).1.name.length<=300:=by
 have h1:=(zkP hf hp h).2.2.2;unfold qG JY at hp;simp only[Wt]at hp;have:=N2 (WE.1 hp.1.2 _ h1);omega
theorem VI {p:Lz} {b:Bool} (h:(isV f p b).2.2=0):(atV f p).2=0:=by
 unfold isV at h;simp only at h;by_cases h0:(atV f p).2≠0
 ·rw[if_pos h0]at h;exact h
 ·exact Wy.1 h0
theorem zoF (hw:UE w) (hb:yK N w) {p:Lz} (hp:qG p=true) {k:Int} {t:Lz} (ht:t.length<=5000):yK (N+1) (VD w p k t).1:=by
 unfold VD;by_cases h:(isV w.fs p false).2.2≠0
 ·rw[if_pos h];exact hb.up
 rw[if_neg h];have h:=Wy.1 h;have hs:=Yw hw.fs hp h;unfold zdX;by_cases h1:may (isV w.fs p false).1.name=true
 ·rw[if_pos h1];by_cases h2:Vi w.fs 1 (if k=1 then (t.length:Int) else 0)=true
  ·rw[if_pos h2];have hl:=N2 h1;refine ⟨?_,?_,by have:=hb.klen;show w.kept.length<=N+1;omega,hb.kdata,by have:=hb.plen;show w.pool.length<=N+1;omega,fun x hx=>(hb.pnode x hx).up,?_,hb.room⟩
   ·show (qq _ _).length<=N+1;refine WL zgo ?_;rw[jq hw.fs.rises hs.has];have:=hb.len;omega
   ·refine Vx (fun z hz=>?_) ⟨Wc _,ht,fun e he=>by cases he⟩;rcases (qF hs.has).1 hz with rfl | ⟨hz,_⟩
    ·exact kE (jX hb.node hs.has) (by omega) _
    ·exact (hb.node z hz).up
   ·show w.fs.next+1<=_;have:=hb.next;omega
  ·rw[if_neg h2];exact hb.up
 ·rw[if_neg h1];exact hb.up
theorem fsB (hb:yK N w) {g:FsV} (h1:g.xs.length<=N+1) (h2:∀ x∈g.xs,HD (N+1) x) (h3:g.next=w.fs.next) (h4:g.maxI=w.fs.maxI/\g.maxB=w.fs.maxB):yK (N+1) { w with fs:=g }:=
 ⟨h1,h2,OP hb.klen,hb.kdata,OP hb.plen,fun x hx=>(hb.pnode x hx).up,by show g.next<=_;rw[h3];have:=hb.next;omega,by show g.maxI<=_/\g.maxB<=_/\_<=g.maxI/\_<=g.maxB;rw[h4.1,h4.2];exact hb.room⟩
theorem M6 (k:zY) (ks:List zY):(qL k ks).length=ks.length+1:=UI k ks
theorem zot (hf:FsI f) (h1:f.xs.length<=N) (h2:∀ x∈f.xs,HD N x) {s:zK} (hs:zx f s):(zl f s).xs.length<=N/\(∀ x∈(zl f s).xs,HD N x)/\(zl f s).next=f.next/\(zl f s).maxI=f.maxI/\(zl f s).maxB=f.maxB:=by
 have hi:=zx.ino hf hs;have hd:∀ z∈qr s.dir (zi s.name) f.xs,HD N z:=fun z hz=>by
  rcases (qF hs.has).1 hz with rfl | ⟨hz,_⟩
  ·exact Um (jX h2 hs.has) _
  ·exact h2 z hz
 have hl:=jq (F:=zi s.name) hf.rises hs.has;unfold zl;split
 ·refine ⟨?_,fun x hx=>hd x (Xw.1 hx).1,rfl,rfl,rfl⟩;show (qf _ _).length<=N;exact WL ZZ (by rw[hl];exact h1)
 ·refine ⟨?_,Vx hd (jX h2 hi),rfl,rfl,rfl⟩;show (qq _ _).length<=N;rw[JQ (show qc (qr s.dir (zi s.name) f.xs) from z8 hf.rises) ?_,hl]
  ·exact h1
  ·show zk (zf s.ino f.xs).ino (qr _ _ _)=true;rw[(zj hi).2.2,zP hs.has];exact hi
theorem doB (hw:UE w) (hb:yK N w) (o:OpV) (hd:o.d.length<=5000) (hk:o.kind<=7):yK (N+1) (doV w o).1:=by
 unfold doV;cases hm:HO o with
 | false=>exact hb.up
 | true =>
  obtain ⟨p1,p2,k1,_⟩:=Xj hm;rw[if_neg (by simp)];by_cases h1:o.kind=1
  ·rw[if_pos h1];exact zoF hw hb p1 (by simp)
  rw[if_neg h1];by_cases h2:o.kind=2
  ·rw[if_pos h2];unfold Vs;split
   ·exact hb.up
   ·rename_i hfa;have hfa:=kA hw.fs p1 (Wy.1 hfa);refine zoF hw hb (p2 (by rw[h2];rfl)) ?_;rw[hfa.2.2];exact (jX hb.node hfa.1).2.1
  rw[if_neg h2];by_cases h3:o.kind=3
  ·rw[if_pos h3];have pb:=p2 (by rw[h3];rfl);unfold QV;split
   ·exact hb.up
   ·rename_i hfa;have hfa:=kA hw.fs p1 (Wy.1 hfa);split
    ·exact hb.up
    ·rename_i hfb;have hfb:=kA hw.fs pb (Wy.1 hfb);split
     ·exact hb.up
     ·split
      ·exact hb.up
      ·rename_i hkd;split
       ·exact hb.up
       ·rename_i hda;have hkd:=Wy.1 hkd;have hda:=Wy.1 hda;unfold JU at hkd ⊢;cases hn:yL o.slot w.kept with
        | true=>rw[hn]at hkd;simp at hkd
        | false =>
         rw[if_neg (by simp)];unfold kr at hda ⊢;by_cases hr:Vi w.fs 0 (((js w.fs o.a).1.data.length:Int)-(zf (js w.fs o.b).1.ino w.fs.xs).data.length)=true
         ·rw[if_pos hr];have hg:=zj hfb.1;refine ⟨?_,?_,?_,fun k hk=>?_,OP hb.plen,fun x hx=>(hb.pnode x hx).up,by have:=hb.next;show w.fs.next<=_;omega,hb.room⟩
          ·show (qq _ _).length<=N+1;rw[JQ hw.fs.rises (by show zk (zf _ _).ino _=true;rw[hg.2.2];exact hfb.1)];exact OP hb.len
          ·refine Vx (fun z hz=>(hb.node z hz).up) ?_;have h7:=(jX hb.node hfb.1).up;refine ⟨h7.1,?_,h7.2.2⟩;show (js w.fs o.a).1.data.length<=5000;rw[hfa.2.2];exact (jX hb.node hfa.1).2.1
          ·show (qL _ _).length<=N+1;rw[M6];have:=hb.klen;omega
          ·rcases QW.1 hk with rfl | hk
           ·exact (jX hb.node hfb.1).2.1
           ·exact hb.kdata k hk
         ·rw[if_neg hr]at hda;cases hda
  rw[if_neg h3];by_cases h4:o.kind=4
  ·rw[if_pos h4];exact zoF hw hb p1 hd
  rw[if_neg h4];by_cases h5:o.kind=5
  ·rw[if_pos h5];have pb:=p2 (by rw[h5];rfl);unfold VK;simp only;split
   ·exact hb.up
   ·rename_i ha;obtain ⟨t1,t2⟩:=j5 hw.fs p1 (Wy.1 ha);split
    ·exact hb.up
    ·split
     ·exact hb.up
     ·rename_i hb2;have hb2:=Wy.1 hb2;have hfree:=Yw hw.fs pb hb2;have hi:=zx.ino hw.fs t1;have e:(isV w.fs o.a true).2.1.ino=(isV w.fs o.a true).1.ino:=by rw[t2,(zj hi).2.2]
      rw[e];have hln:=zlx hw.fs pb (VI hb2);refine fsB hb ?_ ?_ rfl ⟨rfl,rfl⟩
      ·show (qq _ _).length<=N+1;rw[JQ (show qc (qr (isV w.fs o.b false).1.dir (zZ (isV w.fs o.b false).1.name (isV w.fs o.a true).1.ino) w.fs.xs) from z8 hw.fs.rises) (by show zk (zf _ _).ino _=true;rw[(zj hi).2.2,zP hfree.has];exact hi),jq hw.fs.rises hfree.has];exact OP hb.len
      ·refine Vx (fun z hz=>?_) (jX hb.node hi).up;rcases (qF hfree.has).1 hz with rfl | ⟨hz,_⟩
       ·exact kE (jX hb.node hfree.has) hln _
       ·exact (hb.node z hz).up
  rw[if_neg h5];by_cases h6:o.kind=6
  ·rw[if_pos h6];have pb:=p2 (by rw[h6];rfl);unfold JV;split
   ·exact hb.up
   ·rename_i ha;split
    ·exact hb.up
    ·rename_i hb2;have hb2:=Wy.1 hb2;obtain ⟨t1,t2⟩:=j5 hw.fs p1 (Wy.1 ha);have hfree:=Yw hw.fs pb hb2;have hi:=zx.ino hw.fs t1;have hln:=zlx hw.fs pb (VI hb2);obtain ⟨g1,hg1⟩:∃ g1,qr (isV w.fs o.a true).1.dir (zi (isV w.fs o.a true).1.name) w.fs.xs=g1:=⟨_,rfl⟩;obtain ⟨g2,hg2⟩:∃ g2,qr (isV w.fs o.b false).1.dir (zZ (isV w.fs o.b false).1.name (isV w.fs o.a true).1.ino) g1=g2:=⟨_,rfl⟩;have hR1:qc g1:=by rw[←hg1];exact z8 hw.fs.rises
     have hb1:zk (isV w.fs o.b false).1.dir g1=true:=by rw[←hg1,zP t1.has];exact hfree.has
     have hn1:∀ z∈g1,HD N z:=fun z hz=>by
      rw[←hg1]at hz;rcases (qF t1.has).1 hz with rfl | ⟨hz,_⟩
      ·exact Um (jX hb.node t1.has) _
      ·exact hb.node z hz
     have hn2:∀ z∈g2,HD (N+1) z:=fun z hz=>by
      rw[←hg2]at hz;rcases (qF hb1).1 hz with rfl | ⟨hz,_⟩
      ·exact kE (jX hn1 hb1) hln _
      ·exact (hn1 z hz).up
     have hl2:g2.length=w.fs.xs.length:=by rw[←hg2,jq hR1 hb1,←hg1,jq hw.fs.rises t1.has]
     have hi2:zk (isV w.fs o.a true).1.ino g2=true:=by rw[←hg2,zP hb1,←hg1,zP t1.has];exact hi
     have hR2:qc g2:=by rw[←hg2];exact z8 hR1
     unfold jN;rw[hg1,hg2];simp only;split
     ·refine fsB hb ?_ (Vx hn2 (jX hn2 hi2)) rfl ⟨rfl,rfl⟩;show (qq _ _).length<=N+1;rw[JQ hR2 (by show zk (zf _ _).ino _=true;rw[(zj hi2).2.2];exact hi2),hl2];exact OP hb.len
     ·refine fsB hb ?_ hn2 rfl ⟨rfl,rfl⟩;show g2.length<=N+1;rw[hl2];exact OP hb.len
  rw[if_neg h6];unfold qW;simp only;split
  ·exact hb.up
  ·rename_i ha;split
   ·exact hb.up
   ·obtain ⟨t1,t2⟩:=j5 hw.fs p1 (Wy.1 ha);have hi:=zx.ino hw.fs t1;unfold Xp;split
    ·exact hb.up
    ·obtain ⟨u1,u2,u3,u4,u5⟩:=zot hw.fs hb.len hb.node t1;refine ⟨OP u1,fun x hx=>(u2 x hx).up,?_,fun k hk=>?_,?_,fun x hx=>?_,?_,?_⟩
     ·show (qL _ _).length<=N+1;rw[M6];have:=hb.klen;omega
     ·rcases QW.1 hk with rfl | hk
      ·exact Wc _
      ·exact hb.kdata k hk
     ·show (if _ then _ else _:List zo).length<=N+1;split
      ·exact WL zgo (by have:=hb.plen;omega)
      ·exact OP hb.plen
     ·have hx:x∈(if (zf (isV w.fs o.a true).1.ino w.fs.xs).links=1 then qq { zf (isV w.fs o.a true).1.ino w.fs.xs with links:=0,parent:=0 } w.pool else w.pool):=hx;split at hx
      ·exact Vx (x:={ zf (isV w.fs o.a true).1.ino w.fs.xs with links:=0,parent:=0 }) (fun z hz=>(hb.pnode z hz).up) (show HD (N+1) _ from (jX hb.node hi).up) x hx
      ·exact (hb.pnode x hx).up
     ·show (zl _ _).next<=_;rw[u3];have:=hb.next;omega
     ·show (zl _ _).maxI<=_/\(zl _ _).maxB<=_/\_<=(zl _ _).maxI/\_<=(zl _ _).maxB;rw[u4,u5];exact hb.room
end
section
open CA CB
open Go.RowKit
section
variable {G:zt}
end
end
section
open CA CB
open Go.RowKit
abbrev jt (s:zK):List C:=[.sc (.int .i64 s.dir),.str s.name,.sc (.int .i64 s.ino)]
theorem FsS.es (h:FsS f) {n:Int} (hh:zk n f.xs=true):(zf n f.xs).es.length<=10000:=(h.node _ (zj hh).2.1).1
theorem ym {xs:List Lz} (h:k<xs.length):(zE xs)[k]?=some [.str xs[k]]:=by simp[Ws,Wa h]
theorem NO (f:FsV) (hf:FsI f) (hs:FsS f) (p:Lz) (hp:p.length<=1000000):Fun Tryz.prog G0 257 [.agg (fsC f),.str p] (.tup [.agg (jt (atV f p).1),.sc (.int .i64 (atV f p).2)]) 0:=by
 have hpl:=Mv p (by omega);have hlen:=hs.len;have hnl:(zn p).length<=1000000:=by have:=qw p;omega
 cases hpp:JY p with
 | false =>
  have e:atV f p=(qu,9):=by unfold atV;rw[hpp];rfl
  unfold YP at hpl;rw[hpp]at hpl;refine fon Tryz.func257 ?_;dsimp only[Tryz.f257];push_cast;refine cl hpl ?_;push_cast;exact dn (by push_cast [ze,zd,CLe,zg,e,qu])
 | true =>
  have e:atV f p=atW f.xs (zn p) ⟨0,[],1⟩:=by unfold atV;rw[hpp];rfl
  unfold YP at hpl;rw[hpp,if_pos rfl]at hpl;generalize zn p=ns at hpl hnl e;have hsl:(zE ns).length=ns.length:=We ..;refine fon Tryz.func257 ?_;dsimp only[Tryz.f257];push_cast;refine cl hpl ?_;push_cast;refine loop (fun x:Nat×zK=>⟨[(1,.str p),(2,.ptr 0 0),(4,.ptr 1 0),(8,.ptr 2 0),(24,.own 0 9 1 (zE ns)),(25,.sc (.int .i64 (ns.length:Nat))),(26,.sc (.int .i64 x.1))],[fsC f,[.sc (.int .i64 0),.str [],.sc (.int .i64 0)],jt x.2],1,0⟩)
   (fun x=>x.1<=ns.length/\atW f.xs ns ⟨0,[],1⟩=atW f.xs (ns.drop x.1) x.2/\(x.2.ino≠0->zk x.2.ino f.xs=true)) (fun x=>ns.length-x.1) (0,⟨0,[],1⟩) ⟨Wc _,rfl,fun _=>hf.root⟩ ?_ ?_
  ·exact wks [.inl 0] (by push_cast [ze,zd,CLe,zg,hsl])
  rintro ⟨k,s⟩ ⟨hk,hat,hin⟩;simp only at hk hat hin ⊢;by_cases hlt:k<ns.length
  ·have gs:=ym hlt;have hdr:ns.drop k=ns[k] :: ns.drop (k+1):=Oc hlt;obtain ⟨nm,hnm⟩:∃ nm,ns[k]=nm:=⟨_,rfl⟩;rw[hnm]at gs hdr;have hg:=jm (G:=G0) f s.ino (by omega) hf.rises;cases hh:zk s.ino f.xs with
   | false =>
    have h0:s.ino=0:=OU fun hne=>by rw[hin hne]at hh;cases hh
    have hr:atV f p=(qu,1):=by rw[e,hat,hdr];unfold atW;rw[if_pos h0]
    rw[hh]at hg;push_cast [hlt,gs]
    repeat refine an ?_
    refine cl hg ?_;push_cast;exact dn (by push_cast [ze,zd,CLe,zg,hr,qu])
   | true =>
    have hn0:s.ino≠0:=Xq hf hh;have hgg:=zj hh;rw[hh]at hg;by_cases hk2:(zf s.ino f.xs).kind=2
    ·have hfd:=x8 (G:=G0) (zf s.ino f.xs).es nm (by have:=hs.es hh;omega) (hf.es _ hgg.2.1);have hnx:atW f.xs ns ⟨0,[],1⟩=atW f.xs (ns.drop (k+1)) ⟨(zf s.ino f.xs).ino,nm,zL nm (zf s.ino f.xs).es⟩:=by
      rw[hat,hdr]
      conv=>lhs;unfold atW
      rw[if_neg hn0,if_neg (by simp[hk2])]
     have hin2:zL nm (zf s.ino f.xs).es≠0->zk (zL nm (zf s.ino f.xs).es) f.xs=true:=fun hne=>by
      refine Qf hf hh ?_;unfold Yo;rw[qC];cases hq:jk zS.name nm (zf s.ino f.xs).es with
      | some e=>rfl
      | none=>unfold zL at hne;rw[hq]at hne;exact absurd rfl hne
     push_cast [hlt,gs]
     repeat refine an ?_
     refine cl hg ?_;push_cast [hk2];refine cl hfd ?_;push_cast
     repeat refine an ?_
     exact ⟨(k+1,⟨(zf s.ino f.xs).ino,nm,zL nm (zf s.ino f.xs).es⟩),⟨hlt,hnx,hin2⟩,by simp only;omega,wks [.inl 0]⟩
    ·have hr:atV f p=(qu,3):=by rw[e,hat,hdr];unfold atW;rw[if_neg hn0,if_pos hk2]
     push_cast [hlt,gs]
     repeat refine an ?_
     refine cl hg ?_;push_cast [hk2];exact dn (by push_cast [ze,zd,CLe,zg,hr,qu])
  ·have hr:atV f p=(s,0):=by rw[e,hat,OA (by omega)];unfold atW;rfl
   push_cast [hlt];exact dn (by push_cast [ze,zd,CLe,zg,hr])
end
section
open CA CB
open Go.RowKit
abbrev zte (f:FsV):Prop:=0<=f.next/\f.next<=4000000000000000000
theorem vz (hf:FsI f):f.xs≠[]:=fun h=>by have:=hf.root;rw[h]at this;cases this
theorem ZJ (hf:FsI f) {n:Int} (hh:zk n f.xs=true):JE (zf n f.xs).es:=hf.es _ (zj hh).2.1
theorem Fun.argsLe {G:zt} {f:FuncId} {args':List C} {r:C} {n:Nat} (h:Fun P G f args r n) (ha:∀ R vs,zA R zN args' vs->zA R zN args vs):Fun P G f args' r n:=
 ⟨h.1,fun R vs hg hv=>h.2 R vs hg (ha R vs hv)⟩
theorem zjx {R:Env} {L:Loc} {v:Value} (h:Rep R L (.sc (.slice none 0 0)) v):Rep R L (.sl k []) v:=by
 rw[zr]at h;subst h;unfold Rep;exact ⟨none,0,rfl,Wb _,Wc _,.inl rfl⟩
end
section
open CA CB
open Go.RowKit
theorem zel {g:zo->Nat} {n:Nat}:∀ {xs:List zo},(∀ x∈xs,g x<=n)->Mj g xs<=xs.length*n
 | [],_=>by simp[Mj]
 | x :: r,h=>by
  have ih:=zel (g:=g) (n:=n) (xs:=r) fun y hy=>h y (Wn _ hy);have hx:=h x Wl;unfold Mj at ih ⊢;simp only[Wo,OY,Wh];rw[AZ];omega
theorem za7 (hf:FsI f) (hs:FsS f) {n:Int} (hh:zk n f.xs=true):0<=(zf n f.xs).links/\(zf n f.xs).links<=100000000:=by
 have h1:=hf.links _ (zj hh).2.1;have h2:=zel (g:=Yc (zf n f.xs).ino) (n:=10000) (xs:=f.xs) fun x hx=>WL (OG _ _) (hs.node x hx).1;have h3:=hs.len;have h4:f.xs.length*10000<=10000*10000:=WT _ h3;unfold J5 at h1;omega
theorem zbO (f:FsV) (hf:FsI f) (hs:FsS f) (s:zK) (hsp:zx f s) (hne:s.dir≠s.ino):Fun Tryz.prog G0 247 [.agg (fsC f),.agg (jt s)] (.agg (fsC (zl f s))) 0:=by
 have hi:=zx.ino hf hsp;have hlen:=hs.len;have hg:=jm (G:=G0) f s.dir (by omega) hf.rises;rw[hsp.has]at hg;have hes:=hs.es hsp.has;have hhe:Ya zS.name s.name (zf s.dir f.xs).es=true:=by rw[qC,hsp.there];rfl
 have hw:=Ub (G:=G0) (zf s.dir f.xs).es s.name (by omega) (ZJ hf hsp.has) hhe;have hd1:=kV (G:=G0) f (qj (zf s.dir f.xs) (zi s.name (zf s.dir f.xs).es)) (by omega) hf.rises;have hdl:(qr s.dir (zi s.name) f.xs).length=f.xs.length:=jq hf.rises hsp.has;have hR1:qc (qr s.dir (zi s.name) f.xs):=z8 hf.rises;have hg2:=jm (G:=G0) ⟨f.maxI,f.maxB,f.next,qr s.dir (zi s.name) f.xs⟩ s.ino (by simp only;omega) hR1;simp only at hg2;rw[zP hsp.has,hi,j6 hsp.has,if_neg hne]at hg2;have hl:=za7 hf hs hi;have hxi:=(zj hi).2.2;have hd2:=kV (G:=G0) ⟨f.maxI,f.maxB,f.next,qr s.dir (zi s.name) f.xs⟩ { zf s.ino f.xs with links:=(zf s.ino f.xs).links-1 } (by simp only;omega) hR1;have hd3:=ziV (G:=G0) ⟨f.maxI,f.maxB,f.next,qr s.dir (zi s.name) f.xs⟩ s.ino (by simp only;omega) hR1 (by intro h;have h0:f.xs = []:=Ak.1 (by rw[←hdl];exact WA List.length h);exact vz hf h0);have e0:zl f s=if (zf s.ino f.xs).links-1=0 then ⟨f.maxI,f.maxB,f.next,qf s.ino (qr s.dir (zi s.name) f.xs)⟩ else ⟨f.maxI,f.maxB,f.next,qq { zf s.ino f.xs with links:=(zf s.ino f.xs).links-1 } (qr s.dir (zi s.name) f.xs)⟩:=rfl;unfold qr at hg2 hd2 hd3 e0;by_cases hz:(zf s.ino f.xs).links-1=0
 ·rw[if_pos hz]at e0;have hz':=eq_true hz;rw[←hxi]at hd3;refine fon Tryz.func247 ?_;dsimp only[Tryz.f247];push_cast;refine cl hg ?_;push_cast;refine cl hw ?_;push_cast;refine cl hd1 ?_;push_cast;refine cl hg2 ?_;push_cast [hz']
  repeat refine an ?_
  refine cl hd3 ?_;push_cast;exact dn (by push_cast [ze,zd,CLe,zg,e0,hxi])
 ·rw[if_neg hz]at e0;have hz':=Wu hz;refine fon Tryz.func247 ?_;dsimp only[Tryz.f247];push_cast;refine cl hg ?_;push_cast;refine cl hw ?_;push_cast;refine cl hd1 ?_;push_cast;refine cl hg2 ?_;push_cast [hz']
  repeat refine an ?_
  refine cl hd2 ?_;push_cast;exact dn (by push_cast [ze,zd,CLe,zg,e0])
end
section
open CA CB
open Go.RowKit
theorem ziX (f:FsV) (hf:FsI f) (hs:FsS f) (a b:zK) (ha:zx f a) (hb:JF f b) (hb0:b.ino=0):Fun Tryz.prog G0 245 [.agg (fsC f),.agg (jt a),.agg (jt b)] (.agg (fsC (jN f a b))) 0:=by
 have hai:=zx.ino hf ha;have hlen:=hs.len;have hhe:Ya zS.name a.name (zf a.dir f.xs).es=true:=by rw[qC,ha.there];rfl
 have hga:=jm (G:=G0) f a.dir (by omega) hf.rises;rw[ha.has]at hga;have hwa:=Ub (G:=G0) (zf a.dir f.xs).es a.name (by have:=hs.es ha.has;omega) (ZJ hf ha.has) hhe;have hda:=kV (G:=G0) f (qj (zf a.dir f.xs) (zi a.name (zf a.dir f.xs).es)) (by omega) hf.rises;obtain ⟨g1,hg1⟩:∃ g1,qr a.dir (zi a.name) f.xs=g1:=⟨_,rfl⟩;obtain ⟨g2,hg2⟩:∃ g2,qr b.dir (zZ b.name a.ino) g1=g2:=⟨_,rfl⟩;have hR1:qc g1:=by rw[←hg1];exact z8 hf.rises
 have hR2:qc g2:=by rw[←hg2];exact z8 hR1
 have hl1:g1.length=f.xs.length:=by rw[←hg1];exact jq hf.rises ha.has
 have hb1:zk b.dir g1=true:=by rw[←hg1,zP ha.has];exact hb.has
 have hl2:g2.length=f.xs.length:=by rw[←hg2,jq hR1 hb1,hl1]
 have hi2:zk a.ino g2=true:=by rw[←hg2,zP hb1,←hg1,zP ha.has];exact hai
 have hgb:=jm (G:=G0) ⟨f.maxI,f.maxB,f.next,g1⟩ b.dir (by simp only;omega) hR1;simp only at hgb;rw[hb1]at hgb;have hres:JE (zf b.dir g1).es/\(zf b.dir g1).es.length<=10000:=by
  rw[←hg1,j6 ha.has];split
  ·refine ⟨Yg (ZJ hf ha.has),?_⟩;show (JH zS.name _ _).length<=10000;have:=YH (key:=zS.name) a.name (zf a.dir f.xs).es;have:=hs.es ha.has;omega
  ·exact ⟨ZJ hf hb.has,hs.es hb.has⟩
 have hwb:=zfx (G:=G0) (zf b.dir g1).es b.name a.ino (by have:=hres.2;omega) hres.1;have hdb:=kV (G:=G0) ⟨f.maxI,f.maxB,f.next,g1⟩ (qj (zf b.dir g1) (zZ b.name a.ino (zf b.dir g1).es)) (by simp only;omega) hR1;have hgx:=jm (G:=G0) ⟨f.maxI,f.maxB,f.next,g2⟩ a.ino (by simp only;omega) hR2;simp only at hgx;rw[hi2]at hgx;have hxi:=(zj hi2).2.2;have e0:jN f a b=if (zf a.ino g2).kind=2 then ⟨f.maxI,f.maxB,f.next,qq { zf a.ino g2 with parent:=b.dir } g2⟩ else ⟨f.maxI,f.maxB,f.next,g2⟩:=by unfold jN;rw[hg1,hg2]
 have hdx:=fun x:zo=>kV (G:=G0) ⟨f.maxI,f.maxB,f.next,g2⟩ x (by simp only;omega) hR2;have hda':Fun Tryz.prog G0 271 [.agg (fsC f),.agg (J0 (qj (zf a.dir f.xs) (zi a.name (zf a.dir f.xs).es)))] (.agg [.sc (.int .i64 f.maxI),.sc (.int .i64 f.maxB),.sc (.int .i64 f.next),.own 0 64 6 (zu g1)]) 1:=by rw[←hg1];exact hda
 have hdb':Fun Tryz.prog G0 271 [.agg (fsC ⟨f.maxI,f.maxB,f.next,g1⟩),.agg (J0 (qj (zf b.dir g1) (zZ b.name a.ino (zf b.dir g1).es)))] (.agg [.sc (.int .i64 f.maxI),.sc (.int .i64 f.maxB),.sc (.int .i64 f.next),.own 0 64 6 (zu g2)]) 1:=by rw[←hg2];exact hdb
 have hb0':=eq_true hb0;by_cases hk:(zf a.ino g2).kind=2
 ·rw[if_pos hk]at e0;have hk':=eq_true hk;have hd:=hdx { zf a.ino g2 with parent:=b.dir };refine fon Tryz.func245 ?_;dsimp only[Tryz.f245];push_cast [hb0'];refine cl hga ?_;push_cast;refine cl hwa ?_;push_cast;refine cl hda' ?_;push_cast;refine cl hgb ?_;push_cast;refine cl hwb ?_;push_cast;refine cl hdb' ?_;push_cast;refine cl hgx ?_;push_cast [hk'];refine cl hd ?_;push_cast;exact dn (by push_cast [ze,zd,CLe,zg,e0])
 ·rw[if_neg hk]at e0;have hk':=Wu hk;have hsm:qq (zf a.ino g2) g2=g2:=yv hR2 (by rw[hxi];exact (zj hi2).1);have hd:=hdx (zf a.ino g2);rw[hsm]at hd;refine fon Tryz.func245 ?_;dsimp only[Tryz.f245];push_cast [hb0'];refine cl hga ?_;push_cast;refine cl hwa ?_;push_cast;refine cl hda' ?_;push_cast;refine cl hgb ?_;push_cast;refine cl hwb ?_;push_cast;refine cl hdb' ?_;push_cast;refine cl hgx ?_;push_cast [hk'];refine cl hd ?_;push_cast;exact dn (by push_cast [ze,zd,CLe,zg,e0])
end
section
open Go.RowKit
section
variable {G:zt}
theorem H8 (rows:List (List C)) (hk:∀ r∈rows,r.length=4) (hs:ji rows) (hl:rows.length<=100000) :
  YJ Tryz.prog G 280 [.sl 4 rows] [] 0 (zgX 4 rows):=by
 refine YJ.bySlice (fun h=>?_) (fun h a cap hr=>?_)
 ·refine foX (fun i=>if i=1000000+25 then [true,true] else []) Tryz.func280 ?_;dsimp only[Tryz.f280];push_cast;refine ⟨h,Q3 ku Qn rfl rfl (by decide) rfl (zM hk) rfl (Wb _) (Wb _) (by omega) (by omega) (fun hc=>absurd hc ?_) (fun _ c hc hm=>?_)⟩
  ·have:=WB.2 h;omega
  ·push_cast;rw[Ov]at hc;refine ⟨_,_,_,⟨⟨rfl,.inl ⟨h,c,hc,hm,rfl,rfl⟩⟩,Wc _⟩,[],rfl,rfl,?_,by push_cast [ze,zd,CLe,zg]⟩;push_cast [ze,zd,CLe,zg];exact zV (zI hs)
 ·cases a with
  | none =>
   refine foX (fun i=>if i=1000000+25 then [true,true] else []) Tryz.func280 ?_;dsimp only[Tryz.f280];push_cast [hr,Aa];exact ⟨_,_,_,⟨⟨rfl,.inr ⟨h,.inl ⟨rfl,rfl⟩⟩⟩,Wc _⟩,[],rfl,rfl,by push_cast [ze,zd,CLe,zg],by push_cast [ze,zd,CLe,zg]⟩
  | some a =>
   refine foX (fun i=>if i=1000000+25 then [true,true] else []) Tryz.func280 ?_;dsimp only[Tryz.f280];push_cast [hr,Ab];have hx:C.xs? 4 [[]] (C.sc (.slice (some a) 0 cap))=some (0,[]):=by simp[C.xs?,hr]
   refine Q3 ku Qn hx rfl (by decide) rfl rfl rfl (Wb _) (Wb _) (by omega) (by omega) (fun _=>?_) (fun hc=>absurd hc (by omega));push_cast;exact ⟨_,_,_,⟨⟨rfl,.inr ⟨h,.inr ⟨rfl,rfl⟩⟩⟩,Wc _⟩,[],rfl,rfl,by (push_cast [ze,zd,CLe,zg];simp[spl,zg]),by push_cast [ze,zd,CLe,zg]⟩
theorem UJ (rows:List (List C)) (x:List C) (i c e:Nat) (hk:∀ r∈rows,r.length=4) (hx:x.length=4) (hs:ji rows) (hsx:(x.all C.stayB)=true) (hl:rows.length<=100000) (hi:i<=rows.length) (hc:rows.length<=c) (hcm:c<=9223372036854775807) :
  YJ Tryz.prog G 279 [.bs 0 0 4 rows.length c,.sc (.int .i64 i),.own 0 e 4 [x]] [qB 4 rows c] 1 (zr8 4 (c*4) (rows.take i++x :: rows.drop i)):=by
 refine foX (fun j=>if j=1000000+25 then [true,true] else if j=11 then [false,false,false,false,false,false,false,false,true] else if j=15 then [false,false,false,false,false,false,false,false,true] else []) Tryz.func279 ?_;dsimp only[Tryz.f279];push_cast;have hlen:(rows.take i++x :: rows.drop i).length=rows.length+1:=by simp;omega
 have hki:∀ r∈rows.take i++x :: rows.drop i,r.length=4:=fun r hr=>by
  rcases WF.1 hr with hr | hr
  ·exact hk r (WC hr)
  ·rcases WK.1 hr with rfl | hr
   ·exact hx
   ·exact hk r (WU hr)
 have hsi:ji (rows.take i++x :: rows.drop i):=fun r hr=>by
  rcases WF.1 hr with hr | hr
  ·exact hs r (WC hr)
  ·rcases WK.1 hr with rfl | hr
   ·exact hsx
   ·exact hs r (WU hr)
 have hbl:=JM hk hc;have hfl:=zM hk;have hxl:[x].flatten.length=1*4:=by simp[hx]
 have hpre:(qB 4 rows c).take rows.flatten.length=rows.flatten:=by unfold qB;rw[BC]
 refine ⟨hc,⟨by omega,hi⟩,br (fun h=>?_) (fun h=>?_)⟩
 ·push_cast;refine Q3 ku Qn rfl rfl (by decide) rfl hxl rfl (by rw[hbl];omega) hc (by simp;omega) (by simp;omega) (fun h1=>?_) (fun h1 c' h2 h3=>?_)
  ·push_cast;have hi':i=rows.length:=WR h;refine ⟨_,_,_,⟨⟨rfl,c,by rw[hlen];exact h1,hcm,.inl ⟨rfl,rfl⟩⟩,Wb _⟩,[],rfl,rfl,?_,by push_cast [ze,zd,CLe,zg,hlen]⟩;push_cast [ze,zd,CLe,zg];have h6:rows.length*4+4<=c*4:=by have:rows.length+1<=c:=h1;omega
   refine JI hki hsi (by rw[hlen];exact h1) (by rw[Zm (by rw[hbl,hx];exact h6),hbl]) ?_;rw[hlen,hi',Of,AO];unfold spl;rw[←hfl,hpre,OI (by simp[hx,hfl];omega)];simp
  ·push_cast;have hi':i=rows.length:=WR h;have h2':rows.length+1<=c':=h2;refine ⟨_,_,_,⟨⟨rfl,c',by rw[hlen];exact h2,h3,.inr ⟨rfl,rfl⟩⟩,OS rfl⟩,[],rfl,rfl,?_,by push_cast [ze,zd,CLe,zg,hlen]⟩;push_cast [ze,zd,CLe,zg];refine ⟨XB hbl,JI hki hsi (by rw[hlen];exact h2) (by simp[hx,hbl];omega) ?_⟩;rw[hlen,hi',Of,AO,←hfl,hpre,OI (by simp[hx,hfl];omega)];simp
 ·have hne:i≠rows.length:=OQ h;push_cast;refine ⟨⟨by omega,by omega⟩,br (fun h1=>?_) (fun h1=>?_)⟩
  ·have h1':(c:Int)<(rows.length:Int)+1:=WR h1;push_cast
   repeat refine an ?_
   refine zov ku zo4 Qn rfl (by decide) rfl rfl (by rw[hbl];omega) (by omega) (by omega) (by omega) (by omega) (by omega) (fun c' B h2 h3 hBl hBt=>?_);have e1:((rows.length:Int)+1-(i:Int)).toNat=rows.length+1-i:=by omega
   rw[e1]at h2 ⊢;have e2:i+(rows.length+1-i)=rows.length+1:=by omega
   rw[e2]at h2 ⊢;push_cast
   repeat refine an ?_
   refine X1 ku Qn rfl rfl hxl (by rw[hBl];omega) (fun B1 hB1 hl1=>?_);rw[hBl]at hl1;push_cast
   repeat refine an ?_
   have hbp:=XW (c:=c) hk hi;refine X1 ku Qn (U6 rfl (by rw[hbl];omega)) rfl (by rw[hbp,W1,hfl];omega) (by rw[hl1];omega) (fun B2 hB2 hl2=>?_);rw[hl1]at hl2;have hX:[x].flatten.take (min [x].length (rows.length+1-i)*4)=x:=by
    rw[OF,OH (by omega),Wf (by omega)];simp
   rw[hX]at hB1;rw[hbp,show min (rows.length-i) (rows.length-i)*4=(rows.length-i)*4 by omega,Wf (by rw[W1,hfl];omega),hB1]at hB2;push_cast;refine ⟨_,_,_,⟨⟨rfl,c',by rw[hlen];exact h2,h3,.inr ⟨rfl,rfl⟩⟩,OS rfl⟩,[],rfl,rfl,?_,by push_cast [ze,zd,CLe,zg,hlen]⟩;push_cast [ze,zd,CLe,zg];refine ⟨XB hbl,JI hki hsi (by rw[hlen];exact h2) hl2 ?_⟩;rw[hlen,←QL hk,hB2];have hg:=Ne (cs:=B) (L:=rows.flatten) (X:=x) (p:=i*4) (q:=(i+1)*4) (by omega) (by omega) (by
    rw[hBt,AT];unfold qB;rw[OT (by omega)]) (by omega)
   rw[hfl,hx]at hg;rw[←hg];congr 1;omega
  ·have h1':¬(c:Int)<(rows.length:Int)+1:=OQ h1;push_cast
   repeat refine an ?_
   refine zn4 (uf (P:=Tryz.prog) (tR:=4) Tryz.func297 (by kernel_rfl) (by kernel_rfl) (by kernel_rfl) (by kernel_rfl) ku Qn rfl (Bj (by rw[hbl];omega)) (by simp) (by omega)) ?_;push_cast
   repeat refine an ?_
   have hbp:=XW (c:=c) hk hi;refine X1 ku Qn (U6 rfl (by rw[hbl];omega)) rfl (by simp[hbl];omega) (by rw[hbl];omega) (fun B1 hB1 hl1=>?_);rw[hbl]at hl1;rw[B4,OH (by omega),show min (rows.length+1-i) (rows.length-i)*4=(rows.length-i)*4 by omega,hbp]at hB1;push_cast
   repeat refine an ?_
   refine X1 ku Qn rfl rfl hxl (by rw[hl1];omega) (fun B2 hB2 hl2=>?_);rw[hl1]at hl2;have hX:[x].flatten.take (min [x].length (rows.length+1-i)*4)=x:=by
    rw[OF,OH (by omega),Wf (by omega)];simp
   rw[hX,hB1]at hB2;push_cast;have hcc:rows.length+1<=c:=by omega
   refine ⟨_,_,_,⟨⟨rfl,c,by rw[hlen];exact hcc,hcm,.inl ⟨rfl,rfl⟩⟩,OS rfl⟩,[],rfl,rfl,?_,by push_cast [ze,zd,CLe,zg,hlen]⟩;push_cast [ze,zd,CLe,zg];refine JI hki hsi (by rw[hlen];exact hcc) hl2 ?_;rw[hlen,←QL hk,hB2];have hg:=kG (cs:=qB 4 rows c) (L:=rows.flatten) (X:=x) (p:=i*4) (q:=(i+1)*4) (by omega) (by omega) hpre (by omega);rw[hfl,hx]at hg;rw[←hg];congr 1;omega
theorem zaA {e:Nat} (x:List C) (hx:x.length=4) (hsx:(x.all C.stayB)=true) :
  YJ Tryz.prog G 279 [.sc (.slice none 0 0),.sc (.int .i64 0),.own 0 e 4 [x]] [] 1 (fun r bx' n=>n=0/\∃ c,1<=c/\c<=9223372036854775807/\r = .bs 0 0 4 1 c/\bx' = [qB 4 [x] c]):=by
 refine foX (fun j=>if j=1000000+25 then [true,true] else if j=11 then [false,false,false,false,false,false,false,false,true] else if j=15 then [false,false,false,false,false,false,false,false,true] else []) Tryz.func279 ?_;dsimp only[Tryz.f279];push_cast;refine NC ku Qn rfl rfl (by decide) rfl (by simp[hx]) (by simp) (by simp) (by simp) (fun c h1 h2=>?_);push_cast;refine ⟨_,_,_,⟨⟨rfl,c,h1,h2,rfl,rfl⟩,Wc _⟩,[],rfl,rfl,?_,by push_cast [ze,zd,CLe,zg]⟩;push_cast [ze,zd,CLe,zg];have:=zV (src:=[]) (n:=1) (zI (k:=4) (c:=c) (rows:=[x]) fun r hr=>by
  rw[W3.1 hr];exact hsx)
 unfold qB at this ⊢;simpa using this
end
end
section
open CA CB
open Go.RowKit
abbrev JJ (k:zY):List C:=[.sc (.int .i64 k.slot),.sc (.int .i64 k.ino),.sc (.bool k.content),.str k.data]
abbrev zO (ks:List zY):List (List C):=ks.map JJ
theorem JN (ks:List zY) (i:Nat) (h:i<ks.length):(zO ks)[i]?=some (JJ ks[i]):=by simp[Ws,Wa h]
abbrev Mq (w:qV):List C:=[.sc (.int .i64 w.fs.maxI),.sc (.int .i64 w.fs.maxB),.sc (.int .i64 w.fs.next),.sl 6 (zu w.fs.xs),.sl 4 (zO w.kept),.sl 6 (zu w.pool)]
abbrev ZB (w:qV):C:=.agg (Mq w)
theorem zfl (a b:Int):UV a b<0↔Jk.lt a b=true:=by
 show UV a b<0↔decide (a<b)=true;unfold UV;rw[W6];split
 ·simp;assumption
 ·split<;>omega
theorem zd8 (a b:Int):UV a b=0↔a=b:=by
 unfold UV;split
 ·constructor
  ·intro h;cases h
  ·intro h;omega
 ·split
  ·constructor
   ·intro h;cases h
   ·intro h;omega
  ·constructor
   ·intro _;omega
   ·intro _;rfl
section
variable {G:zt}
theorem zjW (k:zY):Fun Tryz.prog G 274 [.agg (JJ k)] (.sc (.int .i64 k.slot)) 0:=by
 refine fon Tryz.func274 ?_;dsimp only[Tryz.f274];push_cast;exact dn
theorem zah (k:zY) (n:Int):Fun Tryz.prog G 294 [.agg (JJ k),.sc (.int .i64 n),.row [.clo (.func 274) [] []]] (.sc (.int .i64 (UV k.slot n))) 0:=by
 refine fon Tryz.func294 ?_;dsimp only[Tryz.f294];push_cast;refine cl (zjW k) ?_;push_cast;refine cl (uk k.slot n) ?_;push_cast;exact dn
theorem xU (ks:List zY) (n:Int) (hl:ks.length<=100000) (hR:qT Jk zY.slot ks) :
  Fun Tryz.prog G 293 [.sl 4 (zO ks),.sc (.int .i64 n),.clo (.func 294) [] [.row [.clo (.func 274) [] []]]] (.tup [.sc (.int .i64 (qv Jk zY.slot n ks:Nat)),.sc (.bool (Ya zY.slot n ks))]) 0:=by
 refine fon Tryz.func293 ?_;dsimp only[Tryz.f293];push_cast;refine loop (fun p:Nat×Nat=>⟨[(0,.sl 4 (zO ks)),(1,.sc (.int .i64 n)),(2,.clo (.func 294) [] [.row [.clo (.func 274) [] []]]),(8,.sc (.int .i64 (ks.length:Nat))),(9,.sc (.int .i64 p.1)),(10,.sc (.int .i64 p.2))],[],0,0⟩)
  (fun p=>p.1<=p.2/\p.2<=ks.length/\(∀ t (h:t<ks.length),t<p.1->(Jk).lt (zY.slot ks[t]) n=true)/\∀ t (h:t<ks.length),p.2<=t->(Jk).lt (zY.slot ks[t]) n=false) (fun p=>p.2-p.1) (0,ks.length) ⟨Wc _,Wb _,fun t _ h=>by (simp at h),fun t h h'=>by (dsimp only at h';omega)⟩ ?_ ?_
 ·exact wk (by push_cast [ze,zd,CLe,zg,We])
 ·rintro ⟨i,j⟩ ⟨h1,h2,h3,h4⟩;dsimp only at h1 h2 h3 h4 ⊢;by_cases h:i<j
  ·obtain ⟨m,hm⟩:∃ m,m=(i+j) / 2:=⟨_,rfl⟩;have hmi:((i:Int)+(j:Int)) / 2=(m:Int):=by omega
   have hml:m<ks.length:=by omega
   have hat:=JN ks m hml;have hlt:=(zfl ks[m].slot n);push_cast [h,hmi,hat]
   repeat refine an ?_
   refine cl ((zah ks[m] n)) ?_;push_cast;cases hc:(Jk).lt (zY.slot ks[m]) n with
   | true =>
    have hcv:(UV ks[m].slot n<0)=True:=eq_true (hlt.mpr hc);push_cast [hcv]
    repeat refine an ?_
    refine ⟨(m+1,j),⟨by omega,h2,fun t ht hlt2=>?_,h4⟩,by dsimp only;omega,wk⟩;dsimp only at hlt2;rcases Wr t m with q | q
    ·exact (Jk).tr ((WV.1 hR) t m ht hml q) hc
    ·have:t=m:=by omega
     subst this;exact hc
   | false =>
    have hcv:(UV ks[m].slot n<0)=False:=Wu (fun e=>by have h7:(Jk).lt (zY.slot ks[m]) n=true:=hlt.mp e;rw[hc]at h7;cases h7);push_cast [hcv]
    repeat refine an ?_
    refine ⟨(i,m),⟨by omega,by omega,h3,fun t ht hge=>?_⟩,by dsimp only;omega,wk⟩;dsimp only at hge;rcases Wr m t with q | q
    ·cases h9:(Jk).lt (zY.slot ks[t]) n with
     | false=>rfl
     | true=>have:=(Jk).tr ((WV.1 hR) m t hml ht q) h9;rw[hc]at this;cases this
    ·have:t=m:=by omega
     subst this;exact hc
  ·have hij:i=j:=by omega
   subst hij;have hrk:=ZQ (o:=Jk) (key:=zY.slot) n ks i h2 h3 h4;push_cast [h];refine br (fun hx=>?_) (fun hx=>?_)
   ·have hx:i<ks.length:=by simpa using hx
    have hat:=JN ks i hx;have hh:=y9 n hR hrk hx;push_cast [hx,hat]
    repeat refine an ?_
    refine cl ((zah ks[i] n)) ?_;push_cast;have hcv:decide (UV ks[i].slot n=0)=Ya zY.slot n ks:=by
     rw[hh];exact Bb.2 (zd8 ks[i].slot n)
    push_cast [hcv];exact dn (by push_cast [ze,zd,CLe,zg,hrk])
   ·have hx:¬i<ks.length:=by simpa using hx
    have hh:=Nw n hR (by omega);push_cast [hx];exact dn (by push_cast [ze,zd,CLe,zg,hrk,hh])
theorem uv (ks:List zY) (n:Int) (hl:ks.length<=100000) (hR:qT Jk zY.slot ks):Fun Tryz.prog G 273 [.sl 4 (zO ks),.sc (.int .i64 n),.clo (.func 274) [] []] (.tup [.sc (.int .i64 (qv Jk zY.slot n ks:Nat)),.sc (.bool (Ya zY.slot n ks))]) 0:=by
 refine fon Tryz.func273 ?_;dsimp only[Tryz.f273];push_cast;refine M7 [.sl 4 (zO ks),.sc (.int .i64 n),.clo (.func 294) [] [.row [.clo (.func 274) [] []]]] (xU ks n hl hR) rfl ?_ ?_
 ·simp[JA,Yk,C.frz,C.frzL]
 push_cast;exact dn
def zfe (n:Int) (ks:List zY):zY:=(jk zY.slot n ks).getD znf
theorem zfu (w:qV) (n:Int) (hl:w.kept.length<=100000) (hR:qT Jk zY.slot w.kept):Fun Tryz.prog G 246 [ZB w,.sc (.int .i64 n)] (.tup [.agg (JJ (zfe n w.kept)),.sc (.bool (yL n w.kept))]) 0:=by
 obtain ⟨_,_,h3,h4⟩:=UB n hR;have h:=uv (G:=G) w.kept n hl hR;cases hh:Ya zY.slot n w.kept with
 | false =>
  have hf:zfe n w.kept=znf:=by unfold zfe;rw[(h4 hh).1];rfl
  have he:yL n w.kept=false:=hh;rw[hh]at h;refine fon Tryz.func246 ?_;dsimp only[Tryz.f246];push_cast;refine cl h ?_;push_cast;exact dn (by push_cast [ze,zd,CLe,zg,hf,he,znf])
 | true =>
  obtain ⟨hlt,_,g2,_⟩:=h3 hh;have hf:zfe n w.kept=w.kept[qv Jk zY.slot n w.kept]:=by unfold zfe;rw[g2];rfl
  have he:yL n w.kept=true:=hh;have hat:=JN w.kept _ hlt;rw[hh]at h;refine fon Tryz.func246 ?_;dsimp only[Tryz.f246];push_cast;refine cl h ?_;push_cast [hat]
  repeat refine an ?_
  exact dn (by push_cast [ze,zd,CLe,zg,hf,he])
end
end
section
open Go.RowKit Go.ChangeMaps Go.ChangeShapes Go.WideShapes Go.Deep Go.Joins
section
variable {H:Type} {enc:TypeId×Value->H} {P:Program} {W:World}
theorem jE.two {t:TypeId} {f1 f2:Field} {k1 k2:Nat} {Q1 Q2:List C->Prop} (hs:P.underlying t=some (.struct #[f1,f2])) (h1:jE enc P W f1.type k1 Q1) (h2:jE enc P W f2.type k2 Q2)
  (e1:f1.offset=0) (e2:P.cellsOf f1.type=k1) (e3:f2.offset=k1) (e4:P.cellsOf f2.type=k2) (e5:P.cellsOf t=k1+k2):jE enc P W t (k1+k2) fun row=>∃ a b,row=a++b/\Q1 a/\Q2 b:=fun fuel cs x hx=>by
 obtain ⟨ys,n',hn',hy,hlen,hyl,hf⟩:=DataW.trod_struct hs hx;rw[e5]at hlen;have g1:=hf 0 f1 rfl;have g2:=hf 1 f2 rfl;have hy2:ys.length=2:=by simpa using hyl
 rw[e1,e2,AT,Wa (by omega)]at g1;rw[e3,e4,Wa (by omega)]at g2;obtain ⟨a,qa,la,la',ra⟩:=h1 _ _ _ g1;obtain ⟨b,qb,lb,lb',rb⟩:=h2 _ _ _ g2;refine ⟨a++b,⟨a,b,rfl,qa,qb⟩,by rw[Wi,la,lb],hlen,fun j c v h3 h4=>?_⟩;rcases Wr j k1 with hj | hj
 ·rw[Ww (by omega)]at h3;exact ra j c v h3 (by rw[Bo hj];exact h4)
 ·rw[WQ (by omega),la]at h3;have hjl:=(Wd.1 h3).1;refine rb (j-k1) c v h3 ?_;rw[Bo (by omega),W8,show k1+(j-k1)=j by omega];exact h4
theorem zje:jE enc Tryz.prog W 105 4 fun row=>∃ o:zY,row=JJ o/\o.data.length<=maxLen:=fun fuel cs x hx=>by
 obtain ⟨row,⟨hl,hq⟩,h1,h2,h3⟩:=jE.struct (W:=W) (enc:=enc) (Qs:=fun j c=>match j with | 0=>∃ n,c = .sc (.int .i64 n)/\(Lit.int .i64 n).wf=true | 1=>∃ n,c = .sc (.int .i64 n)/\(Lit.int .i64 n).wf=true | 2=>∃ b,c = .sc (.bool b) | 3=>∃ l:Lz,c = .str l/\l.length<=maxLen | _=>True) Tryz.underlying105 (by kernel_rfl) (by kernel_rfl) (fun j f hj=>by
  match j,hj with
  | 0,hj=>cases hj;exact Opn.int Tryz.underlying3
  | 1,hj=>cases hj;exact Opn.int Tryz.underlying3
  | 2,hj=>cases hj;exact Opn.bool Tryz.underlying4
  | 3,hj=>cases hj;exact Opn.str Tryz.underlying9
  | j+4,hj=>simp at hj) fuel cs x hx
 match row,h1,hq,h3 with
 | [c0,c1,c2,c3],_,hq,h3 =>
  obtain ⟨a,rfl,_⟩:=hq 0 c0 rfl;obtain ⟨b,rfl,_⟩:=hq 1 c1 rfl;obtain ⟨c,rfl⟩:=hq 2 c2 rfl;obtain ⟨d,rfl,hd⟩:=hq 3 c3 rfl;exact ⟨_,⟨⟨a,b,c,d⟩,rfl,hd⟩,rfl,h2,h3⟩
theorem ze0:Opn enc Tryz.prog W 25 fun c=>∃ xs:List zY,c = .sl 4 (zO xs)/\xs.length<=maxLen/\∀ x∈xs,x.data.length<=maxLen:=fun fuel cs x hx=>by
 obtain ⟨v,c,rfl,⟨rows,rfl,hl,hr⟩,h1,h2⟩:=Opn.slice (W:=W) (enc:=enc) Tryz.underlying25 (show Tryz.prog.cellsOf 105=4 by kernel_rfl) (by decide) zje fuel cs x hx;obtain ⟨xs,rfl,hq⟩:=GZ hr;exact ⟨v,_,rfl,⟨xs,rfl,by simpa using hl,hq⟩,h1,h2⟩
theorem zf5:jE enc Tryz.prog W 27 2 fun row=>∃ (ks:List zY) (pool:List zo),row = [.sl 4 (zO ks),.sl 6 (zu pool)]/\ks.length<=maxLen/\pool.length<=maxLen:=fun fuel cs x hx=>by
 obtain ⟨row,⟨hl,hq⟩,h1,h2,h3⟩:=jE.struct (W:=W) (enc:=enc) (Qs:=fun j c=>match j with | 0=>∃ xs:List zY,c = .sl 4 (zO xs)/\xs.length<=maxLen/\∀ x∈xs,x.data.length<=maxLen | 1=>∃ xs:List zo,c = .sl 6 (zu xs)/\xs.length<=maxLen/\∀ x∈xs,ze5 x | _=>True) Tryz.underlying27 (by kernel_rfl) (by kernel_rfl) (fun j f hj=>by
  match j,hj with
  | 0,hj=>cases hj;exact ze0
  | 1,hj=>cases hj;exact zaO
  | j+2,hj=>simp at hj) fuel cs x hx
 match row,h1,hq,h3 with
 | [c0,c1],_,hq,h3 =>
  obtain ⟨a,rfl,ha,_⟩:=hq 0 c0 rfl;obtain ⟨b,rfl,hb,_⟩:=hq 1 c1 rfl;exact ⟨_,⟨a,b,rfl,ha,hb⟩,rfl,h2,h3⟩
theorem zeI:jE enc Tryz.prog W 29 6 fun row=>∃ w:qV,row=Mq w/\w.fs.xs.length<=maxLen:=fun fuel cs x hx=>by
 obtain ⟨row,⟨a,b,rfl,⟨f,rfl,hf,_⟩,⟨ks,pool,rfl,_⟩⟩,h1,h2,h3⟩:=jE.two (W:=W) (enc:=enc) Tryz.underlying29 zrW zf5 rfl (by kernel_rfl) rfl (by kernel_rfl) (by kernel_rfl) fuel cs x hx;exact ⟨_,⟨⟨f,ks,pool⟩,rfl,hf⟩,h1,h2,h3⟩
end
end
section
open CA CB
open Go.RowKit
section
variable {G:zt}
theorem qd:∀ r∈zO ks,r.length=4:=fun r hr=>by
 obtain ⟨x,_,rfl⟩:=WS.1 hr;rfl
theorem zw:ji (zO ks):=fun r hr=>by
 obtain ⟨x,_,rfl⟩:=WS.1 hr;rfl
theorem zho (w:qV) (k:zY) (hl:w.kept.length<=90000) (hR:qT Jk zY.slot w.kept) (hn:yL k.slot w.kept=false):Fun Tryz.prog G 252 [ZB w,.agg (JJ k)] (ZB { w with kept:=qL k w.kept }) 0:=by
 obtain ⟨_,_,h3,h4⟩:=UB (o:=Jk) k.slot hR;have hll:(zO w.kept).length=w.kept.length:=We ..;have hat:=uv (G:=G) w.kept k.slot (by omega) hR;have hrl:=Z0 (o:=Jk) (key:=zY.slot) k.slot w.kept;have hn':Ya zY.slot k.slot w.kept=false:=hn;rw[hn']at hat;have hw:qL k w.kept=w.kept.take (qv Jk zY.slot k.slot w.kept)++k :: w.kept.drop (qv Jk zY.slot k.slot w.kept):=(h4 hn').2.2 k rfl;have hset:zO (qL k w.kept)=(zO w.kept).take (qv Jk zY.slot k.slot w.kept)++JJ k :: (zO w.kept).drop (qv Jk zY.slot k.slot w.kept):=by rw[hw];simp
 have hsl:(zO (qL k w.kept)).length=(zO w.kept).length+1:=by rw[hset];simp;omega
 refine foF (fun i=>if i=2 then Ys [(0,.pure),(1,.pure),(2,.pure),(4,.pure),(5,.pure),(6,.pure),(3,.flt [3,4,5]),(7,.bar),(8,.pure),(9,.pure),(10,.bar)] else []) Tryz.func252 ?_;dsimp only[Tryz.f252];push_cast;refine cl hat ?_;push_cast;refine zoO [] (H8 (zO w.kept) qd zw (by omega)) (by decide) (by simp) (by push_cast) (by push_cast) (fun r bx' m hp=>?_);obtain ⟨rfl,⟨hne,c,h1,h2,rfl,rfl⟩ | ⟨he,⟨rfl,rfl⟩ | ⟨rfl,rfl⟩⟩⟩:=hp
 ·have hbl:=JM qd h1;have hre:∀ fp fo,C.reL fp fo (qB 4 (zO w.kept) c)=qB 4 (zO w.kept) c:=fun fp fo=>zG (zI zw);have hpos:=WB.2 hne;have hre2:∀ fp fo c,C.reL fp fo (qB 4 (zO (qL k w.kept)) c)=qB 4 (zO (qL k w.kept)) c:=fun fp fo c=>zG (zI zw);push_cast [hre];refine ju [4] [0] (UJ (e:=105) (zO w.kept) (JJ k) (qv Jk zY.slot k.slot w.kept) c qd rfl zw rfl (by omega) (by omega) h1 h2) rfl (by decide) (by decide) (by simp) (by push_cast) (by push_cast [hre]) (fun r bx' m hp=>?_);rw[←hset]at hp;obtain ⟨rfl,c',g1,g2,⟨rfl,rfl⟩ | ⟨rfl,rfl⟩⟩:=hp
  ·push_cast [hre2,hre];exact ⟨[(4,105,4,zO (qL k w.kept),c')],[],zC rfl (by omega) g1 g2 qd zw,rfl,rfl,by push_cast [ze,zd,CLe,zg]⟩
  ·have hra:∀ fp fo,C.reL fp fo (List.replicate (c*4) .any)=List.replicate (c*4) .any:=fun fp fo=>zG (by simp[OK,C.stayB]);push_cast [hre2,hre,hra];exact ⟨[(5,105,4,zO (qL k w.kept),c')],[],zC rfl (by omega) g1 g2 qd zw,rfl,rfl,by push_cast [ze,zd,CLe,zg]⟩
 ·have he:w.kept = []:=by simpa using he
  have hr0:qv Jk zY.slot k.slot w.kept=0:=by rw[he];rfl
  have hs1:qL k w.kept = [k]:=by rw[he];rfl
  push_cast [hr0];refine ju [] [0] (zaA (e:=105) (JJ k) rfl rfl) rfl (by decide) (by decide) (by simp) (by push_cast) (by push_cast) (fun r bx' m hp=>?_);obtain ⟨rfl,c,g1,g2,rfl,rfl⟩:=hp;have hre:∀ fp fo,C.reL fp fo (qB 4 [JJ k] c)=qB 4 [JJ k] c:=fun fp fo=>zG (zI (zw (ks:=[k])));push_cast [hre];exact ⟨[(3,105,4,zO [k],c)],[],zC rfl (by omega) g1 g2 qd zw,rfl,rfl,by push_cast [ze,zd,CLe,zg,hs1]⟩
 ·have he:w.kept = []:=by simpa using he
  have hr0:qv Jk zY.slot k.slot w.kept=0:=by rw[he];rfl
  have hs1:qL k w.kept = [k]:=by rw[he];rfl
  push_cast [hr0];refine ju [3] [0] (UJ (e:=105) [] (JJ k) 0 0 (fun r hr=>by cases hr) rfl (fun r hr=>by cases hr) rfl (by simp) (by simp) (by simp) (by simp)) rfl (by decide) (by decide) (by simp) (by push_cast) (by push_cast [qB]) (fun r bx' m hp=>?_);obtain ⟨rfl,c,g1,g2,hp⟩:=hp;have hre:∀ fp fo,C.reL fp fo (qB 4 [JJ k] c)=qB 4 [JJ k] c:=fun fp fo=>zG (zI (zw (ks:=[k])));rcases hp with ⟨rfl,rfl⟩ | ⟨rfl,rfl⟩
  ·push_cast [hre];exact ⟨[(3,105,4,zO [k],c)],[],zC rfl (WM (A2 _) g1) g1 g2 qd zw,rfl,rfl,by push_cast [ze,zd,CLe,zg,hs1]⟩
  ·push_cast [hre];exact ⟨[(4,105,4,zO [k],c)],[],zC rfl (WM (A2 _) g1) g1 g2 qd zw,rfl,rfl,by push_cast [ze,zd,CLe,zg,hs1]⟩
theorem xQ (f:FsV) (hf:FsI f) (hs:FsS f) (p:Lz) (hp:p.length<=1000000):Fun Tryz.prog G0 243 [.agg (fsC f),.str p] (.tup [.agg (jt (isV f p true).1),.agg (J0 (isV f p true).2.1),.sc (.int .i64 (isV f p true).2.2)]) 0:=by
 have h1:=NO f hf hs p hp;have h2:=jm (G:=G0) f (atV f p).1.ino (by have:=hs.len;omega) hf.rises;have e1:(isV f p true).1=(atV f p).1:=rfl;have e2:(isV f p true).2.1=zf (atV f p).1.ino f.xs:=rfl;by_cases h0:(atV f p).2=0
 ·have h0':=eq_true h0;cases hz:zk (atV f p).1.ino f.xs with
  | true =>
   have e3:(isV f p true).2.2=0:=by unfold isV;simp[h0,hz]
   rw[hz]at h2;refine fof (fun i=>if i=4 then Ys [(0,.pure),(1,.pure),(2,.pure),(3,.flt [1,2]),(4,.flt [2]),(5,.pure)] else if i=6 then Ys [(0,.pure),(1,.pure),(2,.flt [1]),(3,.flt []),(4,.pure)] else if i=7 then Ys [(0,.pure),(1,.pure),(2,.flt [1]),(3,.flt []),(4,.pure)] else []) Tryz.func243 ?_;dsimp only[Tryz.f243];push_cast;refine cl h1 ?_;push_cast;refine cl h2 ?_;push_cast [h0'];exact dn (by push_cast [ze,zd,CLe,zg,e1,e2,e3])
  | false =>
   have e3:(isV f p true).2.2=1:=by unfold isV;simp[h0,hz]
   rw[hz]at h2;refine fof (fun i=>if i=4 then Ys [(0,.pure),(1,.pure),(2,.pure),(3,.flt [1,2]),(4,.flt [2]),(5,.pure)] else if i=6 then Ys [(0,.pure),(1,.pure),(2,.flt [1]),(3,.flt []),(4,.pure)] else if i=7 then Ys [(0,.pure),(1,.pure),(2,.flt [1]),(3,.flt []),(4,.pure)] else []) Tryz.func243 ?_;dsimp only[Tryz.f243];push_cast;refine cl h1 ?_;push_cast;refine cl h2 ?_;push_cast [h0'];exact dn (by push_cast [ze,zd,CLe,zg,e1,e2,e3])
 ·have h0':=Wu h0;have e3:(isV f p true).2.2=(atV f p).2:=by unfold isV;simp[h0]
  refine fof (fun i=>if i=4 then Ys [(0,.pure),(1,.pure),(2,.pure),(3,.flt [1,2]),(4,.flt [2]),(5,.pure)] else if i=6 then Ys [(0,.pure),(1,.pure),(2,.flt [1]),(3,.flt []),(4,.pure)] else if i=7 then Ys [(0,.pure),(1,.pure),(2,.flt [1]),(3,.flt []),(4,.pure)] else []) Tryz.func243 ?_;dsimp only[Tryz.f243];push_cast;refine cl h1 ?_;push_cast;refine cl h2 ?_;push_cast [h0',ite_self];exact dn (by push_cast [ze,zd,CLe,zg,e1,e2,e3])
end
end
section
open CA CB
open Go.RowKit
section
variable {G:zt}
theorem zjK (k:zo):Fun Tryz.prog G 249 [.agg (J0 k)] (.sc (.int .i64 k.ino)) 0:=by
 refine fon Tryz.func249 ?_;dsimp only[Tryz.f249];push_cast;exact dn
theorem zav (k:zo) (n:Int):Fun Tryz.prog G 276 [.agg (J0 k),.sc (.int .i64 n),.row [.clo (.func 249) [] []]] (.sc (.int .i64 (UV k.ino n))) 0:=by
 refine fon Tryz.func276 ?_;dsimp only[Tryz.f276];push_cast;refine cl (zjK k) ?_;push_cast;refine cl (uk k.ino n) ?_;push_cast;exact dn
theorem M8 (ks:List zo) (n:Int) (hl:ks.length<=100000) (hR:qT Jk zo.ino ks) :
  Fun Tryz.prog G 180 [.sl 6 (zu ks),.sc (.int .i64 n),.clo (.func 276) [] [.row [.clo (.func 249) [] []]]] (.tup [.sc (.int .i64 (qv Jk zo.ino n ks:Nat)),.sc (.bool (Ya zo.ino n ks))]) 0:=by
 refine fon Tryz.func180 ?_;dsimp only[Tryz.f180];push_cast;refine loop (fun p:Nat×Nat=>⟨[(0,.sl 6 (zu ks)),(1,.sc (.int .i64 n)),(2,.clo (.func 276) [] [.row [.clo (.func 249) [] []]]),(8,.sc (.int .i64 (ks.length:Nat))),(9,.sc (.int .i64 p.1)),(10,.sc (.int .i64 p.2))],[],0,0⟩)
  (fun p=>p.1<=p.2/\p.2<=ks.length/\(∀ t (h:t<ks.length),t<p.1->(Jk).lt (zo.ino ks[t]) n=true)/\∀ t (h:t<ks.length),p.2<=t->(Jk).lt (zo.ino ks[t]) n=false) (fun p=>p.2-p.1) (0,ks.length) ⟨Wc _,Wb _,fun t _ h=>by (simp at h),fun t h h'=>by (dsimp only at h';omega)⟩ ?_ ?_
 ·exact wk (by push_cast [ze,zd,CLe,zg,We])
 ·rintro ⟨i,j⟩ ⟨h1,h2,h3,h4⟩;dsimp only at h1 h2 h3 h4 ⊢;by_cases h:i<j
  ·obtain ⟨m,hm⟩:∃ m,m=(i+j) / 2:=⟨_,rfl⟩;have hmi:((i:Int)+(j:Int)) / 2=(m:Int):=by omega
   have hml:m<ks.length:=by omega
   have hat:=jg ks m hml;have hlt:=(zfl ks[m].ino n);push_cast [h,hmi,hat]
   repeat refine an ?_
   refine cl ((zav ks[m] n)) ?_;push_cast;cases hc:(Jk).lt (zo.ino ks[m]) n with
   | true =>
    have hcv:(UV ks[m].ino n<0)=True:=eq_true (hlt.mpr hc);push_cast [hcv]
    repeat refine an ?_
    refine ⟨(m+1,j),⟨by omega,h2,fun t ht hlt2=>?_,h4⟩,by dsimp only;omega,wk⟩;dsimp only at hlt2;rcases Wr t m with q | q
    ·exact (Jk).tr ((WV.1 hR) t m ht hml q) hc
    ·have:t=m:=by omega
     subst this;exact hc
   | false =>
    have hcv:(UV ks[m].ino n<0)=False:=Wu (fun e=>by have h7:(Jk).lt (zo.ino ks[m]) n=true:=hlt.mp e;rw[hc]at h7;cases h7);push_cast [hcv]
    repeat refine an ?_
    refine ⟨(i,m),⟨by omega,by omega,h3,fun t ht hge=>?_⟩,by dsimp only;omega,wk⟩;dsimp only at hge;rcases Wr m t with q | q
    ·cases h9:(Jk).lt (zo.ino ks[t]) n with
     | false=>rfl
     | true=>have:=(Jk).tr ((WV.1 hR) m t hml ht q) h9;rw[hc]at this;cases this
    ·have:t=m:=by omega
     subst this;exact hc
  ·have hij:i=j:=by omega
   subst hij;have hrk:=ZQ (o:=Jk) (key:=zo.ino) n ks i h2 h3 h4;push_cast [h];refine br (fun hx=>?_) (fun hx=>?_)
   ·have hx:i<ks.length:=by simpa using hx
    have hat:=jg ks i hx;have hh:=y9 n hR hrk hx;push_cast [hx,hat]
    repeat refine an ?_
    refine cl ((zav ks[i] n)) ?_;push_cast;have hcv:decide (UV ks[i].ino n=0)=Ya zo.ino n ks:=by
     rw[hh];exact Bb.2 (zd8 ks[i].ino n)
    push_cast [hcv];exact dn (by push_cast [ze,zd,CLe,zg,hrk])
   ·have hx:¬i<ks.length:=by simpa using hx
    have hh:=Nw n hR (by omega);push_cast [hx];exact dn (by push_cast [ze,zd,CLe,zg,hrk,hh])
theorem zoD (ks:List zo) (n:Int) (hl:ks.length<=100000) (hR:qT Jk zo.ino ks):Fun Tryz.prog G 248 [.sl 6 (zu ks),.sc (.int .i64 n),.clo (.func 249) [] []] (.tup [.sc (.int .i64 (qv Jk zo.ino n ks:Nat)),.sc (.bool (Ya zo.ino n ks))]) 0:=by
 refine fon Tryz.func248 ?_;dsimp only[Tryz.f248];push_cast;refine M7 [.sl 6 (zu ks),.sc (.int .i64 n),.clo (.func 276) [] [.row [.clo (.func 249) [] []]]] (M8 ks n hl hR) rfl ?_ ?_
 ·simp[JA,Yk,C.frz,C.frzL]
 push_cast;exact dn
end
end
section
open CA CB
open Go.RowKit
section
variable {G:zt}
abbrev zpl (w:qV) (kc pc:C):C:=.agg [.sc (.int .i64 w.fs.maxI),.sc (.int .i64 w.fs.maxB),.sc (.int .i64 w.fs.next),.sl 6 (zu w.fs.xs),kc,pc]
def zta (w:qV) (k:zY) (B:List C) (pn pc:Nat) (r:C) (bx':List (List C)) (m:Nat):Prop:=
 m=0/\∃ (c':Nat) (Ls:List (List C)),(Ls = []∨(∃ X,Ls = [X]/\(X.all C.stayB)=true)∨∃ X Y,Ls = [X,Y]/\(X.all C.stayB)=true/\(Y.all C.stayB)=true)/\(zO (qL k w.kept)).length<=c'/\c'<=9223372036854775807/\r=zpl w (.bs (4+Ls.length) 0 4 (zO (qL k w.kept)).length c') (.bs 0 0 6 pn pc) /\
  bx'=B :: [.any,.any,.any,.any,.any,.any] :: [.any,.any,.any,.any] :: [.any,.any,.any,.any,.any,.any] :: (Ls++[qB 4 (zO (qL k w.kept)) c'])
theorem Hq (w:qV) (k:zY) (B:List C) (pn pc:Nat) (hB:(B.all C.stayB)=true) (hl:w.kept.length<=90000) (hR:qT Jk zY.slot w.kept) (hn:yL k.slot w.kept=false):YJ Tryz.prog G 252 [zpl w (.sl 4 (zO w.kept)) (.bs 0 0 6 pn pc),.agg (JJ k)] [B] 0 (zta w k B pn pc):=by
 obtain ⟨_,_,h3,h4⟩:=UB (o:=Jk) k.slot hR;have hll:(zO w.kept).length=w.kept.length:=We ..;have hat:=uv (G:=G) w.kept k.slot (by omega) hR;have hrl:=Z0 (o:=Jk) (key:=zY.slot) k.slot w.kept;have hn':Ya zY.slot k.slot w.kept=false:=hn;rw[hn']at hat;have hw:qL k w.kept=w.kept.take (qv Jk zY.slot k.slot w.kept)++k :: w.kept.drop (qv Jk zY.slot k.slot w.kept):=(h4 hn').2.2 k rfl;have hset:zO (qL k w.kept)=(zO w.kept).take (qv Jk zY.slot k.slot w.kept)++JJ k :: (zO w.kept).drop (qv Jk zY.slot k.slot w.kept):=by rw[hw];simp
 have hsl:(zO (qL k w.kept)).length=(zO w.kept).length+1:=by rw[hset];simp;omega
 refine foX (fun i=>if i=2 then Ys [(0,.pure),(1,.pure),(2,.pure),(4,.pure),(5,.pure),(6,.pure),(3,.flt [3,4,5]),(7,.bar),(8,.pure),(9,.pure),(10,.bar)] else []) Tryz.func252 ?_;dsimp only[Tryz.f252];have hBr:∀ fp fo,C.reL fp fo B=B:=fun fp fo=>zG hB;push_cast;refine cl hat ?_;push_cast;refine zoO [] (H8 (zO w.kept) qd zw (by omega)) (by decide) (by simp) (by push_cast) (by push_cast) (fun r bx' m hp=>?_);obtain ⟨rfl,⟨hne,c,h1,h2,rfl,rfl⟩ | ⟨he,⟨rfl,rfl⟩ | ⟨rfl,rfl⟩⟩⟩:=hp
 ·have hbl:=JM qd h1;have hre:∀ fp fo,C.reL fp fo (qB 4 (zO w.kept) c)=qB 4 (zO w.kept) c:=fun fp fo=>zG (zI zw);have hpos:=WB.2 hne;have hre2:∀ fp fo c,C.reL fp fo (qB 4 (zO (qL k w.kept)) c)=qB 4 (zO (qL k w.kept)) c:=fun fp fo c=>zG (zI zw);push_cast [hre,hBr];refine ju [5] [0] (UJ (e:=105) (zO w.kept) (JJ k) (qv Jk zY.slot k.slot w.kept) c qd rfl zw rfl (by omega) (by omega) h1 h2) rfl (by decide) (by decide) (by simp) (by push_cast [hBr]) (by push_cast [hre,hBr]) (fun r bx' m hp=>?_);rw[←hset]at hp;obtain ⟨rfl,c',g1,g2,⟨rfl,rfl⟩ | ⟨rfl,rfl⟩⟩:=hp
  ·push_cast [hre2,hre,hBr];refine ⟨_,_,0,⟨⟨rfl,c',[[]],.inr (.inl ⟨[],rfl,rfl⟩),g1,g2,rfl,rfl⟩,by simp⟩,[],rfl,rfl,?_,by push_cast [ze,zd,CLe,zg]⟩;push_cast [ze,zd,CLe,zg];exact ⟨zV hB,zV (zI zw)⟩
  ·have hra:∀ fp fo,C.reL fp fo (List.replicate (c*4) .any)=List.replicate (c*4) .any:=fun fp fo=>zG (by simp[OK,C.stayB]);push_cast [hre2,hre,hra,hBr];refine ⟨_,_,0,⟨⟨rfl,c',[[],List.replicate (c*4) .any],.inr (.inr ⟨[],_,rfl,rfl,by simp[OK,C.stayB]⟩),g1,g2,rfl,rfl⟩,by simp⟩,[],rfl,rfl,?_,by push_cast [ze,zd,CLe,zg]⟩;push_cast [ze,zd,CLe,zg];exact ⟨zV hB,zV (by simp[OK,C.stayB]),zV (zI zw)⟩
 ·have he:w.kept = []:=by simpa using he
  have hr0:qv Jk zY.slot k.slot w.kept=0:=by rw[he];rfl
  have hs1:qL k w.kept = [k]:=by rw[he];rfl
  push_cast [hr0];refine ju [] [0] (zaA (e:=105) (JJ k) rfl rfl) rfl (by decide) (by decide) (by simp) (by push_cast) (by push_cast) (fun r bx' m hp=>?_);obtain ⟨rfl,c,g1,g2,rfl,rfl⟩:=hp;have hre:∀ fp fo,C.reL fp fo (qB 4 [JJ k] c)=qB 4 [JJ k] c:=fun fp fo=>zG (zI (zw (ks:=[k])));push_cast [hre,hBr];refine ⟨zpl w (.bs 4 0 4 1 c) (.bs 0 0 6 pn pc),B :: [.any,.any,.any,.any,.any,.any] :: [.any,.any,.any,.any] :: [.any,.any,.any,.any,.any,.any] :: ([]++[qB 4 [JJ k] c]),0,⟨⟨rfl,c,[],.inl rfl,by rw[hs1];exact g1,g2,by rw[hs1];rfl,by rw[hs1];rfl⟩,by simp⟩,[],rfl,rfl,?_,by push_cast [ze,zd,CLe,zg]⟩;push_cast [ze,zd,CLe,zg];exact ⟨zV hB,zV (zI (zw (ks:=[k])))⟩
 ·have he:w.kept = []:=by simpa using he
  have hr0:qv Jk zY.slot k.slot w.kept=0:=by rw[he];rfl
  have hs1:qL k w.kept = [k]:=by rw[he];rfl
  push_cast [hr0];refine ju [4] [0] (UJ (e:=105) [] (JJ k) 0 0 (fun r hr=>by cases hr) rfl (fun r hr=>by cases hr) rfl (by simp) (by simp) (by simp) (by simp)) rfl (by decide) (by decide) (by simp) (by push_cast) (by push_cast [qB]) (fun r bx' m hp=>?_);obtain ⟨rfl,c,g1,g2,hp⟩:=hp;have hre:∀ fp fo,C.reL fp fo (qB 4 [JJ k] c)=qB 4 [JJ k] c:=fun fp fo=>zG (zI (zw (ks:=[k])));rcases hp with ⟨rfl,rfl⟩ | ⟨rfl,rfl⟩
  ·push_cast [hre,hBr];refine ⟨zpl w (.bs 4 0 4 1 c) (.bs 0 0 6 pn pc),B :: [.any,.any,.any,.any,.any,.any] :: [.any,.any,.any,.any] :: [.any,.any,.any,.any,.any,.any] :: ([]++[qB 4 [JJ k] c]),0,⟨⟨rfl,c,[],.inl rfl,by rw[hs1];exact g1,g2,by rw[hs1];rfl,by rw[hs1];rfl⟩,by simp⟩,[],rfl,rfl,?_,by push_cast [ze,zd,CLe,zg]⟩;push_cast [ze,zd,CLe,zg];exact ⟨zV hB,zV (zI (zw (ks:=[k])))⟩
  ·push_cast [hre,hBr];refine ⟨zpl w (.bs 5 0 4 1 c) (.bs 0 0 6 pn pc),B :: [.any,.any,.any,.any,.any,.any] :: [.any,.any,.any,.any] :: [.any,.any,.any,.any,.any,.any] :: ([[]]++[qB 4 [JJ k] c]),0,⟨⟨rfl,c,[[]],.inr (.inl ⟨[],rfl,rfl⟩),by rw[hs1];exact g1,g2,by rw[hs1];rfl,by rw[hs1];rfl⟩,by simp⟩,[],rfl,rfl,?_,by push_cast [ze,zd,CLe,zg]⟩;push_cast [ze,zd,CLe,zg];exact ⟨zV hB,zV (zI (zw (ks:=[k])))⟩
end
end
section
open CA CB
open Go.RowKit
theorem jD {bx:List (List C)} {a b:Nat×TypeId×Nat×List (List C)×Nat} (h1:zb3 [a] bx) (h2:zb3 [b] bx) (hne:a.1≠b.1):zb3 [a,b] bx:=⟨by simp[hne],fun x hx=>by
 rcases WK.1 hx with rfl | hx
 ·exact h1.2 _ Wl
 ·exact h2.2 _ hx⟩
theorem zcG (hf:FsI f) {s:zK} (hs:zx f s):(zl f s).xs.length<=f.xs.length:=by
 have hi:=zx.ino hf hs;have hl:=jq (F:=zi s.name) hf.rises hs.has;unfold zl;split
 ·show (qf _ _).length<=_;exact WL ZZ (by rw[hl];exact Wb _)
 ·show (qq _ _).length<=_;rw[JQ (show qc (qr s.dir (zi s.name) f.xs) from z8 hf.rises) ?_,hl]
  ·exact Wb _
  ·show zk (zf s.ino f.xs).ino (qr _ _ _)=true;rw[(zj hi).2.2,zP hs.has];exact hi
theorem zlA (h:qc xs):qT Jk zo.ino xs:=List.Pairwise.imp (fun {a b} h=>by show decide (a.ino<b.ino)=true;exact Wm h) h
theorem zlZ (x:zo):∀ xs:List zo,ZH x xs=Q5 Jk zo.ino x xs
 | []=>rfl
 | y :: r=>by
  unfold ZH Q5;rw[zlZ x r];have e:Jk.lt x.ino y.ino=decide (x.ino<y.ino):=rfl;rw[e];by_cases h:x.ino<y.ino
  ·rw[if_pos h,if_pos (Wm h)]
  ·rw[if_neg h,if_neg (by simpa using h)]
theorem znG (hR:qc xs) (h:∀ y∈xs,y.ino≠x.ino):qq x xs=xs.take (qv Jk zo.ino x.ino xs)++x :: xs.drop (qv Jk zo.ino x.ino xs):=by
 have h1:qf x.ino xs=xs:=BV.2 fun y hy=>by simpa using h y hy
 have h2:Ya zo.ino x.ino xs=false:=by
  unfold Ya;rw[Og];intro y hy;simpa using h y hy
 obtain ⟨_,_,_,h4⟩:=UB (o:=Jk) x.ino (zlA hR);unfold qq;rw[h1,zlZ];exact (h4 h2).2.2 x rfl
theorem zir (w:qV) (hw:UE w) (hs:FsS w.fs) (hk:w.kept.length<=90000) (hp:w.pool.length<=90000) (n:Int) (s:zK) (hsp:zx w.fs s) (he:(zf s.ino w.fs.xs).es = []):Fun Tryz.prog G0 216 [ZB w,.sc (.int .i64 n),.agg (jt s)] (.tup [ZB (Xp w n s).1,.sc (.int .i64 (Xp w n s).2)]) 0:=by
 have hf:=hw.fs;have hlen:=hs.len;have hino:=hsp.ino hf;have h1:=zfu (G:=G0) w n (by omega) hw.kept;cases hh:yL n w.kept with
 | true =>
  have e:Xp w n s=(w,13):=by unfold Xp;rw[hh];rfl
  rw[hh]at h1;refine fof (fun i=>if i=10 then Ys [(0,.pure),(1,.pure),(2,.pure),(4,.pure),(5,.pure),(6,.pure),(3,.flt [3,4,5]),(7,.bar),(8,.pure),(9,.pure),(10,.bar)] else []) Tryz.func216 ?_;dsimp only[Tryz.f216];push_cast;refine cl h1 ?_;push_cast;exact dn (by push_cast [ze,zd,CLe,zg,e])
 | false =>
  rw[hh]at h1;have hg:=jm (G:=G0) w.fs s.ino (by omega) hf.rises;rw[hino]at hg;have hne:s.dir≠s.ino:=fun e=>by
   have:=hsp.there;rw[e,he]at this;cases this
  have hu:=zbO w.fs hf hs s hsp hne;have hul:=zcG hf hsp;have hg2:=jm (G:=G0) (zl w.fs s) s.ino (by omega) (kK hf hsp he).rises;rw[QT hsp.has hino]at hg2;by_cases hz:(zf s.ino w.fs.xs).links=1
  ·rw[if_pos (show (zf s.ino w.fs.xs).links-1=0 by omega)]at hg2;simp only[decide_true,AR,Od]at hg2;have hxi:=(zj hino).2.2;have hno:∀ y∈w.pool,y.ino≠s.ino:=fun y hy e=>by
    have:=(hw.apart y hy).1;rw[e,hino]at this;cases this
   have hnk:Ya zo.ino s.ino w.pool=false:=by
    unfold Ya;rw[Og];intro y hy;simpa using hno y hy
   have e:Xp w n s=(⟨zl w.fs s,qL ⟨n,s.ino,false,[]⟩ w.kept,qq { zf s.ino w.fs.xs with links:=0,parent:=0 } w.pool⟩,0):=by unfold Xp;rw[hh,if_pos hz];rfl
   have hset:=znG (x:={ zf s.ino w.fs.xs with links:=0,parent:=0 }) hw.pool (fun y hy=>by rw[show ({ zf s.ino w.fs.xs with links:=0,parent:=0 }:zo).ino=(zf s.ino w.fs.xs).ino from rfl,hxi];exact hno y hy);rw[show ({ zf s.ino w.fs.xs with links:=0,parent:=0 }:zo).ino=s.ino from hxi]at hset;have hat:=zoD (G:=G0) w.pool s.ino (by omega) (zlA hw.pool);rw[hnk]at hat;have hll:(zu w.pool).length=w.pool.length:=We ..;have hrl:=Z0 (o:=Jk) (key:=zo.ino) s.ino w.pool;generalize qv Jk zo.ino s.ino w.pool=r at *;generalize hpl:qq { zf s.ino w.fs.xs with links:=0,parent:=0 } w.pool=pl at *;have hpc:zu pl=(zu w.pool).take r++[.sc (.int .i64 s.ino),.sc (.int .i64 (zf s.ino w.fs.xs).kind),.sc (.int .i64 0),.str (zf s.ino w.fs.xs).data,.sc (.int .i64 0),.sl 2 (zJ (zf s.ino w.fs.xs).es)] :: (zu w.pool).drop r:=by rw[hset];simp[hxi]
   have hpl1:(zu pl).length=(zu w.pool).length+1:=by rw[hpc];simp;omega
   have hre2:∀ fp fo c,C.reL fp fo (qB 6 (zu pl) c)=qB 6 (zu pl) c:=fun fp fo c=>zG (zI zB);have hre4:∀ fp fo c,C.reL fp fo (qB 4 (zO (qL ⟨n,s.ino,false,[]⟩ w.kept)) c)=qB 4 (zO (qL ⟨n,s.ino,false,[]⟩ w.kept)) c:=fun fp fo c=>zG (zI zw);have hkp:0<(zO (qL ⟨n,s.ino,false,[]⟩ w.kept)).length:=by rw[We,qL,UI];omega
   refine foF (fun i=>if i=10 then Ys [(0,.pure),(1,.pure),(2,.pure),(4,.pure),(5,.pure),(6,.pure),(3,.flt [3,4,5]),(7,.bar),(8,.pure),(9,.pure),(10,.bar)] else []) Tryz.func216 ?_;dsimp only[Tryz.f216];push_cast;refine cl h1 ?_;push_cast;refine cl hg ?_;push_cast;refine cl hu ?_;push_cast;refine cl hg2 ?_;push_cast;rw[hxi];refine cl hat ?_;push_cast;refine zoO [] (V2 (zu w.pool) z7 zB (by omega)) (by decide) (by simp) (by push_cast) (by push_cast) (fun r0 bx' m hp=>?_);obtain ⟨rfl,⟨hne',c,c1,c2,rfl,rfl⟩ | ⟨hnil,⟨rfl,rfl⟩ | ⟨rfl,rfl⟩⟩⟩:=hp
   ·have hbl:=JM z7 c1;have hre:∀ fp fo,C.reL fp fo (qB 6 (zu w.pool) c)=qB 6 (zu w.pool) c:=fun fp fo=>zG (zI zB);push_cast [hre];refine ju [7] [0] (UK (e:=64) (zu w.pool) [.sc (.int .i64 s.ino),.sc (.int .i64 (zf s.ino w.fs.xs).kind),.sc (.int .i64 0),.str (zf s.ino w.fs.xs).data,.sc (.int .i64 0),.sl 2 (zJ (zf s.ino w.fs.xs).es)] r c z7 rfl zB rfl (by omega) (by omega) c1 c2) rfl (by decide) (by decide) (by simp) (by push_cast) (by push_cast [hre]) (fun r1 bx' m hp=>?_);rw[←hpc]at hp;obtain ⟨rfl,c',g1,g2,⟨rfl,rfl⟩ | ⟨rfl,rfl⟩⟩:=hp
    ·push_cast [hre2,hre];refine ju [7] [] (Hq (G:=G0) { w with fs:=zl w.fs s } ⟨n,s.ino,false,[]⟩ (qB 6 (zu pl) c') (zu pl).length c' (zI zB) hk hw.kept hh) rfl (by decide) (by decide) (by simp) (by push_cast) (by push_cast [hre2]) (fun r2 bx' m hp=>?_);obtain ⟨rfl,c3,Ls,hLs,k1,k2,rfl,rfl⟩:=hp;rcases hLs with rfl | ⟨X,rfl,hX⟩ | ⟨X,Y,rfl,hX,hY⟩
     ·push_cast [hre2,hre4];exact ⟨[(11,105,4,zO (qL ⟨n,s.ino,false,[]⟩ w.kept),c3),(7,64,6,zu pl,c')],[],jD (zC rfl (WM hkp k1) k1 k2 qd zw) (zC rfl (by omega) g1 g2 z7 zB) (show (11:Nat)≠7 by decide),rfl,rfl,by push_cast [ze,zd,CLe,zg,e,AN,Oi]⟩
     ·have hXr:∀ fp fo,C.reL fp fo X=X:=fun fp fo=>zG hX;push_cast [hre2,hre4,hXr];exact ⟨[(12,105,4,zO (qL ⟨n,s.ino,false,[]⟩ w.kept),c3),(7,64,6,zu pl,c')],[],jD (zC rfl (WM hkp k1) k1 k2 qd zw) (zC rfl (by omega) g1 g2 z7 zB) (show (12:Nat)≠7 by decide),rfl,rfl,by push_cast [ze,zd,CLe,zg,e,AN,Oi]⟩
     ·have hXr:∀ fp fo,C.reL fp fo X=X:=fun fp fo=>zG hX;have hYr:∀ fp fo,C.reL fp fo Y=Y:=fun fp fo=>zG hY;push_cast [hre2,hre4,hXr,hYr];exact ⟨[(13,105,4,zO (qL ⟨n,s.ino,false,[]⟩ w.kept),c3),(7,64,6,zu pl,c')],[],jD (zC rfl (WM hkp k1) k1 k2 qd zw) (zC rfl (by omega) g1 g2 z7 zB) (show (13:Nat)≠7 by decide),rfl,rfl,by push_cast [ze,zd,CLe,zg,e,AN,Oi]⟩
    ·have hra:∀ fp fo,C.reL fp fo (List.replicate (c*6) .any)=List.replicate (c*6) .any:=fun fp fo=>zG (by simp[OK,C.stayB]);push_cast [hre2,hre,hra];refine ju [8] [] (Hq (G:=G0) { w with fs:=zl w.fs s } ⟨n,s.ino,false,[]⟩ (qB 6 (zu pl) c') (zu pl).length c' (zI zB) hk hw.kept hh) rfl (by decide) (by decide) (by simp) (by push_cast) (by push_cast [hre2,hra]) (fun r2 bx' m hp=>?_);obtain ⟨rfl,c3,Ls,hLs,k1,k2,rfl,rfl⟩:=hp;rcases hLs with rfl | ⟨X,rfl,hX⟩ | ⟨X,Y,rfl,hX,hY⟩
     ·push_cast [hre2,hre4,hra];exact ⟨[(12,105,4,zO (qL ⟨n,s.ino,false,[]⟩ w.kept),c3),(8,64,6,zu pl,c')],[],jD (zC rfl (WM hkp k1) k1 k2 qd zw) (zC rfl (by omega) g1 g2 z7 zB) (show (12:Nat)≠8 by decide),rfl,rfl,by push_cast [ze,zd,CLe,zg,e,AN,Oi]⟩
     ·have hXr:∀ fp fo,C.reL fp fo X=X:=fun fp fo=>zG hX;push_cast [hre2,hre4,hra,hXr];exact ⟨[(13,105,4,zO (qL ⟨n,s.ino,false,[]⟩ w.kept),c3),(8,64,6,zu pl,c')],[],jD (zC rfl (WM hkp k1) k1 k2 qd zw) (zC rfl (by omega) g1 g2 z7 zB) (show (13:Nat)≠8 by decide),rfl,rfl,by push_cast [ze,zd,CLe,zg,e,AN,Oi]⟩
     ·have hXr:∀ fp fo,C.reL fp fo X=X:=fun fp fo=>zG hX;have hYr:∀ fp fo,C.reL fp fo Y=Y:=fun fp fo=>zG hY;push_cast [hre2,hre4,hra,hXr,hYr];exact ⟨[(14,105,4,zO (qL ⟨n,s.ino,false,[]⟩ w.kept),c3),(8,64,6,zu pl,c')],[],jD (zC rfl (WM hkp k1) k1 k2 qd zw) (zC rfl (by omega) g1 g2 z7 zB) (show (14:Nat)≠8 by decide),rfl,rfl,by push_cast [ze,zd,CLe,zg,e,AN,Oi]⟩
   ·have hpe:w.pool = []:=by simpa using hnil
    have hr0:r=0:=by rw[hpe]at hrl;exact Nat.le_zero.1 hrl
    subst hr0;have hq:zu pl = [[.sc (.int .i64 s.ino),.sc (.int .i64 (zf s.ino w.fs.xs).kind),.sc (.int .i64 0),.str (zf s.ino w.fs.xs).data,.sc (.int .i64 0),.sl 2 (zJ (zf s.ino w.fs.xs).es)]]:=by rw[hpc,hpe];rfl
    push_cast;refine ju [] [0] (zak (e:=64) [.sc (.int .i64 s.ino),.sc (.int .i64 (zf s.ino w.fs.xs).kind),.sc (.int .i64 0),.str (zf s.ino w.fs.xs).data,.sc (.int .i64 0),.sl 2 (zJ (zf s.ino w.fs.xs).es)] rfl rfl) rfl (by decide) (by decide) (by simp) (by push_cast) (by push_cast) (fun r1 bx' m hp=>?_);have hp:m=0/\∃ c,(zu pl).length<=c/\c<=9223372036854775807/\r1 = .bs 0 0 6 (zu pl).length c/\bx' = [qB 6 (zu pl) c]:=by rw[hq];exact hp
    obtain ⟨rfl,c',g1,g2,rfl,rfl⟩:=hp;push_cast [hre2];refine ju [6] [] (Hq (G:=G0) { w with fs:=zl w.fs s } ⟨n,s.ino,false,[]⟩ (qB 6 (zu pl) c') (zu pl).length c' (zI zB) hk hw.kept hh) rfl (by decide) (by decide) (by simp) (by push_cast) (by push_cast [hre2]) (fun r2 bx' m hp=>?_);obtain ⟨rfl,c3,Ls,hLs,k1,k2,rfl,rfl⟩:=hp;rcases hLs with rfl | ⟨X,rfl,hX⟩ | ⟨X,Y,rfl,hX,hY⟩
    ·push_cast [hre2,hre4];exact ⟨[(10,105,4,zO (qL ⟨n,s.ino,false,[]⟩ w.kept),c3),(6,64,6,zu pl,c')],[],jD (zC rfl (WM hkp k1) k1 k2 qd zw) (zC rfl (by omega) g1 g2 z7 zB) (show (10:Nat)≠6 by decide),rfl,rfl,by push_cast [ze,zd,CLe,zg,e,AN,Oi]⟩
    ·have hXr:∀ fp fo,C.reL fp fo X=X:=fun fp fo=>zG hX;push_cast [hre2,hre4,hXr];exact ⟨[(11,105,4,zO (qL ⟨n,s.ino,false,[]⟩ w.kept),c3),(6,64,6,zu pl,c')],[],jD (zC rfl (WM hkp k1) k1 k2 qd zw) (zC rfl (by omega) g1 g2 z7 zB) (show (11:Nat)≠6 by decide),rfl,rfl,by push_cast [ze,zd,CLe,zg,e,AN,Oi]⟩
    ·have hXr:∀ fp fo,C.reL fp fo X=X:=fun fp fo=>zG hX;have hYr:∀ fp fo,C.reL fp fo Y=Y:=fun fp fo=>zG hY;push_cast [hre2,hre4,hXr,hYr];exact ⟨[(12,105,4,zO (qL ⟨n,s.ino,false,[]⟩ w.kept),c3),(6,64,6,zu pl,c')],[],jD (zC rfl (WM hkp k1) k1 k2 qd zw) (zC rfl (by omega) g1 g2 z7 zB) (show (12:Nat)≠6 by decide),rfl,rfl,by push_cast [ze,zd,CLe,zg,e,AN,Oi]⟩
   ·have hpe:w.pool = []:=by simpa using hnil
    have hr0:r=0:=by rw[hpe]at hrl;exact Nat.le_zero.1 hrl
    subst hr0;have hq:zu pl = [[.sc (.int .i64 s.ino),.sc (.int .i64 (zf s.ino w.fs.xs).kind),.sc (.int .i64 0),.str (zf s.ino w.fs.xs).data,.sc (.int .i64 0),.sl 2 (zJ (zf s.ino w.fs.xs).es)]]:=by rw[hpc,hpe];rfl
    push_cast;refine ju [6] [0] (UK (e:=64) [] [.sc (.int .i64 s.ino),.sc (.int .i64 (zf s.ino w.fs.xs).kind),.sc (.int .i64 0),.str (zf s.ino w.fs.xs).data,.sc (.int .i64 0),.sl 2 (zJ (zf s.ino w.fs.xs).es)] 0 0 (fun r hr=>by cases hr) rfl (fun r hr=>by cases hr) rfl (by simp) (by simp) (by simp) (by simp)) rfl (by decide) (by decide) (by simp) (by push_cast) (by push_cast [qB]) (fun r1 bx' m hp=>?_);have hp:zr8 6 (0*6) (zu pl) r1 bx' m:=by rw[hq];exact hp
    obtain ⟨rfl,c',g1,g2,⟨rfl,rfl⟩ | ⟨rfl,rfl⟩⟩:=hp
    ·push_cast [hre2];refine ju [6] [] (Hq (G:=G0) { w with fs:=zl w.fs s } ⟨n,s.ino,false,[]⟩ (qB 6 (zu pl) c') (zu pl).length c' (zI zB) hk hw.kept hh) rfl (by decide) (by decide) (by simp) (by push_cast) (by push_cast [hre2]) (fun r2 bx' m hp=>?_);obtain ⟨rfl,c3,Ls,hLs,k1,k2,rfl,rfl⟩:=hp;rcases hLs with rfl | ⟨X,rfl,hX⟩ | ⟨X,Y,rfl,hX,hY⟩
     ·push_cast [hre2,hre4];exact ⟨[(10,105,4,zO (qL ⟨n,s.ino,false,[]⟩ w.kept),c3),(6,64,6,zu pl,c')],[],jD (zC rfl (WM hkp k1) k1 k2 qd zw) (zC rfl (by omega) g1 g2 z7 zB) (show (10:Nat)≠6 by decide),rfl,rfl,by push_cast [ze,zd,CLe,zg,e,AN,Oi]⟩
     ·have hXr:∀ fp fo,C.reL fp fo X=X:=fun fp fo=>zG hX;push_cast [hre2,hre4,hXr];exact ⟨[(11,105,4,zO (qL ⟨n,s.ino,false,[]⟩ w.kept),c3),(6,64,6,zu pl,c')],[],jD (zC rfl (WM hkp k1) k1 k2 qd zw) (zC rfl (by omega) g1 g2 z7 zB) (show (11:Nat)≠6 by decide),rfl,rfl,by push_cast [ze,zd,CLe,zg,e,AN,Oi]⟩
     ·have hXr:∀ fp fo,C.reL fp fo X=X:=fun fp fo=>zG hX;have hYr:∀ fp fo,C.reL fp fo Y=Y:=fun fp fo=>zG hY;push_cast [hre2,hre4,hXr,hYr];exact ⟨[(12,105,4,zO (qL ⟨n,s.ino,false,[]⟩ w.kept),c3),(6,64,6,zu pl,c')],[],jD (zC rfl (WM hkp k1) k1 k2 qd zw) (zC rfl (by omega) g1 g2 z7 zB) (show (12:Nat)≠6 by decide),rfl,rfl,by push_cast [ze,zd,CLe,zg,e,AN,Oi]⟩
    ·push_cast [hre2];refine ju [7] [] (Hq (G:=G0) { w with fs:=zl w.fs s } ⟨n,s.ino,false,[]⟩ (qB 6 (zu pl) c') (zu pl).length c' (zI zB) hk hw.kept hh) rfl (by decide) (by decide) (by simp) (by push_cast) (by push_cast [hre2]) (fun r2 bx' m hp=>?_);obtain ⟨rfl,c3,Ls,hLs,k1,k2,rfl,rfl⟩:=hp;rcases hLs with rfl | ⟨X,rfl,hX⟩ | ⟨X,Y,rfl,hX,hY⟩
     ·push_cast [hre2,hre4];exact ⟨[(11,105,4,zO (qL ⟨n,s.ino,false,[]⟩ w.kept),c3),(7,64,6,zu pl,c')],[],jD (zC rfl (WM hkp k1) k1 k2 qd zw) (zC rfl (by omega) g1 g2 z7 zB) (show (11:Nat)≠7 by decide),rfl,rfl,by push_cast [ze,zd,CLe,zg,e,AN,Oi]⟩
     ·have hXr:∀ fp fo,C.reL fp fo X=X:=fun fp fo=>zG hX;push_cast [hre2,hre4,hXr];exact ⟨[(12,105,4,zO (qL ⟨n,s.ino,false,[]⟩ w.kept),c3),(7,64,6,zu pl,c')],[],jD (zC rfl (WM hkp k1) k1 k2 qd zw) (zC rfl (by omega) g1 g2 z7 zB) (show (12:Nat)≠7 by decide),rfl,rfl,by push_cast [ze,zd,CLe,zg,e,AN,Oi]⟩
     ·have hXr:∀ fp fo,C.reL fp fo X=X:=fun fp fo=>zG hX;have hYr:∀ fp fo,C.reL fp fo Y=Y:=fun fp fo=>zG hY;push_cast [hre2,hre4,hXr,hYr];exact ⟨[(13,105,4,zO (qL ⟨n,s.ino,false,[]⟩ w.kept),c3),(7,64,6,zu pl,c')],[],jD (zC rfl (WM hkp k1) k1 k2 qd zw) (zC rfl (by omega) g1 g2 z7 zB) (show (13:Nat)≠7 by decide),rfl,rfl,by push_cast [ze,zd,CLe,zg,e,AN,Oi]⟩
  ·have hz2:¬(zf s.ino w.fs.xs).links-1=0:=by omega
   rw[if_neg hz2,hino]at hg2;have e:Xp w n s=({ w with fs:=zl w.fs s,kept:=qL ⟨n,s.ino,false,[]⟩ w.kept },0):=by unfold Xp;rw[hh,if_neg hz];rfl
   have hwi:=zho (G:=G0) { w with fs:=zl w.fs s } ⟨n,s.ino,false,[]⟩ hk hw.kept hh;refine fof (fun i=>if i=10 then Ys [(0,.pure),(1,.pure),(2,.pure),(4,.pure),(5,.pure),(6,.pure),(3,.flt [3,4,5]),(7,.bar),(8,.pure),(9,.pure),(10,.bar)] else []) Tryz.func216 ?_;dsimp only[Tryz.f216];push_cast;refine cl h1 ?_;push_cast;refine cl hg ?_;push_cast;refine cl hu ?_;push_cast;refine cl hg2 ?_;push_cast;refine cl hwi ?_;push_cast;exact dn (by push_cast [ze,zd,CLe,zg,e])
end
section
open CA CB
open Go.RowKit
end
section
open CA CB
open Go.RowKit
theorem zpS (hf:FsI f) (p:Lz):(atV f p).1.ino≠0->zk (atV f p).1.ino f.xs=true:=by
 unfold atV;split
 ·exact vH hf (zn p) ⟨0,[],1⟩ fun _=>hf.root
 ·intro h;exact absurd rfl h
theorem zfQ (hf:FsI f) (p:Lz):zk (atV f p).1.ino f.xs = !decide ((atV f p).1.ino=0):=by
 by_cases h:(atV f p).1.ino=0
 ·rw[Wm h];cases hh:zk (atV f p).1.ino f.xs with
  | false=>rfl
  | true=>exact absurd h (Xq hf hh)
 ·rw[zpS hf p h,Wk h];rfl
theorem zkI (f:FsV) (hf:FsI f) (hs:FsS f) (p:Lz) (hp:p.length<=1000000):Fun Tryz.prog G0 238 [.agg (fsC f),.str p] (.tup [.agg (jt (isV f p false).1),.sc (.int .i64 (isV f p false).2.2)]) 0:=by
 have h1:=NO f hf hs p hp;have hi:=zfQ hf p;have e1:(isV f p false).1=(atV f p).1:=rfl;by_cases h0:(atV f p).2=0
 ·have h0':=eq_true h0;by_cases hz:(atV f p).1.ino=0
  ·have hz':=eq_true hz;rw[Wm hz]at hi;have e3:(isV f p false).2.2=0:=by unfold isV;simp[h0,hi]
   refine fon Tryz.func238 ?_;dsimp only[Tryz.f238];push_cast;refine cl h1 ?_;push_cast [h0',hz'];exact dn (by push_cast [ze,zd,CLe,zg,e1,e3])
  ·have hz':=Wu hz;rw[Wk hz]at hi;have e3:(isV f p false).2.2=2:=by unfold isV;simp[h0,hi]
   refine fon Tryz.func238 ?_;dsimp only[Tryz.f238];push_cast;refine cl h1 ?_;push_cast [h0',hz'];exact dn (by push_cast [ze,zd,CLe,zg,e1,e3])
 ·have h0':=Wu h0;have e3:(isV f p false).2.2=(atV f p).2:=by unfold isV;simp[h0]
  refine fon Tryz.func238 ?_;dsimp only[Tryz.f238];push_cast;refine cl h1 ?_;push_cast [h0'];exact dn (by push_cast [ze,zd,CLe,zg,e1,e3])
structure zl4 (w:qV):Prop where
 fs:FsS w.fs
 next:zte w.fs
 kept:w.kept.length<=10000
 pool:w.pool.length<=10000
end
section
open CA CB
open Go.RowKit
theorem zhn (hf:FsI f) {p:Lz} (h:(isV f p false).2.2=0):(isV f p false).1.ino=0:=by
 have hz:=VI h;have hi:=zfQ hf p;unfold isV at h ⊢;simp only[hz]at h ⊢;by_cases h0:(atV f p).1.ino=0
 ·exact h0
 ·rw[Wk h0]at hi;rw[hi]at h;simp at h
theorem zf0 (w:qV) (hw:UE w) (hs:zl4 w) (o:OpV) (ho:zdE o) (pa:qG o.a=true) (pb:qG o.b=true):Fun Tryz.prog G0 212 [ZB w,.agg (opL o)] (.tup [ZB (JV w o).1,.sc (.int .i64 (JV w o).2)]) 0:=by
 have h1:=xQ w.fs hw.fs hs.fs o.a ho.1;have h2:=zkI w.fs hw.fs hs.fs o.b ho.2.1;unfold opL;by_cases h0:(isV w.fs o.a true).2.2=0
 ·have h0':=eq_true h0;obtain ⟨t1,t2⟩:=j5 hw.fs pa h0;by_cases hb:(isV w.fs o.b false).2.2=0
  ·have hb':=eq_true hb;have hfree:=Yw hw.fs pb hb;have hn:=ziX w.fs hw.fs hs.fs (isV w.fs o.a true).1 (isV w.fs o.b false).1 t1 hfree (zhn hw.fs hb);have e:JV w o=({ w with fs:=jN w.fs (isV w.fs o.a true).1 (isV w.fs o.b false).1 },0):=by unfold JV;simp[h0,hb]
   refine fon Tryz.func212 ?_;dsimp only[Tryz.f212];push_cast;refine cl h1 ?_;push_cast [h0'];refine cl h2 ?_;push_cast [hb'];refine cl hn ?_;push_cast;exact dn (by push_cast [ze,zd,CLe,zg,e,hb])
  ·have hb':=Wu hb;have e:JV w o=(w,(isV w.fs o.b false).2.2):=by unfold JV;simp[h0,hb]
   refine fon Tryz.func212 ?_;dsimp only[Tryz.f212];push_cast;refine cl h1 ?_;push_cast [h0'];refine cl h2 ?_;push_cast [hb'];exact dn (by push_cast [ze,zd,CLe,zg,e])
 ·have h0':=Wu h0;have e:JV w o=(w,(isV w.fs o.a true).2.2):=by unfold JV;simp[h0]
  refine fon Tryz.func212 ?_;dsimp only[Tryz.f212];push_cast;refine cl h1 ?_;push_cast [h0'];exact dn (by push_cast [ze,zd,CLe,zg,e])
end
section
open CA CB
open Go.RowKit
theorem zdc (w:qV) (hw:UE w) (hs:zl4 w) (o:OpV) (s:zK) (hsp:zx w.fs s) (he:(zf s.ino w.fs.xs).es = []):Mr Tryz.prog G0 215 [.agg (jt s),.ptr 0 0,.ptr 1 0] [Mq w,opL o] 0 (.tup [ZB (Xp w o.slot s).1,.sc (.int .i64 (Xp w o.slot s).2)]) [Mq w,opL o] 0:=by
 have h:=zir w hw hs.fs (by have:=hs.kept;omega) (by have:=hs.pool;omega) o.slot s hsp he;unfold opL;refine foB (fun _=>[]) Tryz.func215 ?_;dsimp only[Tryz.f215];push_cast;refine cl h ?_;push_cast;exact ⟨[],rfl,rfl,by push_cast [ze,zd,CLe,zg],by push_cast [ze,zd,CLe,zg]⟩
theorem zkx (w:qV) (hw:UE w) (hs:zl4 w) (o:OpV) (ho:zdE o) (pa:qG o.a=true):Mr Tryz.prog G0 214 [ZB w,.str o.a,.clo (.func 215) [] [.ptr 0 0,.ptr 1 0]] [Mq w,opL o] 0 (.tup [ZB (qW w o).1,.sc (.int .i64 (qW w o).2)]) [Mq w,opL o] 0:=by
 have h1:=xQ w.fs hw.fs hs.fs o.a ho.1;by_cases h0:(isV w.fs o.a true).2.2=0
 ·have h0':=eq_true h0;obtain ⟨t1,t2⟩:=j5 hw.fs pa h0;by_cases hes:(isV w.fs o.a true).2.1.es = []
  ·have hel:(0<(zJ (isV w.fs o.a true).2.1.es).length)=False:=Wu (by rw[hes];simp);have he:(zf (isV w.fs o.a true).1.ino w.fs.xs).es = []:=by rw[←t2];exact hes
   have hd:=zdc w hw hs o (isV w.fs o.a true).1 t1 he;have e:qW w o=Xp w o.slot (isV w.fs o.a true).1:=by unfold qW;simp[h0,hes]
   unfold opL at hd ⊢;refine foB (fun _=>[]) Tryz.func214 ?_;dsimp only[Tryz.f214];push_cast;refine cl h1 ?_;push_cast [h0',hel];refine VX [0,1] [] hd rfl (by decide) (by decide) (by simp) (by push_cast) (by push_cast) ?_;push_cast;exact ⟨[],rfl,rfl,by push_cast [ze,zd,CLe,zg],by push_cast [ze,zd,CLe,zg,e]⟩
  ·have hel:(0<(zJ (isV w.fs o.a true).2.1.es).length)=True:=eq_true (by rw[We];exact WB.2 hes);have e:qW w o=(w,5):=by unfold qW;simp[h0,hes]
   unfold opL;refine foB (fun _=>[]) Tryz.func214 ?_;dsimp only[Tryz.f214];push_cast;refine cl h1 ?_;push_cast [h0',hel];exact ⟨[],rfl,rfl,by push_cast [ze,zd,CLe,zg],by push_cast [ze,zd,CLe,zg,e]⟩
 ·have h0':=Wu h0;have e:qW w o=(w,(isV w.fs o.a true).2.2):=by unfold qW;simp[h0]
  unfold opL;refine foB (fun _=>[]) Tryz.func214 ?_;dsimp only[Tryz.f214];push_cast;refine cl h1 ?_;push_cast [h0'];exact ⟨[],rfl,rfl,by push_cast [ze,zd,CLe,zg],by push_cast [ze,zd,CLe,zg,e]⟩
theorem zfA (w:qV) (hw:UE w) (hs:zl4 w) (o:OpV) (ho:zdE o) (pa:qG o.a=true):Fun Tryz.prog G0 213 [ZB w,.agg (opL o)] (.tup [ZB (qW w o).1,.sc (.int .i64 (qW w o).2)]) 0:=by
 have h:=zkx w hw hs o ho pa;unfold opL at h ⊢;refine fon Tryz.func213 ?_;dsimp only[Tryz.f213];push_cast;refine VX [0,1] [] h rfl (by decide) (by decide) (by simp) (by push_cast) (by push_cast) ?_;push_cast;exact dn
end
section
open Go.RowKit
section
variable {G:zt}
abbrev zqZ:List C:=[.clo (.func 206) [] [],.clo (.func 208) [] [],.clo (.func 209) [] [],.clo (.func 210) [] [],.clo (.func 211) [] [],.clo (.func 212) [] [],.clo (.func 213) [] [],.clo (.func 217) [] [],.clo (.func 220) [] [],.clo (.func 221) [] []]
theorem xR:Fun Tryz.prog G 171 [] (.mo 0 231 (.int .i64 [1,2,3,4,5,6,7,8,9,10]) zqZ) 1:=by
 refine fon Tryz.func171 ?_;dsimp only[Tryz.f171];push_cast [HM,kB,Or,Ox,Oh,reduceIte,Int.reduceEq];exact ⟨[.inl 0],rfl,rfl,by push_cast [ze,zd,CLe,zg]⟩
end
end
section
open CA CB
open Go.RowKit
theorem Fun.g0 {G':zt} {f:FuncId} {r:C} {n:Nat} (h:Fun P G0 f args r n):Fun P G' f args r n:=⟨h.1,fun R vs hg hv=>h.2 R vs (uM R) hv⟩
end
section
open Go.RowKit
section
variable {G:zt}
theorem Us (o:OpV):Fun Tryz.prog G 128 [.agg (opL o)] (.sc (.bool (decide (o.kind=3∨o.kind=7)))) 0:=by
 unfold opL;by_cases h:o.kind=3
 ·have h':=eq_true h;refine fon Tryz.func128 ?_;dsimp only[Tryz.f128];push_cast [h'];exact dn (by push_cast [ze,zd,CLe,zg,h',true_or,decide_true])
 ·have h':=Wu h;refine fon Tryz.func128 ?_;dsimp only[Tryz.f128];push_cast [h'];exact dn (by push_cast [ze,zd,CLe,zg,h',false_or])
end
end
section
open Go.RowKit
abbrev ztn (d:zW):List C:=[.sc (.int .i64 d.w.fs.maxI),.sc (.int .i64 d.w.fs.maxB),.sc (.int .i64 d.w.fs.next),.sl 6 (zu d.w.fs.xs),.sl 4 (zO d.w.kept),.sl 6 (zu d.w.pool),.sl 5 (d.ops.map opL),.sl 1 (zE d.diags),.sc (.int .i64 d.status),.sc (.int .i64 d.slot)]
abbrev GQ (d:zW):C:=.agg (ztn d)
section
variable {G:zt}
end
end
section
open CA CB
open Go.RowKit
theorem zbV [DecidableEq κ] {key:α->κ} {n:κ} {xs:List α} {i:Nat} (h:i<xs.length) (h0:Ya key n (xs.take i)=false) :
  (key xs[i]=n->jk key n xs=some xs[i])/\(key xs[i]≠n->Ya key n (xs.take (i+1))=false):=by
 have e:xs=xs.take i++xs[i] :: xs.drop (i+1):=by rw[←Oc h,Oa]
 refine ⟨fun hk=>?_,fun hk=>?_⟩
 ·have q:jk key n xs=jk key n (xs.take i++xs[i] :: xs.drop (i+1)):=WA _ e;rw[q];unfold jk;unfold Ya at h0;rw[Og]at h0;rw[List.find?_append,Be.2 fun x hx=>h0 x hx,Option.none_or,Aw,Wm hk]
 ·unfold Ya at h0 ⊢;rw[WX,Wa h,BQ,h0];simp[hk]
theorem zi0 [DecidableEq κ] {key:α->κ} {n:κ} {xs:List α} (h0:Ya key n xs=false):jk key n xs=none:=by
 rw[qC]at h0;cases h:jk key n xs with
 | none=>rfl
 | some x=>rw[h]at h0;cases h0
theorem zdt [DecidableEq κ] {key:α->κ} {n:κ} {xs:List α} {i:Nat} (h:i<xs.length) :
  JH key n (xs.take (i+1))=if key xs[i]=n then JH key n (xs.take i) else JH key n (xs.take i)++[xs[i]]:=by
 unfold JH;rw[WX,Wa h,OR];by_cases hk:key xs[i]=n<;>simp[hk]
theorem zij (a b:Lz):(Op.bytesLess a b||decide (a=b)) = !Op.bytesLess b a:=by
 cases h:Op.bytesLess b a with
 | true =>
  have h1:Op.bytesLess a b=false:=jI.asym h;have h2:a≠b:=fun e=>by rw[e,Qw]at h;cases h
  rw[h1,Wk h2];rfl
 | false =>
  cases h1:Op.bytesLess a b with
  | true=>rfl
  | false=>rw[Wm (Hs h1 h)];rfl
section
variable {G:zt}
theorem xT (es:List zS) (n:Lz) (hl:es.length<=100000):Fun Tryz.prog G 51 [.sl 2 (zJ es),.str n] (.tup [.sc (.int .i64 (zL n es)),.sc (.bool (Yo n es))]) 0:=by
 have hll:(zJ es).length=es.length:=We ..;refine fon Tryz.func51 ?_;dsimp only[Tryz.f51];push_cast;refine loop (fun i:Nat=>⟨[(0,.sl 2 (zJ es)),(1,.str n),(6,.sc (.int .i64 i))],[],0,0⟩) (fun i=>i<=es.length/\Ya zS.name n (es.take i)=false) (fun i=>es.length-i) 0 ⟨Wc _,rfl⟩ ?_ ?_
 ·exact wk
 ·rintro i ⟨h1,h2⟩;by_cases h:i<es.length
  ·have g1:=Je es i h;obtain ⟨q1,q2⟩:=zbV h h2;by_cases he:es[i].name=n
   ·have q:=q1 he;have e1:Yo n es=true:=by unfold Yo;rw[qC,q];rfl
    have e2:zL n es=es[i].ino:=by unfold zL;rw[q]
    push_cast [hll,h,g1,he]
    repeat refine an ?_
    exact dn (by push_cast [ze,zd,CLe,zg,e1,e2])
   ·push_cast [hll,h,g1,he]
    repeat refine an ?_
    exact ⟨i+1,⟨h,q2 he⟩,by omega,wk⟩
  ·rw[Wf (by omega)]at h2;have e1:Yo n es=false:=h2;have e2:zL n es=0:=by unfold zL;rw[zi0 h2]
   push_cast [hll,h];exact dn (by push_cast [ze,zd,CLe,zg,e1,e2])
theorem YT (es:List zS) (n:Lz) (hl:es.length<=90000):Fun Tryz.prog G 136 [.sl 2 (zJ es),.str n] (.own 0 112 2 (zJ (zi n es))) 1:=by
 have hll:(zJ es).length=es.length:=We ..;refine fon Tryz.func136 ?_;dsimp only[Tryz.f136];push_cast;refine loop (fun i:Nat=>⟨[(0,.sl 2 (zJ es)),(1,.str n),(5,.own 0 112 2 (zJ (zi n (es.take i)))),(6,.sc (.int .i64 i))],[],1,0⟩) (fun i=>i<=es.length) (fun i=>es.length-i) 0 (Wc _) ?_ ?_
 ·exact wks [.inr (112,2)] (by push_cast [ze,zd,CLe,zg,zi,JH,List.filter_nil])
 ·intro i h1;by_cases h:i<es.length
  ·have g1:=Je es i h;have ht:zi n (es.take (i+1))=if es[i].name=n then zi n (es.take i) else zi n (es.take i)++[es[i]]:=zdt h;have hle:(zi n (es.take i)).length<=i:=WL (YH n _) (by simp;omega);by_cases hc:es[i].name=n
   ·rw[if_pos hc]at ht;push_cast [hll,h,g1,hc]
    repeat refine an ?_
    exact ⟨i+1,h,by omega,wks [.inl 0] (by push_cast [ze,zd,CLe,zg,ht])⟩
   ·rw[if_neg hc]at ht;push_cast [hll,h,g1,hc]
    repeat refine an ?_
    exact ⟨i+1,h,by omega,wks [.inl 0] (by push_cast [ze,zd,CLe,zg,ht,WY])⟩
  ·rw[Wf (by omega)];push_cast [hll,h];exact ⟨[.inl 0],rfl,rfl,by push_cast [ze,zd,CLe,zg]⟩
theorem yz (es:List zS) (n:Lz) (j:Int) (hl:es.length<=90000):Fun Tryz.prog G 137 [.sl 2 (zJ es),.str n,.sc (.int .i64 j)] (.own 0 112 2 (zJ (zZ n j es))) 1:=by
 have hdl:(zi n es).length<=90000:=WL (YH n _) hl;have hl2:(zJ (zi n es)).length=(zi n es).length:=We ..;refine fon Tryz.func137 ?_;dsimp only[Tryz.f137];push_cast;refine cl (YT es n hl) ?_;push_cast;show zeu _ _ _ _ _ _;have hw:zZ n j es=Q5 jI zS.name ⟨n,j⟩ (zi n es):=rfl;rw[hw];generalize zi n es=rest at hdl hl2;refine loop (fun p:Nat×List zS×Bool=>⟨[(1,.str n),(2,.sc (.int .i64 j)),(7,.sl 2 (zJ rest)),(8,.own 0 112 2 (zJ p.2.1)),(9,.sc (.bool p.2.2)),(10,.sc (.int .i64 p.1))],[],1,0⟩)
  (fun p=>p.1<=rest.length/\p.2.1.length<=p.1+p.2.2.toNat/\Q5 jI zS.name ⟨n,j⟩ rest=p.2.1++(if p.2.2 then rest.drop p.1 else Q5 jI zS.name ⟨n,j⟩ (rest.drop p.1))) (fun p=>rest.length-p.1) (0,[],false) ⟨Wc _,Wc _,by simp⟩ ?_ ?_
 ·exact wks [.inr (112,2)]
 ·rintro ⟨i,out,d⟩ ⟨h1,h2,h3⟩;dsimp only at h1 h2 h3 ⊢;have hlo:(zJ out).length=out.length:=We ..;by_cases h:i<rest.length
  ·have g1:=Je rest i h;rw[Oc h]at h3;cases d with
   | true =>
    simp only[BP]at h2;push_cast [hl2,h,g1]
    repeat refine an ?_
    exact ⟨(i+1,out++[rest[i]],true),⟨h,by simp;omega,by rw[h3];simp⟩,by dsimp only;omega,wks [.inl 0] (by push_cast [ze,zd,CLe,zg,WY])⟩
   | false =>
    simp only[W0,Oi,Q5]at h3;simp only[BI]at h2;have hgl:=zij rest[i].name n;cases hc:Op.bytesLess n rest[i].name with
    | true =>
     rw[if_pos (show jI.lt n rest[i].name=true from hc)]at h3;rw[hc]at hgl;push_cast [hl2,h,g1,hgl]
     repeat refine an ?_
     exact ⟨(i+1,out++[(⟨n,j⟩:zS)]++[rest[i]],true),⟨h,by simp;omega,by rw[h3];simp⟩,by dsimp only;omega,wks [.inl 0] (by push_cast [ze,zd,CLe,zg,WY])⟩
    | false =>
     rw[if_neg (show ¬jI.lt n rest[i].name=true by rw[show jI.lt n rest[i].name=false from hc];decide)]at h3;rw[hc]at hgl;push_cast [hl2,h,g1,hgl]
     repeat refine an ?_
     exact ⟨(i+1,out++[rest[i]],false),⟨h,by simp;omega,by rw[h3];simp⟩,by dsimp only;omega,wks [.inl 0] (by push_cast [ze,zd,CLe,zg,WY])⟩
  ·rw[OA (by omega)]at h3;cases d with
   | true =>
    simp only[BP]at h2;have h3:Q5 jI zS.name ⟨n,j⟩ rest=out:=by rw[h3];simp
    push_cast [hl2,h];exact ⟨[.inl 0],rfl,rfl,by push_cast [ze,zd,CLe,zg,h3]⟩
   | false =>
    simp only[BI]at h2;have h3:Q5 jI zS.name ⟨n,j⟩ rest=out++[⟨n,j⟩]:=by rw[h3];simp[Q5]
    push_cast [hl2,h]
    repeat refine an ?_
    exact ⟨[.inl 0],rfl,rfl,by push_cast [ze,zd,CLe,zg,h3,WY]⟩
end
theorem znp (f:FsV) (hf:FsI f) (hs:FsS f) (p:Lz) (hp:p.length<=1000000):Fun Tryz.prog G0 22 [.agg (fsC f),.str p] (.tup [.agg (jt (atV f p).1),.sc (.int .i64 (atV f p).2)]) 0:=by
 have hpl:=Uh p (by omega);have hlen:=hs.len;have hnl:(zn p).length<=1000000:=by have:=qw p;omega
 cases hpp:JY p with
 | false =>
  have e:atV f p=(qu,9):=by unfold atV;rw[hpp];rfl
  unfold YP at hpl;rw[hpp]at hpl;refine fof (fun i=>if i=14 then [false,false,false,false,false,false,false,false,true] else []) Tryz.func22 ?_;dsimp only[Tryz.f22];push_cast;refine cl hpl ?_;push_cast;exact dn (by push_cast [ze,zd,CLe,zg,e,qu])
 | true =>
  have e:atV f p=atW f.xs (zn p) ⟨0,[],1⟩:=by unfold atV;rw[hpp];rfl
  unfold YP at hpl;rw[hpp,if_pos rfl]at hpl;generalize zn p=ns at hpl hnl e;have hsl:(zE ns).length=ns.length:=We ..;refine fof (fun i=>if i=14 then [false,false,false,false,false,false,false,false,true] else []) Tryz.func22 ?_;dsimp only[Tryz.f22];push_cast;refine cl hpl ?_;push_cast;refine loop (fun x:Nat×zK=>⟨[(1,.str p),(2,.ptr 0 0),(4,.ptr 1 0),(6,.own 0 9 1 (zE ns)),(8,.ptr 2 0),(9,.sc (.int .i64 x.1))],[fsC f,[.sc (.int .i64 0),.str [],.sc (.int .i64 0)],jt x.2],1,0⟩)
   (fun x=>x.1<=ns.length/\atW f.xs ns ⟨0,[],1⟩=atW f.xs (ns.drop x.1) x.2/\(x.2.ino≠0->zk x.2.ino f.xs=true)) (fun x=>ns.length-x.1) (0,⟨0,[],1⟩) ⟨Wc _,rfl,fun _=>hf.root⟩ ?_ ?_
  ·exact wks [.inl 0] (by push_cast [ze,zd,CLe,zg,hsl])
  rintro ⟨k,s⟩ ⟨hk,hat,hin⟩;simp only at hk hat hin ⊢;by_cases hlt:k<ns.length
  ·have gs:=ym hlt;have hdr:ns.drop k=ns[k] :: ns.drop (k+1):=Oc hlt;obtain ⟨nm,hnm⟩:∃ nm,ns[k]=nm:=⟨_,rfl⟩;rw[hnm]at gs hdr;by_cases h0:s.ino=0
   ·have hr:atV f p=(qu,1):=by rw[e,hat,hdr];unfold atW;rw[if_pos h0]
    push_cast [hsl,hlt,h0];exact dn (by push_cast [ze,zd,CLe,zg,hr,qu])
   ·have hh:=hin h0;have hg:=qt (G:=G0) f s.ino (by omega);have hgg:=zj hh;rw[hh]at hg;by_cases hk2:(zf s.ino f.xs).kind=2
    ·have hfd:=xT (G:=G0) (zf s.ino f.xs).es nm (by have:=hs.es hh;omega);have hnx:atW f.xs ns ⟨0,[],1⟩=atW f.xs (ns.drop (k+1)) ⟨(zf s.ino f.xs).ino,nm,zL nm (zf s.ino f.xs).es⟩:=by
      rw[hat,hdr]
      conv=>lhs;unfold atW
      rw[if_neg h0,if_neg (by simp[hk2])]
     have hin2:zL nm (zf s.ino f.xs).es≠0->zk (zL nm (zf s.ino f.xs).es) f.xs=true:=fun hne=>by
      refine Qf hf hh ?_;unfold Yo;rw[qC];cases hq:jk zS.name nm (zf s.ino f.xs).es with
      | some e=>rfl
      | none=>unfold zL at hne;rw[hq]at hne;exact absurd rfl hne
     push_cast [hsl,hlt,h0];refine cl hg ?_;push_cast [hk2,gs]
     repeat refine an ?_
     refine cl hfd ?_;push_cast [gs]
     repeat refine an ?_
     exact ⟨(k+1,⟨(zf s.ino f.xs).ino,nm,zL nm (zf s.ino f.xs).es⟩),⟨hlt,hnx,hin2⟩,by simp only;omega,wks [.inl 0]⟩
    ·have hr:atV f p=(qu,3):=by rw[e,hat,hdr];unfold atW;rw[if_neg h0,if_pos hk2]
     push_cast [hsl,hlt,h0];refine cl hg ?_;push_cast [hk2];exact dn (by push_cast [ze,zd,CLe,zg,hr,qu])
  ·have hd0:ns.drop k = []:=OA (by omega);have hr:atV f p=(s,0):=by rw[e,hat,hd0];rfl
   push_cast [hsl,hlt];exact dn (by push_cast [ze,zd,CLe,zg,hr])
end
section
open CA CB
open Go.RowKit
theorem ziP {f:C} (hx:x.es = []) (R:Env) (vs:List Value) (h:zA R zN [f,.agg [.sc (.int .i64 x.ino),.sc (.int .i64 x.kind),.sc (.int .i64 x.links),.str x.data,.sc (.int .i64 x.parent),.sc (.slice none 0 0)]] vs):zA R zN [f,.agg (J0 x)] vs:=by
 obtain ⟨v1,us1,rfl,h1,h⟩:=zh.1 h;obtain ⟨v2,us2,rfl,h2,h⟩:=zh.1 h;refine zh.2 ⟨_,_,rfl,h1,zh.2 ⟨_,_,rfl,?_,h⟩⟩;obtain ⟨ws,rfl,hw⟩:=Jq.1 h2;obtain ⟨w1,t1,e1,g1,hw⟩:=zh.1 hw;obtain ⟨w2,t2,e2,g2,hw⟩:=zh.1 hw;obtain ⟨w3,t3,e3,g3,hw⟩:=zh.1 hw;obtain ⟨w4,t4,e4,g4,hw⟩:=zh.1 hw;obtain ⟨w5,t5,e5,g5,hw⟩:=zh.1 hw;obtain ⟨w6,t6,e6,g6,hw⟩:=zh.1 hw;refine Jq.2 ⟨ws,rfl,?_⟩;have g6':Rep R zN (.sl 2 (zJ x.es)) w6:=by rw[hx];exact zjx g6
 rw[e1,e2,e3,e4,e5,e6];exact zh.2 ⟨_,_,rfl,g1,zh.2 ⟨_,_,rfl,g2,zh.2 ⟨_,_,rfl,g3,zh.2 ⟨_,_,rfl,g4,zh.2 ⟨_,_,rfl,g5,zh.2 ⟨_,_,rfl,g6',hw⟩⟩⟩⟩⟩⟩
theorem NH {G:zt} (f:FsV) (x:zo) (hx:x.es = []) (hl:f.xs.length<=90000) :
  Fun Tryz.prog G 58 [.agg (fsC f),.agg [.sc (.int .i64 x.ino),.sc (.int .i64 x.kind),.sc (.int .i64 x.links),.str x.data,.sc (.int .i64 x.parent),.sc (.slice none 0 0)]] (.agg [.sc (.int .i64 f.maxI),.sc (.int .i64 f.maxB),.sc (.int .i64 f.next),.own 0 64 6 (zu (qq x f.xs))]) 1:=
 (JO f x hl).argsLe (ziP hx)
theorem zac (f:FsV) (hf:FsI f) (hs:FsS f) (s:zK) (hsp:zx f s):Fun Tryz.prog G0 91 [.agg (fsC f),.agg (jt s)] (.agg (fsC (zl f s))) 0:=by
 have hlen:=hs.len;have hi:=hsp.ino hf;have hdl:(qr s.dir (zi s.name) f.xs).length=f.xs.length:=jq hf.rises hsp.has;have hg:=qt (G:=G0) f s.dir (by omega);have hg2:=qt (G:=G0) f s.ino (by omega);rw[hsp.has]at hg;rw[hi]at hg2;have hes:=hs.es hsp.has;have hw:=YT (G:=G0) (zf s.dir f.xs).es s.name (by omega);have hd1:=JO (G:=G0) f (qj (zf s.dir f.xs) (zi s.name (zf s.dir f.xs).es)) (by omega);have hd2:=JO (G:=G0) ⟨f.maxI,f.maxB,f.next,qr s.dir (zi s.name) f.xs⟩ { zf s.ino f.xs with links:=(zf s.ino f.xs).links-1 } (by simp only;omega);have hd3:=xv (G:=G0) ⟨f.maxI,f.maxB,f.next,qr s.dir (zi s.name) f.xs⟩ s.ino (by simp only;omega);have hll:=za7 hf hs hi;by_cases hz:(zf s.ino f.xs).links-1=0
 ·have e:zl f s=⟨f.maxI,f.maxB,f.next,qf s.ino (qr s.dir (zi s.name) f.xs)⟩:=by unfold zl;rw[if_pos hz]
  unfold qr at hd3 e;have hz':=eq_true hz;refine fon Tryz.func91 ?_;dsimp only[Tryz.f91];push_cast;refine cl hg ?_;push_cast;refine cl hg2 ?_;push_cast;refine cl hw ?_;push_cast
  repeat refine an ?_
  refine cl hd1 ?_;push_cast [hz'];refine cl hd3 ?_;push_cast;exact dn (by push_cast [ze,zd,CLe,zg,e])
 ·have e:zl f s=⟨f.maxI,f.maxB,f.next,qq { zf s.ino f.xs with links:=(zf s.ino f.xs).links-1 } (qr s.dir (zi s.name) f.xs)⟩:=by unfold zl;rw[if_neg hz]
  unfold qr at hd2 e;have hz':=Wu hz;refine fon Tryz.func91 ?_;dsimp only[Tryz.f91];push_cast;refine cl hg ?_;push_cast;refine cl hg2 ?_;push_cast;refine cl hw ?_;push_cast
  repeat refine an ?_
  refine cl hd1 ?_;push_cast [hz'];refine cl hd2 ?_;push_cast;exact dn (by push_cast [ze,zd,CLe,zg,e])
end
section
open CA CB
open Go.RowKit
theorem MM (f:FsV) (hf:FsI f) (hs:FsS f) (a b:zK) (ha:zx f a) (hb:JF f b) (hb0:b.ino=0):Fun Tryz.prog G0 83 [.agg (fsC f),.agg (jt a),.agg (jt b)] (.agg (fsC (jN f a b))) 0:=by
 have hai:=zx.ino hf ha;have hlen:=hs.len;have hga:=qt (G:=G0) f a.dir (by omega);rw[ha.has]at hga;have hwa:=YT (G:=G0) (zf a.dir f.xs).es a.name (by have:=hs.es ha.has;omega);have hda:=JO (G:=G0) f (qj (zf a.dir f.xs) (zi a.name (zf a.dir f.xs).es)) (by omega);obtain ⟨g1,hg1⟩:∃ g1,qr a.dir (zi a.name) f.xs=g1:=⟨_,rfl⟩;obtain ⟨g2,hg2⟩:∃ g2,qr b.dir (zZ b.name a.ino) g1=g2:=⟨_,rfl⟩;have hR1:qc g1:=by rw[←hg1];exact z8 hf.rises
 have hl1:g1.length=f.xs.length:=by rw[←hg1];exact jq hf.rises ha.has
 have hb1:zk b.dir g1=true:=by rw[←hg1,zP ha.has];exact hb.has
 have hl2:g2.length=f.xs.length:=by rw[←hg2,jq hR1 hb1,hl1]
 have hi2:zk a.ino g2=true:=by rw[←hg2,zP hb1,←hg1,zP ha.has];exact hai
 have hgb:=qt (G:=G0) ⟨f.maxI,f.maxB,f.next,g1⟩ b.dir (by simp only;omega);simp only at hgb;rw[hb1]at hgb;have hres:(zf b.dir g1).es.length<=10000:=by
  rw[←hg1,j6 ha.has];split
  ·show (JH zS.name _ _).length<=10000;have:=YH (key:=zS.name) a.name (zf a.dir f.xs).es;have:=hs.es ha.has;omega
  ·exact hs.es hb.has
 have hwb:=yz (G:=G0) (zf b.dir g1).es b.name a.ino (by omega);have hdb:=JO (G:=G0) ⟨f.maxI,f.maxB,f.next,g1⟩ (qj (zf b.dir g1) (zZ b.name a.ino (zf b.dir g1).es)) (by simp only;omega);have hgx:=qt (G:=G0) ⟨f.maxI,f.maxB,f.next,g2⟩ a.ino (by simp only;omega);simp only at hgx;rw[hi2]at hgx;have e0:jN f a b=if (zf a.ino g2).kind=2 then ⟨f.maxI,f.maxB,f.next,qq { zf a.ino g2 with parent:=b.dir } g2⟩ else ⟨f.maxI,f.maxB,f.next,g2⟩:=by unfold jN;rw[hg1,hg2]
 have hda':Fun Tryz.prog G0 58 [.agg (fsC f),.agg (J0 (qj (zf a.dir f.xs) (zi a.name (zf a.dir f.xs).es)))] (.agg [.sc (.int .i64 f.maxI),.sc (.int .i64 f.maxB),.sc (.int .i64 f.next),.own 0 64 6 (zu g1)]) 1:=by rw[←hg1];exact hda
 have hdb':Fun Tryz.prog G0 58 [.agg (fsC ⟨f.maxI,f.maxB,f.next,g1⟩),.agg (J0 (qj (zf b.dir g1) (zZ b.name a.ino (zf b.dir g1).es)))] (.agg [.sc (.int .i64 f.maxI),.sc (.int .i64 f.maxB),.sc (.int .i64 f.next),.own 0 64 6 (zu g2)]) 1:=by rw[←hg2];exact hdb
 have hb0':=eq_true hb0;by_cases hk:(zf a.ino g2).kind=2
 ·rw[if_pos hk]at e0;have hk':=eq_true hk;have hd:=JO (G:=G0) ⟨f.maxI,f.maxB,f.next,g2⟩ { zf a.ino g2 with parent:=b.dir } (by simp only;omega);refine fon Tryz.func83 ?_;dsimp only[Tryz.f83];push_cast [hb0'];refine cl hga ?_;push_cast;refine cl hwa ?_;push_cast;refine cl hda' ?_;push_cast;refine cl hgb ?_;push_cast;refine cl hwb ?_;push_cast;refine cl hdb' ?_;push_cast;refine cl hgx ?_;push_cast [hk'];refine cl hd ?_;push_cast;exact dn (by push_cast [ze,zd,CLe,zg,e0])
 ·rw[if_neg hk]at e0;have hk':=Wu hk;refine fon Tryz.func83 ?_;dsimp only[Tryz.f83];push_cast [hb0'];refine cl hga ?_;push_cast;refine cl hwa ?_;push_cast;refine cl hda' ?_;push_cast;refine cl hgb ?_;push_cast;refine cl hwb ?_;push_cast;refine cl hdb' ?_;push_cast;refine cl hgx ?_;push_cast [hk'];exact dn (by push_cast [ze,zd,CLe,zg,e0])
theorem ky {i:Nat} (h:i<ks.length):Jd (ks.take (i+1))=ks[i].slot:=by
 have q:(ks.take (i+1)).getLast?=some ks[i]:=by
  rw[List.getLast?_eq_getElem?,show (ks.take (i+1)).length-1=i by rw[Ob];omega,Bo (by omega),Wa h]
 unfold Jd;rw[q]
section
variable {G:zt}
theorem kT (w:qV):Fun Tryz.prog G 106 [ZB w] (.agg [.sc (.int .i64 0),.sc (.int .i64 0),.sc (.int .i64 0),.sl 6 (zu w.pool)]) 0:=by
 refine fon Tryz.func106 ?_;dsimp only[Tryz.f106];push_cast;exact dn
theorem kM (w:qV) (hk:w.kept.length<=100000) (hR:qT Jk zY.slot w.kept) (hp:∀ k∈w.kept,1<=k.slot):Fun Tryz.prog G 35 [ZB w] (.sc (.int .i64 (Jd w.kept))) 0:=by
 obtain ⟨f,ks,pool⟩:=w;have hk:ks.length<=100000:=hk;have hll:(zO ks).length=ks.length:=We ..;show Fun Tryz.prog G 35 [ZB ⟨f,ks,pool⟩] (.sc (.int .i64 (Jd ks))) 0;have h0:Jd []=0:=rfl;refine fon Tryz.func35 ?_;dsimp only[Tryz.f35];push_cast;refine loop (fun i:Nat=>⟨[(1,.ptr 0 0),(3,.sc (.int .i64 (Jd (ks.take i)))),(4,.sc (.int .i64 i))],[Mq ⟨f,ks,pool⟩],0,0⟩) (fun i=>i<=ks.length) (fun i=>ks.length-i) 0 (Wc _) ?_ ?_
 ·exact wk (by push_cast [ze,zd,CLe,zg,OD,h0])
 ·intro i hi;by_cases h:i<ks.length
  ·have g1:=JN ks i h;have e1:Jd (ks.take (i+1))=ks[i].slot:=ky h;have e2:(if ks[i].slot>Jd (ks.take i) then ks[i].slot else Jd (ks.take i))=ks[i].slot:=by
    suffices hle:Jd (ks.take i)<=ks[i].slot by split<;>omega
    rcases O9 i with rfl | hpos
    ·have:=hp _ (Wx h);show (0:Int)<=_;omega
    ·obtain ⟨j,rfl⟩:∃ j,i=j+1:=⟨i-1,by omega⟩;have hj:j<ks.length:=by omega
     rw[ky hj];have:=(WV.1 hR) j (j+1) hj h (by omega);have:ks[j].slot<ks[j+1].slot:=WR this;omega
   push_cast [hll,h,g1]
   repeat refine an ?_
   exact ⟨i+1,h,by omega,wk (by push_cast [ze,zd,CLe,zg,e1,e2])⟩
  ·rw[Wf (by omega)];push_cast [hll,h];exact dn
end
end
section
open CA CB
open Go.RowKit
end
section
open CA CB
open Go.RowKit
def ztK (n:Int):List C:=[.sc (.int .i64 n)]
abbrev zsL (l:List Int):List (List C):=l.map ztK
theorem vh (l:List Int):(zsL l).length=l.length:=We _
theorem zgJ (l:List Int) (n:Int):zsL l++[[.sc (.int .i64 n)]]=zsL (l++[n]):=by simp[ztK]
attribute [push_cast] vh zgJ
abbrev zid (l:List OpV):List (List C):=l.map opL
theorem vY (l:List OpV):(zid l).length=l.length:=We _
theorem zd6 (l:List OpV) (k:Nat) (h:k<l.length):(zid l)[k]?=some (opL (l[k]'h)):=by rw[Ws,Wa h];rfl
theorem zd1 (l:List OpV) (k:Nat):(zid l).take k=zid (l.take k):=List.map_take.symm
theorem zhF (l:List OpV) (k:Nat):(zid l).drop k=zid (l.drop k):=List.map_drop.symm
attribute [push_cast] vY zd1 zhF
end
section
open Go.RowKit
def zlI (l:List OpV):List Int:=(l.filter fun o=>Vu o.kind).map (·.slot)
end
section
open Go.RowKit
def zmO (o p:OpV):Bool:=decide (o.kind=p.kind)&&decide (o.slot=p.slot)&&decide (o.a=p.a)&&decide (o.b=p.b)&&decide (o.d=p.d)
def J7:List OpV->List OpV->Bool
 | [],[]=>true
 | o :: r,p :: s=>zmO o p&&J7 r s
 | _,_=>false
theorem XJ:∀ l m:List OpV,J7 l m=true↔l.length=m.length/\∀ (j:Nat) (h:j<l.length) (h':j<m.length),zmO (l[j]'h) (m[j]'h')=true
 | [],[]=>by simp[J7]
 | [],p :: s=>by simp[J7]
 | o :: r,[]=>by simp[J7]
 | o :: r,p :: s=>by
  have ih:=XJ r s;simp only[J7,Wt,ih,Wh];constructor
  ·rintro ⟨h1,h2,h3⟩;refine ⟨by omega,fun j hj hj'=>?_⟩;cases j with
   | zero=>exact h1
   | succ j=>exact h3 j (by omega) (by omega)
  ·rintro ⟨h1,h2⟩;exact ⟨h2 0 (by omega) (by omega),by omega,fun j hj hj'=>h2 (j+1) (by omega) (by omega)⟩
end
section
open CA CB
open Go.RowKit
end
section
open CA CB
open Go.RowKit
end
section
open CA CB
open Go.RowKit
def JB (f:FsV):Prop:=1<=f.maxI/\f.maxI<=1073741824/\0<=f.maxB/\f.maxB<=1073741824/\f.next<=1099511627776/\(∀ x∈f.xs,1<=x.ino/\x.ino<f.next)/\qc f.xs/\zk 1 f.xs=true/\(zf 1 f.xs).kind=2
instance (f:FsV):Decidable (JB f):=by unfold JB;infer_instance
def YX (f:FsV):Prop:=∀ x∈f.xs,∀ e∈x.es,zk e.ino f.xs=true
instance (f:FsV):Decidable (YX f):=by unfold YX;infer_instance
def HJ (f:FsV):Prop:=(f.xs.length:Int)<=f.maxI/\(ql f.xs:Int)<=f.maxB
instance (f:FsV):Decidable (HJ f):=by unfold HJ;infer_instance
theorem qo {l:List α} {i:Nat} (h:i<l.length) {P:α->Prop} (h1:∀ x∈l.take i,P x) (h2:P l[i]):∀ x∈l.take (i+1),P x:=fun x hx=>by
 rw[WX,Wa h]at hx;rcases WF.1 hx with hx | hx
 ·exact h1 x hx
 ·simp at hx;subst hx;exact h2
section
variable {G:zt}
theorem xO (f:FsV) (hl:f.xs.length<=100000):Fun Tryz.prog G 153 [.agg (fsC f)] (.sc (.bool (decide (JB f)))) 0:=by
 have hll:(zu f.xs).length=f.xs.length:=We ..;refine fon Tryz.func153 ?_;dsimp only[Tryz.f153];by_cases e0:f.maxI<1
 case pos =>
  have hn:¬JB f:=fun h=>by have:=h.1;omega
  push_cast [e0];exact dn (by push_cast [ze,zd,CLe,zg,hn])
 by_cases e1:1073741824<f.maxI
 case pos =>
  have hn:¬JB f:=fun h=>by have:=h.2.1;omega
  push_cast [e0,e1];exact dn (by push_cast [ze,zd,CLe,zg,hn])
 by_cases e2:f.maxB<0
 case pos =>
  have hn:¬JB f:=fun h=>by have:=h.2.2.1;omega
  push_cast [e0,e1,e2];exact dn (by push_cast [ze,zd,CLe,zg,hn])
 by_cases e3:1073741824<f.maxB
 case pos =>
  have hn:¬JB f:=fun h=>by have:=h.2.2.2.1;omega
  push_cast [e0,e1,e2,e3];exact dn (by push_cast [ze,zd,CLe,zg,hn])
 by_cases e4:1099511627776<f.next
 case pos =>
  have hn:¬JB f:=fun h=>by have:=h.2.2.2.2.1;omega
  push_cast [e0,e1,e2,e3,e4];exact dn (by push_cast [ze,zd,CLe,zg,hn])
 push_cast [e0,e1,e2,e3,e4];refine loop (fun i:Nat=>⟨[(1,.ptr 0 0),(3,.sc (.int .i64 i))],[fsC f],0,0⟩) (fun i=>i<=f.xs.length/\∀ x∈f.xs.take i,1<=x.ino/\x.ino<f.next) (fun i=>f.xs.length-i) 0 ⟨Wc _,fun x hx=>by simp at hx⟩ ?_ ?_
 ·exact wk
 ·rintro i ⟨h1,h2⟩;by_cases h:i<f.xs.length
  ·have g1:=jg f.xs i h;by_cases c1:f.xs[i].ino<1
   ·have hn:¬JB f:=fun h'=>by have:=h'.2.2.2.2.2.1 _ (Wx h);omega
    push_cast [hll,h,g1,c1]
    repeat refine an ?_
    exact dn (by push_cast [ze,zd,CLe,zg,hn])
   ·by_cases c2:f.next<=f.xs[i].ino
    ·have hn:¬JB f:=fun h'=>by have:=h'.2.2.2.2.2.1 _ (Wx h);omega
     push_cast [hll,h,g1,c1,c2]
     repeat refine an ?_
     exact dn (by push_cast [ze,zd,CLe,zg,hn])
    ·push_cast [hll,h,g1,c1,c2]
     repeat refine an ?_
     exact ⟨i+1,⟨h,qo h h2 (by omega)⟩,by omega,wk⟩
  ·rw[Wf (by omega)]at h2;have hf:JB f↔qc f.xs/\zk 1 f.xs=true/\(zf 1 f.xs).kind=2:=⟨fun h=>h.2.2.2.2.2.2,fun h=>⟨by omega,by omega,by omega,by omega,by omega,h2,h⟩⟩;push_cast [hll,h];refine cl (qt f 1 hl) ?_;push_cast;by_cases c1:qc f.xs
   ·cases c2:zk 1 f.xs with
    | true =>
     refine cl (UY f hl) ?_;push_cast [Wm c1,c2];exact dn (by push_cast [ze,zd,CLe,zg,hf,c1,c2])
    | false =>
     have hn:¬JB f:=fun h=>by have:=(hf.1 h).2.1;rw[c2]at this;cases this
     refine cl (UY f hl) ?_;push_cast [Wm c1,c2];exact dn (by push_cast [ze,zd,CLe,zg,hn])
   ·have hn:¬JB f:=fun h=>c1 (hf.1 h).1;refine cl (UY f hl) ?_;push_cast [Wk c1];exact dn (by push_cast [ze,zd,CLe,zg,hn])
theorem M4 (f:FsV) (hf:FsS f):Fun Tryz.prog G 155 [.agg (fsC f)] (.sc (.bool (decide (YX f)))) 0:=by
 have hll:(zu f.xs).length=f.xs.length:=We ..;have h40:=hf.len;refine fof (fun i=>if i=7 then qS 15 16 else []) Tryz.func155 ?_;dsimp only[Tryz.f155];push_cast;refine loop (fun i:Nat=>⟨[(1,.ptr 0 0),(3,.sc (.int .i64 i))],[fsC f],0,0⟩) (fun i=>i<=f.xs.length/\∀ x∈f.xs.take i,∀ e∈x.es,zk e.ino f.xs=true) (fun i=>f.xs.length-i) 0 ⟨Wc _,fun x hx=>by simp at hx⟩ ?_ ?_
 ·exact wk
 ·rintro i ⟨h1,h2⟩;by_cases h:i<f.xs.length
  ·have g1:=jg f.xs i h;have he:=(hf.node _ (Wx h)).1;have hle:(zJ f.xs[i].es).length=f.xs[i].es.length:=We ..;push_cast [hll,h];refine loop (fun k:Nat=>⟨[(1,.ptr 0 0),(3,.sc (.int .i64 i)),(4,.sc (.int .i64 k))],[fsC f],0,0⟩) (fun k=>k<=f.xs[i].es.length/\∀ e∈f.xs[i].es.take k,zk e.ino f.xs=true) (fun k=>f.xs[i].es.length-k) 0 ⟨Wc _,fun x hx=>by simp at hx⟩ ?_ ?_
   ·exact wk
   ·rintro k ⟨h3,h4⟩;by_cases hk:k<f.xs[i].es.length
    ·have g2:=Je f.xs[i].es k hk;push_cast [g1,hle,hk,g2]
     repeat refine an ?_
     refine cl (qt f f.xs[i].es[k].ino (by omega)) ?_;push_cast;cases hh:zk f.xs[i].es[k].ino f.xs with
     | true =>
      push_cast [hh]
      repeat refine an ?_
      exact ⟨k+1,⟨hk,qo hk h4 hh⟩,by omega,wk⟩
     | false =>
      have hn:¬YX f:=fun h'=>by have:=h' _ (Wx h) _ (Wx hk);rw[hh]at this;cases this
      push_cast [hh];exact dn (by push_cast [ze,zd,CLe,zg,hn])
    ·rw[Wf (by omega)]at h4;push_cast [g1,hle,hk]
     repeat refine an ?_
     exact ⟨i+1,⟨h,qo h h2 h4⟩,by omega,wk⟩
  ·rw[Wf (by omega)]at h2;have hn:YX f:=h2;push_cast [hll,h];exact dn (by push_cast [ze,zd,CLe,zg,hn])
theorem za4 (f:FsV) (hf:FsS f) (hb:ql f.xs<=100000000):Fun Tryz.prog G 143 [.agg (fsC f),.sc (.int .i64 0),.sc (.int .i64 0)] (.sc (.bool (decide (HJ f)))) 0:=by
 have hll:(zu f.xs).length=f.xs.length:=We ..;have h40:=hf.len;refine fon Tryz.func143 ?_;dsimp only[Tryz.f143];by_cases c1:f.maxI<f.xs.length
 ·have hn:¬HJ f:=fun h=>by have:=h.1;omega
  push_cast [hll,c1]
  repeat refine an ?_
  exact dn (by push_cast [ze,zd,CLe,zg,hn])
 ·have hn:HJ f↔(ql f.xs:Int)<=f.maxB:=⟨fun h=>h.2,fun h=>⟨by omega,h⟩⟩;push_cast [hll,c1]
  repeat refine an ?_
  refine cl (zhb f hf) ?_;push_cast
  repeat refine an ?_
  exact dn (by push_cast [ze,zd,CLe,zg,hn])
end
end
section
open Go.RowKit
abbrev VU (x:zo) (es:List zS):List (Int×Int):=es.map fun e=>(e.ino,x.ino)
def qn (xs:List zo):List (Int×Int):=xs.flatMap fun x=>VU x x.es
def ZA (n:Int) (l:List (Int×Int)):Nat:=(l.filter fun p=>p.1==n).length
def UG (n:Int) (l:List (Int×Int)):Int:=(((l.filter fun p=>p.1==n).getLast?).map (·.2)).getD 0
theorem znI {p:Int×Int}:ZA n (l++[p])=ZA n l+if p.1=n then 1 else 0:=by
 unfold ZA;rw[OR,Wi];by_cases h:p.1=n<;>simp[h]
theorem zio {p:Int×Int}:UG n (l++[p])=if p.1=n then p.2 else UG n l:=by
 unfold UG;rw[OR];by_cases h:p.1=n<;>simp[h]
theorem zc2 {i:Nat} (h:i<xs.length):qn (xs.take (i+1))=qn (xs.take i)++VU xs[i] xs[i].es:=by
 unfold qn;rw[WX,Wa h,Bm];simp
theorem zdy {es:List zS} (h:k<es.length):VU x (es.take (k+1))=VU x (es.take k)++[(es[k].ino,x.ino)]:=by
 rw[WX,Wa h,Option.toList_some];exact WY
theorem zen (hf:∀ x∈xs,x.es.length<=10000):(qn xs).length<=xs.length*10000:=by
 induction xs with
 | nil=>exact Wb _
 | cons x r ih =>
  have h1:=hf x Wl;have h2:=ih fun y hy=>hf y (Wn _ hy);unfold qn at h2 ⊢;rw[As,Wi,We,Wh];omega
theorem zp8:ZA n l<=l.length:=OG _ _
def VW (xs:List zo) (x:zo):Prop:=x.links=ZA x.ino (qn xs)/\if x.ino=1 then ZA x.ino (qn xs)=0/\x.parent=1 else 1<=ZA x.ino (qn xs)/\(x.kind=2->ZA x.ino (qn xs)=1/\x.parent=UG x.ino (qn xs))
instance (xs:List zo) (x:zo):Decidable (VW xs x):=by unfold VW;infer_instance
def Xa (f:FsV):Prop:=∀ x∈f.xs,VW f.xs x
instance (f:FsV):Decidable (Xa f):=by unfold Xa;infer_instance
section
variable {G:zt}
theorem zb2 (f:FsV) (n:Int) (hf:FsS f):Fun Tryz.prog G 189 [.agg (fsC f),.sc (.int .i64 n)] (.tup [.sc (.int .i64 (ZA n (qn f.xs):Nat)),.sc (.int .i64 (UG n (qn f.xs)))]) 0:=by
 have hll:(zu f.xs).length=f.xs.length:=We ..;have h40:=hf.len;have hc0:ZA n (qn [])=0:=rfl;have hl0:UG n (qn [])=0:=rfl;refine fon Tryz.func189 ?_;dsimp only[Tryz.f189];push_cast;refine loop (fun i:Nat=>⟨[(1,.sc (.int .i64 n)),(2,.ptr 0 0),(6,.sc (.int .i64 (ZA n (qn (f.xs.take i)):Nat))),(7,.sc (.int .i64 (UG n (qn (f.xs.take i))))),(8,.sc (.int .i64 i))],[fsC f],0,0⟩) (fun i=>i<=f.xs.length) (fun i=>f.xs.length-i) 0 (Wc _) ?_ ?_
 ·exact wk (by push_cast [ze,zd,CLe,zg,OD,hc0,hl0])
 ·intro i h1;by_cases h:i<f.xs.length
  ·have g1:=jg f.xs i h;have hle:(zJ f.xs[i].es).length=f.xs[i].es.length:=We ..;have hpl:(qn (f.xs.take i)).length<=i*10000:=by
    have:=zen (xs:=f.xs.take i) fun x hx=>(hf.node x (WC hx)).1;rw[Ob]at this;exact WL this (WT _ (Nat.min_le_left _ _))
   have h40e:=(hf.node _ (Wx h)).1;push_cast [hll,h];refine loop (fun k:Nat=>⟨[(1,.sc (.int .i64 n)),(2,.ptr 0 0),(6,.sc (.int .i64 (ZA n (qn (f.xs.take i)++VU f.xs[i] (f.xs[i].es.take k)):Nat))),(7,.sc (.int .i64 (UG n (qn (f.xs.take i)++VU f.xs[i] (f.xs[i].es.take k))))),(8,.sc (.int .i64 i)),(9,.sc (.int .i64 k))],[fsC f],0,0⟩) (fun k=>k<=f.xs[i].es.length) (fun k=>f.xs[i].es.length-k) 0 (Wc _) ?_ ?_
   ·exact wk (by push_cast [ze,zd,CLe,zg,OD,W4])
   ·intro k hk0;by_cases hk:k<f.xs[i].es.length
    ·have g2:=Je f.xs[i].es k hk;have ht:=zdy (x:=f.xs[i]) hk;have hcl:=zp8 (n:=n) (l:=qn (f.xs.take i)++VU f.xs[i] (f.xs[i].es.take k));rw[Wi,We,Ob]at hcl;have hca:=znI (n:=n) (l:=qn (f.xs.take i)++VU f.xs[i] (f.xs[i].es.take k)) (p:=(f.xs[i].es[k].ino,f.xs[i].ino));have hla:=zio (n:=n) (l:=qn (f.xs.take i)++VU f.xs[i] (f.xs[i].es.take k)) (p:=(f.xs[i].es[k].ino,f.xs[i].ino));rw[WI,←ht]at hca hla;by_cases hc:f.xs[i].es[k].ino=n
     ·rw[if_pos hc]at hca hla;push_cast [g1,hle,hk,g2,hc]
      repeat refine an ?_
      exact ⟨k+1,hk,by omega,wk (by push_cast [ze,zd,CLe,zg,hca,hla])⟩
     ·rw[if_neg hc]at hca hla;push_cast [g1,hle,hk,g2,hc]
      repeat refine an ?_
      exact ⟨k+1,hk,by omega,wk (by push_cast [ze,zd,CLe,zg,hca,hla])⟩
    ·have hkk:f.xs[i].es.take k=f.xs[i].es:=Wf (by omega);rw[hkk];have ht:=zc2 h;push_cast [g1,hle,hk]
     repeat refine an ?_
     exact ⟨i+1,h,by omega,wk (by push_cast [ze,zd,CLe,zg,ht])⟩
  ·rw[Wf (by omega)];push_cast [hll,h];exact dn
end
end
section
open CA CB
open Go.RowKit
section
variable {G:zt}
theorem Gn (f:FsV) (hf:FsS f):Fun Tryz.prog G 156 [.agg (fsC f)] (.sc (.bool (decide (Xa f)))) 0:=by
 have hll:(zu f.xs).length=f.xs.length:=We ..;have h40:=hf.len;refine fon Tryz.func156 ?_;dsimp only[Tryz.f156];push_cast;refine loop (fun i:Nat=>⟨[(1,.ptr 0 0),(3,.sc (.int .i64 i))],[fsC f],0,0⟩) (fun i=>i<=f.xs.length/\∀ x∈f.xs.take i,VW f.xs x) (fun i=>f.xs.length-i) 0 ⟨Wc _,fun x hx=>by simp at hx⟩ ?_ ?_
 ·exact wk
 ·rintro i ⟨h1,h2⟩;by_cases h:i<f.xs.length
  ·have g1:=jg f.xs i h;have hbad:¬VW f.xs f.xs[i]->¬Xa f:=fun hn h'=>hn (h' _ (Wx h));have hdef:VW f.xs f.xs[i]↔f.xs[i].links=ZA f.xs[i].ino (qn f.xs)/\if f.xs[i].ino=1 then ZA f.xs[i].ino (qn f.xs)=0/\f.xs[i].parent=1 else 1<=ZA f.xs[i].ino (qn f.xs)/\(f.xs[i].kind=2->ZA f.xs[i].ino (qn f.xs)=1/\f.xs[i].parent=UG f.xs[i].ino (qn f.xs)):=Iff.rfl;push_cast [hll,h,g1]
   repeat refine an ?_
   refine cl (zb2 f f.xs[i].ino hf) ?_;push_cast;generalize ZA f.xs[i].ino (qn f.xs)=c at hdef;generalize UG f.xs[i].ino (qn f.xs)=d at hdef;by_cases c1:f.xs[i].links=(c:Int)
   case neg =>
    have hn:=hbad fun h=>c1 (hdef.1 h).1;push_cast [c1];exact dn (by push_cast [ze,zd,CLe,zg,hn])
   by_cases c2:f.xs[i].ino=1
   ·rw[if_pos c2]at hdef;by_cases c3:(c:Int)=0
    ·by_cases c4:f.xs[i].parent=1
     ·push_cast [c1,c2,c3,c4]
      repeat refine an ?_
      exact ⟨i+1,⟨h,qo h h2 (hdef.2 ⟨c1,by omega,c4⟩)⟩,by omega,wk⟩
     ·have hn:=hbad fun h=>c4 (hdef.1 h).2.2;push_cast [c1,c2,c3,c4];exact dn (by push_cast [ze,zd,CLe,zg,hn])
    ·have hn:=hbad fun h=>by have:=(hdef.1 h).2.1;omega
     push_cast [c1,c2,c3];exact dn (by push_cast [ze,zd,CLe,zg,hn])
   ·rw[if_neg c2]at hdef;by_cases c3:(c:Int)<1
    ·have hn:=hbad fun h=>by have:=(hdef.1 h).2.1;omega
     push_cast [c1,c2,c3];exact dn (by push_cast [ze,zd,CLe,zg,hn])
    by_cases c4:f.xs[i].kind=2
    ·by_cases c5:(c:Int)=1
     ·by_cases c6:f.xs[i].parent=d
      ·push_cast [c1,c2,c3,c4,c5,c6]
       repeat refine an ?_
       exact ⟨i+1,⟨h,qo h h2 (hdef.2 ⟨c1,by omega,fun _=>⟨by omega,c6⟩⟩)⟩,by omega,wk⟩
      ·have hn:=hbad fun h=>c6 ((hdef.1 h).2.2 c4).2;push_cast [c1,c2,c3,c4,c5,c6];exact dn (by push_cast [ze,zd,CLe,zg,hn])
     ·have hn:=hbad fun h=>by have:=((hdef.1 h).2.2 c4).1;omega
      push_cast [c1,c2,c3,c4,c5];exact dn (by push_cast [ze,zd,CLe,zg,hn])
    ·push_cast [c1,c2,c3,c4]
     repeat refine an ?_
     exact ⟨i+1,⟨h,qo h h2 (hdef.2 ⟨c1,by omega,fun h=>absurd h c4⟩)⟩,by omega,wk⟩
  ·rw[Wf (by omega)]at h2;have hn:Xa f:=h2;push_cast [hll,h];exact dn (by push_cast [ze,zd,CLe,zg,hn])
end
end
section
open CA CB
open Go.RowKit
abbrev zcT (S:List Int):List (List C):=S.map fun n=>[C.sc (.int .i64 n)]
def Y1 (S:List Int) (n:Int):List Int:=if n∈S then S else S++[n]
def HF (S:List Int) (es:List zS):List Int:=es.foldl (fun s e=>Y1 s e.ino) S
def Zs (xs:List zo):Nat->Nat->List Int->List Int
 | 0,_,S=>S
 | m+1,i,S=>match S[i]? with
  | some n=>Zs xs m (i+1) (HF S (zf n xs).es)
  | none=>S
def Q9 (f:FsV):Prop:=(Zs f.xs (f.xs.length+1) 0 [1]).length=f.xs.length
instance (f:FsV):Decidable (Q9 f):=by unfold Q9;infer_instance
theorem U0:∀ {S T:List Int},S.Nodup->(∀ n∈S,n∈T)->S.length<=T.length
 | [],T,_,_=>Wc _
 | a :: r,T,hn,hs=>by
  have ha:=hs a Wl;obtain ⟨h1,h2⟩:=OV.1 hn;have:=U0 (S:=r) (T:=T.erase a) h2 fun n hr=>(List.mem_erase_of_ne (fun e=>h1 (by rw[←e];exact hr))).2 (hs n (Wn _ hr));rw[List.length_erase_of_mem ha]at this;have hpos:=WB.2 (List.ne_nil_of_mem ha);rw[Wh];omega
theorem G8:zk n xs=true↔n∈xs.map (·.ino):=by
 unfold zk;rw[Oq,WS];simp
theorem Vb (hn:S.Nodup) (hs:∀ n∈S,zk n xs=true):S.length<=xs.length:=by
 have:=U0 (T:=xs.map (·.ino)) hn fun n h=>G8.1 (hs n h);rwa [We]at this
theorem MP (h:S.Nodup):(Y1 S n).Nodup:=by
 unfold Y1;split
 ·exact h
 ·rw[Ai];refine ⟨h,by simp,fun a ha b hb e=>?_⟩;simp at hb;subst hb;subst e;contradiction
theorem GP {m:Int}:m∈Y1 S n↔m∈S∨m=n:=by
 unfold Y1;split
 ·constructor
  ·exact .inl
  ·rintro (h | h)
   ·exact h
   ·rw[h];assumption
 ·simp
theorem jB (h:zk n xs=true):zf n xs∈xs/\(zf n xs).ino=n:=by
 unfold zk at h;unfold zf Xy;cases hq:xs.find? fun x=>x.ino==n with
 | none =>
  rw[Be]at hq;obtain ⟨x,hx,he⟩:=Oq.1 h;exact absurd he (hq x hx)
 | some y =>
  exact ⟨Bk hq,by simpa using List.find?_some hq⟩
theorem zd7 {es:List zS} (h:k<es.length):HF S (es.take (k+1))=Y1 (HF S (es.take k)) es[k].ino:=by
 unfold HF;rw[WX,Wa h,BE]
 rfl
theorem zku (es:List zS):∀ (S:List Int),S <+: HF S es:=by
 induction es with
 | nil=>exact fun S=>List.prefix_refl S
 | cons e r ih =>
  intro S;refine List.IsPrefix.trans ?_ (ih (Y1 S e.ino));unfold Y1;split
  ·exact List.prefix_refl S
  ·exact List.prefix_append S _
theorem zld (S:List Int) (es:List zS):S.length<=(HF S es).length:=(zku es S).length_le
structure YW (xs:List zo) (S:List Int):Prop where
 nodup:S.Nodup
 has:∀ n∈S,zk n xs=true
theorem YW.len (h:YW xs S):S.length<=xs.length:=Vb h.nodup h.has
theorem YW.one (h:YW xs S) (hn:zk n xs=true):YW xs (Y1 S n):=⟨MP h.nodup,fun m hm=>by
 rcases GP.1 hm with hm | rfl
 ·exact h.has m hm
 ·exact hn⟩
theorem zh3 {j:Nat} (h:j<S.length):((S.take (j+1)).any fun m=>decide (m=n))=(((S.take j).any fun m=>decide (m=n))||decide (S[j]=n)):=by
 rw[WX,Wa h,BQ];simp
theorem zmt:(S.any fun m=>decide (m=n))=decide (n∈S):=by
 rw[Bool.eq_iff_iff,Oq,decide_eq_true_iff];constructor
 ·rintro ⟨m,hm,h⟩;exact (WR h)▸hm
 ·exact fun h=>⟨n,h,Wm rfl⟩
theorem zbB (S:List Int) (i:Nat) (h:i<S.length):(zcT S)[i]?=some [.sc (.int .i64 S[i])]:=by simp[Ws,Wa h]
section
variable {G:zt}
theorem MA (f:FsV) (hf:FsS f) (h3:YX f) (h1:zk 1 f.xs=true):Fun Tryz.prog G 157 [.agg (fsC f)] (.sc (.bool (decide (Q9 f)))) 0:=by
 have hll:(zu f.xs).length=f.xs.length:=We ..;have h40:=hf.len;refine fof (fun i=>if i=5 then qS 9 10 else []) Tryz.func157 ?_;dsimp only[Tryz.f157];push_cast;refine loop (fun p:Nat×List Int=>⟨[(1,.ptr 0 0),(3,.own 0 3 1 (zcT p.2)),(4,.sc (.int .i64 p.1))],[fsC f],1,0⟩) (fun p=>p.1<=p.2.length/\YW f.xs p.2/\Zs f.xs (f.xs.length+1-p.1) p.1 p.2=Zs f.xs (f.xs.length+1) 0 [1]) (fun p=>f.xs.length+1-p.1) (0,[1]) ⟨Wc _,⟨by simp,fun n hn=>by simp at hn;subst hn;exact h1⟩,rfl⟩ ?_ ?_
 ·exact wks [.inl 0]
 ·rintro ⟨i,S⟩ ⟨k1,k2,k3⟩;dsimp only at k1 k2 k3 ⊢;have hSl:=k2.len;have hli:(zcT S).length=S.length:=We ..;by_cases h:i<S.length
  ·have g0:=zbB S i h;obtain ⟨hm,hino⟩:=jB (k2.has S[i] (Wx h));push_cast [hli,h,g0]
   repeat refine an ?_
   refine cl (qt f S[i] (by omega)) ?_;push_cast;rw[show f.xs.length+1-i=(f.xs.length+1-(i+1))+1 by omega,Zs,Wa h]at k3;dsimp only at k3;generalize zf S[i] f.xs=x at hm hino k3;have hx40:=(hf.node x hm).1;have hle:(zJ x.es).length=x.es.length:=We ..;refine loop (fun k:Nat=>⟨[(1,.ptr 0 0),(3,.own 0 3 1 (zcT (HF S (x.es.take k)))),(4,.sc (.int .i64 i)),(5,.ptr 1 0),(7,.sc (.int .i64 k))],[fsC f,J0 x],1,0⟩) (fun k=>k<=x.es.length/\YW f.xs (HF S (x.es.take k))) (fun k=>x.es.length-k) 0 ⟨Wc _,k2⟩ ?_ ?_
   ·exact wks [.inl 0] (by push_cast [ze,zd,CLe,zg,OD,HF,B3])
   ·rintro k ⟨hk0,k4⟩;by_cases hk:k<x.es.length
    ·have g2:=Je x.es k hk;have hT:=k4.len;have ht:=zd7 (S:=S) hk;have hhas:zk x.es[k].ino f.xs=true:=h3 x hm _ (Wx hk);have k5:=k4.one hhas;rw[←ht]at k5;generalize hT1:HF S (x.es.take (k+1))=T1 at ht k5;generalize HF S (x.es.take k)=T at k4 hT ht;have hlT:(zcT T).length=T.length:=We ..;generalize hn:x.es[k].ino=n at g2 ht;push_cast [hle,hk];refine loop (fun j:Nat=>⟨[(1,.ptr 0 0),(3,.own 0 3 1 (zcT T)),(4,.sc (.int .i64 i)),(5,.ptr 1 0),(7,.sc (.int .i64 k)),(8,.sc (.bool ((T.take j).any fun m=>decide (m=n)))),(9,.sc (.int .i64 j))],[fsC f,J0 x],1,0⟩) (fun j=>j<=T.length) (fun j=>T.length-j) 0 (Wc _) ?_ ?_
     ·exact wks [.inl 0] (by push_cast [ze,zd,CLe,zg,OD,BX])
     ·intro j hj0;by_cases hj:j<T.length
      ·have g3:=zbB T j hj;have ha:=zh3 (n:=n) hj;by_cases hq:((T.take j).any fun m=>decide (m=n))=true
       ·rw[hq,BY]at ha;push_cast [hlT,hj,hq]
        repeat refine an ?_
        exact ⟨j+1,hj,by omega,wks [.inl 0] (by push_cast [ze,zd,CLe,zg,ha])⟩
       ·have hq:=Oo.2 hq;rw[hq,O7]at ha;push_cast [hlT,hj,hq,g3,g2,hn]
        repeat refine an ?_
        exact ⟨j+1,hj,by omega,wks [.inl 0] (by push_cast [ze,zd,CLe,zg,ha])⟩
      ·have hTj:(T.take j)=T:=Wf (by omega);have hany:=zmt (S:=T) (n:=n);unfold Y1 at ht;by_cases hin:n∈T
       ·rw[if_pos hin]at ht;rw[Wm hin]at hany;push_cast [hlT,hj,hTj,hany]
        repeat refine an ?_
        exact ⟨k+1,⟨hk,by rw[hT1];exact k5⟩,by omega,wks [.inl 0] (by push_cast [ze,zd,CLe,zg,hT1,ht])⟩
       ·rw[if_neg hin]at ht;rw[Wk hin]at hany;push_cast [hlT,hj,hTj,hany,g2,hn]
        repeat refine an ?_
        exact ⟨k+1,⟨hk,by rw[hT1];exact k5⟩,by omega,wks [.inl 0] (by push_cast [ze,zd,CLe,zg,hT1,ht,WY])⟩
    ·have hkk:x.es.take k=x.es:=Wf (by omega);rw[hkk]at k4;have hge:i+1<=(HF S x.es).length:=WL h (zld S x.es);push_cast [hle,hk,hkk]
     repeat refine an ?_
     exact ⟨(i+1,HF S x.es),⟨hge,k4,k3⟩,by dsimp only;omega,wks [.inl 0]⟩
  ·push_cast [hli,h];have hfin:Zs f.xs (f.xs.length+1-i) i S=S:=by
    rw[show f.xs.length+1-i=(f.xs.length-i)+1 by omega,Zs,W2 (by omega)]
   rw[hfin]at k3;have hn:Q9 f↔S.length=f.xs.length:=by unfold Q9;rw[←k3]
   exact dn (by push_cast [ze,zd,CLe,zg,hn,hll])
end
end
section
open CA CB
open Go.RowKit
def Xl (es:List zS):Prop:=∀ i (h:i<es.length),may es[i].name=true/\1<=es[i].ino/\(0<i->Op.bytesLess es[i-1].name es[i].name=true)
instance (es:List zS):Decidable (Xl es):=by unfold Xl;infer_instance
def Y6 (x:zo):Prop:=(x.kind=1∨x.kind=2∨x.kind=3)/\(x.kind≠2->x.es = []/\x.parent=0)/\(x.kind=2->x.data = []/\Xl x.es)/\(x.kind=3->1<=x.data.length/\x.data.length<=4095/\∀ b∈x.data,b≠0)
instance (x:zo):Decidable (Y6 x):=by unfold Y6;infer_instance
def Y4 (f:FsV):Prop:=∀ x∈f.xs,Y6 x
instance (f:FsV):Decidable (Y4 f):=by unfold Y4;infer_instance
def JD (f:FsV):Int:=if JB f then if Y4 f then if YX f then if Xa f then if Q9 f then if HJ f then 0 else 6 else 5 else 4 else 3 else 2 else 1
def okV (f:FsV):Prop:=H4 f.xs/\JD f=0
instance (f:FsV):Decidable (okV f):=by unfold okV;infer_instance
theorem zej (es:List zS) (hl:es.length<=100000) (hn:∀ e∈es,e.name.length<=1000000):Fun Tryz.prog G0 188 [.sl 2 (zJ es)] (qQ (decide (Xl es))) 0:=by
 have hle:(zJ es).length=es.length:=We ..;refine fon Tryz.func188 ?_;dsimp only[Tryz.f188];push_cast;refine loop (fun i:Nat=>⟨[(0,.sl 2 (zJ es)),(3,.sc (.int .i64 i))],[],0,0⟩) (fun i=>i<=es.length/\∀ j (h:j<es.length),j<i->may es[j].name=true/\1<=es[j].ino/\(0<j->Op.bytesLess es[j-1].name es[j].name=true)) (fun i=>es.length-i) 0 ⟨Wc _,fun j h h'=>absurd h' (OJ _)⟩ ?_ ?_
 ·exact wk
 ·rintro i ⟨h1,h2⟩;by_cases h:i<es.length
  ·have g1:=Je es i h;have hm:=VM es[i].name (by have:=hn _ (Wx h);omega);push_cast [hle,h,g1]
   repeat refine an ?_
   cases c1:may es[i].name with
   | false =>
    have hno:¬Xl es:=fun hr=>by have:=(hr i h).1;rw[c1]at this;cases this
    refine cl hm ?_;push_cast [c1];exact dn (by push_cast [ze,zd,CLe,zg,hno])
   | true =>
    by_cases c2:es[i].ino<1
    ·have hno:¬Xl es:=fun hr=>by have:=(hr i h).2.1;omega
     refine cl hm ?_;push_cast [c1,g1,c2]
     repeat refine an ?_
     exact dn (by push_cast [ze,zd,CLe,zg,hno])
    ·have step:(0<i->Op.bytesLess es[i-1].name es[i].name=true)->∀ j (h:j<es.length),j<i+1->may es[j].name=true/\1<=es[j].ino/\(0<j->Op.bytesLess es[j-1].name es[j].name=true):=fun hb j hj hlt=>by
      rcases Wr j i with q | q
      ·exact h2 j hj q
      ·have:j=i:=by omega
       subst this;exact ⟨c1,by omega,hb⟩
     by_cases c3:0<i
     ·have g2:=Je es (i-1) (by omega);have e1:(i:Int)-1=((i-1:Nat):Int):=by omega
      cases c4:Op.bytesLess es[i-1].name es[i].name with
      | true =>
       refine cl hm ?_;push_cast [c1,g1,c2]
       repeat refine an ?_
       push_cast [c3,e1,g2,g1,c4]
       repeat refine an ?_
       exact ⟨i+1,⟨h,step fun _=>c4⟩,by omega,wk⟩
      | false =>
       have hno:¬Xl es:=fun hr=>by have:=(hr i h).2.2 c3;rw[c4]at this;cases this
       refine cl hm ?_;push_cast [c1,g1,c2]
       repeat refine an ?_
       push_cast [c3,e1,g2,g1,c4]
       repeat refine an ?_
       exact dn (by push_cast [ze,zd,CLe,zg,hno])
     ·refine cl hm ?_;push_cast [c1,g1,c2]
      repeat refine an ?_
      push_cast [c3]
      repeat refine an ?_
      exact ⟨i+1,⟨h,step fun h=>absurd h c3⟩,by omega,wk⟩
  ·have hr:Xl es:=fun j hj=>h2 j hj (by omega);push_cast [hle,h];exact dn (by push_cast [ze,zd,CLe,zg,hr])
end
section
open CA CB
open Go.RowKit
theorem GI (f:FsV) (hf:FsS f):Fun Tryz.prog G0 154 [.agg (fsC f)] (qQ (decide (Y4 f))) 0:=by
 have hll:(zu f.xs).length=f.xs.length:=We ..;have h40:=hf.len;refine fon Tryz.func154 ?_;dsimp only[Tryz.f154];push_cast;refine loop (fun i:Nat=>⟨[(1,.ptr 0 0),(3,.sc (.int .i64 i))],[fsC f],0,0⟩) (fun i=>i<=f.xs.length/\∀ x∈f.xs.take i,Y6 x) (fun i=>f.xs.length-i) 0 ⟨Wc _,fun x hx=>by simp at hx⟩ ?_ ?_
 ·exact wk
 ·rintro i ⟨h1,h2⟩;by_cases h:i<f.xs.length
  case neg =>
   rw[Wf (by omega)]at h2;have hn:Y4 f:=h2;push_cast [hll,h];exact dn (by push_cast [ze,zd,CLe,zg,hn])
  have g1:=jg f.xs i h;have hbad:¬Y6 f.xs[i]->¬Y4 f:=fun hn h'=>hn (h' _ (Wx h));have hs:=hf.node _ (Wx h);have step:Y6 f.xs[i]->∀ x∈f.xs.take (i+1),Y6 x:=fun hq=>qo h h2 hq;push_cast [hll,h,g1]
  repeat refine an ?_
  generalize f.xs[i]=x at g1 hbad hs step;have hle:(zJ x.es).length=x.es.length:=We ..;have hent:x.es.length<=10000:=hs.1;by_cases k2:x.kind=2
  ·by_cases d0:x.data = []
   ·have hr:=zej x.es (by omega) fun e he=>by have:=hs.2.2 e he;omega
    cases c1:decide (Xl x.es) with
    | false =>
     have hn:=hbad fun hq=>OQ c1 (hq.2.2.1 k2).2;push_cast [k2,d0];refine cl hr ?_;push_cast [c1];exact dn (by push_cast [ze,zd,CLe,zg,hn])
    | true =>
     have hq:Y6 x:=⟨.inr (.inl k2),fun h=>absurd k2 h,fun _=>⟨d0,WR c1⟩,fun h=>by omega⟩;push_cast [k2,d0];refine cl hr ?_;push_cast [c1,k2];refine loop (fun j:Nat=>⟨[(1,.ptr 0 0),(3,.sc (.int .i64 i)),(4,.ptr 1 0),(5,.sc (.int .i64 j))],[fsC f,J0 x],0,0⟩) (fun j=>j=0) (fun j=>0) 0 rfl ?_ ?_
     ·exact wk (by push_cast [ze,zd,CLe,zg,k2,d0]) (by push_cast [ze,zd,CLe,zg,k2,d0])
     ·rintro j rfl;push_cast [d0]
      repeat refine an ?_
      exact ⟨i+1,⟨h,step hq⟩,by omega,wk⟩
   ·have hn:=hbad fun hq=>d0 (hq.2.2.1 k2).1;push_cast [k2,d0];exact dn (by push_cast [ze,zd,CLe,zg,hn])
  by_cases e0:x.es = []
  case neg =>
   have hn:=hbad fun hq=>e0 (hq.2.1 k2).1;have hpos:0<(x.es.length:Int):=by have:=WB.2 e0;omega
   by_cases k1:x.kind=1
   ·push_cast [k1,hle,hpos];exact dn (by push_cast [ze,zd,CLe,zg,hn])
   ·by_cases k3:x.kind=3
    ·push_cast [k1,k2,k3,hle,hpos];exact dn (by push_cast [ze,zd,CLe,zg,hn])
    ·have hn:=hbad fun hq=>by rcases hq.1 with q | q | q<;>contradiction
     push_cast [k1,k2,k3];exact dn (by push_cast [ze,zd,CLe,zg,hn])
  have hl0:x.es.length=0:=by rw[e0];rfl
  by_cases p0:x.parent=0
  case neg =>
   have hn:=hbad fun hq=>p0 (hq.2.1 k2).2;by_cases k1:x.kind=1
   ·push_cast [k1,hle,hl0,p0];exact dn (by push_cast [ze,zd,CLe,zg,hn])
   ·by_cases k3:x.kind=3
    ·push_cast [k1,k2,k3,hle,hl0,p0];exact dn (by push_cast [ze,zd,CLe,zg,hn])
    ·have hn:=hbad fun hq=>by rcases hq.1 with q | q | q<;>contradiction
     push_cast [k1,k2,k3];exact dn (by push_cast [ze,zd,CLe,zg,hn])
  by_cases k1:x.kind=1
  ·have hq:Y6 x:=⟨.inl k1,fun _=>⟨e0,p0⟩,fun h=>absurd h k2,fun h=>by omega⟩;push_cast [k1,hle,hl0,p0];refine loop (fun j:Nat=>⟨[(1,.ptr 0 0),(3,.sc (.int .i64 i)),(4,.ptr 1 0),(5,.sc (.int .i64 j))],[fsC f,J0 x],0,0⟩) (fun j=>j=0) (fun j=>0) 0 rfl ?_ ?_
   ·exact wk (by push_cast [ze,zd,CLe,zg,k1,p0]) (by push_cast [ze,zd,CLe,zg,k1,p0])
   ·rintro j rfl;by_cases hd:(0:Int)<x.data.length
    ·push_cast [hd,k1]
     repeat refine an ?_
     exact ⟨i+1,⟨h,step hq⟩,by omega,wk⟩
    ·push_cast [hd,k1]
     repeat refine an ?_
     exact ⟨i+1,⟨h,step hq⟩,by omega,wk⟩
  by_cases k3:x.kind=3
  case neg =>
   have hn:=hbad fun hq=>by rcases hq.1 with q | q | q<;>contradiction
   push_cast [k1,k2,k3];exact dn (by push_cast [ze,zd,CLe,zg,hn])
  by_cases l1:(x.data.length:Int)<1
  ·have hn:=hbad fun hq=>by have:=(hq.2.2.2 k3).1;omega
   push_cast [k1,k2,k3,hle,hl0,p0,l1];exact dn (by push_cast [ze,zd,CLe,zg,hn])
  by_cases l2:4095<(x.data.length:Int)
  ·have hn:=hbad fun hq=>by have:=(hq.2.2.2 k3).2.1;omega
   push_cast [k1,k2,k3,hle,hl0,p0,l1,l2];exact dn (by push_cast [ze,zd,CLe,zg,hn])
  push_cast [k1,k2,k3,hle,hl0,p0,l1,l2];refine loop (fun j:Nat=>⟨[(1,.ptr 0 0),(3,.sc (.int .i64 i)),(4,.ptr 1 0),(5,.sc (.int .i64 j))],[fsC f,J0 x],0,0⟩) (fun j=>j<=x.data.length/\∀ b∈x.data.take j,b≠0) (fun j=>x.data.length-j) 0 ⟨Wc _,fun b hb=>by simp at hb⟩ ?_ ?_
  ·exact wk (by push_cast [ze,zd,CLe,zg,k3,p0]) (by push_cast [ze,zd,CLe,zg,k3,p0])
  ·rintro j ⟨j1,j2⟩;by_cases hj:j<x.data.length
   ·have hb:x.data[j]?=some x.data[j]:=Wa hj;by_cases z:(x.data[j].toNat:Int)=0
    ·have hn:=hbad fun hq=>(hq.2.2.2 k3).2.2 _ (Wx hj) (Ao.1 (by simpa using z));push_cast [hj,k3,hb,z]
     repeat refine an ?_
     exact dn (by push_cast [ze,zd,CLe,zg,hn])
    ·push_cast [hj,k3,hb,z]
     repeat refine an ?_
     exact ⟨j+1,⟨hj,qo hj j2 fun hz=>z (by rw[hz];rfl)⟩,by omega,wk⟩
   ·rw[Wf (by omega)]at j2;have hq:Y6 x:=⟨.inr (.inr k3),fun _=>⟨e0,p0⟩,fun h=>absurd h k2,fun _=>⟨by omega,by omega,j2⟩⟩;push_cast [hj,k3]
    repeat refine an ?_
    exact ⟨i+1,⟨h,step hq⟩,by omega,wk⟩
theorem zhI (f:FsV) (hf:FsS f):Fun Tryz.prog G0 107 [.agg (fsC f)] (.sc (.int .i64 (JD f))) 0:=by
 have h40:=hf.len;have hb:ql f.xs<=100000000:=by have:=hf.bytes;omega
 refine fon Tryz.func107 ?_;dsimp only[Tryz.f107];push_cast;by_cases c1:JB f
 case neg =>
  refine cl (xO f (by omega)) ?_;push_cast [Wk c1];exact dn (by push_cast [ze,zd,CLe,zg,JD,c1])
 refine cl (xO f (by omega)) ?_;push_cast [Wm c1];by_cases c2:Y4 f
 case neg =>
  refine cl (GI f hf) ?_;push_cast [Wk c2];exact dn (by push_cast [ze,zd,CLe,zg,JD,c1,c2])
 refine cl (GI f hf) ?_;push_cast [Wm c2];by_cases c3:YX f
 case neg =>
  refine cl (M4 f hf) ?_;push_cast [Wk c3];exact dn (by push_cast [ze,zd,CLe,zg,JD,c1,c2,c3])
 refine cl (M4 f hf) ?_;push_cast [Wm c3];by_cases c4:Xa f
 case neg =>
  refine cl (Gn f hf) ?_;push_cast [Wk c4];exact dn (by push_cast [ze,zd,CLe,zg,JD,c1,c2,c3,c4])
 refine cl (Gn f hf) ?_;push_cast [Wm c4];by_cases c5:Q9 f
 case neg =>
  refine cl (MA f hf c3 c1.2.2.2.2.2.2.2.1) ?_;push_cast [Wk c5];exact dn (by push_cast [ze,zd,CLe,zg,JD,c1,c2,c3,c4,c5])
 refine cl (MA f hf c3 c1.2.2.2.2.2.2.2.1) ?_;push_cast [Wm c5];by_cases c6:HJ f
 case neg =>
  refine cl (za4 f hf hb) ?_;push_cast [Wk c6];exact dn (by push_cast [ze,zd,CLe,zg,JD,c1,c2,c3,c4,c5,c6])
 refine cl (za4 f hf hb) ?_;push_cast [Wm c6];exact dn (by push_cast [ze,zd,CLe,zg,JD,c1,c2,c3,c4,c5,c6])
end
section
open CA CB
open Go.RowKit
def jR (x:zo) (k:zY):Bool:=decide (k.ino=x.ino)&&!k.content
def qJ (w:qV) (x:zo):Prop:=zk x.ino w.fs.xs=false/\1<=x.ino/\x.ino<w.fs.next/\x.links=0/\x.parent=0/\x.es = []/\(x.kind=1∨x.kind=2∨x.kind=3)/\(x.kind=2->x.data = [])/\(x.kind=3->1<=x.data.length/\x.data.length<=4095/\∀ b∈x.data,b≠0)/\w.kept.any (jR x)=true
instance (w:qV) (x:zo):Decidable (qJ w x):=by unfold qJ;infer_instance
theorem zr3 {α:Type} {P:α->Bool} {l:List α} (h:k<l.length):(l.take (k+1)).any P=((l.take k).any P||P l[k]):=by
 rw[WX,Wa h,BQ];simp
theorem zc8 (w:qV) (x:zo) (hl:w.fs.xs.length<=100000) (hk:w.kept.length<=100000) (he:x.es.length<=100000) (hd:x.data.length<=100000):Fun Tryz.prog G0 109 [ZB w,.agg (J0 x)] (qQ (decide (qJ w x))) 0:=by
 have hg:=qt (G:=G0) w.fs x.ino hl;have hkl:(zO w.kept).length=w.kept.length:=We ..;have hle:(zJ x.es).length=x.es.length:=We ..;by_cases c1:zk x.ino w.fs.xs=true
 ·have hn:¬qJ w x:=fun h=>by have:=h.1;rw[c1]at this;cases this
  rw[c1]at hg;refine fon Tryz.func109 ?_;dsimp only[Tryz.f109];push_cast;refine cl hg ?_;push_cast;exact dn (by push_cast [ze,zd,CLe,zg,hn])
 have c1:=Oo.2 c1;rw[c1]at hg;by_cases c2:x.ino<1
 case pos =>
  have hn:¬qJ w x:=fun h=>by have:=h.2.1;omega
  refine fon Tryz.func109 ?_;dsimp only[Tryz.f109];push_cast;refine cl hg ?_;push_cast [hle,c2];exact dn (by push_cast [ze,zd,CLe,zg,hn])
 by_cases c3:w.fs.next<=x.ino
 case pos =>
  have hn:¬qJ w x:=fun h=>by have:=h.2.2.1;omega
  refine fon Tryz.func109 ?_;dsimp only[Tryz.f109];push_cast;refine cl hg ?_;push_cast [hle,c2,c3];exact dn (by push_cast [ze,zd,CLe,zg,hn])
 by_cases c4:x.links=0
 case neg =>
  have hn:¬qJ w x:=fun h=>c4 h.2.2.2.1;refine fon Tryz.func109 ?_;dsimp only[Tryz.f109];push_cast;refine cl hg ?_;push_cast [hle,c2,c3,c4];exact dn (by push_cast [ze,zd,CLe,zg,hn])
 by_cases c5:x.parent=0
 case neg =>
  have hn:¬qJ w x:=fun h=>c5 h.2.2.2.2.1;refine fon Tryz.func109 ?_;dsimp only[Tryz.f109];push_cast;refine cl hg ?_;push_cast [hle,c2,c3,c4,c5];exact dn (by push_cast [ze,zd,CLe,zg,hn])
 by_cases c6:(x.es.length:Int)=0
 case neg =>
  have hn:¬qJ w x:=fun h=>c6 (by rw[h.2.2.2.2.2.1];rfl);refine fon Tryz.func109 ?_;dsimp only[Tryz.f109];push_cast;refine cl hg ?_;push_cast [hle,c2,c3,c4,c5,c6];exact dn (by push_cast [ze,zd,CLe,zg,hn])
 by_cases c7:x.kind<1
 case pos =>
  have hn:¬qJ w x:=fun h=>by have:=h.2.2.2.2.2.2.1;omega
  refine fon Tryz.func109 ?_;dsimp only[Tryz.f109];push_cast;refine cl hg ?_;push_cast [hle,c2,c3,c4,c5,c6,c7];exact dn (by push_cast [ze,zd,CLe,zg,hn])
 by_cases c8:3<x.kind
 case pos =>
  have hn:¬qJ w x:=fun h=>by have:=h.2.2.2.2.2.2.1;omega
  refine fon Tryz.func109 ?_;dsimp only[Tryz.f109];push_cast;refine cl hg ?_;push_cast [hle,c2,c3,c4,c5,c6,c7,c8];exact dn (by push_cast [ze,zd,CLe,zg,hn])
 have hes:x.es = []:=WP (by omega);have hkd:x.kind=1∨x.kind=2∨x.kind=3:=by omega
 have key:(x.kind=2->x.data = [])->(x.kind=3->1<=x.data.length/\x.data.length<=4095/\∀ b∈x.data,b≠0)->decide (qJ w x)=w.kept.any (jR x):=fun q1 q2=>by
  cases hn:w.kept.any (jR x) with
  | true=>exact Wm ⟨c1,by omega,by omega,c4,c5,hes,hkd,q1,q2,hn⟩
  | false=>exact Wk fun h=>by have:=h.2.2.2.2.2.2.2.2.2;rw[hn]at this;cases this
 by_cases k2:x.kind=2
 ·by_cases d0:x.data = []
  ·have hdl:((0:Int)<x.data.length)=False:=Wu (by rw[d0];simp);refine fon Tryz.func109 ?_;dsimp only[Tryz.f109];push_cast;refine cl hg ?_;push_cast [hle,c2,c3,c4,c5,c6,c7,c8,k2,d0,hdl];refine loop (fun j:Nat=>⟨[(2,.ptr 0 0),(3,.ptr 1 0),(7,.sc (.int .i64 j))],[Mq w,J0 x],0,0⟩) (fun j=>j=0) (fun j=>0) 0 rfl ?_ ?_
   ·exact wk (h5:=by push_cast [ze,zd,CLe,zg,k2,d0,c4,c5])
   ·rintro j rfl;push_cast [hdl,d0];refine loop (fun i:Nat=>⟨[(2,.ptr 0 0),(3,.ptr 1 0),(8,.sc (.bool ((w.kept.take i).any (jR x)))),(9,.sc (.int .i64 i))],[Mq w,J0 x],0,0⟩) (fun i=>i<=w.kept.length) (fun i=>w.kept.length-i) 0 (Wc _) ?_ ?_
    ·exact wk (by push_cast [ze,zd,CLe,zg,OD,BX])
    ·intro i hi;by_cases h:i<w.kept.length
     ·have g:=JN w.kept i h;have ha:=zr3 (P:=jR x) h;have hp:jR x w.kept[i]=(decide (w.kept[i].ino=x.ino)&&!w.kept[i].content):=rfl;by_cases hn:((w.kept.take i).any (jR x))=true
      ·rw[hn,BY]at ha;push_cast [hkl,h,hn]
       repeat refine an ?_
       exact ⟨i+1,h,by omega,wk (by push_cast [ze,zd,CLe,zg,ha])⟩
      ·have hn:=Oo.2 hn;rw[hn,O7,hp]at ha;by_cases he:w.kept[i].ino=x.ino
       ·rw[Wm he,Ok]at ha;push_cast [hkl,h,hn,g,he]
        repeat refine an ?_
        exact ⟨i+1,h,by omega,wk (by push_cast [ze,zd,CLe,zg,ha])⟩
       ·rw[Wk he,Od]at ha;push_cast [hkl,h,hn,g,he]
        repeat refine an ?_
        exact ⟨i+1,h,by omega,wk (by push_cast [ze,zd,CLe,zg,ha])⟩
     ·rw[Wf (by omega)];have hd:decide (qJ w x)=w.kept.any (jR x):=key (fun _=>d0) (fun h=>by omega);push_cast [hkl,h];exact dn (by push_cast [ze,zd,CLe,zg,hd])
  ·have hn:¬qJ w x:=fun h=>d0 (h.2.2.2.2.2.2.2.1 k2);refine fon Tryz.func109 ?_;dsimp only[Tryz.f109];push_cast;refine cl hg ?_;push_cast [hle,c2,c3,c4,c5,c6,c7,c8,k2,d0];exact dn (by push_cast [ze,zd,CLe,zg,hn])
 by_cases k3:x.kind=3
 ·by_cases l1:(x.data.length:Int)<1
  ·have hn:¬qJ w x:=fun h=>by have:=(h.2.2.2.2.2.2.2.2.1 k3).1;omega
   refine fon Tryz.func109 ?_;dsimp only[Tryz.f109];push_cast;refine cl hg ?_;push_cast [hle,c2,c3,c4,c5,c6,c7,c8,k2,k3,l1];exact dn (by push_cast [ze,zd,CLe,zg,hn])
  by_cases l2:4095<(x.data.length:Int)
  ·have hn:¬qJ w x:=fun h=>by have:=(h.2.2.2.2.2.2.2.2.1 k3).2.1;omega
   refine fon Tryz.func109 ?_;dsimp only[Tryz.f109];push_cast;refine cl hg ?_;push_cast [hle,c2,c3,c4,c5,c6,c7,c8,k2,k3,l1,l2];exact dn (by push_cast [ze,zd,CLe,zg,hn])
  refine fon Tryz.func109 ?_;dsimp only[Tryz.f109];push_cast;refine cl hg ?_;push_cast [hle,c2,c3,c4,c5,c6,c7,c8,k2,k3,l1,l2];refine loop (fun j:Nat=>⟨[(2,.ptr 0 0),(3,.ptr 1 0),(7,.sc (.int .i64 j))],[Mq w,J0 x],0,0⟩) (fun j=>j<=x.data.length/\∀ b∈x.data.take j,b≠0) (fun j=>x.data.length-j) 0 ⟨Wc _,fun b hb=>by simp at hb⟩ ?_ ?_
  ·exact wk (h5:=by push_cast [ze,zd,CLe,zg,k3,c4,c5])
  ·rintro j ⟨j1,j2⟩;by_cases hj:j<x.data.length
   ·have hb:x.data[j]?=some x.data[j]:=Wa hj;by_cases z:(x.data[j].toNat:Int)=0
    ·have hn:¬qJ w x:=fun h=>(h.2.2.2.2.2.2.2.2.1 k3).2.2 _ (Wx hj) (Ao.1 (by simpa using z));push_cast [hj,k3,hb,z]
     repeat refine an ?_
     exact dn (by push_cast [ze,zd,CLe,zg,hn])
    ·push_cast [hj,k3,hb,z]
     repeat refine an ?_
     exact ⟨j+1,⟨hj,qo hj j2 fun hz=>z (by rw[hz];rfl)⟩,by omega,wk⟩
   ·rw[Wf (by omega)]at j2;push_cast [hj,k3];refine loop (fun i:Nat=>⟨[(2,.ptr 0 0),(3,.ptr 1 0),(8,.sc (.bool ((w.kept.take i).any (jR x)))),(9,.sc (.int .i64 i))],[Mq w,J0 x],0,0⟩) (fun i=>i<=w.kept.length) (fun i=>w.kept.length-i) 0 (Wc _) ?_ ?_
    ·exact wk (by push_cast [ze,zd,CLe,zg,OD,BX])
    ·intro i hi;by_cases h:i<w.kept.length
     ·have g:=JN w.kept i h;have ha:=zr3 (P:=jR x) h;have hp:jR x w.kept[i]=(decide (w.kept[i].ino=x.ino)&&!w.kept[i].content):=rfl;by_cases hn:((w.kept.take i).any (jR x))=true
      ·rw[hn,BY]at ha;push_cast [hkl,h,hn]
       repeat refine an ?_
       exact ⟨i+1,h,by omega,wk (by push_cast [ze,zd,CLe,zg,ha])⟩
      ·have hn:=Oo.2 hn;rw[hn,O7,hp]at ha;by_cases he:w.kept[i].ino=x.ino
       ·rw[Wm he,Ok]at ha;push_cast [hkl,h,hn,g,he]
        repeat refine an ?_
        exact ⟨i+1,h,by omega,wk (by push_cast [ze,zd,CLe,zg,ha])⟩
       ·rw[Wk he,Od]at ha;push_cast [hkl,h,hn,g,he]
        repeat refine an ?_
        exact ⟨i+1,h,by omega,wk (by push_cast [ze,zd,CLe,zg,ha])⟩
     ·rw[Wf (by omega)];have hd:decide (qJ w x)=w.kept.any (jR x):=key (fun h=>absurd h k2) (fun _=>⟨by omega,by omega,j2⟩);push_cast [hkl,h];exact dn (by push_cast [ze,zd,CLe,zg,hd])
 ·have k1:x.kind=1:=by omega
  refine fon Tryz.func109 ?_;dsimp only[Tryz.f109];push_cast;refine cl hg ?_;push_cast [hle,c2,c3,c4,c5,c6,c7,c8,k2,k3];refine loop (fun j:Nat=>⟨[(2,.ptr 0 0),(3,.ptr 1 0),(7,.sc (.int .i64 j))],[Mq w,J0 x],0,0⟩) (fun j=>j=0) (fun j=>0) 0 rfl ?_ ?_
  ·exact wk (h5:=by push_cast [ze,zd,CLe,zg,c4,c5])
  ·rintro j rfl;by_cases hd0:(0:Int)<x.data.length
   ·push_cast [hd0,k3];refine loop (fun i:Nat=>⟨[(2,.ptr 0 0),(3,.ptr 1 0),(8,.sc (.bool ((w.kept.take i).any (jR x)))),(9,.sc (.int .i64 i))],[Mq w,J0 x],0,0⟩) (fun i=>i<=w.kept.length) (fun i=>w.kept.length-i) 0 (Wc _) ?_ ?_
    ·exact wk (by push_cast [ze,zd,CLe,zg,OD,BX])
    ·intro i hi;by_cases h:i<w.kept.length
     ·have g:=JN w.kept i h;have ha:=zr3 (P:=jR x) h;have hp:jR x w.kept[i]=(decide (w.kept[i].ino=x.ino)&&!w.kept[i].content):=rfl;by_cases hn:((w.kept.take i).any (jR x))=true
      ·rw[hn,BY]at ha;push_cast [hkl,h,hn]
       repeat refine an ?_
       exact ⟨i+1,h,by omega,wk (by push_cast [ze,zd,CLe,zg,ha])⟩
      ·have hn:=Oo.2 hn;rw[hn,O7,hp]at ha;by_cases he:w.kept[i].ino=x.ino
       ·rw[Wm he,Ok]at ha;push_cast [hkl,h,hn,g,he]
        repeat refine an ?_
        exact ⟨i+1,h,by omega,wk (by push_cast [ze,zd,CLe,zg,ha])⟩
       ·rw[Wk he,Od]at ha;push_cast [hkl,h,hn,g,he]
        repeat refine an ?_
        exact ⟨i+1,h,by omega,wk (by push_cast [ze,zd,CLe,zg,ha])⟩
     ·rw[Wf (by omega)];have hd:decide (qJ w x)=w.kept.any (jR x):=key (fun h=>absurd h k2) (fun h=>absurd h k3);push_cast [hkl,h];exact dn (by push_cast [ze,zd,CLe,zg,hd])
   ·push_cast [hd0,k3];refine loop (fun i:Nat=>⟨[(2,.ptr 0 0),(3,.ptr 1 0),(8,.sc (.bool ((w.kept.take i).any (jR x)))),(9,.sc (.int .i64 i))],[Mq w,J0 x],0,0⟩) (fun i=>i<=w.kept.length) (fun i=>w.kept.length-i) 0 (Wc _) ?_ ?_
    ·exact wk (by push_cast [ze,zd,CLe,zg,OD,BX])
    ·intro i hi;by_cases h:i<w.kept.length
     ·have g:=JN w.kept i h;have ha:=zr3 (P:=jR x) h;have hp:jR x w.kept[i]=(decide (w.kept[i].ino=x.ino)&&!w.kept[i].content):=rfl;by_cases hn:((w.kept.take i).any (jR x))=true
      ·rw[hn,BY]at ha;push_cast [hkl,h,hn]
       repeat refine an ?_
       exact ⟨i+1,h,by omega,wk (by push_cast [ze,zd,CLe,zg,ha])⟩
      ·have hn:=Oo.2 hn;rw[hn,O7,hp]at ha;by_cases he:w.kept[i].ino=x.ino
       ·rw[Wm he,Ok]at ha;push_cast [hkl,h,hn,g,he]
        repeat refine an ?_
        exact ⟨i+1,h,by omega,wk (by push_cast [ze,zd,CLe,zg,ha])⟩
       ·rw[Wk he,Od]at ha;push_cast [hkl,h,hn,g,he]
        repeat refine an ?_
        exact ⟨i+1,h,by omega,wk (by push_cast [ze,zd,CLe,zg,ha])⟩
     ·rw[Wf (by omega)];have hd:decide (qJ w x)=w.kept.any (jR x):=key (fun h=>absurd h k2) (fun h=>absurd h k3);push_cast [hkl,h];exact dn (by push_cast [ze,zd,CLe,zg,hd])
end
end Go.Proofs.YtnpdbhbmakdklaaGreatDoor.Vcg
