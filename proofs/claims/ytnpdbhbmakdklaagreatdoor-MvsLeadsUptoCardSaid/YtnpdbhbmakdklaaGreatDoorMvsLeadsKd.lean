/- What the proof of MvsLeads leans on, part 4. No condition beyond what each theorem states. -/
import Derived.Test.YtnpdbhbmakdklaaGreatDoorMvsLeadsKc
import Derived.Lib.QuoteLoop
import Derived.Lib.IndexAny
import Derived.ProofKit
import Derived.Deep.Slices
import Derived.Deep.Fields
import Derived.ChangeSame
import Derived.ChangeOld
import Derived.Lib.SmallJoins
import Derived.Lib.LaidU8
import Derived.OpenShut
import Derived.FnData
import Derived.Lib.Bytealg
set_option linter.unusedVariables false
set_option linter.unusedSimpArgs false
set_option linter.unusedSectionVars false
set_option maxRecDepth 100000
set_option maxHeartbeats 4000000
namespace Go.Proofs.YtnpdbhbmakdklaaGreatDoor.Vcg
variable {P:Program} {W:World} {l:List (Int×Int)} {x:zn} {f:FsV} {args:List C} {n i:Int} {k N:Nat} {xs:List zn} {α κ:Type} {S:List Int}
section
open Go.RowKit Go.Shelf
def bad (b:UInt8):Bool:=decide (b=47)||decide (b=0)
theorem UF (b:UInt8):[47,0].contains b=bad b:=by simp[bad,List.contains_iff_mem,BQ]
theorem uX {b:Nat} {s:ByteArray} {pos:Nat} (hb:W.heap[b]?=some (.stringIter s pos)) (h:pos<s.size) (ty:TypeId) :
  (Instr.next (.pointer (some ⟨b,0,none⟩)) true ty).run P W = .ok (.tuple #[.bool true,.int .i64 pos,.int .i32 (Utf8.decode s pos).1]) (W.putObj b (.stringIter s (pos+(Utf8.decode s pos).2))):=by
 simp only[Instr.next,getObj,setObj,Wo,Sem.run,hb,Result.andThen,h,if_true];simp[goInt,Sem.run,hb,World.putObj]
theorem kj {b:Nat} {s:ByteArray} {pos:Nat} (hb:W.heap[b]?=some (.stringIter s pos)) (h:¬pos<s.size) (ty:TypeId) :
  (Instr.next (.pointer (some ⟨b,0,none⟩)) true ty).run P W = .ok (.tuple #[.bool false]) W:=by
 simp[Instr.next,getObj,Sem.run,hb,h]
theorem get!_eq (s:ByteArray) (k:Nat) (hk:k<s.size):s.get! k=s[k]'hk:=by
 simp[ByteArray.get!,BT,hk];rfl
theorem zkg {c:Nat} (h:c<55296∨(57344<=c/\c<=1114111)):Utf8.valid (c:Int)=true:=by
 unfold Utf8.valid;rcases h with h | h
 ·have h1:((c:Int)<55296):=by omega
  simp;omega
 ·simp;omega
theorem yU (s:ByteArray) (i:Nat) (h:i<s.size):(((s[i]'h).toNat<128/\Utf8.decode s i=((s[i]'h).toNat,1))∨(128<=(Utf8.decode s i).1/\Utf8.valid ((Utf8.decode s i).1:Int)=true/\1<=(Utf8.decode s i).2/\i+(Utf8.decode s i).2<=s.size/\∀ j (hj:j<s.size),i<=j->j<i+(Utf8.decode s i).2->128<=(s[j]'hj).toNat)):=by
 by_cases ha:(s[i]'h).toNat<128
 ·exact .inl ⟨ha,decode_ascii s i h ha⟩
 ·refine .inr ?_;have hb0:¬(s.get! (i+0)).toNat<128:=by rw[An,get!_eq s i h];exact ha
  have hby:∀ n,(∀ k,k<n->128<=(s.get! (i+k)).toNat)->∀ j (hj:j<s.size),i<=j->j<i+n->128<=(s[j]'hj).toNat:=fun n hn j hj h1 h2=>by
   have:=hn (j-i) (by omega);rw[show i+(j-i)=j by omega,get!_eq s j hj]at this;exact this
  have hone:128<=65533/\Utf8.valid ((65533:Nat):Int)=true/\1<=1/\i+1<=s.size/\∀ j (hj:j<s.size),i<=j->j<i+1->128<=(s[j]'hj).toNat:=
   ⟨by omega,by decide,by omega,by omega,hby 1 fun k hk=>by rw[show k=0 by omega];omega⟩
  unfold Utf8.decode;simp only[if_neg hb0,Utf8.runeError];obtain ⟨b0,hg0⟩:∃ b,(s.get! (i+0)).toNat=b:=⟨_,rfl⟩;obtain ⟨b1,hg1⟩:∃ b,(s.get! (i+1)).toNat=b:=⟨_,rfl⟩;obtain ⟨b2,hg2⟩:∃ b,(s.get! (i+2)).toNat=b:=⟨_,rfl⟩;obtain ⟨b3,hg3⟩:∃ b,(s.get! (i+3)).toNat=b:=⟨_,rfl⟩;rw[hg0]at hb0;simp only[hg0,hg1,hg2,hg3];have hlt:b0<256:=by rw[←hg0];exact (s.get! (i+0)).toNat_lt
  split
  ·rename_i hc;simp only[Wp,OE,WW]at hc;split
   ·rename_i hv;refine ⟨by show 128<=_;omega,zkg (.inl (by omega)),by show 1<=2;omega,by show i+2<=_;omega,hby 2 fun k hk=>?_⟩;rcases (show k=0∨k=1 by omega) with rfl | rfl
    ·rw[hg0];omega
    ·rw[hg1];omega
   ·exact hone
  ·split
   ·rename_i hc;simp only[Wp,OE,WW]at hc;split
    ·rename_i hv;simp only[Wp,WW]at hv;refine ⟨by show 128<=_;omega,hv.2,by show 1<=3;omega,by show i+3<=_;omega,hby 3 fun k hk=>?_⟩;rcases (show k=0∨k=1∨k=2 by omega) with rfl | rfl | rfl
     ·rw[hg0];omega
     ·rw[hg1];omega
     ·rw[hg2];omega
    ·exact hone
   ·split
    ·rename_i hc;simp only[Wp,OE,WW]at hc;split
     ·rename_i hv;simp only[Wp,WW]at hv;refine ⟨by show 128<=_;omega,hv.2,by show 1<=4;omega,by show i+4<=_;omega,hby 4 fun k hk=>?_⟩;rcases (show k=0∨k=1∨k=2∨k=3 by omega) with rfl | rfl | rfl | rfl
      ·rw[hg0];omega
      ·rw[hg1];omega
      ·rw[hg2];omega
      ·rw[hg3];omega
     ·exact hone
    ·exact hone
theorem NR (r:Int) (h1:128<=r) (hv:Utf8.valid r=true) (w:World):Calls Tryz.prog 234 #[.string ⟨#[47,0]⟩,.int .i32 r] w fun e w'=>e = .returned (.int .i64 (-1))/\Below w.heap.size w w':=by
 by_cases h2:r=65533
 ·subst h2;exact NV w
 ·refine ((yB r h1 hv h2).2 ⟨w,fun _ _=>False,fun _=>False⟩ [.string ⟨#[47,0]⟩,.int .i32 r] (fun g cs h=>by cases h) ?_).mono ?_
  ·exact zi.2 ⟨_,_,rfl,z7.2 rfl,zi.2 ⟨_,_,rfl,zt.2 rfl,zo.2 rfl⟩⟩
  ·rintro e w' ⟨v,R',L',rfl,rfl,hst,hr⟩;rw[zt]at hr;exact ⟨by rw[hr],hst.below⟩
theorem zhL (w:World) (s:ByteArray):(w.iter s 0).heap[w.heap.size]?=some (.stringIter s 0):=World.iter_heap w s 0
theorem vV {w:World} {s:ByteArray} {p:Nat} (hb:Below w.heap.size w W) (hs:W.heap[w.heap.size]?=some (.stringIter s p)) (p':Nat):Below w.heap.size w (W.putObj w.heap.size (.stringIter s p'))/\(W.putObj w.heap.size (.stringIter s p')).heap[w.heap.size]?=some (.stringIter s p'):=
 ⟨⟨hb.os,hb.tape,hb.output,by simpa using hb.size,fun k hk=>(W1 (by omega)).trans (hb.block k hk)⟩,Bb (qk hs)⟩
theorem zcj {w W':World} {s:ByteArray} {p:Nat} (hb:Below w.heap.size w W) (hs:W.heap[w.heap.size]?=some (.stringIter s p)) (h:Below W.heap.size W W'):Below w.heap.size w W'/\W'.heap[w.heap.size]?=some (.stringIter s p):=
 ⟨hb.trans (h.mono hb.size),(h.block _ (qk hs)).trans hs⟩
theorem HX (s:ByteArray) (w:World) (h8:s.size<=8):Calls Tryz.prog 202 #[.string s,.string ⟨#[47,0]⟩] w fun e w'=>e = .returned (.int .i64 (Lib.indexAny s.data.toList [47,0]))/\Below w.heap.size w w':=by
 have h8z:decide ((8:Int)<(s.size:Int))=false:=Wj (by omega);have hsi:=zhL w s;have hbi:Below w.heap.size w (w.iter s 0):=(Oa _ _).alloc (Wc _) _;have HI:Aside ((w.iter s 0).heap[w.heap.size]?=some (.stringIter s 0)/\Below w.heap.size w (w.iter s 0)):=⟨hsi,hbi⟩;clear hsi hbi
 go_enter Tryz.func202,Tryz.ntmps202
 go_wp2_with (go_at_call 235;refine (Tryz.strings_shouldUseASCIISet _ _).mono ?_;rintro e w' ⟨rfl,hw⟩;rw[hw,h8z])
 go_loopg [9,10] s.size (fun g _ _ wx=>∃ i:Nat,i+g=s.size/\wx.heap[w.heap.size]?=some (.stringIter s i)/\Below w.heap.size w wx/\Lib.NoAny s.data.toList [47,0] i)
 case atStart=>exact ⟨0,by omega,HI.out.1,HI.out.2,Lib.NoAny.zero _ _⟩
 case round =>
  obtain ⟨i,hig,hs,hbl,hno⟩:=hrel;have HN:Aside (Lib.NoAny s.data.toList [47,0] i/\wr.heap[w.heap.size]?=some (.stringIter s i)/\Below w.heap.size w wr):=⟨hno,hs,hbl⟩;cases gk with
  | zero =>
   obtain rfl:i=s.size:=by omega
   have hnx:=fun ty=>kj (P:=Tryz.prog) hs (by omega) ty;clear hno hs hbl
   go_wp2
   go_ret
   exact ⟨by rw[Lib.indexAny_none (by rw[←Lib.size_eq];exact HN.out.1)];rfl,HN.out.2.2⟩
  | succ g =>
   have hi:i<s.size:=by omega
   have hnx:=fun ty=>uX (P:=Tryz.prog) hs hi ty;have hpi:=vV hbl hs (i+(Utf8.decode s i).2);have HP:Aside (Below w.heap.size w (wr.putObj w.heap.size (.stringIter s (i+(Utf8.decode s i).2)))/\(wr.putObj w.heap.size (.stringIter s (i+(Utf8.decode s i).2))).heap[w.heap.size]?=some (.stringIter s (i+(Utf8.decode s i).2))):=hpi;clear hno hs hbl hpi;obtain ⟨x,hx⟩:∃ x:UInt8,s[i]'hi=x:=⟨_,rfl⟩;have hxl:s.data.toList[i]?=some x:=by rw[←hx];exact Lib.data_getElem? s i hi
   rcases yU s i hi with ⟨hd1,hd2⟩ | ⟨hd1,hd2,hd3,hd4,hd5⟩
   ·rw[hx]at hd1 hd2;rw[hd2]at hnx HP;have Hx:Aside (s.data.toList[i]?=some x):=hxl;clear hxl hx hd2;have hcon:=Lib.contains_iff_indexByte [47,0] x;have hback:((x.toNat:Int)).toNat.toUInt8=x:=by simp
    cases hin:([47,0]:Lz).contains x
    ·rw[hin]at hcon;have hlt:¬((0:Int)<=Lib.indexByte [47,0] x):=OS hcon.symm;clear hcon
     go_wp2_with (go_at_call 234;refine (Tryz.strings_IndexRune_ascii _ _ _ (by omega) (by omega)).mono ?_;rintro e w' ⟨rfl,hw⟩;rw[hw,hback])
     go_roundg g
     case measure=>omega
     case rel=>exact ⟨i+1,by omega,HP.out.2,HP.out.1,HN.out.1.succ Hx.out hin⟩
    ·rw[hin]at hcon;have hge:(0:Int)<=Lib.indexByte [47,0] x:=WP hcon.symm;clear hcon
     go_wp2_with (go_at_call 234;refine (Tryz.strings_IndexRune_ascii _ _ _ (by omega) (by omega)).mono ?_;rintro e w' ⟨rfl,hw⟩;rw[hw,hback])
     go_ret
     exact ⟨by rw[Lib.indexAny_hit HN.out.1 Hx.out hin];rfl,HP.out.1⟩
   ·obtain ⟨c,hc⟩:∃ c,(Utf8.decode s i).1=c:=⟨_,rfl⟩;obtain ⟨n,hn⟩:∃ n,(Utf8.decode s i).2=n:=⟨_,rfl⟩;rw[hc,hn]at hnx;rw[hn]at HP hd3 hd4 hd5;rw[hc]at hd1 hd2;have H5:Aside (∀ j (hj:j<s.size),i<=j->j<i+n->128<=(s[j]'hj).toNat):=hd5;have H2:Aside (Utf8.valid (c:Int)=true):=hd2;clear hd5 hd2 hxl hx hc hn
    go_wp2_with (go_at_call 234;refine (NR _ (by omega) H2.out _).mono ?_;rintro e w' ⟨rfl,hw⟩;have HW:=zcj HP.out.1 HP.out.2 hw)
    go_roundg (s.size-(i+n))
    case measure=>omega
    case rel =>
     refine ⟨i+n,by omega,HW.2,HW.1,fun j b hj hb=>?_⟩;rcases Wr j i with g | g
     ·exact HN.out.1 j b g hb
     ·have hjs:j<s.size:=by omega
      have:=H5.out j hjs g hj;have hb2:=Lib.data_getElem? s j hjs;rw[hb]at hb2;have hb3:b=s[j]'hjs:=Option.some.inj hb2;rw[UF,hb3];have h47:s[j]'hjs≠47:=fun e=>by rw[e]at this;revert this;decide
      have h00:s[j]'hjs≠0:=fun e=>by rw[e]at this;revert this;decide
      simp[bad,h47,h00]
end
section
open Go.RowKit Go.Shelf
theorem Gv (w:World):(zeroValue 254).run Tryz.prog w = .ok (.agg (Array.replicate 256 (.bool false))) w:=by kernel_rfl
theorem UB:∀ l:Lz,decide (0<=Lib.indexAny l [47,0])=l.any bad
 | []=>rfl
 | b :: l=>by
  have ih:=UB l;have hg:=Lib.indexAny_ge [47,0] l;unfold Lib.indexAny;rw[UF,AN];cases hb:bad b with
  | true=>simp
  | false =>
   simp only[WX,Oh,O6,←ih];split
   ·rename_i h;have:=OE.1 h
    first | rw[this];done | (rw[this];rfl)
   ·rename_i h;have h':Lib.indexAny l [47,0]≠-1:=by simpa using h
    rw[AW];omega
theorem M9 (l:Lz) (hl:l.length<=1000000):Fun Tryz.prog G0 202 [.str l,.str [47,0]] (.sc (.int .i64 (Lib.indexAny l [47,0]))) 0:=by
 refine Fun.wrap (by kernel_rfl) fun R vs h=>?_;obtain ⟨v1,us1,rfl,h1,h⟩:=zi.1 h;obtain ⟨v2,us2,rfl,h2,h⟩:=zi.1 h;rw[zo]at h;subst h;rw[z7]at h1 h2;subst h1 h2;have hsz:(ByteArray.mk l.toArray).size=l.length:=by simp[ByteArray.size]
 by_cases h8:l.length<=8
 ·refine (HX ⟨l.toArray⟩ R.w (by omega)).mono ?_;rintro e w' ⟨rfl,hb⟩;exact ⟨_,rfl,hb,fun R' _=>zt.2 (by simp)⟩
 ·refine (Tryz.strings_IndexAny_long Gv ⟨l.toArray⟩ ⟨#[47,0]⟩ R.w (by decide) (by omega) (by omega) (by decide) ?_).mono ?_
  ·intro j b hb;have:b=47∨b=0:=by
    have:=Wg hb;simpa using this
   rcases this with rfl | rfl<;>decide
  ·rintro e w' ⟨rfl,rfl⟩;exact ⟨_,rfl,((Oa _ _).alloc (Wc _) _).alloc (by simp) _,fun R' _=>zt.2 (by simp)⟩
theorem YI (l:Lz) (hl:l.length<=1000000):Fun Tryz.prog G0 169 [.str l,.str [47,0]] (qJ (l.any bad)) 0:=by
 have h:=UB l;refine fon Tryz.func169 ?_;dsimp only[Tryz.f169];push_cast;refine call (M9 l hl) ?_;push_cast;exact dn (by push_cast [ze,zd,CLe,zh,h])
def may (l:Lz):Bool:=!decide (l = [])&&decide (l.length<=255)&&!l.any bad&&!decide (l = [46])&&!decide (l = [46,46])
theorem zeo (l:Lz) (hl:l.length<=1000000):Fun Tryz.prog G0 126 [.str l] (qJ (may l)) 0:=by
 by_cases h1:l = []
 ·refine fon Tryz.func126 ?_;dsimp only[Tryz.f126];push_cast [h1];exact ⟨[],rfl,rfl,by push_cast [ze,zd,CLe,zh];simp[may]⟩
 ·by_cases h2:l.length<=255
  ·have h2':(l.length:Int)<=255:=by omega
   cases h3:l.any bad with
   | true =>
    refine fon Tryz.func126 ?_;dsimp only[Tryz.f126];push_cast [h1,h2'];refine call (YI l hl) ?_;push_cast [h3];exact ⟨[],rfl,rfl,by push_cast [ze,zd,CLe,zh];simp[may,h3]⟩
   | false =>
    by_cases h4:l = [46]
    ·subst h4;refine fon Tryz.func126 ?_;dsimp only[Tryz.f126];push_cast [h2'];refine call (YI _ hl) ?_;push_cast [h3];exact ⟨[],rfl,rfl,by push_cast [ze,zd,CLe,zh];simp[may]⟩
    ·refine fon Tryz.func126 ?_;dsimp only[Tryz.f126];push_cast [h1,h2'];refine call (YI l hl) ?_;push_cast [h3,h4];exact ⟨[],rfl,rfl,by push_cast [ze,zd,CLe,zh];simp[may,h1,h2,h3,h4]⟩
  ·have h2':¬(l.length:Int)<=255:=by omega
   refine fon Tryz.func126 ?_;dsimp only[Tryz.f126];push_cast [h1,h2'];exact ⟨[],rfl,rfl,by push_cast [ze,zd,CLe,zh];simp[may,h2]⟩
theorem zdY (l:Lz) (hl:l.length<=1000000):Fun Tryz.prog G0 267 [.str l] (qJ (!may l)) 0:=by
 refine fon Tryz.func267 ?_;dsimp only[Tryz.f267];push_cast;refine call (zeo l hl) ?_;push_cast;exact dn
end
section
open Go.RowKit
def zfG (xs:List Lz):Int:=match xs.findIdx? (fun x=>!may x) with | some i=>(i:Int) | none=>-1
theorem zjx (xs:List Lz):decide (0<=zfG xs) = !xs.all may:=by
 unfold zfG;cases h:xs.findIdx? (fun x=>!may x) with
 | none =>
  have:=List.findIdx?_eq_none_iff.1 h;have h2:xs.all may=true:=Wz.2 fun x hx=>by simpa using this x hx
  rw[h2];rfl
 | some i =>
  have h1:=List.findIdx?_eq_some_iff_getElem.1 h;obtain ⟨hi,hp,_⟩:=h1;have h2:xs.all may=false:=List.all_eq_false.2 ⟨xs[i],Ww hi,by simpa using hp⟩;rw[h2];simp
theorem Ni (xs:List Lz) (hx:xs.length<=1000001) (hl:∀ x∈xs,x.length<=1000000):Fun Tryz.prog G0 288 [.sl 1 (zV xs),.clo (.func 267) [] []] (.sc (.int .i64 (zfG xs))) 0:=by
 refine fon Tryz.func288 ?_;dsimp only[Tryz.f288];push_cast;refine loop (fun k:Nat=>⟨[(0,.sl 1 (zV xs)),(1,.clo (.func 267) [] []),(7,.sc (.int .i64 (xs.length:Int))),(8,.sc (.int .i64 k))],[],0,0⟩) (fun k=>k<=xs.length/\∀ j (hj:j<xs.length),j<k->may (xs[j]'hj)=true) (fun k=>xs.length-k) 0 ⟨Wb _,fun j _ hj=>by omega⟩ ?_ ?_
 ·exact wk
 ·intro k hk;have hk1:=hk.1;have hk2:=hk.2;by_cases h:k<xs.length
  ·have hg:(zV xs)[k]?=some [.str (xs[k]'h)]:=by rw[strs_get?,Wa h];rfl
   push_cast [h,hg];refine ⟨by omega,?_⟩;refine call (zdY (xs[k]'h) (hl _ (Ww h))) ?_;push_cast;cases hm:may (xs[k]'h) with
   | true =>
    push_cast;refine ⟨by omega,k+1,⟨by omega,fun j hj hjk=>?_⟩,by omega,wk⟩;rcases Wr j k with g | g
    ·exact hk2 j hj g
    ·have:j=k:=by omega
     subst this;exact hm
   | false =>
    push_cast;refine ⟨[],rfl,rfl,?_⟩;push_cast [ze,zd,CLe,zh];have:xs.findIdx? (fun x=>!may x)=some k:=List.findIdx?_eq_some_iff_getElem.2 ⟨h,by simp[hm],fun j hj=>by simp[hk2 j (by omega) hj]⟩;simp[zfG,this]
  ·push_cast [h];refine ⟨[],rfl,rfl,?_⟩;push_cast [ze,zd,CLe,zh];have:xs.findIdx? (fun x=>!may x)=none:=List.findIdx?_eq_none_iff.2 fun x hx=>by
    obtain ⟨j,hj,rfl⟩:=Wt hx;simp[hk2 j hj (by omega)]
   simp[zfG,this]
theorem UO (xs:List Lz) (hx:xs.length<=1000001) (hl:∀ x∈xs,x.length<=1000000):Fun Tryz.prog G0 266 [.sl 1 (zV xs),.clo (.func 267) [] []] (qJ (!xs.all may)) 0:=by
 have h:=zjx xs;refine fon Tryz.func266 ?_;dsimp only[Tryz.f266];push_cast;refine call (Ni xs hx hl) ?_;push_cast;exact dn (by push_cast [ze,zd,CLe,zh,h])
def Jc (p:Lz):Bool:=decide (qC (zp p)=p)&&(zp p).all may
def Yw (p:Lz):C:=.tup [.own 0 9 1 (zV (if Jc p then zp p else [])),qJ (Jc p)]
theorem Jq (x y:Lz) (r:List Lz) (sep:Lz):Lib.join (x :: y :: r) sep=x++sep++Lib.join (y :: r) sep:=by
 simp[Lib.join,List.intercalate,List.intersperse]
theorem Q5:∀ xs:List Lz,xs≠[]->(Lib.join xs [47]).length+1=(xs.map fun x=>x.length+1).sum
 | [],h=>absurd rfl h
 | [x],_=>by simp[Lib.join]
 | x :: y :: r,_=>by
  have ih:=Q5 (y :: r) (by simp);rw[Jq];simp only[Wn,Wh,WG,Wq,OY]at ih ⊢;omega
theorem zhv:∀ l:Lz,((Jr l).map fun x=>x.length+1).sum=l.length+1
 | []=>rfl
 | b :: l=>by
  have ih:=zhv l;unfold Jr;split
  ·simp only[Wq,OY,WG,Wh,ih];omega
  ·cases h:Jr l with
   | nil=>exact absurd h (xA l)
   | cons x r =>
    rw[h]at ih;simp only[Wq,OY,Wh]at ih ⊢;omega
theorem GU (f:Lz->Bool):∀ xs:List Lz,((xs.filter f).map fun x=>x.length+1).sum<=(xs.map fun x=>x.length+1).sum
 | []=>by simp
 | x :: r=>by
  have ih:=GU f r;rw[O4];split
  ·simp only[Wq,OY];omega
  ·simp only[Wq,OY];omega
theorem zgF:∀ (xs:List Lz) (x:Lz),x∈xs->x.length+1<=(xs.map fun x=>x.length+1).sum
 | y :: r,x,h=>by
  simp only[Wq,OY];rcases WF.1 h with rfl | h
  ·omega
  ·have:=zgF r x h;omega
theorem Qz (l:Lz):(Lib.join (zp l) [47]).length<=l.length/\∀ x∈zp l,x.length<=l.length:=by
 have h1:=zhv l;have h2:=GU (fun x=>!decide (x = [])) (Jr l);rw[←YB]at h2;refine ⟨?_,fun x hx=>?_⟩
 ·by_cases h:zp l = []
  ·rw[h];simp[Lib.join]
  ·have:=Q5 (zp l) h;omega
 ·have:=zgF (zp l) x hx;omega
theorem xT (p:Lz) (hp:p.length<=1000000):Fun Tryz.prog G0 236 [.str p] (Yw p) 1:=by
 have hz:=qP p;have hj:=Qz p;by_cases h1:qC (zp p)=p
 ·have h1':(p=qC (zp p)):=h1.symm;refine fon Tryz.func236 ?_;dsimp only[Tryz.f236];push_cast;refine call (Yt p) ?_;push_cast;refine call (QN p hp) ?_;push_cast;refine call (Qr (zp p) (by omega) (by omega)) ?_;push_cast [h1];refine call (UO (zp p) (by omega) fun x hx=>by have:=hj.2 x hx;omega) ?_;push_cast;cases hm:(zp p).all may with
  | true =>
   push_cast;exact ⟨[.inl 0],rfl,rfl,by simp only[Yw,Jc,h1,hm];push_cast [ze,zd,CLe,zh]<;>simp⟩
  | false =>
   push_cast;exact ⟨[.inr (9,1)],rfl,rfl,by simp only[Yw,Jc,h1,hm];push_cast [ze,zd,CLe,zh]<;>simp⟩
 ·refine fon Tryz.func236 ?_;dsimp only[Tryz.f236];push_cast;refine call (Yt p) ?_;push_cast;refine call (QN p hp) ?_;push_cast;refine call (Qr (zp p) (by omega) (by omega)) ?_;push_cast [h1];exact ⟨[.inr (9,1)],rfl,rfl,by simp only[Yw,Jc,h1];push_cast [ze,zd,CLe,zh]<;>simp⟩
end
section
open Go.RowKit
theorem MR (xs:List Lz) (k:Nat) (x:Lz) (h:xs[k]?=some x):Lib.join (xs.take (k+1)) [47]=(if k=0 then x else Lib.join (xs.take k) [47]++[47]++x):=by
 cases xs with
 | nil=>simp at h
 | cons y r =>
  cases k with
  | zero=>simp at h;subst h;simp[Lib.join_one]
  | succ k =>
   simp only[AD,Nat.succ_ne_zero,Oh];rw[Lib.join_cons,Lib.join_cons,Lib.joinTail_take_succ _ _ _ x (by simpa using h)];simp[WH]
theorem zol (xs:List Lz) (k:Nat):(Lib.join (xs.take k) [47]).length<=(Lib.join xs [47]).length:=by
 by_cases h:xs.take k = []
 ·rw[h];simp[Lib.join]
 ·have h1:=Q5 (xs.take k) h;have hx:xs≠[]:=fun e=>h (by rw[e];simp);have h2:=Q5 xs hx;have h3:((xs.take k).map fun x=>x.length+1).sum<=(xs.map fun x=>x.length+1).sum:=by
   conv=>rhs;rw[←Od k xs,WS,BP]
   omega
  omega
theorem zdC (xs:List Lz) (k:Nat) (x:Lz) (h:xs[k]?=some x):(if xs.take (k+1) = [] then [] else qC (xs.take (k+1)))=(if xs.take k = [] then [] else qC (xs.take k))++[47]++x:=by
 have hk:k<xs.length:=(Wd.1 h).1;have h1:xs.take (k+1)≠[]:=fun e=>by have:=Wu List.length e;rw[W7]at this;simp only[WG]at this;omega
 rw[if_neg h1];unfold qC;rw[if_neg h1,MR xs k x h];by_cases hk0:k=0
 ·subst hk0;simp
 ·have h2:xs.take k≠[]:=fun e=>by have:=Wu List.length e;rw[W7]at this;simp only[WG]at this;omega
  simp[h2,hk0]
def jst (xs:List Lz) (k:Nat):Lz:=if xs.take k = [] then [] else qC (xs.take k)
theorem zfp (xs:List Lz) (k:Nat):(jst xs k).length<=(Lib.join xs [47]).length+1:=by
 unfold jst;split
 ·simp
 ·rename_i h;have:=zol xs k;unfold qC;rw[if_neg h];simp;omega
theorem vr (xs:List Lz) (hx:xs.length<=2000001) (hl:(Lib.join xs [47]).length<=100000000):Fun Tryz.prog G0 60 [.sl 1 (zV xs)] (.str (qC xs)) 0:=by
 by_cases h0:xs = []
 ·subst h0;refine fon Tryz.func60 ?_;dsimp only[Tryz.f60];push_cast;exact ⟨[],rfl,rfl,by push_cast [ze,zd,CLe,zh]<;>simp[qC]⟩
 ·have h0':¬((xs.length:Int)=0):=by have:=WI.2 h0;omega
  refine fon Tryz.func60 ?_;dsimp only[Tryz.f60];push_cast [h0'];refine loop (fun k:Nat=>⟨[(0,.sl 1 (zV xs)),(3,.str (jst xs k)),(4,.sc (.int .i64 k))],[],0,0⟩) (fun k=>k<=xs.length) (fun k=>xs.length-k) 0 (Wb _) ?_ ?_
  ·exact JY.mk [] rfl rfl (Wb _) rfl (by push_cast [ze,zd,CLe,zh]<;>simp[jst]) (by push_cast [ze,zd,CLe,zh])
  ·intro k hk;by_cases h:k<xs.length
   ·have hg:=Zo xs k h;have hst:jst xs (k+1)=jst xs k++[47]++xs[k]'h:=zdC xs k (xs[k]'h) (Wa h);have hjk:=zfp xs k;have hjl:=zfp xs (k+1);rw[hst]at hjl;simp only[Wn,Wh,WG]at hjl;push_cast [h,hg]
    repeat refine an ?_
    refine ⟨k+1,by omega,by omega,JY.mk [] rfl rfl (Wb _) rfl ?_ (by push_cast [ze,zd,CLe,zh])⟩;push_cast [ze,zd,CLe,zh];simp[hst]
   ·have hkl:k=xs.length:=by omega
    push_cast [h];exact ⟨[],rfl,rfl,by push_cast [ze,zd,CLe,zh]<;>simp[jst,hkl,h0]⟩
theorem VK (l:Lz) (hl:l.length<=2000000):Fun Tryz.prog G0 59 [.str l] (qJ (may l)) 0:=by
 refine fon Tryz.func59 ?_;dsimp only[Tryz.f59];push_cast;refine loop (fun k:Nat=>⟨[(0,.str l),(3,.sc (.int .i64 k))],[],0,0⟩) (fun k=>k<=l.length/\∀ j (hj:j<l.length),j<k->bad (l[j]'hj)=false) (fun k=>l.length-k) 0 ⟨Wb _,fun j _ hj=>by omega⟩ ?_ ?_
 ·exact wk
 ·intro k hk;have hk1:=hk.1;have hk2:=hk.2;by_cases h:k<l.length
  ·have hb:l[k]?=some (l[k]'h):=Wa h;have hbad:bad (l[k]'h)=true->may l=false:=fun hb=>by
    have:l.any bad=true:=Ou.2 ⟨l[k]'h,Ww h,hb⟩;simp[may,this]
   by_cases h47:l[k]'h=47
   ·have h1:(((l[k]'h).toNat:Int)=47):=by rw[h47];rfl
    push_cast [h,hb,h1];refine ⟨by omega,[],rfl,rfl,?_⟩;push_cast [ze,zd,CLe,zh];rw[hbad (by simp[bad,h47])]
   ·have h1:¬(((l[k]'h).toNat:Int)=47):=zjk h47;by_cases h00:l[k]'h=0
    ·have h2:(((l[k]'h).toNat:Int)=0):=by rw[h00];rfl
     push_cast [h,hb,h1,h2];refine ⟨by omega,by omega,[],rfl,rfl,?_⟩;push_cast [ze,zd,CLe,zh];rw[hbad (by simp[bad,h00])]
    ·have h2:¬(((l[k]'h).toNat:Int)=0):=zjk h00;push_cast [h,hb,h1,h2]
     repeat refine an ?_
     refine ⟨k+1,⟨by omega,fun j hj hjk=>?_⟩,by omega,wk⟩;rcases Wr j k with g | g
     ·exact hk2 j hj g
     ·have:j=k:=by omega
      subst this;simp[bad,h47,h00]
  ·have hany:l.any bad=false:=W5.2 fun x hx=>by
    obtain ⟨j,hj,rfl⟩:=Wt hx;simp[hk2 j hj (by omega)]
   obtain rfl:k=l.length:=by omega
   by_cases h0:l = []
   ·subst h0;push_cast;exact ⟨[],rfl,rfl,by push_cast [ze,zd,CLe,zh]<;>simp[may]⟩
   ·have h1:(1:Int)<=(l.length:Int):=by have:=WI.2 h0;omega
    by_cases h2:(l.length:Int)<=255
    ·have h2':l.length<=255:=by omega
     by_cases h4:l = [46]
     ·subst h4;push_cast;exact ⟨[],rfl,rfl,by push_cast [ze,zd,CLe,zh]<;>simp[may]⟩
     ·by_cases h5:l = [46,46]
      ·subst h5;push_cast [h4];exact ⟨[],rfl,rfl,by push_cast [ze,zd,CLe,zh]<;>simp[may]⟩
      ·push_cast [h,h1,h2,h4,h5];exact ⟨[],rfl,rfl,by push_cast [ze,zd,CLe,zh]<;>simp[may,h0,h2',hany,h4,h5]⟩
    ·have h2':¬l.length<=255:=by omega
     push_cast [h,h1,h2];exact ⟨[],rfl,rfl,by push_cast [ze,zd,CLe,zh]<;>simp[may,h2']⟩
def Jt (p q:Lz):Bool:=decide ((zp p).take (zp q).length=zp q)
theorem Uw (p q:Lz) (hp:p.length<=1000000) (hq:q.length<=1000000):Fun Tryz.prog G0 23 [.str p,.str q] (qJ (Jt p q)) 0:=by
 have hn:=kU p (by omega);have hm:=kU q (by omega);have hs:=qP p;have ht:=qP q;by_cases h:(zp p).length<(zp q).length
 ·refine fon Tryz.func23 ?_;dsimp only[Tryz.f23];push_cast;refine call hn ?_;push_cast;refine call hm ?_;push_cast [h];refine ⟨[],rfl,rfl,?_⟩;push_cast [ze,zd,CLe,zh];have:¬(zp p).take (zp q).length=zp q:=fun e=>by have:=Wu List.length e;rw[W7]at this;omega
  simp[Jt,this]
 ·refine fon Tryz.func23 ?_;dsimp only[Tryz.f23];push_cast;refine call hn ?_;push_cast;refine call hm ?_;push_cast [h];refine loop (fun k:Nat=>⟨[(5,.own 0 9 1 (zV (zp p))),(6,.own 1 9 1 (zV (zp q))),(7,.sc (.int .i64 k))],[],2,0⟩) (fun k=>k<=(zp q).length/\(zp p).take k=(zp q).take k) (fun k=>(zp q).length-k) 0 ⟨Wb _,rfl⟩ ?_ ?_
  ·exact wks [.inl 0,.inl 1]
  ·intro k hk;have hk1:=hk.1;have hk2:=hk.2;by_cases h3:k<(zp q).length
   ·have hg1:=Zo (zp p) k (by omega);have hg2:=Zo (zp q) k h3;by_cases he:(zp p)[k]'(by omega)=(zp q)[k]'h3
    ·push_cast [h3,hg1,hg2,he]
     repeat refine an ?_
     refine ⟨k+1,⟨by omega,?_⟩,by omega,wks [.inl 0,.inl 1]⟩;rw[WQ,WQ,hk2,Wa h3,Wa (by omega:k<(zp p).length),he]
    ·push_cast [h3,hg1,hg2,he]
     repeat refine an ?_
     refine ⟨[],rfl,rfl,?_⟩;push_cast [ze,zd,CLe,zh];have:¬(zp p).take (zp q).length=zp q:=fun e=>he (by
      have:=Wu (·[k]?) e;simp only[WK,if_pos h3]at this;rw[Wa (by omega),Wa h3]at this;exact Option.some.inj this)
     simp[Jt,this]
   ·have hkl:k=(zp q).length:=by omega
    push_cast [h3];refine ⟨[],rfl,rfl,?_⟩;push_cast [ze,zd,CLe,zh];rw[hkl,Oi]at hk2;simp[Jt,hk2]
theorem Qt (p:Lz) (hp:p.length<=2000000):Fun Tryz.prog G0 33 [.str p] (Yw p) 1:=by
 have hn:=kU p (by omega);have hs:=qP p;have hj:=Qz p;refine fon Tryz.func33 ?_;dsimp only[Tryz.f33];push_cast;refine call hn ?_;push_cast;refine loop (fun k:Nat=>⟨[(0,.str p),(4,.own 0 9 1 (zV (zp p))),(5,.sc (.int .i64 k))],[],1,0⟩) (fun k=>k<=(zp p).length/\∀ j (hj:j<(zp p).length),j<k->may ((zp p)[j]'hj)=true) (fun k=>(zp p).length-k) 0 ⟨Wb _,fun j _ hj=>by omega⟩ ?_ ?_
 ·exact wks [.inl 0]
 ·intro k hk;have hk1:=hk.1;have hk2:=hk.2;by_cases h:k<(zp p).length
  ·have hg:=Zo (zp p) k h;have hlen:=hj.2 ((zp p)[k]'h) (Ww h);push_cast [h,hg];refine ⟨by omega,?_⟩;refine call (VK ((zp p)[k]'h) (by omega)) ?_;push_cast;cases hm:may ((zp p)[k]'h) with
   | true =>
    push_cast
    repeat refine an ?_
    refine ⟨k+1,⟨by omega,fun j hj hjk=>?_⟩,by omega,wks [.inl 0]⟩;rcases Wr j k with g | g
    ·exact hk2 j hj g
    ·have:j=k:=by omega
     subst this;exact hm
   | false =>
    have hall:(zp p).all may=false:=List.all_eq_false.2 ⟨(zp p)[k]'h,Ww h,by simp[hm]⟩;push_cast;exact ⟨[.inr (9,1)],rfl,rfl,by simp only[Yw,Jc,hall];push_cast [ze,zd,CLe,zh]<;>simp⟩
  ·have hall:(zp p).all may=true:=Wz.2 fun x hx=>by
    obtain ⟨j,hj,rfl⟩:=Wt hx;exact hk2 j hj (by omega)
   push_cast [h];refine call (vr (zp p) (by omega) (by omega)) ?_;push_cast;by_cases h1:qC (zp p)=p
   ·push_cast [h1];exact ⟨[.inl 0],rfl,rfl,by simp only[Yw,Jc,h1,hall];push_cast [ze,zd,CLe,zh]<;>simp⟩
   ·push_cast [h1];exact ⟨[.inr (9,1)],rfl,rfl,by simp only[Yw,Jc,h1];push_cast [ze,zd,CLe,zh]<;>simp⟩
end
section
open Go.RowKit
def ZK (x:Lz):Prop:=x≠[]/\(47:UInt8)∉x
theorem zgv:∀ a t:Lz,Jr (a++47 :: t)=Jr a++Jr t
 | [],t=>by
  have:Jr (47 :: t) = [] :: Jr t:=rfl;exact this
 | b :: a,t=>by
  have ih:=zgv a t;have e1:Jr (b :: (a++47 :: t))=if b=47 then [] :: Jr (a++47 :: t) else match Jr (a++47 :: t) with
   | []=>[[b]]
   | x :: r=>(b :: x) :: r:=rfl
  have e2:Jr (b :: a)=if b=47 then [] :: Jr a else match Jr a with
   | []=>[[b]]
   | x :: r=>(b :: x) :: r:=rfl
  rw[Of,e1,e2,ih];by_cases hb:b=47
  ·simp[hb]
  ·rw[if_neg hb,if_neg hb];have hne:=xA a;cases hs:Jr a with
   | nil=>exact absurd hs hne
   | cons x r=>simp
theorem zgz:∀ x:Lz,(47:UInt8)∉x->Jr x = [x]
 | [],_=>rfl
 | b :: x,h=>by
  have hb:¬(b=47):=fun e=>h (by rw[e];exact Wk);have ih:=zgz x (fun hx=>h (Wl _ hx));unfold Jr;rw[if_neg hb,ih]
theorem zik:∀ (l x:Lz),x∈Jr l->(47:UInt8)∉x
 | [],x,h=>by simp[Jr]at h;subst h;simp
 | b :: l,x,h=>by
  have ih:=zik l;unfold Jr at h;by_cases hb:b=47
  ·rw[if_pos hb]at h;rcases WF.1 h with rfl | h
   ·simp
   ·exact ih x h
  ·rw[if_neg hb]at h;have hne:=xA l;cases hs:Jr l with
   | nil=>exact absurd hs hne
   | cons y r =>
    rw[hs]at h ih;simp only at h;rcases WF.1 h with rfl | h
    ·intro hm;rcases WF.1 hm with e | hm
     ·exact hb e.symm
     ·exact ih y Wk hm
    ·exact ih x (Wl _ h)
theorem Va {l x:Lz} (h:x∈zp l):ZK x:=by
 rw[YB,OC]at h;exact ⟨by simpa using h.2,zik l x h.1⟩
theorem Hr (a t:Lz):zp (a++47 :: t)=zp a++zp t:=by
 rw[YB,YB,YB,zgv,Oz]
theorem yb {x:Lz} (h:ZK x):zp x = [x]:=by
 rw[YB,zgz x h.2];simp[h.1]
theorem uJ (l:Lz):zp (47 :: l)=zp l:=Hr [] l
theorem GM:∀ xs:List Lz,(∀ x∈xs,ZK x)->zp (Lib.join xs [47])=xs
 | [],_=>rfl
 | [x],h=>by rw[Lib.join_one];exact yb (h x Wk)
 | x :: y :: r,h=>by
  have ih:=GM (y :: r) fun z hz=>h z (Wl _ hz);rw[Jq,WH];show zp (x++47 :: Lib.join (y :: r) [47])=_;rw[Hr,ih,yb (h x Wk)]
  rfl
theorem XL (xs:List Lz) (h:∀ x∈xs,ZK x):zp (qC xs)=xs:=by
 unfold qC;by_cases hx:xs = []
 ·rw[if_pos hx,hx];rfl
 ·rw[if_neg hx,uJ,GM xs h]
theorem JW {x:Lz} (h:may x=true):ZK x:=by
 simp only[may,Wp,OQ,Ok]at h;refine ⟨h.1.1.1.1,fun hm=>?_⟩;have:=W5.1 h.1.1.2 47 hm;exact this (by decide)
theorem zf7 (xs zs:List Lz) (hx:xs≠[]) (hz:zs≠[]):qC (xs++zs)=qC xs++47 :: Lib.join zs [47]:=by
 unfold qC;rw[if_neg hx,if_neg (by simp[hx])];simp only[Of,List.cons.injEq,true_and]
 induction xs with
 | nil=>exact absurd rfl hx
 | cons x r ih =>
  cases r with
  | nil =>
   cases zs with
   | nil=>exact absurd rfl hz
   | cons z zs=>simp only[Of,OB];rw[Jq,Lib.join_one];simp
  | cons y r =>
   have:=ih (by simp);simp only[Of]at this ⊢;rw[Jq,Jq,this];simp
theorem XW (xs ys:List Lz) (hx:∀ x∈xs,ZK x) (hy:∀ y∈ys,ZK y):Jf (qC xs) (qC ys)=decide (xs.take ys.length=ys):=by
 have nx:=XL xs hx;have ny:=XL ys hy;rw[BQ];simp only[WW,Jf,OA];constructor
 ·rintro ((h | h) | h)
  ·have:xs=ys:=by rw[←nx,←ny,h]
   rw[this,Oi]
  ·have:ys = []:=by rw[←ny,h];rfl
   rw[this];rfl
  ·unfold Lib.hasPrefix at h;obtain ⟨t,ht⟩:=List.isPrefixOf_iff_prefix.1 h;have:xs=ys++zp t:=by
    rw[←nx,←ht,WH];show zp (qC ys++47 :: t)=_;rw[Hr,ny]
   rw[this,Bi]
 ·intro h;have e:xs=ys++xs.drop ys.length:=by
   conv=>lhs;rw[←Od ys.length xs,h]
  by_cases hys:ys = []
  ·exact .inl (.inr (by rw[hys];rfl))
  ·by_cases hd:xs.drop ys.length = []
   ·refine .inl (.inl ?_);rw[hd,W2]at e;rw[e]
   ·refine .inr ?_;rw[e,zf7 _ _ hys hd];unfold Lib.hasPrefix;refine List.isPrefixOf_iff_prefix.2 ⟨Lib.join (xs.drop ys.length) [47],?_⟩;simp
theorem JU {p:Lz} (h:Jc p=true):qC (zp p)=p:=by
 unfold Jc at h;simp only[Wp,WW]at h;exact h.1
theorem k8 (p q:Lz) (hp:Jc p=true) (hq:Jc q=true):Jf p q=Jt p q:=by
 have h:=XW (zp p) (zp q) (fun x hx=>Va hx) (fun x hx=>Va hx);rw[JU hp,JU hq]at h;exact h
end
section
open Go.RowKit Go.ChangeMaps Go.ChangeShapes Go.WideShapes Go.Deep Go.Joins
theorem uf (R:Env):X7 G0 R:=fun g cs h=>by cases h
theorem Uu:∀ {rows:List (List C)},(∀ r∈rows,∃ c,r = [c]/\∃ l:Lz,c = .str l/\l.length<=maxLen)->∃ xs:List Lz,rows=zV xs/\∀ x∈xs,x.length<=maxLen
 | [],_=>⟨[],rfl,fun x h=>by cases h⟩
 | r :: rows,h=>by
  obtain ⟨xs,rfl,hx⟩:=Uu fun r' hr=>h r' (Wl _ hr);obtain ⟨c,rfl,l,rfl,hl⟩:=h r Wk;exact ⟨l :: xs,rfl,fun x hx'=>(WF.1 hx').elim (fun e=>e▸hl) (hx x)⟩
section
variable {H:Type} {enc:TypeId×Value->H} {W:World}
theorem zlp:Opn enc Tryz.prog W 30 fun c=>∃ xs:List Lz,c = .sl 1 (zV xs)/\xs.length<=maxLen/\∀ x∈xs,x.length<=maxLen:=fun fuel cs x hx=>by
 obtain ⟨v,c,rfl,⟨rows,rfl,hl,hr⟩,h1,h2⟩:=Opn.slice (W:=W) (enc:=enc) Tryz.underlying30 (show Tryz.prog.cellsOf 9=1 by kernel_rfl) (Nat.zero_lt_one) (jG.one (Opn.str Tryz.underlying9)) fuel cs x hx;obtain ⟨xs,rfl,hx'⟩:=Uu hr;exact ⟨v,_,rfl,⟨xs,rfl,by simpa using hl,hx'⟩,h1,h2⟩
end
end
section
open Go.RowKit
mutual
/-- the cells that read as a datum of Jc data -/
def VJ:DataW Unit->Option (List Value)
 | .lit (.int k n)=>some [.int k n]
 | .lit (.bool b)=>some [.bool b]
 | .lit (.string l)=>some [.string ⟨l.toArray⟩]
 | .agg ds=>HS ds
 | _=>none
def HS:List (DataW Unit)->Option (List Value)
 | []=>some []
 | d :: ds=>match VJ d,HS ds with
  | some a,some b=>some (a++b)
  | _,_=>none
end
def M5 (P:Program):Nat->List Field->Nat->Bool
 | j,[],n=>j==n
 | j,f :: fs,n=>f.offset==j&&M5 P (j+P.cellsOf f.type) fs n
def kg (P:Program):Nat->TypeId->Bool
 | 0,_=>false
 | m+1,t=>match P.underlying t with
  | some .bool=>true
  | some (.int _)=>true
  | some .string=>true
  | some (.struct fs)=>M5 P 0 fs.toList (P.cellsOf t)&&fs.toList.all fun f=>kg P m f.type
  | some (.array n e)=>kg P m e&&P.cellsOf t==n*P.cellsOf e
  | _=>false
section
variable {enc:TypeId×Value->Unit} {P:Program} {w:World} {base:Nat} {spare:Nat->Bool} {held:Bool}
theorem HM {d:DataW Unit} {ds:List (DataW Unit)} {a b:List Value} (h1:VJ d=some a) (h2:HS ds=some b):HS (d :: ds)=some (a++b):=by
 rw[HS,h1,h2]
theorem Vc {n:Nat} {cs:List Value} (ih:∀ t cs d p,kg P n t=true->DataW.trod enc P w base spare held n t cs=some (d,p)->VJ d=some cs) {m:Nat} (hm:∀ t cs d p,kg P m t=true->DataW.trod enc P w base spare held n t cs=some (d,p)->VJ d=some cs) :
  ∀ (fs:List Field) (j N:Nat) (xs:List (DataW Unit×List MemPlace)),M5 P j fs N=true->(fs.all fun f=>kg P m f.type)=true->cs.length=N->xs.length=fs.length ->
   (∀ (i:Nat) (f:Field),fs[i]?=some f->DataW.trod enc P w base spare held n f.type ((cs.drop f.offset).take (P.cellsOf f.type))=xs[i]?)->HS (xs.map (·.1))=some (cs.drop j)
 | [],j,N,xs,hc,_,hl,hx,_=>by
  simp only[M5,OE]at hc
  match xs,hx with
  | [],_=>rw[Or (by omega)];rfl
 | f :: fs,j,N,xs,hc,ha,hl,hx,hf=>by
  simp only[M5,Wp,OE]at hc;simp only[A4,Wp]at ha
  match xs,hx with
  | x :: xs,hx =>
   have h0:=hf 0 f rfl;have e0:VJ x.1=some ((cs.drop f.offset).take (P.cellsOf f.type)):=hm _ _ _ x.2 ha.1 h0;have e1:=Vc ih hm fs _ N xs hc.2 ha.2 hl (by simpa using hx) fun i g hg=>hf (i+1) g hg;rw[Wq,HM e0 e1,hc.1,←Ay,Od]
theorem UG {n:Nat} {e:TypeId} {cs:List Value}:∀ (N j:Nat) (xs:List (DataW Unit×List MemPlace)),(∀ cs d p,DataW.trod enc P w base spare held n e cs=some (d,p)->VJ d=some cs)->cs.length=(j+N)*P.cellsOf e->xs.length=N ->
   (∀ (i:Nat),i<N->DataW.trod enc P w base spare held n e ((cs.drop ((j+i)*P.cellsOf e)).take (P.cellsOf e))=xs[i]?)->HS (xs.map (·.1))=some (cs.drop (j*P.cellsOf e))
 | 0,j,xs,_,hl,hx,_=>by
  match xs,hx with
  | [],_=>rw[Or (by simp at hl;omega)];rfl
 | N+1,j,xs,hm,hl,hx,hf=>by
  match xs,hx with
  | x :: xs,hx =>
   have e0:=hm _ _ x.2 (hf 0 (AV _));have e1:=UG N (j+1) xs hm (by rw[hl];congr 1;omega) (by simpa using hx) fun i hi=>by
    have:=hf (i+1) (by omega);rw[show j+(i+1)=j+1+i by omega]at this;exact this
   rw[Wq,HM e0 e1,An,show (j+1)*P.cellsOf e=j*P.cellsOf e+P.cellsOf e by rw[Oq];omega,←Ay,Od]
theorem QD:∀ (n m:Nat) (t:TypeId) (cs:List Value) (d:DataW Unit) (p:List MemPlace),kg P m t=true->DataW.trod enc P w base spare held n t cs=some (d,p)->VJ d=some cs
 | 0,m,t,cs,d,p,_,h=>by simp[DataW.trod]at h
 | n+1,0,t,cs,d,p,hf,h=>by simp[kg]at hf
 | n+1,m+1,t,cs,d,p,hf,h=>by
  unfold kg at hf;split at hf
  ·rename_i hu;obtain ⟨b,rfl,e⟩:=DataW.trod_bool hu h;cases e;rfl
  ·rename_i k hu;obtain ⟨b,rfl,e,_⟩:=DataW.trod_int hu h;cases e;rfl
  ·rename_i hu;obtain ⟨s,rfl,e,_⟩:=DataW.trod_string hu h;cases e;rw[VJ]
  ·rename_i fs hu;simp only[Wp]at hf;obtain ⟨xs,n',hn,e,hl,hx,hg⟩:=DataW.trod_struct hu h;cases hn;cases e;have hrec:∀ t cs d p,kg P m t=true->DataW.trod enc P w base spare held n t cs=some (d,p)->VJ d=some cs:=fun t cs d p=>QD n m t cs d p;have:=Vc (n:=n) (fun t cs d p=>QD n n t cs d p) hrec fs.toList 0 _ xs hf.1 hf.2 hl (by rw[hx];rfl) fun i f hif=>hg i f (by simpa using hif);rw[AY]at this;rw[VJ,this]
  ·rename_i N e hu;simp only[Wp,OE]at hf;obtain ⟨xs,n',hn,e',hl,hx,hg⟩:=DataW.trod_array hu h;cases hn;cases e';have:=UG (n:=n) (e:=e) (cs:=cs) N 0 xs (fun cs d p=>QD n m e cs d p hf.1) (by rw[hl,hf.2,Ox]) hx fun i hi=>by rw[Ox];exact hg i hi
   rw[Nat.zero_mul,AY]at this;rw[VJ,this]
  ·cases hf
end
theorem Nb {g:Nat}:∀ (vs:List Value) (o:Nat),(∀ (i:Nat) v,vs[i]?=some v->W.cell? ⟨g,o+i,none⟩=some v)->(vs.all fun v=>v.oneCell')=true->zU (xg W) (vs.map zE) g o:=fun vs o h ho=>by
 refine qm fun i c hc=>?_;rw[WA,Ax]at hc;obtain ⟨v,hv,rfl⟩:=hc;exact ⟨v,h i v hv,fun hf=>hf,jX _ _ v,Wz.1 ho v (Wg hv)⟩
theorem N9 {l:List (String×DataW Unit)} (h:laidMetH P l W) (hp:(l.filter fun x=>x.2.handleName?.isSome) = []) {n:String} {d:DataW Unit} (hm:(n,d)∈l) {g:Nat} {t:TypeId} {m:Nat} {vs:List Value}
  (hg:P.globalNamed n=some g) (ht:(P.globals[g]?).map (·.type)=some t) (hf:kg P m t=true) (hd:VJ d=some vs) (ho:(vs.all fun v=>v.oneCell')=true):zU (xg W) (vs.map zE) g 0:=by
 unfold laidMetH at h;rw[hp]at h;obtain ⟨g',t',cs,fuel,p,hg',ht',hvar,htr⟩:=Lib.laidMet.reads h hm;rw[hg]at hg';cases hg';rw[ht]at ht';cases ht';have e:=QD _ _ _ _ _ _ hf htr;have e':vs=cs.toList:=Option.some.inj (hd.symm.trans e);subst e';refine Nb _ 0 (fun i v hv=>?_) ho;rw[World.var?_cell hg hvar,Ox];simpa using hv
theorem J0 {l:List (String×DataW Unit)} (h:laidMetH P l W) (hp:(l.filter fun x=>x.2.handleName?.isSome) = []) {n:String} {d:DataW Unit} (hm:(n,d)∈l) {g:Nat} {t:TypeId} {m:Nat} {vs:List Value}
  (hg:P.globalNamed n=some g) (ht:(P.globals[g]?).map (·.type)=some t) (hf:kg P m t=true) (hd:VJ d=some vs) (ho:(vs.all fun v=>v.oneCell')=true) :
  zU (xg W) (vs.map zE) g 0/\(∃ us ty fl,(xg W).w.heap[g]?=some (.cells us ty fl)/\us.size=(vs.map zE).length)/\∀ o,¬(xg W).M g o:=by
 refine ⟨N9 h hp hm hg ht hf hd ho,?_,fun o h=>h⟩;unfold laidMetH at h;rw[hp]at h;obtain ⟨g',t',cs,fuel,p,hg',ht',hvar,htr⟩:=Lib.laidMet.reads h hm;rw[hg]at hg';cases hg';rw[ht]at ht';cases ht';have e:=QD _ _ _ _ _ _ hf htr;have e':vs=cs.toList:=Option.some.inj (hd.symm.trans e);subst e';unfold World.var? at hvar;rw[hg]at hvar;simp only[AI]at hvar;split at hvar
 ·rename_i cs' ty fl hh;cases hvar;exact ⟨_,_,_,hh,by simp⟩
 ·cases hvar
theorem Fun.glob {G G':zu} {f:FuncId} {r:C} {n:Nat} (h:Fun P G f args r n) (hG:∀ g cs,G g=some cs->G' g=some cs):Fun P G' f args r n:=
 ⟨h.1,fun R vs hg ha=>h.2 R vs (fun g cs e=>hg g cs (hG g cs e)) ha⟩
theorem Fun.glob0 {G':zu} {f:FuncId} {r:C} {n:Nat} (h:Fun P G0 f args r n):Fun P G' f args r n:=h.glob fun g cs e=>by cases e
end
section
open CA CB
open Go.RowKit
def zqo:List Value:=[.bool false,.bool false,.bool false,.bool false,.bool false,.bool false,.bool false,.bool true,.bool false,.bool true,.bool true,.bool false,.bool false,.bool false,.bool true,.bool false,.bool true,.bool false,.bool false,.bool true,.bool false,.bool true,.bool false,.bool false,.bool false,.bool false,.bool false,.bool true,.bool false,.bool false,.bool true,.bool false,.bool false]
def G1:zu:=fun g=>if g=3 then some (zqo.map zE) else none
theorem zpN:G1 3=some [.sc (.bool false),.sc (.bool false),.sc (.bool false),.sc (.bool false),.sc (.bool false),.sc (.bool false),.sc (.bool false),.sc (.bool true),.sc (.bool false),.sc (.bool true),.sc (.bool true),.sc (.bool false),.sc (.bool false),.sc (.bool false),.sc (.bool true),.sc (.bool false),.sc (.bool true),.sc (.bool false),.sc (.bool false),.sc (.bool true),.sc (.bool false),.sc (.bool true),.sc (.bool false),.sc (.bool false),.sc (.bool false),.sc (.bool false),.sc (.bool false),.sc (.bool true),.sc (.bool false),.sc (.bool false),.sc (.bool true),.sc (.bool false),.sc (.bool false)]:=rfl
attribute [push_cast] zpN
def z8 (p:Lz):Bool:=Jc p&&!decide (zp p = [])
theorem xU (p:Lz) (hp:p.length<=1000000):Fun Tryz.prog G0 203 [.str p] (qJ (z8 p)) 0:=by
 have h:=xT p hp;unfold Yw at h;cases hb:Jc p with
 | false =>
  rw[hb]at h;refine fon Tryz.func203 ?_;dsimp only[Tryz.f203];push_cast;refine cl h ?_;push_cast;exact ⟨[],rfl,rfl,by push_cast [ze,zd,CLe,zh];simp[z8,hb]⟩
 | true =>
  rw[hb,if_pos rfl]at h;refine fon Tryz.func203 ?_;dsimp only[Tryz.f203];push_cast;refine cl h ?_;push_cast;refine ⟨[],rfl,rfl,?_⟩;push_cast [ze,zd,CLe,zh];by_cases hn:zp p = []
  ·simp[z8,hb,hn]
  ·have:=WI.2 hn;simp[z8,hb,hn,this]
theorem zcD (l:Lz):Fun Tryz.prog G0 192 [.str l,.str [0]] (.sc (.int .i64 (Lib.indexByte l 0))) 0:=by
 refine Fun.wrap (by kernel_rfl) fun R vs h=>?_;obtain ⟨v1,us1,rfl,h1,h⟩:=zi.1 h;obtain ⟨v2,us2,rfl,h2,h⟩:=zi.1 h;rw[zo]at h;subst h;rw[z7]at h1 h2;subst h1 h2;refine (Tryz.strings_Index_one ⟨l.toArray⟩ 0 R.w).mono ?_;rintro e w' ⟨rfl,rfl⟩;exact ⟨_,rfl,Oa _ _,fun R' _=>zt.2 (by simp)⟩
theorem G6:∀ l:Lz,decide (0<=Lib.indexByte l 0)=l.any (fun b=>decide (b=0))/\-1<=Lib.indexByte l 0
 | []=>⟨rfl,by decide⟩
 | b :: l=>by
  obtain ⟨h1,h2⟩:=G6 l;unfold Lib.indexByte;by_cases hb:b=0
  ·subst hb;simp
  ·have hb':(b==0)=false:=by simpa using hb
   rw[hb'];simp only[WX,Oh,AN,hb,decide_false,O6,←h1];split
   ·rename_i hm;have:=OE.1 hm;rw[this];simp
   ·rename_i hm;have:¬Lib.indexByte l 0 = -1:=fun e=>hm (by rw[e];rfl);constructor
    ·rw[AW];omega
    ·omega
theorem N2 (l:Lz) (hl:l.length<=1000000):Fun Tryz.prog G0 237 [.str l,.str [0]] (qJ (l.any fun b=>decide (b=0))) 0:=by
 have h:=(G6 l).1;refine fon Tryz.func237 ?_;dsimp only[Tryz.f237];push_cast;refine cl (zcD l) ?_;push_cast;exact dn (by push_cast [ze,zd,CLe,zh,h])
def Yc (s:Lz):Bool:=!decide (s = [])&&decide (s.length<=4095)&&!(s.any fun b=>decide (b=0))
theorem zdt (s:Lz) (hs:s.length<=1000000):Fun Tryz.prog G0 204 [.str s] (qJ (Yc s)) 0:=by
 have h:=N2 s hs;by_cases h1:s = []
 ·refine fon Tryz.func204 ?_;dsimp only[Tryz.f204];push_cast [h1];exact ⟨[],rfl,rfl,by push_cast [ze,zd,CLe,zh];simp[Yc,h1]⟩
 ·by_cases h2:s.length<=4095
  ·have h2':(s.length:Int)<=4095:=by omega
   refine fon Tryz.func204 ?_;dsimp only[Tryz.f204];push_cast [h1,h2'];refine cl h ?_;push_cast;exact ⟨[],rfl,rfl,by push_cast [ze,zd,CLe,zh];simp[Yc,h1,h2]⟩
  ·have h2':¬(s.length:Int)<=4095:=by omega
   refine fon Tryz.func204 ?_;dsimp only[Tryz.f204];push_cast [h1,h2'];exact ⟨[],rfl,rfl,by push_cast [ze,zd,CLe,zh];simp[Yc,h1,h2]⟩
end
end Go.Proofs.YtnpdbhbmakdklaaGreatDoor.Vcg
section
namespace Go.Proofs.YtnpdbhbmakdklaaGreatDoor.QuotePlain
abbrev Bs:=Lz
def good (c:UInt8):Bool:=decide (32<=c.toNat/\c.toNat<=126/\c.toNat≠34/\c.toNat≠92)
def zmi:Bs:=[48,49,50,51,52,53,54,55,56,57,97,98,99,100,101,102]
def Nc (n:Nat):UInt8:=zmi.getD n 0
def qb (c:UInt8):Bs:=if good c then [c] else [92,120,Nc (c.toNat / 16),Nc (c.toNat % 16)]
def mid (l:Bs):Bs:=l.flatMap qb
def quoteL (l:Bs):Bs:=34 :: (mid l++[34])
def zqr (l:Bs):Bool:=decide (l≠[])&&l.all fun c=>decide (33<=c.toNat/\c.toNat<=126/\c.toNat≠34)
def zpq (c:UInt8):Nat:=(zmi.findIdx? (·==c)).getD 16
def zjg:Bs->UInt8×Nat
 | []=>(0,0)
 | c :: r =>
  if c≠92 then (if good c then (c,1) else (0,0))
  else match r with
   | x :: a :: b :: _=>if x=120/\zpq a<16/\zpq b<16/\good (UInt8.ofNat (zpq a*16+zpq b))=false then (UInt8.ofNat (zpq a*16+zpq b),4) else (0,0)
   | _=>(0,0)
theorem zis {p:UInt8->Bool} (h:(List.range 256).all (fun n=>p (UInt8.ofNat n))=true) (c:UInt8):p c=true:=by
 have h1:=Wz.1 h c.toNat (List.mem_range.2 c.toNat_lt);simpa using h1
def zsb:Nat->Bs->Option (Bs×Nat)
 | 0,_=>none
 | _+1,[]=>none
 | f+1,c :: r=>if c=34 then some ([],1) else if (zjg (c :: r)).2=0 then none else (zsb f ((c :: r).drop (zjg (c :: r)).2)).map fun x=>((zjg (c :: r)).1 :: x.1,(zjg (c :: r)).2+x.2)
def body (l:Bs):Option (Bs×Nat):=zsb (l.length+1) l
def qtd:Bs->Option (Bs×Nat)
 | []=>none
 | c :: r=>if c=34 then (body r).map fun x=>(x.1,x.2+1) else none
def unq (l:Bs):Option Bs:=match qtd l with | some (t,n)=>if n=l.length then some t else none | none=>none
end Go.Proofs.YtnpdbhbmakdklaaGreatDoor.QuotePlain
end
section
namespace Go.Proofs.YtnpdbhbmakdklaaGreatDoor.QuotePlain
def okw (w:Bs):Bool:=(unq w).isSome||zqr w
def cut:Bs->Bs->Bool->Option (List Bs)
 | [],w,_=>if okw w then some [w] else none
 | c :: r,w,i=>if c=32/\i=false then (if okw w then (cut r [] i).map (w :: ·) else none) else cut r (w++[c]) (if c=34 then !i else i)
end Go.Proofs.YtnpdbhbmakdklaaGreatDoor.QuotePlain
end
section
namespace Go.Proofs.YtnpdbhbmakdklaaGreatDoor.QuotePlain
def F (q:List Bs):Bs:=q.flatMap (·++[32])
end Go.Proofs.YtnpdbhbmakdklaaGreatDoor.QuotePlain
end
namespace Go.Proofs.YtnpdbhbmakdklaaGreatDoor.Vcg
variable {P:Program} {W:World} {l:List (Int×Int)} {x:zn} {f:FsV} {args:List C} {n i:Int} {k N:Nat} {xs:List zn} {α κ:Type} {S:List Int}
section
structure OpV where
 kind:Int
 slot:Int
 a:Lz
 b:Lz
 d:Lz
deriving DecidableEq,Inhabited
def qR (k:Int):Bool:=decide (k=3)||decide (k=7)||decide (k=9)||decide (k=10)
def zoD (k:Int):Bool:=decide (k=2)||decide (k=3)||decide (k=5)||decide (k=6)
end
section
open CA CB
open Go.RowKit
def opL (o:OpV):List C:=[.sc (.int .i64 o.kind),.sc (.int .i64 o.slot),.str o.a,.str o.b,.str o.d]
def Y6 (o:OpV):Bool:=decide (1<=o.kind)&&decide (o.kind<=10)&&z8 o.a&&(if qR o.kind then decide (1<=o.slot)&&decide (o.slot<=1073741824) else decide (o.slot=0))&&(if zoD o.kind then z8 o.b else decide (o.b = []))
 && (if o.kind=4 then Yc o.d else decide (o.d = []))&&(!decide (o.kind=6)||(!Jf o.a o.b&&!Jf o.b o.a))
def short (o:OpV):Prop:=o.a.length<=1000000/\o.b.length<=1000000/\o.d.length<=1000000
theorem xr (k s:Int) (a b d:Lz) (hs:short ⟨k,s,a,b,d⟩):Fun Tryz.prog G1 170 [.agg (opL ⟨k,s,a,b,d⟩)] (qJ (Y6 ⟨k,s,a,b,d⟩)) 0:=by
 have hs1:a.length<=1000000:=hs.1;have hs2:b.length<=1000000:=hs.2.1;have hs3:d.length<=1000000:=hs.2.2;have h1:=(xU a (by omega)).glob0 (G':=G1);have h2:=(xU b (by omega)).glob0 (G':=G1);have h3:=(zdt d (by omega)).glob0 (G':=G1);have h4:=(Gz a b (by omega)).glob0 (G':=G1);have h5:=(Gz b a (by omega)).glob0 (G':=G1);unfold opL;by_cases hk1:k<1
 ·have:¬1<=k:=by omega
  refine fon Tryz.func170 ?_;dsimp only[Tryz.f170];push_cast [hk1];exact ⟨[],rfl,rfl,by push_cast [ze,zd,CLe,zh];simp[Y6,this]⟩
 by_cases hk2:10<k
 ·have:¬k<=10:=by omega
  refine fon Tryz.func170 ?_;dsimp only[Tryz.f170];push_cast [hk1,hk2];exact ⟨[],rfl,rfl,by push_cast [ze,zd,CLe,zh];simp[Y6,this]⟩
 cases hp:z8 a with
 | false =>
  rw[hp]at h1;refine fon Tryz.func170 ?_;dsimp only[Tryz.f170];push_cast [hk1,hk2];refine cl h1 ?_;push_cast;exact ⟨[],rfl,rfl,by push_cast [ze,zd,CLe,zh];simp[Y6,hp]⟩
 | true =>
  rw[hp]at h1;have hk:k=1∨k=2∨k=3∨k=4∨k=5∨k=6∨k=7∨k=8∨k=9∨k=10:=by omega
  clear hk1 hk2 hs hs1 hs2 hs3;rcases hk with rfl | rfl | rfl | rfl | rfl | rfl | rfl | rfl | rfl | rfl
  all_goals
   refine fon Tryz.func170 ?_;dsimp only[Tryz.f170];push_cast;refine cl h1 ?_;push_cast
   repeat' (first
    | (refine call h2 ?_;push_cast)
    | (refine H7 h2 ?_;push_cast)
    | (refine call h3 ?_;push_cast)
    | (refine H7 h3 ?_;push_cast)
    | (refine call h4 ?_;push_cast)
    | (refine H7 h4 ?_;push_cast)
    | (refine call h5 ?_;push_cast)
    | (refine H7 h5 ?_;push_cast)
    | (refine br (fun h=>?_) (fun h=>?_)<;>push_cast [h])
    | (refine ⟨[],rfl,rfl,?_⟩;push_cast [ze,zd,CLe,zh];clear h1 h2 h3 h4 h5;simp_all [Y6,qR,zoD]<;>omega))
end
section
structure zB where
 dir:Int
 name:Lz
 ino:Int
deriving DecidableEq,Inhabited
structure zL where
 slot:Int
 ino:Int
 content:Bool
 data:Lz
deriving DecidableEq,Inhabited
structure qj where
 fs:FsV
 kept:List zL
 pool:List zn
deriving DecidableEq,Inhabited
def jj:zB:=⟨0,[],0⟩
def zg7:zL:=⟨0,0,false,[]⟩
abbrev Jb (es:List zN):Prop:=qQ jF zN.name es
def Yj (n:Lz) (es:List zN):Bool:=Js zN.name n es
def zT (n:Lz) (es:List zN):Int:=match qz zN.name n es with | some e=>e.ino | none=>0
def zg (n:Lz) (es:List zN):List zN:=jh zN.name n es
def zQ (n:Lz) (i:Int) (es:List zN):List zN:=YY jF zN.name ⟨n,i⟩ (jh zN.name n es)
def atW (xs:List zn):List Lz->zB->zB×Int
 | [],s=>(s,0)
 | n :: r,s=>if s.ino=0 then (jj,1) else if (zf s.ino xs).kind≠2 then (jj,3) else atW xs r ⟨(zf s.ino xs).ino,n,zT n (zf s.ino xs).es⟩
def atV (f:FsV) (p:Lz):zB×Int:=if Jc p then atW f.xs (zp p) ⟨0,[],1⟩ else (jj,9)
def YN (f:FsV) (n b:Int):Bool:=decide (f.xs.length+n<=f.maxI)&&decide (ql f.xs+b<=f.maxB)
def qe (d:Int) (es:List zN->List zN) (xs:List zn):List zn:=qd { zf d xs with es:=es (zf d xs).es } xs
def zdz (f:FsV) (s:zB) (k:Int) (t:Lz):FsV:={ f with next:=f.next+1,xs:=qd ⟨f.next,k,1,t,if k=2 then s.dir else 0,[]⟩ (qe s.dir (zQ s.name f.next) f.xs) }
def zd5 (f:FsV) (s:zB) (k:Int) (t:Lz):FsV×Int:=
 if may s.name then (if YN f 1 (if k=1 then (t.length:Int) else 0) then (zdz f s k t,0) else (f,8)) else (f,9)
def zk (f:FsV) (s:zB):FsV:=
 if (zf s.ino f.xs).links-1=0 then { f with xs:=zY s.ino (qe s.dir (zg s.name) f.xs) }
 else { f with xs:=qd { zf s.ino f.xs with links:=(zf s.ino f.xs).links-1 } (qe s.dir (zg s.name) f.xs) }
def Xb (f:FsV) (s:zB) (i:Int):FsV:={ f with xs:=qd { zf i f.xs with links:=(zf i f.xs).links+1 } (qe s.dir (zQ s.name i) f.xs) }
def qn (f:FsV) (a b:zB):FsV:=
 let g:=qe b.dir (zQ b.name a.ino) (qe a.dir (zg a.name) f.xs)
 if (zf a.ino g).kind=2 then { f with xs:=qd { zf a.ino g with parent:=b.dir } g } else { f with xs:=g }
def X9 (f:FsV) (i:Int) (t:Lz):FsV:={ f with xs:=qd { zf i f.xs with data:=t } f.xs }
def kJ (f:FsV) (i:Int) (t:Lz):FsV×Int:=
 if YN f 0 ((t.length:Int)-(zf i f.xs).data.length) then (X9 f i t,0) else (f,8)
def Vd (n:Int) (ks:List zL):Bool:=Js zL.slot n ks
def qw (k:zL) (ks:List zL):List zL:=YY j4 zL.slot k ks
def qL (w:qj) (n:Int) (s:zB):qj×Int:=
 if Vd n w.kept then (w,13)
 else (⟨zk w.fs s,qw ⟨n,s.ino,false,[]⟩ w.kept,if (zf s.ino w.fs.xs).links=1 then qd { zf s.ino w.fs.xs with links:=0,parent:=0 } w.pool else w.pool⟩,0)
def J9 (w:qj) (n i:Int):qj×Int:=
 if Vd n w.kept then (w,13) else ({ w with kept:=qw ⟨n,i,true,(zf i w.fs.xs).data⟩ w.kept },0)
def isV (f:FsV) (p:Lz) (want:Bool):zB×zn×Int:=
 let a:=atV f p
 (a.1,zf a.1.ino f.xs,if a.2≠0 then a.2 else if want&&!zl a.1.ino f.xs then 1 else if !want&&zl a.1.ino f.xs then 2 else 0)
def jr (f:FsV) (p:Lz):zn×Int:=
 let a:=isV f p true
 (a.2.1,if a.2.2≠0 then a.2.2 else if a.2.1.kind=2 then 4 else if a.2.1.kind=3 then 9 else 0)
def V0 (w:qj) (p:Lz) (k:Int) (t:Lz):qj×Int:=
 if (isV w.fs p false).2.2≠0 then (w,(isV w.fs p false).2.2) else ({ w with fs:=(zd5 w.fs (isV w.fs p false).1 k t).1 },(zd5 w.fs (isV w.fs p false).1 k t).2)
def V3 (w:qj) (o:OpV):qj×Int:=
 if (jr w.fs o.a).2≠0 then (w,(jr w.fs o.a).2) else V0 w o.b 1 (jr w.fs o.a).1.data
def QQ (w:qj) (o:OpV):qj×Int:=
 if (jr w.fs o.a).2≠0 then (w,(jr w.fs o.a).2)
 else if (jr w.fs o.b).2≠0 then (w,(jr w.fs o.b).2)
 else if (jr w.fs o.a).1.ino=(jr w.fs o.b).1.ino then (w,9)
 else if (J9 w o.slot (jr w.fs o.b).1.ino).2≠0 then (w,(J9 w o.slot (jr w.fs o.b).1.ino).2)
 else if (kJ w.fs (jr w.fs o.b).1.ino (jr w.fs o.a).1.data).2≠0 then (w,(kJ w.fs (jr w.fs o.b).1.ino (jr w.fs o.a).1.data).2)
 else ({ (J9 w o.slot (jr w.fs o.b).1.ino).1 with fs:=(kJ w.fs (jr w.fs o.b).1.ino (jr w.fs o.a).1.data).1 },0)
def VV (w:qj) (o:OpV):qj×Int:=
 let a:=isV w.fs o.a true
 if a.2.2≠0 then (w,a.2.2) else if a.2.1.kind=2 then (w,11)
 else if (isV w.fs o.b false).2.2≠0 then (w,(isV w.fs o.b false).2.2)
 else ({ w with fs:=Xb w.fs (isV w.fs o.b false).1 a.2.1.ino },0)
def J1 (w:qj) (o:OpV):qj×Int:=
 if (isV w.fs o.a true).2.2≠0 then (w,(isV w.fs o.a true).2.2)
 else if (isV w.fs o.b false).2.2≠0 then (w,(isV w.fs o.b false).2.2)
 else ({ w with fs:=qn w.fs (isV w.fs o.a true).1 (isV w.fs o.b false).1 },0)
def qT (w:qj) (o:OpV):qj×Int:=
 let a:=isV w.fs o.a true
 if a.2.2≠0 then (w,a.2.2) else if a.2.1.es≠[] then (w,5) else qL w o.slot a.1
def doV (w:qj) (o:OpV):qj×Int:=
 if !Y6 o then (w,12)
 else if o.kind=1 then V0 w o.a 2 []
 else if o.kind=2 then V3 w o
 else if o.kind=3 then QQ w o
 else if o.kind=4 then V0 w o.a 3 o.d
 else if o.kind=5 then VV w o
 else if o.kind=6 then J1 w o
 else qT w o
def Jj (ks:List zL):Int:=match ks.getLast? with | some k=>k.slot | none=>0
structure zX where
 w:qj
 ops:List OpV
 diags:List Lz
 status:Int
 slot:Int
deriving DecidableEq,Inhabited
def Gf (w:qj):zX:=⟨w,[],[],0,Jj w.kept⟩
def Zz (d:zX) (o:OpV):OpV:={ o with slot:=if o.kind=3∨o.kind=7 then d.slot+1 else 0 }
def Qe (d:zX) (o:OpV):zX×Int:=
 if 7<o.kind then (d,12)
 else if (doV d.w (Zz d o)).2≠0 then (d,(doV d.w (Zz d o)).2)
 else (⟨(doV d.w (Zz d o)).1,d.ops++[Zz d o],d.diags,d.status,if 0<(Zz d o).slot then (Zz d o).slot else d.slot⟩,0)
end
variable {w:qj} {ks:List zL}
section
open CA CB
open Go.RowKit
theorem zdO (a b:Lz):Fun Tryz.prog G0 260 [.str a,.str b] (.sc (.int .i64 (Lib.compareBytes a b))) 0:=by
 refine Fun.wrap (by kernel_rfl) fun R vs h=>?_;obtain ⟨v1,us1,rfl,h1,h⟩:=zi.1 h;obtain ⟨v2,us2,rfl,h2,h⟩:=zi.1 h;rw[zo]at h;subst h;rw[z7]at h1 h2;subst h1 h2;refine (Tryz.strings_Compare ⟨a.toArray⟩ ⟨b.toArray⟩ R.w).mono ?_;rintro e w' ⟨rfl,rfl⟩;exact ⟨_,rfl,Oa _ _,fun R' _=>zt.2 (by simp)⟩
section
variable {G:zu}
theorem zbv (e:zN) (n:Lz):Fun Tryz.prog G 259 [.agg (Md e),.str n] (.sc (.int .i64 (Lib.compareBytes e.name n))) 0:=by
 have h:=(zdO e.name n).glob0 (G':=G);refine fon Tryz.func259 ?_;dsimp only[Tryz.f259];push_cast;refine cl h ?_;push_cast;exact dn
theorem xD (es:List zN) (n:Lz) (hl:es.length<=100000) (hR:qQ jF zN.name es) :
  Fun Tryz.prog G 258 [.sl 2 (zJ es),.str n,.clo (.func 259) [] []] (.tup [.sc (.int .i64 (qx jF zN.name n es:Nat)),.sc (.bool (Js zN.name n es))]) 0:=by
 refine fon Tryz.func258 ?_;dsimp only[Tryz.f258];push_cast;refine loop (fun p:Nat×Nat=>⟨[(0,.sl 2 (zJ es)),(1,.str n),(2,.clo (.func 259) [] []),(8,.sc (.int .i64 (es.length:Nat))),(9,.sc (.int .i64 p.1)),(10,.sc (.int .i64 p.2))],[],0,0⟩)
  (fun p=>p.1<=p.2/\p.2<=es.length/\(∀ t (h:t<es.length),t<p.1->(jF).lt (zN.name es[t]) n=true)/\∀ t (h:t<es.length),p.2<=t->(jF).lt (zN.name es[t]) n=false) (fun p=>p.2-p.1) (0,es.length) ⟨Wb _,Wc _,fun t _ h=>by (simp at h),fun t h h'=>by (dsimp only at h';omega)⟩ ?_ ?_
 ·exact wk (by push_cast [ze,zd,CLe,zh,We])
 ·rintro ⟨i,j⟩ ⟨h1,h2,h3,h4⟩;dsimp only at h1 h2 h3 h4 ⊢;by_cases h:i<j
  ·obtain ⟨m,hm⟩:∃ m,m=(i+j) / 2:=⟨_,rfl⟩;have hmi:((i:Int)+(j:Int)) / 2=(m:Int):=by omega
   have hml:m<es.length:=by omega
   have hat:=Jk es m hml;have hlt:=(zeu es[m].name n).to_iff;push_cast [h,hmi,hat]
   repeat refine an ?_
   refine cl ((zbv es[m] n)) ?_;push_cast;cases hc:(jF).lt (zN.name es[m]) n with
   | true =>
    have hcv:(Lib.compareBytes es[m].name n<0)=True:=eq_true (hlt.mpr hc);push_cast [hcv]
    repeat refine an ?_
    refine ⟨(m+1,j),⟨by omega,h2,fun t ht hlt2=>?_,h4⟩,by dsimp only;omega,wk⟩;dsimp only at hlt2;rcases Wr t m with q | q
    ·exact (jF).tr ((WR.1 hR) t m ht hml q) hc
    ·have:t=m:=by omega
     subst this;exact hc
   | false =>
    have hcv:(Lib.compareBytes es[m].name n<0)=False:=Wy (fun e=>by have h7:(jF).lt (zN.name es[m]) n=true:=hlt.mp e;rw[hc]at h7;cases h7);push_cast [hcv]
    repeat refine an ?_
    refine ⟨(i,m),⟨by omega,by omega,h3,fun t ht hge=>?_⟩,by dsimp only;omega,wk⟩;dsimp only at hge;rcases Wr m t with q | q
    ·cases h9:(jF).lt (zN.name es[t]) n with
     | false=>rfl
     | true=>have:=(jF).tr ((WR.1 hR) m t hml ht q) h9;rw[hc]at this;cases this
    ·have:t=m:=by omega
     subst this;exact hc
  ·have hij:i=j:=by omega
   subst hij;have hrk:=Z1 (o:=jF) (key:=zN.name) n es i h2 h3 h4;push_cast [h];refine br (fun hx=>?_) (fun hx=>?_)
   ·have hx:i<es.length:=by simpa using hx
    have hat:=Jk es i hx;have hh:=uO n hR hrk hx;push_cast [hx,hat]
    repeat refine an ?_
    refine cl ((zbv es[i] n)) ?_;push_cast;have hcv:decide (Lib.compareBytes es[i].name n=0)=Js zN.name n es:=by
     rw[hh];exact AW.2 (zh6 es[i].name n).to_iff
    push_cast [hcv];exact dn (by push_cast [ze,zd,CLe,zh,hrk])
   ·have hx:¬i<es.length:=by simpa using hx
    have hh:=Mh n hR (by omega);push_cast [hx];exact dn (by push_cast [ze,zd,CLe,zh,hrk,hh])
theorem zaj (es:List zN) (n:Lz) (hl:es.length<=100000) (hR:Jb es):Fun Tryz.prog G 224 [.sl 2 (zJ es),.str n] (.tup [.sc (.int .i64 (qx jF zN.name n es:Nat)),.sc (.bool (Js zN.name n es))]) 0:=by
 refine fon Tryz.func224 ?_;dsimp only[Tryz.f224];push_cast;refine cl (xD es n hl hR) ?_;push_cast;exact dn
theorem yv (es:List zN) (n:Lz) (hl:es.length<=100000) (hR:Jb es):Fun Tryz.prog G 177 [.sl 2 (zJ es),.str n] (.tup [.sc (.int .i64 (zT n es)),.sc (.bool (Yj n es))]) 0:=by
 obtain ⟨_,_,h3,h4⟩:=UP n hR;have h:=zaj (G:=G) es n hl hR;cases hh:Js zN.name n es with
 | false =>
  have hf:zT n es=0:=by unfold zT;rw[(h4 hh).1]
  have he:Yj n es=false:=hh;rw[hh]at h;refine fon Tryz.func177 ?_;dsimp only[Tryz.f177];push_cast;refine cl h ?_;push_cast;exact dn (by push_cast [ze,zd,CLe,zh,hf,he])
 | true =>
  obtain ⟨hlt,_,g2,_⟩:=h3 hh;have hf:zT n es=es[qx jF zN.name n es].ino:=by unfold zT;rw[g2]
  have he:Yj n es=true:=hh;have hat:=Jk es _ hlt;rw[hh]at h;refine fon Tryz.func177 ?_;dsimp only[Tryz.f177];push_cast;refine cl h ?_;push_cast [hat]
  repeat refine an ?_
  exact dn (by push_cast [ze,zd,CLe,zh,hf,he])
end
end
section
open CA CB
open Go.RowKit
section
variable {G:zu}
theorem ji {es:List zN}:∀ r∈zJ es,r.length=2:=fun r hr=>by
 obtain ⟨x,_,rfl⟩:=WV.1 hr;rfl
theorem jl {es:List zN}:ju (zJ es):=fun r hr=>by
 obtain ⟨x,_,rfl⟩:=WV.1 hr;rfl
theorem zau {c i:Nat} {rows:List (List C)} (hk:∀ r∈rows,r.length=k) (hi:i<=rows.length):(qF k rows c).take (i*k)=(rows.take i).flatten:=by
 have hf:=qA hk;have h1:i*k<=rows.length*k:=WT _ hi;unfold qF;rw[OU (by omega),ZW hk]
theorem zkr {es:List zN} {c r:Nat} (hr:r<es.length) :
  (qF 2 (zJ es) c).take (r*2+1)++[C.sc (.int .i64 i)]++(qF 2 (zJ es) c).drop (r*2+1+1)=qF 2 (zJ (es.set r ⟨es[r].name,i⟩)) c:=by
 have hll:(zJ es).length=es.length:=We ..;have h:=zbN (c:=c) (row:=Md ⟨es[r].name,i⟩) (i:=r) ji rfl (show r<(zJ es).length by omega);have e1:(zJ es).set r (Md ⟨es[r].name,i⟩)=zJ (es.set r ⟨es[r].name,i⟩):=by simp[List.map_set]
 rw[e1]at h;rw[←h];have t0:=zau (c:=c) (i:=r) (ji (es:=es)) (by omega);have t1:=zau (c:=c) (i:=r+1) (ji (es:=es)) (by omega);have e2:((zJ es).take (r+1)).flatten=((zJ es).take r).flatten++Md es[r]:=by
  rw[WQ,Jk es r hr];simp
 have e3:(qF 2 (zJ es) c).take (r*2+1)=(qF 2 (zJ es) c).take (r*2)++[C.str es[r].name]:=by
  have e4:(qF 2 (zJ es) c).take (r*2+1)=((qF 2 (zJ es) c).take ((r+1)*2)).take (r*2+1):=by rw[B3,OJ (by omega)]
  have hl0:((zJ es).take r).flatten.length=r*2:=by
   rw[qA (k:=2) fun x hx=>ji x (Wx hx),W7,hll,OJ (by omega)]
  rw[e4,t1,e2,t0,AJ,hl0,Wf (by omega),show r*2+1-r*2=1 by omega]
  rfl
 rw[e3];simp
theorem zeJ (es:List zN) (n:Lz) (i:Int) (hl:es.length<=90000) (hR:Jb es) :
  Fun Tryz.prog G 270 [.sl 2 (zJ es),.str n,.sc (.int .i64 i)] (.own 0 112 2 (zJ (zQ n i es))) 1:=by
 obtain ⟨_,_,h3,h4⟩:=UP n hR;have hll:(zJ es).length=es.length:=We ..;have hat:=zaj (G:=G) es n (by omega) hR;have hrl:=VC (o:=jF) (key:=zN.name) n es;refine foF (fun _=>[]) Tryz.func270 ?_;dsimp only[Tryz.f270];push_cast;refine cl hat ?_;push_cast;refine jI [] [] (zcc (zJ es) ji jl (by omega)) rfl (by decide) (by decide) (by simp) (by push_cast) (by push_cast) (fun r bx' m hp=>?_);obtain ⟨rfl,⟨hne,c,h1,h2,rfl,rfl⟩ | ⟨he,⟨rfl,rfl⟩ | ⟨rfl,rfl⟩⟩⟩:=hp
 ·have hbl:=JX ji h1;have hre:∀ fp fo,C.reL fp fo (qF 2 (zJ es) c)=qF 2 (zJ es) c:=fun fp fo=>zF (zH jl);have hpos:=WI.2 hne;cases hh:Js zN.name n es with
  | true =>
   obtain ⟨hlt,g1,g2,g3,g4⟩:=h3 hh;have hset:zQ n i es=es.set (qx jF zN.name n es) ⟨n,i⟩:=g4 ⟨n,i⟩ rfl;have hbs:=zkr (c:=c) (i:=i) hlt;rw[g1,←hset]at hbs;have hwl:(zQ n i es).length=es.length:=by rw[hset,Bx]
   push_cast [hh,hre];rw[hbs];refine ⟨by omega,by omega,by rw[hbl];omega,[(1,112,2,zJ (zQ n i es),c)],[.inl 0],zC rfl (by omega) (by rw[We,hwl];omega) h2 ji jl,rfl,rfl,?_⟩;rw[hll,←hwl];push_cast [ze,zd,CLe,zh,show (zJ (zQ n i es)).length=(zQ n i es).length from We ..]
  | false =>
   have hw:zQ n i es=es.take (qx jF zN.name n es)++⟨n,i⟩ :: es.drop (qx jF zN.name n es):=by
    unfold zQ;rw[(h4 hh).2.1];exact (h4 hh).2.2 ⟨n,i⟩ rfl
   have hset:zJ (zQ n i es)=(zJ es).take (qx jF zN.name n es)++Md ⟨n,i⟩ :: (zJ es).drop (qx jF zN.name n es):=by rw[hw];simp
   have hsl:(zJ (zQ n i es)).length=(zJ es).length+1:=by rw[hset];simp;omega
   push_cast [hh,hre];refine jI [1] [0] (zaO (e:=112) (zJ es) (Md ⟨n,i⟩) (qx jF zN.name n es) c ji rfl jl rfl (by omega) (by omega) h1 h2) rfl (by decide) (by decide) (by simp) (by push_cast) (by push_cast [hre]) (fun r bx' m hp=>?_);rw[←hset]at hp;have hre2:∀ fp fo c,C.reL fp fo (qF 2 (zJ (zQ n i es)) c)=qF 2 (zJ (zQ n i es)) c:=fun fp fo c=>zF (zH jl);obtain ⟨rfl,c',g1,g2,⟨rfl,rfl⟩ | ⟨rfl,rfl⟩⟩:=hp
   ·push_cast [hre2,hre];exact ⟨[(1,112,2,zJ (zQ n i es),c')],[.inl 1],zC rfl (by omega) g1 g2 ji jl,rfl,rfl,by push_cast [ze,zd,CLe,zh]⟩
   ·have hra:∀ fp fo,C.reL fp fo (List.replicate (c*2) .any)=List.replicate (c*2) .any:=fun fp fo=>zF (by simp[OL,C.stayB]);push_cast [hre2,hre,hra];exact ⟨[(2,112,2,zJ (zQ n i es),c')],[.inl 1],zC rfl (by omega) g1 g2 ji jl,rfl,rfl,by push_cast [ze,zd,CLe,zh]⟩
 ·have he:es = []:=by simpa using he
  have hh:Js zN.name n es=false:=by rw[he];rfl
  have hr0:qx jF zN.name n es=0:=by rw[he];rfl
  have hset:zQ n i es = [⟨n,i⟩]:=by rw[he];rfl
  push_cast [hh,hr0];refine jI [] [0] (zjZ (e:=112) (Md ⟨n,i⟩) rfl rfl) rfl (by decide) (by decide) (by simp) (by push_cast) (by push_cast) (fun r bx' m hp=>?_);obtain ⟨rfl,c,g1,g2,rfl,rfl⟩:=hp;have hre:∀ fp fo,C.reL fp fo (qF 2 [Md ⟨n,i⟩] c)=qF 2 [Md ⟨n,i⟩] c:=fun fp fo=>zF (zH (jl (es:=[⟨n,i⟩])));push_cast [hre];exact ⟨[(0,112,2,zJ [⟨n,i⟩],c)],[.inl 1],zC rfl (by omega) g1 g2 ji jl,rfl,rfl,by push_cast [ze,zd,CLe,zh,hset]⟩
 ·have he:es = []:=by simpa using he
  have hh:Js zN.name n es=false:=by rw[he];rfl
  have hr0:qx jF zN.name n es=0:=by rw[he];rfl
  have hset:zQ n i es = [⟨n,i⟩]:=by rw[he];rfl
  push_cast [hh,hr0];refine jI [0] [0] (zaO (e:=112) [] (Md ⟨n,i⟩) 0 0 (fun r hr=>by cases hr) rfl (fun r hr=>by cases hr) rfl (by simp) (by simp) (by simp) (by simp)) rfl (by decide) (by decide) (by simp) (by push_cast) (by push_cast [qF]) (fun r bx' m hp=>?_);obtain ⟨rfl,c,g1,g2,hp⟩:=hp;have hre:∀ fp fo,C.reL fp fo (qF 2 [Md ⟨n,i⟩] c)=qF 2 [Md ⟨n,i⟩] c:=fun fp fo=>zF (zH (jl (es:=[⟨n,i⟩])));rcases hp with ⟨rfl,rfl⟩ | ⟨rfl,rfl⟩
  ·push_cast [hre];exact ⟨[(0,112,2,zJ [⟨n,i⟩],c)],[.inl 1],zC rfl (WM (AV _) g1) g1 g2 ji jl,rfl,rfl,by push_cast [ze,zd,CLe,zh,hset]⟩
  ·push_cast [hre];exact ⟨[(1,112,2,zJ [⟨n,i⟩],c)],[.inl 1],zC rfl (WM (AV _) g1) g1 g2 ji jl,rfl,rfl,by push_cast [ze,zd,CLe,zh,hset]⟩
end
end
section
open CA CB
open Go.RowKit
section
variable {G:zu}
theorem zoz {A B Z:List C} {r:Nat} (hA:A.length=r*2) (hB:B.length=(k-r)*2) (hZ:Z.length=k*2) (hr:r<=k):spl (A++Z.drop (r*2)) (r*2) (B.take ((k-r)*2))=A++B:=by
 unfold spl;rw[Wf (l:=B) (by omega),OU (by omega),Wf (l:=A) (by omega),Or (l:=A++Z.drop (r*2)) (by rw[Wn,W3];omega),W2]
theorem Uz (es:List zN) (n:Lz) (hl:es.length<=90000) (hR:Jb es) (hh:Js zN.name n es=true) :
  Fun Tryz.prog G 272 [.sl 2 (zJ es),.str n] (.own 0 112 2 (zJ (zg n es))) 1:=by
 obtain ⟨_,_,h3,h4⟩:=UP n hR;have hll:(zJ es).length=es.length:=We ..;have hat:=zaj (G:=G) es n (by omega) hR;have hrl:=VC (o:=jF) (key:=zN.name) n es;rw[hh]at hat;obtain ⟨hlt,g1,g2,g3,g4⟩:=h3 hh;have hw:zg n es=es.take (qx jF zN.name n es)++es.drop (qx jF zN.name n es+1):=g3;obtain ⟨k,hk⟩:∃ k,es.length=k+1:=⟨es.length-1,by omega⟩;have hkc:(zJ es).length=k+1:=by omega
 have hn:((zJ es).length:Int)-1=(k:Int):=by omega
 have hwl:(zg n es).length=k:=by rw[hw];simp;omega
 generalize qx jF zN.name n es=r at *;have hm:min r k=r:=by omega
 rcases O8 k with h1 | h1
 ·subst h1;obtain rfl:r=0:=by omega
  have hn:((zJ es).length:Int)-1=0:=hn;have hwe:zg n es = []:=At.1 hwl;refine fof (fun i=>if i=5 then Qd [(0,.pure),(1,.pure),(2,.pure),(3,.pure),(4,.pure),(7,.pure),(8,.pure),(9,.pure),(10,.pure),(5,.flt [0,5,6,7,8]),(6,.pure),(11,.bar)] else []) Tryz.func272 ?_;dsimp only[Tryz.f272];push_cast;refine cl hat ?_;push_cast [hn,Int.toNat_zero];refine ⟨by omega,by omega,zrb (m:=0) (xs:=[]) ZC Yy rfl rfl (fun _ _ _ _ _ h=>by cases h) rfl ?_⟩;push_cast;have hd:(zJ es).drop 1 = []:=Or (by omega);rw[hd];refine ⟨⟨by split<;>first | omega | trivial,by split<;>first | omega | trivial⟩,zrb (m:=0) (xs:=[]) ZC Yy rfl rfl (fun _ _ _ _ _ h=>by cases h) rfl ?_⟩;push_cast;exact ⟨[.inl 0],rfl,rfl,by push_cast [ze,zd,CLe,zh,hwe]⟩
 ·refine foF (fun i=>if i=5 then Qd [(0,.pure),(1,.pure),(2,.pure),(3,.pure),(4,.pure),(7,.pure),(8,.pure),(9,.pure),(10,.pure),(5,.flt [0,5,6,7,8]),(6,.pure),(11,.bar)] else if i=1000000+62 then [true,true] else []) Tryz.func272 ?_;dsimp only[Tryz.f272];push_cast;refine cl hat ?_;push_cast [hn,On];have hA:((zJ es).take r).flatten.length=r*2:=by
   rw[qA (k:=2) fun x hx=>ji x (Wx hx),W7,hkc,OJ (by omega)]
  have hB:((zJ es).drop (r+1)).flatten.length=(k-r)*2:=by
   rw[qA (k:=2) fun x hx=>ji x (WU hx),W3,hkc];omega
  have hZ:((List.replicate k [C.str [],C.sc (.int .i64 0)]).flatten).length=k*2:=by simp
  refine ⟨⟨by omega,by omega⟩,by omega,by omega,by omega,by omega,⟨by omega,by omega⟩,⟨by omega,by omega⟩,⟨by omega,by omega⟩,zmT (m:=r) (xs:=((zJ es).take r).flatten) ZC Yy (by simp[C.xs?,C.rows?,hkc];omega) rfl hA (by rw[hZ];omega) ?_⟩;rw[hm];push_cast;have hS:spl (List.replicate k [C.str [],C.sc (.int .i64 0)]).flatten 0 (((zJ es).take r).flatten.take (r*2))=((zJ es).take r).flatten++((List.replicate k [C.str [],C.sc (.int .i64 0)]).flatten).drop (r*2):=by
   unfold spl;rw[OF,OB,Ox,Wf (by omega),hA]
  have hm2:min (k-r) (k-r)=k-r:=Nat.min_self _;rw[hS];refine ⟨⟨by split<;>first | exact ⟨by omega,by omega⟩ | trivial,by split<;>first | exact ⟨by omega,by omega⟩ | trivial,by split<;>first | exact ⟨by omega,by omega⟩ | trivial⟩,Wc _,⟨by omega,by omega⟩,zmT (m:=k-r) (xs:=((zJ es).drop (r+1)).flatten) ZC Yy (by simp[C.xs?,C.rows?,hkc]) rfl hB (by rw[Wn,W3,hA,hZ];omega) ?_⟩;rw[hm2];push_cast;have hwc:(zJ (zg n es)).length=k:=(We ..).trans hwl;have hF:spl (((zJ es).take r).flatten++((List.replicate k [C.str [],C.sc (.int .i64 0)]).flatten).drop (r*2)) (r*2) (((zJ es).drop (r+1)).flatten.take ((k-r)*2))=qF 2 (zJ (zg n es)) k:=by
   rw[zoz hA hB hZ (by omega)];unfold qF;rw[hwc,BU,Nat.zero_mul,hw];simp
  rw[hF];refine ⟨[(0,112,2,zJ (zg n es),k)],[.inl 0],zC rfl h1 (by omega) (by omega) ji jl,rfl,rfl,?_⟩;push_cast [ze,zd,CLe,zh,hwc]
end
end
section
theorem ZU (n:Int) (xs:List zn):zl n xs=(Xy n xs).isSome:=by
 unfold zl Xy
 induction xs with
 | nil=>rfl
 | cons y r ih =>
  rw[AN,OW];cases h:(y.ino==n) with
  | true=>rfl
  | false=>rw[O6,ih]
theorem Ma (h:Xy n xs=some x):x.ino=n/\x∈xs:=by
 unfold Xy at h;have h1:=List.find?_some h;exact ⟨by simpa using h1,Bl h⟩
theorem zbP (n:Int) (x:zn):∀ xs:List zn,(∀ z∈xs,z.ino≠x.ino)->Xy n (Z7 x xs)=if x.ino=n then some x else Xy n xs
 | [],_=>by
  unfold Z7 Xy;by_cases h:x.ino=n<;>simp[h]
 | y :: r,hn=>by
  have hy:=hn y Wk;have ih:=zbP n x r fun z hz=>hn z (Wl _ hz);unfold Xy at ih ⊢;unfold Z7;split
  ·by_cases h:x.ino=n
   ·simp[h]
   ·simp[h,OW]
  ·by_cases h:x.ino=n
   ·rw[if_pos h]at ih ⊢;have hyn:(y.ino==n)=false:=by simp;omega
    rw[OW,hyn];exact ih
   ·rw[if_neg h]at ih ⊢;rw[OW,OW,ih]
theorem Z0 (n m:Int):∀ xs:List zn,Xy n (zY m xs)=if n=m then none else Xy n xs
 | []=>by unfold Xy zY;simp
 | y :: r=>by
  have ih:=Z0 n m r;by_cases hy:y.ino=m
  ·rw[Jm hy,ih];by_cases h:n=m
   ·rw[if_pos h,if_pos h]
   ·rw[if_neg h,if_neg h];have hyn:(y.ino==n)=false:=by simp;omega
    unfold Xy;rw[OW,hyn]
  ·rw[J6 hy];unfold Xy at ih ⊢;rw[OW,OW,ih];by_cases h:n=m
   ·have hyn:(y.ino==n)=false:=by simp;omega
    simp only[hyn,if_pos h]
   ·simp only[if_neg h]
theorem zn7:∀ z∈zY n xs,z.ino≠n:=fun z hz=>by
 unfold zY at hz;simpa using (OC.1 hz).2
theorem zbJ (n:Int) (x:zn) (xs:List zn):Xy n (qd x xs)=if x.ino=n then some x else Xy n xs:=by
 unfold qd;rw[zbP n x _ zn7,Z0];by_cases h:x.ino=n
 ·rw[if_pos h,if_pos h]
 ·rw[if_neg h,if_neg h,if_neg (fun e=>h e.symm)]
theorem qy (n:Int) (x:zn) (xs:List zn):zl n (qd x xs)=(decide (x.ino=n)||zl n xs):=by
 rw[ZU,zbJ,ZU];by_cases h:x.ino=n<;>simp[h]
theorem J2 (n m:Int) (xs:List zn):zl n (zY m xs)=(!decide (n=m)&&zl n xs):=by
 rw[ZU,Z0,ZU];by_cases h:n=m<;>simp[h]
theorem x8 {x:zn}:∀ {xs:List zn},zW xs->Xy x.ino xs=some x->qd x xs=xs
 | [],_,h=>by unfold Xy at h;simp at h
 | y :: r,hR,h=>by
  obtain ⟨h1,h2⟩:=j6.1 hR;by_cases hy:y.ino=x.ino
  ·have e:y=x:=by
    unfold Xy at h;rw[AC (by simpa using hy)]at h;simpa using h
   subst e;have hb:zl y.ino r=false:=Uj h1;unfold qd;rw[Jm rfl,Q4 hb,zej h1]
  ·have hx:Xy x.ino r=some x:=by
    unfold Xy at h ⊢;rwa [Ao (by simpa using hy)]at h
   have hlt:=h1 x (Ma hx).2;rw[Zt hlt,x8 h2 hx]
theorem zof:∀ {x:zn},zW xs->(x∈xs↔Xy x.ino xs=some x):=by
 induction xs with
 | nil=>intro x _;simp[Xy]
 | cons y r ih =>
  intro x hR;obtain ⟨h1,h2⟩:=j6.1 hR;constructor
  ·intro hx;rcases WF.1 hx with rfl | hx
   ·unfold Xy;rw[AC (by simp)]
   ·have:=h1 x hx;unfold Xy;rw[Ao (by simp;omega)];exact (ih h2).1 hx
  ·intro h;exact (Ma h).2
def GL (g:zn->Nat) (xs:List zn):Nat:=(xs.map g).sum
theorem Xh (g:zn->Nat) {n:Int}:∀ {xs:List zn},zW xs->GL g xs=GL g (zY n xs)+(match Xy n xs with | some x=>g x | none=>0)
 | [],_=>rfl
 | y :: r,hR=>by
  obtain ⟨h1,h2⟩:=j6.1 hR;have ih:=Xh g (n:=n) h2;unfold GL at ih ⊢;by_cases hy:y.ino=n
  ·have hb:zl n r=false:=Uj fun z hz=>by have:=h1 z hz;omega
   have hg:Xy n (y :: r)=some y:=by unfold Xy;rw[AC (by simpa using hy)]
   rw[hg,Jm hy,Q4 hb];simp;omega
  ·have hg:Xy n (y :: r)=Xy n r:=by unfold Xy;rw[Ao (by simpa using hy)]
   rw[hg,J6 hy];simp only[Wq,OY];omega
theorem zbD (g:zn->Nat) (x:zn):∀ xs:List zn,GL g (Z7 x xs)=GL g xs+g x
 | []=>by unfold Z7 GL;simp
 | y :: r=>by
  have ih:=zbD g x r;unfold GL at ih ⊢;unfold Z7;split
  ·simp;omega
  ·simp only[Wq,OY];omega
theorem UZ (g:zn->Nat) {x:zn} {xs:List zn} (hR:zW xs):GL g (qd x xs)+(match Xy x.ino xs with | some y=>g y | none=>0)=GL g xs+g x:=by
 unfold qd;rw[zbD,Xh g (n:=x.ino) hR];omega
end
section
def Yk (n:Int) (x:zn):Nat:=(x.es.filter fun e=>decide (e.ino=n)).length
def Yh (n:Int) (xs:List zn):Nat:=GL (Yk n) xs
structure FsI (f:FsV):Prop where
 rises:zW f.xs
 ino:∀ x∈f.xs,1<=x.ino/\x.ino<f.next
 kind:∀ x∈f.xs,x.kind=1∨x.kind=2∨x.kind=3
 es:∀ x∈f.xs,Jb x.es
 file:∀ x∈f.xs,x.kind≠2->x.es = []
 led:∀ x∈f.xs,∀ e∈x.es,zl e.ino f.xs=true
 links:∀ x∈f.xs,x.links=(Yh x.ino f.xs:Int)
 root:zl 1 f.xs=true
 base:(zf 1 f.xs).kind=2
 bare:Yh 1 f.xs=0
theorem zj (h:zl n xs=true):Xy n xs=some (zf n xs)/\zf n xs∈xs/\(zf n xs).ino=n:=by
 rw[ZU]at h;obtain ⟨x,hx⟩:=AM.1 h;have e:zf n xs=x:=by unfold zf;rw[hx];rfl
 obtain ⟨h1,h2⟩:=Ma hx;rw[e];exact ⟨hx,h2,h1⟩
theorem JI (h:zl n xs=false):Xy n xs=none/\zf n xs=vU:=by
 have h1:=N3 h;exact ⟨h1,by unfold zf;rw[h1];rfl⟩
theorem qq (n:Int) (x:zn) (xs:List zn):zf n (qd x xs)=if x.ino=n then x else zf n xs:=by
 unfold zf;rw[zbJ];split<;>rfl
theorem QJ (n m:Int) (xs:List zn):zf n (zY m xs)=if n=m then vU else zf n xs:=by
 unfold zf;rw[Z0];split<;>rfl
theorem qo {z:zn}:z∈qd x xs↔z=x∨(z∈xs/\z.ino≠x.ino):=by
 unfold qd;rw[Ml];unfold zY;simp
theorem J3 {z:zn}:z∈zY n xs↔z∈xs/\z.ino≠n:=by
 unfold zY;simp
theorem Ji (h:x∈xs):zl x.ino xs=true:=by
 unfold zl;exact Ou.2 ⟨x,h,by simp⟩
theorem zbc {α κ:Type} [DecidableEq κ] {o:ziH κ} {key:α->κ} (p:α->Bool) (x:α):∀ xs:List α,((YY o key x xs).filter p).length=(xs.filter p).length+if p x then 1 else 0
 | []=>by unfold YY;cases h:p x<;>simp[h]
 | y :: r=>by
  have ih:=zbc (o:=o) (key:=key) p x r;unfold YY;split
  ·cases h:p x<;>simp[h,O4]
  ·rw[O4,O4];cases h:p y
   ·simpa using ih
   ·simp[ih];omega
theorem zhn [DecidableEq κ] {o:ziH κ} {key:α->κ} (p:α->Bool) {n:κ} {xs:List α} (hR:qQ o key xs) {e:α} (h:qz key n xs=some e):(xs.filter p).length=((jh key n xs).filter p).length+if p e then 1 else 0:=by
 obtain ⟨_,_,h3,h4⟩:=UP n hR;cases hh:Js key n xs with
 | false=>rw[(h4 hh).1]at h;cases h
 | true =>
  obtain ⟨g,_,g2,g3,_⟩:=h3 hh;rw[g2]at h;simp only[Option.some.injEq]at h;have e0:xs=xs.take (qx o key n xs)++e :: xs.drop (qx o key n xs+1):=by
   rw[←h,←Oe g,Od]
  rw[g3]
  conv=>lhs;rw[e0]
  rw[Oz,Oz,O4];cases hp:p e<;>simp<;>omega
theorem zK [DecidableEq κ] {key:α->κ} {n:κ} {xs:List α} {e:α} (h:qz key n xs=some e):key e=n/\e∈xs:=by
 unfold qz at h;exact ⟨by have:=List.find?_some h;simpa using this,Bl h⟩
theorem qg [DecidableEq κ] {key:α->κ} {n:κ} {xs:List α}:Js key n xs=(qz key n xs).isSome:=by
 unfold Js qz
 induction xs with
 | nil=>rfl
 | cons y r ih =>
  rw[AN,OW];cases h:decide (key y=n) with
  | true=>rfl
  | false=>rw[O6,ih]
theorem Ha {m:Int} (hR:zW xs) (hh:zl n xs=true) (hx:x.ino=n):Yh m (qd x xs)+Yk m (zf n xs)=Yh m xs+Yk m x:=by
 have h:=UZ (Yk m) (x:=x) hR;rw[hx,(zj hh).1]at h;exact h
theorem zez {m:Int} (hR:zW xs) (hh:zl x.ino xs=false):Yh m (qd x xs)=Yh m xs+Yk m x:=by
 have h:=UZ (Yk m) (x:=x) hR;rw[(JI hh).1]at h;exact h
theorem zkl {m:Int} (hR:zW xs) (hh:zl n xs=true):Yh m xs=Yh m (zY n xs)+Yk m (zf n xs):=by
 have h:=Xh (Yk m) (n:=n) hR;rw[(zj hh).1]at h;exact h
theorem zkY (h:∀ x∈xs,∀ e∈x.es,e.ino≠n):Yh n xs=0:=by
 unfold Yh GL;rw[List.sum_eq_zero_iff_forall_eq_nat];intro k hk;obtain ⟨x,hx,rfl⟩:=WV.1 hk;unfold Yk;rw[At,AU];intro e he;simpa using h x hx e he
theorem Vo (h:Yh n xs=0):∀ x∈xs,∀ e∈x.es,e.ino≠n:=fun x hx e he hn=>by
 unfold Yh GL at h;rw[List.sum_eq_zero_iff_forall_eq_nat]at h;have:=h _ (BS hx);unfold Yk at this;rw[At,AU]at this;exact this e he (by simpa using hn)
theorem Z5 {m:Int} {n:Lz} {es:List zN} (hR:Jb es) (h:Yj n es=false):Yk m { x with es:=zQ n i es }=Yk m { x with es:=es }+if i=m then 1 else 0:=by
 obtain ⟨_,_,_,h4⟩:=UP n hR;unfold zQ Yk;rw[(h4 h).2.1];show ((YY jF zN.name ⟨n,i⟩ es).filter _).length=_;rw[zbc];by_cases hi:i=m<;>simp[hi]
theorem Qu {m:Int} {n:Lz} {es:List zN} (hR:Jb es) (h:qz zN.name n es=some ⟨n,i⟩):Yk m { x with es:=es }=Yk m { x with es:=zg n es }+if i=m then 1 else 0:=by
 unfold zg Yk;have:=zhn (fun e:zN=>decide (e.ino=m)) hR h;simp only at this ⊢;rw[this];by_cases hi:i=m<;>simp[hi]
theorem Yo {n:Lz} {es:List zN} (h:Yj n es=true):qz zN.name n es=some ⟨n,zT n es⟩:=by
 unfold Yj at h;rw[qg]at h;obtain ⟨e,he⟩:=AM.1 h;have h1:=(zK he).1;unfold zT;rw[he];cases e with
 | mk a b=>simp at h1 ⊢;exact h1
theorem QU {n:Lz} {es:List zN} (h:Jb es):Jb (zQ n i es):=kO (x:=(⟨n,i⟩:zN)) h
theorem Jw {n:Lz} {es:List zN} (h:Jb es):Jb (zg n es):=ko n h
theorem Ys {n:Lz} {es:List zN} {e:zN} (h:e∈zQ n i es):e=⟨n,i⟩∨e∈es:=by
 unfold zQ at h;rcases Q3.1 h with h | h
 ·exact .inl h
 ·exact .inr (QI.1 h).1
theorem qK {n:Lz} {es:List zN} {e:zN} (h:e∈zg n es):e∈es/\e.name≠n:=QI.1 h
end
section
structure qX (f:FsV) (s:zB):Prop where
 has:zl s.dir f.xs=true
 kind:(zf s.dir f.xs).kind=2
 free:Yj s.name (zf s.dir f.xs).es=false
structure zm (f:FsV) (s:zB):Prop where
 has:zl s.dir f.xs=true
 kind:(zf s.dir f.xs).kind=2
 there:qz zN.name s.name (zf s.dir f.xs).es=some ⟨s.name,s.ino⟩
theorem zm.ino {s:zB} (hf:FsI f) (h:zm f s):zl s.ino f.xs=true:=by
 have:=hf.led _ (zj h.has).2.1 ⟨s.name,s.ino⟩ (zK h.there).2;exact this
abbrev qh (d:zn) (es:List zN):zn:={ d with es:=es }
theorem qD {F:List zN->List zN} (hh:zl n xs=true) {z:zn}:z∈qe n F xs↔z=qh (zf n xs) (F (zf n xs).es)∨(z∈xs/\z.ino≠n):=by
 unfold qe;rw[qo];show z=qh _ _∨(z∈xs/\z.ino≠(zf n xs).ino)↔_;rw[(zj hh).2.2]
theorem zM {m:Int} {F:List zN->List zN} (hh:zl n xs=true):zl m (qe n F xs)=zl m xs:=by
 unfold qe;rw[qy];show (decide ((zf n xs).ino=m)||zl m xs)=_;rw[(zj hh).2.2];by_cases h:n=m
 ·subst h;rw[hh];simp
 ·simp[h]
theorem jk {m:Int} {F:List zN->List zN} (hh:zl n xs=true):zf m (qe n F xs)=if n=m then qh (zf n xs) (F (zf n xs).es) else zf m xs:=by
 unfold qe;rw[qq];show (if (zf n xs).ino=m then _ else _)=_;rw[(zj hh).2.2]
theorem Zr {m:Int} {F:List zN->List zN} (hR:zW xs) (hh:zl n xs=true):Yh m (qe n F xs)+Yk m (zf n xs)=Yh m xs+Yk m (qh (zf n xs) (F (zf n xs).es)):=
 Ha hR hh (zj hh).2.2
theorem Mq (hf:FsI f):zl f.next f.xs=false/\∀ x∈f.xs,∀ e∈x.es,e.ino≠f.next:=by
 have h1:zl f.next f.xs=false:=by
  rw[Oy];intro h;have:=(hf.ino _ (zj h).2.1).2;rw[(zj h).2.2]at this;omega
 refine ⟨h1,fun x hx e he hn=>?_⟩;have:=hf.led x hx e he;rw[hn,h1]at this;cases this
theorem uC (hf:FsI f):1<f.next:=by
 have:=(hf.ino _ (zj hf.root).2.1).2;rw[(zj hf.root).2.2]at this;exact this
theorem zoF (hf:FsI f) {s:zB} (hs:qX f s) (k:Int) (hk:k=1∨k=2∨k=3) (t:Lz):FsI (zdz f s k t):=by
 obtain ⟨n1,n2⟩:=Mq hf;have hd:=(zj hs.has).2.1;have hR1:zW (qe s.dir (zQ s.name f.next) f.xs):=zO hf.rises;have hn1:zl f.next (qe s.dir (zQ s.name f.next) f.xs)=false:=by rw[zM hs.has];exact n1
 have hlt:=uC hf;have hdn:s.dir≠f.next:=fun e=>by have:=hs.has;rw[e,n1]at this;cases this
 refine ⟨zO hR1,fun x hx=>?_,fun x hx=>?_,fun x hx=>?_,fun x hx hk2=>?_,fun x hx e he=>?_,fun x hx=>?_,?_,?_,?_⟩
 ·rcases qo.1 hx with rfl | ⟨hx,_⟩
  ·exact ⟨by show 1<=f.next;omega,by show f.next<f.next+1;omega⟩
  ·rcases (qD hs.has).1 hx with rfl | ⟨hx,_⟩
   ·have:=hf.ino _ hd;exact ⟨this.1,by show (zf s.dir f.xs).ino<f.next+1;omega⟩
   ·have:=hf.ino _ hx;exact ⟨this.1,by show x.ino<f.next+1;omega⟩
 ·rcases qo.1 hx with rfl | ⟨hx,_⟩
  ·exact hk
  ·rcases (qD hs.has).1 hx with rfl | ⟨hx,_⟩
   ·exact .inr (.inl hs.kind)
   ·exact hf.kind _ hx
 ·rcases qo.1 hx with rfl | ⟨hx,_⟩
  ·exact List.Pairwise.nil
  ·rcases (qD hs.has).1 hx with rfl | ⟨hx,_⟩
   ·exact QU (hf.es _ hd)
   ·exact hf.es _ hx
 ·rcases qo.1 hx with rfl | ⟨hx,_⟩
  ·rfl
  ·rcases (qD hs.has).1 hx with rfl | ⟨hx,_⟩
   ·exact absurd hs.kind hk2
   ·exact hf.file _ hx hk2
 ·show zl e.ino (qd _ _)=true;rw[qy,zM hs.has];show (decide (f.next=e.ino)||zl e.ino f.xs)=true;rcases qo.1 hx with rfl | ⟨hx,_⟩
  ·cases he
  ·rcases (qD hs.has).1 hx with rfl | ⟨hx,_⟩
   ·rcases Ys he with rfl | he
    ·simp
    ·rw[hf.led _ hd e he,BI]
   ·rw[hf.led _ hx e he,BI]
 ·show x.links=(Yh x.ino (qd _ _):Int);rw[zez hR1 hn1];have hc:=Zr (m:=x.ino) (F:=zQ s.name f.next) hf.rises hs.has;have hw:=Z5 (m:=x.ino) (i:=f.next) (x:=zf s.dir f.xs) (hf.es _ hd) hs.free;have hz:Yk x.ino (⟨f.next,k,1,t,if k=2 then s.dir else 0,[]⟩:zn)=0:=rfl;have hw:Yk x.ino (qh (zf s.dir f.xs) (zQ s.name f.next (zf s.dir f.xs).es))=Yk x.ino (zf s.dir f.xs)+if f.next=x.ino then 1 else 0:=hw;rw[hz];rcases qo.1 hx with rfl | ⟨hx,hxn⟩
  ·have h0:Yh f.next f.xs=0:=zkY n2;have hw:Yk f.next (qh (zf s.dir f.xs) (zQ s.name f.next (zf s.dir f.xs).es))=Yk f.next (zf s.dir f.xs)+if f.next=f.next then 1 else 0:=hw;rw[if_pos rfl]at hw;show (1:Int)=((Yh f.next (qe s.dir (zQ s.name f.next) f.xs)+0:Nat):Int);have hc:Yh f.next (qe s.dir (zQ s.name f.next) f.xs)+Yk f.next (zf s.dir f.xs)=Yh f.next f.xs+Yk f.next (qh (zf s.dir f.xs) (zQ s.name f.next (zf s.dir f.xs).es)):=hc;omega
  ·have hxn:x.ino≠f.next:=hxn;rw[if_neg fun e=>hxn e.symm]at hw;have hl:x.links=(Yh x.ino f.xs:Int):=by
    rcases (qD hs.has).1 hx with rfl | ⟨hx,_⟩
    ·exact hf.links (zf s.dir f.xs) hd
    ·exact hf.links _ hx
   omega
 ·show zl 1 (qd _ _)=true;rw[qy,zM hs.has,hf.root,BI]
 ·show (zf 1 (qd _ _)).kind=2;rw[qq];rw[if_neg (show ¬f.next=1 by omega),jk hs.has];split
  ·exact hs.kind
  ·exact hf.base
 ·show Yh 1 (qd _ _)=0;rw[zez hR1 hn1];have hc:=Zr (m:=1) (F:=zQ s.name f.next) hf.rises hs.has;have hw:Yk 1 (qh (zf s.dir f.xs) (zQ s.name f.next (zf s.dir f.xs).es))=Yk 1 (zf s.dir f.xs)+if f.next=1 then 1 else 0:=Z5 (m:=1) (i:=f.next) (x:=zf s.dir f.xs) (hf.es (zf s.dir f.xs) hd) hs.free;have hz:Yk 1 (⟨f.next,k,1,t,if k=2 then s.dir else 0,[]⟩:zn)=0:=rfl;have:=hf.bare;rw[if_neg (show ¬f.next=1 by omega)]at hw;omega
theorem zpL (hf:FsI f) {s:zB} (hs:qX f s) (k:Int) (hk:k=1∨k=2∨k=3) (t:Lz):FsI (zd5 f s k t).1:=by
 unfold zd5;by_cases h1:may s.name=true
 ·rw[if_pos h1];by_cases h2:YN f 1 (if k=1 then (t.length:Int) else 0)=true
  ·rw[if_pos h2];exact zoF hf hs k hk t
  ·rw[if_neg h2];exact hf
 ·rw[if_neg h1];exact hf
theorem zoR (hf:FsI f) {i:Int} (hh:zl i f.xs=true) (t:Lz):FsI (X9 f i t):=by
 have hg:=zj hh;have hmem:∀ {z:zn},z∈(X9 f i t).xs->∃ y∈f.xs,z.ino=y.ino/\z.kind=y.kind/\z.es=y.es/\z.links=y.links:=fun {z} hz=>by
  rcases qo.1 hz with rfl | ⟨hz,_⟩
  ·exact ⟨_,hg.2.1,rfl,rfl,rfl,rfl⟩
  ·exact ⟨_,hz,rfl,rfl,rfl,rfl⟩
 have hhas:∀ m,zl m (X9 f i t).xs=zl m f.xs:=fun m=>by
  show zl m (qd _ _)=_;rw[qy];show (decide ((zf i f.xs).ino=m)||_)=_;rw[hg.2.2];by_cases h:i=m
  ·subst h;rw[hh];simp
  ·simp[h]
 have hcnt:∀ m,Yh m (X9 f i t).xs=Yh m f.xs:=fun m=>by
  have h:=Ha (m:=m) (x:={ zf i f.xs with data:=t }) hf.rises hh hg.2.2;have e:Yk m { zf i f.xs with data:=t }=Yk m (zf i f.xs):=rfl;show Yh m (qd _ _)=_;omega
 refine ⟨zO hf.rises,fun x hx=>?_,fun x hx=>?_,fun x hx=>?_,fun x hx hk2=>?_,fun x hx e he=>?_,fun x hx=>?_,by rw[hhas];exact hf.root,?_,?_⟩
 ·obtain ⟨y,hy,e1,_⟩:=hmem hx;rw[e1];exact hf.ino y hy
 ·obtain ⟨y,hy,_,e2,_⟩:=hmem hx;rw[e2];exact hf.kind y hy
 ·obtain ⟨y,hy,_,_,e3,_⟩:=hmem hx;rw[e3];exact hf.es y hy
 ·obtain ⟨y,hy,_,e2,e3,_⟩:=hmem hx;rw[e3];exact hf.file y hy (by rw[←e2];exact hk2)
 ·obtain ⟨y,hy,_,_,e3,_⟩:=hmem hx;rw[hhas];exact hf.led y hy e (by rw[←e3];exact he)
 ·obtain ⟨y,hy,e1,_,_,e4⟩:=hmem hx;rw[hcnt,e4,e1];exact hf.links y hy
 ·show (zf 1 (qd _ _)).kind=2;rw[qq];split
  ·rename_i h;have h:(zf i f.xs).ino=1:=h;rw[hg.2.2]at h;subst h;exact hf.base
  ·exact hf.base
 ·rw[hcnt];exact hf.bare
theorem znO (hf:FsI f) {s:zB} (hs:qX f s) {i:Int} (hi:zl i f.xs=true) (hk:(zf i f.xs).kind≠2):FsI (Xb f s i):=by
 have hd:=zj hs.has;have hx:=zj hi;have hne:s.dir≠i:=fun e=>hk (by rw[←e];exact hs.kind);have hR1:zW (qe s.dir (zQ s.name i) f.xs):=zO hf.rises;have hi1:zl i (qe s.dir (zQ s.name i) f.xs)=true:=by rw[zM hs.has];exact hi
 have hg1:zf i (qe s.dir (zQ s.name i) f.xs)=zf i f.xs:=by rw[jk hs.has,if_neg hne]
 have hmem:∀ {z:zn},z∈(Xb f s i).xs->z = { zf i f.xs with links:=(zf i f.xs).links+1 }∨z=qh (zf s.dir f.xs) (zQ s.name i (zf s.dir f.xs).es)∨(z∈f.xs/\z.ino≠s.dir/\z.ino≠i):=fun {z} hz=>by
  rcases qo.1 hz with rfl | ⟨hz,hzi⟩
  ·exact .inl rfl
  ·have hzi:z.ino≠(zf i f.xs).ino:=hzi;rw[hx.2.2]at hzi;rcases (qD hs.has).1 hz with rfl | ⟨hz,hzd⟩
   ·exact .inr (.inl rfl)
   ·exact .inr (.inr ⟨hz,hzd,hzi⟩)
 have hhas:∀ m,zl m (Xb f s i).xs=zl m f.xs:=fun m=>by
  show zl m (qd _ _)=_;rw[qy,zM hs.has];show (decide ((zf i f.xs).ino=m)||_)=_;rw[hx.2.2];by_cases h:i=m
  ·subst h;rw[hi];simp
  ·simp[h]
 have hcnt:∀ m,Yh m (Xb f s i).xs=Yh m f.xs+if i=m then 1 else 0:=fun m=>by
  have h:=Ha (m:=m) (x:={ zf i f.xs with links:=(zf i f.xs).links+1 }) hR1 hi1 hx.2.2;rw[hg1]at h;have e:Yk m { zf i f.xs with links:=(zf i f.xs).links+1 }=Yk m (zf i f.xs):=rfl;have hc:=Zr (m:=m) (F:=zQ s.name i) hf.rises hs.has;have hw:Yk m (qh (zf s.dir f.xs) (zQ s.name i (zf s.dir f.xs).es))=Yk m (zf s.dir f.xs)+if i=m then 1 else 0:=Z5 (m:=m) (i:=i) (x:=zf s.dir f.xs) (hf.es (zf s.dir f.xs) hd.2.1) hs.free;show Yh m (qd _ _)=_;omega
 refine ⟨zO hR1,fun x hx'=>?_,fun x hx'=>?_,fun x hx'=>?_,fun x hx' hk2=>?_,fun x hx' e he=>?_,fun x hx'=>?_,by rw[hhas];exact hf.root,?_,?_⟩
 ·rcases hmem hx' with rfl | rfl | ⟨h,_⟩
  ·exact hf.ino (zf i f.xs) hx.2.1
  ·exact hf.ino (zf s.dir f.xs) hd.2.1
  ·exact hf.ino _ h
 ·rcases hmem hx' with rfl | rfl | ⟨h,_⟩
  ·exact hf.kind (zf i f.xs) hx.2.1
  ·exact hf.kind (zf s.dir f.xs) hd.2.1
  ·exact hf.kind _ h
 ·rcases hmem hx' with rfl | rfl | ⟨h,_⟩
  ·exact hf.es (zf i f.xs) hx.2.1
  ·exact QU (hf.es (zf s.dir f.xs) hd.2.1)
  ·exact hf.es _ h
 ·rcases hmem hx' with rfl | rfl | ⟨h,_⟩
  ·exact hf.file (zf i f.xs) hx.2.1 hk2
  ·exact absurd hs.kind hk2
  ·exact hf.file _ h hk2
 ·rw[hhas];rcases hmem hx' with rfl | rfl | ⟨h,_⟩
  ·exact hf.led (zf i f.xs) hx.2.1 e he
  ·rcases Ys he with rfl | he
   ·exact hi
   ·exact hf.led (zf s.dir f.xs) hd.2.1 e he
  ·exact hf.led _ h e he
 ·rw[hcnt];rcases hmem hx' with rfl | rfl | ⟨h,_,hzi⟩
  ·have:=hf.links (zf i f.xs) hx.2.1;show (zf i f.xs).links+1=((Yh (zf i f.xs).ino f.xs+if i=(zf i f.xs).ino then 1 else 0:Nat):Int);rw[if_pos hx.2.2.symm,this];rfl
  ·have:=hf.links (zf s.dir f.xs) hd.2.1;show (zf s.dir f.xs).links=((Yh (zf s.dir f.xs).ino f.xs+if i=(zf s.dir f.xs).ino then 1 else 0:Nat):Int);rw[if_neg (by rw[hd.2.2];exact fun e=>hne e.symm),this];rfl
  ·rw[if_neg fun e=>hzi e.symm];exact hf.links _ h
 ·show (zf 1 (qd _ _)).kind=2;rw[qq];split
  ·rename_i h;have h:(zf i f.xs).ino=1:=h;rw[hx.2.2]at h;subst h;exact hf.base
  ·rw[jk hs.has];split
   ·exact hs.kind
   ·exact hf.base
 ·rw[hcnt,hf.bare,if_neg fun e=>hk (by rw[e];exact hf.base)]
theorem Xl (hf:FsI f) {s:zB} (hs:zm f s):s.ino≠1:=fun e =>
 Vo hf.bare _ (zj hs.has).2.1 _ (zK hs.there).2 e
theorem HO (hf:FsI f) {s:zB} (hs:zm f s) (he:(zf s.ino f.xs).es = []):FsI (zk f s):=by
 have hi:=zm.ino hf hs;have hd:=zj hs.has;have hx:=zj hi;have hr:=Xl hf hs;have hne:s.dir≠s.ino:=fun e=>by
  have:=(zK hs.there).2;rw[e,he]at this;cases this
 have hR1:zW (qe s.dir (zg s.name) f.xs):=zO hf.rises;have hi1:zl s.ino (qe s.dir (zg s.name) f.xs)=true:=by rw[zM hs.has];exact hi
 have hg1:zf s.ino (qe s.dir (zg s.name) f.xs)=zf s.ino f.xs:=by rw[jk hs.has,if_neg hne]
 have hc1:∀ m,Yh m (qe s.dir (zg s.name) f.xs)+(if s.ino=m then 1 else 0)=Yh m f.xs:=fun m=>by
  have hc:=Zr (m:=m) (F:=zg s.name) hf.rises hs.has;have hw:Yk m (zf s.dir f.xs)=Yk m (qh (zf s.dir f.xs) (zg s.name (zf s.dir f.xs).es))+if s.ino=m then 1 else 0:=Qu (m:=m) (i:=s.ino) (x:=zf s.dir f.xs) (hf.es (zf s.dir f.xs) hd.2.1) hs.there;omega
 have hlk:=hf.links (zf s.ino f.xs) hx.2.1;rw[hx.2.2]at hlk;have hci:=hc1 s.ino;rw[if_pos rfl]at hci;have hz:∀ m,Yk m (zf s.ino f.xs)=0:=fun m=>by unfold Yk;rw[he];rfl
 unfold zk;by_cases hl:(zf s.ino f.xs).links-1=0
 ·rw[if_pos hl];have hc0:Yh s.ino (qe s.dir (zg s.name) f.xs)=0:=by omega
  have hcnt:∀ m,Yh m (zY s.ino (qe s.dir (zg s.name) f.xs))=Yh m (qe s.dir (zg s.name) f.xs):=fun m=>by
   have:=zkl (m:=m) hR1 hi1;rw[hg1,hz]at this;omega
  have hmem:∀ {z:zn},z∈zY s.ino (qe s.dir (zg s.name) f.xs)->(z=qh (zf s.dir f.xs) (zg s.name (zf s.dir f.xs).es)∨(z∈f.xs/\z.ino≠s.dir))/\z.ino≠s.ino:=fun {z} hz=>by
   obtain ⟨hz,hzi⟩:=J3.1 hz;exact ⟨(qD hs.has).1 hz,hzi⟩
  have hin:∀ {z:zn},z∈zY s.ino (qe s.dir (zg s.name) f.xs)->z∈qe s.dir (zg s.name) f.xs:=fun {z} hz=>(J3.1 hz).1;refine ⟨GI hR1,fun x hx'=>?_,fun x hx'=>?_,fun x hx'=>?_,fun x hx' hk2=>?_,fun x hx' e hee=>?_,fun x hx'=>?_,?_,?_,?_⟩
  ·rcases hmem hx' with ⟨rfl | ⟨h,_⟩,_⟩
   ·exact hf.ino (zf s.dir f.xs) hd.2.1
   ·exact hf.ino _ h
  ·rcases hmem hx' with ⟨rfl | ⟨h,_⟩,_⟩
   ·exact hf.kind (zf s.dir f.xs) hd.2.1
   ·exact hf.kind _ h
  ·rcases hmem hx' with ⟨rfl | ⟨h,_⟩,_⟩
   ·exact Jw (hf.es (zf s.dir f.xs) hd.2.1)
   ·exact hf.es _ h
  ·rcases hmem hx' with ⟨rfl | ⟨h,_⟩,_⟩
   ·exact absurd hs.kind hk2
   ·exact hf.file _ h hk2
  ·show zl e.ino (zY _ _)=true;rw[J2,zM hs.has];have h1:e.ino≠s.ino:=Vo hc0 x (hin hx') e hee;rw[Wj h1];show zl e.ino f.xs=true;rcases hmem hx' with ⟨rfl | ⟨h,_⟩,_⟩
   ·exact hf.led (zf s.dir f.xs) hd.2.1 e (qK hee).1
   ·exact hf.led _ h e hee
  ·show x.links=((Yh x.ino (zY _ _):Nat):Int);rw[hcnt];obtain ⟨h1,h2⟩:=hmem hx';have h3:=hc1 x.ino;rw[if_neg fun e=>h2 e.symm]at h3;have h4:x.links=(Yh x.ino f.xs:Int):=by
    rcases h1 with rfl | ⟨h,_⟩
    ·exact hf.links (zf s.dir f.xs) hd.2.1
    ·exact hf.links _ h
   omega
  ·show zl 1 (zY _ _)=true;rw[J2,zM hs.has,hf.root,Wj fun e=>hr e.symm];rfl
  ·show (zf 1 (zY _ _)).kind=2;rw[QJ,if_neg fun e=>hr e.symm,jk hs.has];split
   ·exact hs.kind
   ·exact hf.base
  ·show Yh 1 (zY _ _)=0;rw[hcnt];have:=hc1 1;have:=hf.bare;omega
 ·rw[if_neg hl];have hmem:∀ {z:zn},z∈qd { zf s.ino f.xs with links:=(zf s.ino f.xs).links-1 } (qe s.dir (zg s.name) f.xs)->z = { zf s.ino f.xs with links:=(zf s.ino f.xs).links-1 }∨z=qh (zf s.dir f.xs) (zg s.name (zf s.dir f.xs).es)∨(z∈f.xs/\z.ino≠s.dir/\z.ino≠s.ino):=fun {z} hz=>by
   rcases qo.1 hz with rfl | ⟨hz,hzi⟩
   ·exact .inl rfl
   ·have hzi:z.ino≠(zf s.ino f.xs).ino:=hzi;rw[hx.2.2]at hzi;rcases (qD hs.has).1 hz with rfl | ⟨hz,hzd⟩
    ·exact .inr (.inl rfl)
    ·exact .inr (.inr ⟨hz,hzd,hzi⟩)
  have hhas:∀ m,zl m (qd { zf s.ino f.xs with links:=(zf s.ino f.xs).links-1 } (qe s.dir (zg s.name) f.xs))=zl m f.xs:=fun m=>by
   rw[qy,zM hs.has];show (decide ((zf s.ino f.xs).ino=m)||_)=_;rw[hx.2.2];by_cases h:s.ino=m
   ·rw[←h,hi];simp
   ·simp[h]
  have hcnt:∀ m,Yh m (qd { zf s.ino f.xs with links:=(zf s.ino f.xs).links-1 } (qe s.dir (zg s.name) f.xs))=Yh m (qe s.dir (zg s.name) f.xs):=fun m=>by
   have h:=Ha (m:=m) (x:={ zf s.ino f.xs with links:=(zf s.ino f.xs).links-1 }) hR1 hi1 hx.2.2;rw[hg1]at h;have e:Yk m { zf s.ino f.xs with links:=(zf s.ino f.xs).links-1 }=Yk m (zf s.ino f.xs):=rfl;omega
  refine ⟨zO hR1,fun x hx'=>?_,fun x hx'=>?_,fun x hx'=>?_,fun x hx' hk2=>?_,fun x hx' e hee=>?_,fun x hx'=>?_,by rw[hhas];exact hf.root,?_,?_⟩
  ·rcases hmem hx' with rfl | rfl | ⟨h,_⟩
   ·exact hf.ino (zf s.ino f.xs) hx.2.1
   ·exact hf.ino (zf s.dir f.xs) hd.2.1
   ·exact hf.ino _ h
  ·rcases hmem hx' with rfl | rfl | ⟨h,_⟩
   ·exact hf.kind (zf s.ino f.xs) hx.2.1
   ·exact hf.kind (zf s.dir f.xs) hd.2.1
   ·exact hf.kind _ h
  ·rcases hmem hx' with rfl | rfl | ⟨h,_⟩
   ·exact hf.es (zf s.ino f.xs) hx.2.1
   ·exact Jw (hf.es (zf s.dir f.xs) hd.2.1)
   ·exact hf.es _ h
  ·rcases hmem hx' with rfl | rfl | ⟨h,_⟩
   ·exact he
   ·exact absurd hs.kind hk2
   ·exact hf.file _ h hk2
  ·rw[hhas];rcases hmem hx' with rfl | rfl | ⟨h,_⟩
   ·exact hf.led (zf s.ino f.xs) hx.2.1 e hee
   ·exact hf.led (zf s.dir f.xs) hd.2.1 e (qK hee).1
   ·exact hf.led _ h e hee
  ·rw[hcnt];rcases hmem hx' with rfl | rfl | ⟨h,_,hzi⟩
   ·show (zf s.ino f.xs).links-1=((Yh (zf s.ino f.xs).ino (qe s.dir (zg s.name) f.xs):Nat):Int);rw[hx.2.2];omega
   ·have h3:=hc1 (zf s.dir f.xs).ino;have h4:=hf.links (zf s.dir f.xs) hd.2.1;rw[if_neg (by rw[hd.2.2];exact fun e=>hne e.symm)]at h3;show (zf s.dir f.xs).links=((Yh (zf s.dir f.xs).ino (qe s.dir (zg s.name) f.xs):Nat):Int);omega
   ·have h3:=hc1 x.ino;rw[if_neg fun e=>hzi e.symm]at h3;have h4:=hf.links _ h;omega
  ·show (zf 1 (qd _ _)).kind=2;rw[qq,if_neg (show ¬(zf s.ino f.xs).ino=1 by rw[hx.2.2];exact hr),jk hs.has];split
   ·exact hs.kind
   ·exact hf.base
  ·rw[hcnt];have:=hc1 1;have:=hf.bare;omega
end
section
theorem zbS (hf:FsI f) {ys:List zn} (hR:zW ys) (hall:∀ z∈ys,∃ y∈f.xs,z.ino=y.ino/\z.kind=y.kind/\z.links=y.links/\Jb z.es/\(z.kind≠2->z.es = [])/\∀ e∈z.es,zl e.ino f.xs=true)
  (hhas:∀ m,zl m ys=zl m f.xs) (hcnt:∀ m,Yh m ys=Yh m f.xs):FsI { f with xs:=ys }:=by
 refine ⟨hR,fun x hx=>?_,fun x hx=>?_,fun x hx=>?_,fun x hx hk=>?_,fun x hx e he=>?_,fun x hx=>?_,by rw[hhas];exact hf.root,?_,by rw[hcnt];exact hf.bare⟩
 ·obtain ⟨y,hy,e1,_⟩:=hall x hx;rw[e1];exact hf.ino y hy
 ·obtain ⟨y,hy,_,e2,_⟩:=hall x hx;rw[e2];exact hf.kind y hy
 ·obtain ⟨y,hy,_,_,_,e4,_⟩:=hall x hx;exact e4
 ·obtain ⟨y,hy,_,_,_,_,e5,_⟩:=hall x hx;exact e5 hk
 ·obtain ⟨y,hy,_,_,_,_,_,e6⟩:=hall x hx;rw[hhas];exact e6 e he
 ·obtain ⟨y,hy,e1,_,e3,_⟩:=hall x hx;rw[hcnt,e3,e1];exact hf.links y hy
 ·have h1:zl 1 ys=true:=by rw[hhas];exact hf.root
  obtain ⟨y,hy,e1,e2,_⟩:=hall _ (zj h1).2.1;rw[(zj h1).2.2]at e1;have e7:=(zof hf.rises).1 hy;rw[←e1,(zj hf.root).1]at e7;simp only[Option.some.injEq]at e7;show (zf 1 ys).kind=2;rw[e2,←e7];exact hf.base
theorem NY (hf:FsI f) {a b:zB} (ha:zm f a) (hb:qX f b):FsI (qn f a b):=by
 have hda:=zj ha.has;have hdb:=zj hb.has;have hai:=zm.ino hf ha;obtain ⟨g1,hg1⟩:∃ g1,qe a.dir (zg a.name) f.xs=g1:=⟨_,rfl⟩;obtain ⟨g2,hg2⟩:∃ g2,qe b.dir (zQ b.name a.ino) g1=g2:=⟨_,rfl⟩;have hR1:zW g1:=by rw[←hg1];exact zO hf.rises
 have hR2:zW g2:=by rw[←hg2];exact zO hR1
 have hh1:∀ m,zl m g1=zl m f.xs:=fun m=>by rw[←hg1];exact zM ha.has
 have hb1:zl b.dir g1=true:=by rw[hh1];exact hb.has
 have hh2:∀ m,zl m g2=zl m f.xs:=fun m=>by rw[←hg2,zM hb1];exact hh1 m
 have hgb:zf b.dir g1=if a.dir=b.dir then qh (zf a.dir f.xs) (zg a.name (zf a.dir f.xs).es) else zf b.dir f.xs:=by rw[←hg1,jk ha.has]
 have hmem1:∀ {z:zn},z∈g1->z=qh (zf a.dir f.xs) (zg a.name (zf a.dir f.xs).es)∨(z∈f.xs/\z.ino≠a.dir):=fun {z} hz=>by rw[←hg1]at hz;exact (qD ha.has).1 hz
 have hmem2:∀ {z:zn},z∈g2->z=qh (zf b.dir g1) (zQ b.name a.ino (zf b.dir g1).es)∨(z∈g1/\z.ino≠b.dir):=fun {z} hz=>by rw[←hg2]at hz;exact (qD hb1).1 hz
 have hal1:∀ z∈g1,∃ y∈f.xs,z.ino=y.ino/\z.kind=y.kind/\z.links=y.links/\Jb z.es/\(z.kind≠2->z.es = [])/\∀ e∈z.es,zl e.ino f.xs=true:=fun z hz=>by
  rcases hmem1 hz with rfl | ⟨h,_⟩
  ·exact ⟨_,hda.2.1,rfl,rfl,rfl,Jw (hf.es _ hda.2.1),fun hk=>absurd ha.kind hk,fun e he=>hf.led _ hda.2.1 e (qK he).1⟩
  ·exact ⟨_,h,rfl,rfl,rfl,hf.es _ h,hf.file _ h,hf.led _ h⟩
 have hal2:∀ z∈g2,∃ y∈f.xs,z.ino=y.ino/\z.kind=y.kind/\z.links=y.links/\Jb z.es/\(z.kind≠2->z.es = [])/\∀ e∈z.es,zl e.ino f.xs=true:=fun z hz=>by
  rcases hmem2 hz with rfl | ⟨h,_⟩
  ·obtain ⟨y,hy,e1,e2,e3,e4,e5,e6⟩:=hal1 _ (zj hb1).2.1;refine ⟨y,hy,e1,e2,e3,QU e4,fun hk=>?_,fun e he=>?_⟩
   ·have hk':(zf b.dir g1).kind≠2:=hk;have:(zf b.dir g1).kind=2:=by
     rw[hgb];split
     ·exact ha.kind
     ·exact hb.kind
    exact absurd this hk'
   ·rcases Ys he with rfl | he
    ·exact hai
    ·exact e6 e he
  ·exact hal1 z h
 have hfree:Yj b.name (zf b.dir g1).es=false:=by
  rw[hgb];split
  ·rename_i hab;show Yj b.name (zg a.name (zf a.dir f.xs).es)=false;rw[Oy];intro h;have h1:=Yo h;have h2:=(qK (zK h1).2).1;have h3:Yj b.name (zf a.dir f.xs).es=true:=by
    unfold Yj Js;exact Ou.2 ⟨_,h2,by simp⟩
   have:=hb.free;rw[←hab,h3]at this;cases this
  ·exact hb.free
 have hc1:∀ m,Yh m g1+(if a.ino=m then 1 else 0)=Yh m f.xs:=fun m=>by
  have hc:=Zr (m:=m) (F:=zg a.name) hf.rises ha.has;have hw:Yk m (zf a.dir f.xs)=Yk m (qh (zf a.dir f.xs) (zg a.name (zf a.dir f.xs).es))+if a.ino=m then 1 else 0:=Qu (m:=m) (i:=a.ino) (x:=zf a.dir f.xs) (hf.es _ hda.2.1) ha.there;rw[hg1]at hc;omega
 have hc2:∀ m,Yh m g2=Yh m f.xs:=fun m=>by
  have hc:=Zr (m:=m) (F:=zQ b.name a.ino) hR1 hb1;obtain ⟨_,_,_,_,_,e4,_⟩:=hal1 _ (zj hb1).2.1;have hw:Yk m (qh (zf b.dir g1) (zQ b.name a.ino (zf b.dir g1).es))=Yk m (zf b.dir g1)+if a.ino=m then 1 else 0:=Z5 (m:=m) (i:=a.ino) (x:=zf b.dir g1) e4 hfree;have:=hc1 m;rw[hg2]at hc;omega
 have key:FsI { f with xs:=g2 }:=zbS hf hR2 hal2 hh2 hc2;unfold qn;rw[hg1,hg2];show FsI (if (zf a.ino g2).kind=2 then _ else _);split
 ·have hia:zl a.ino g2=true:=by rw[hh2];exact hai
  have hx:=zj hia;refine zbS hf (zO hR2) (fun z hz=>?_) (fun m=>?_) (fun m=>?_)
  ·rcases qo.1 hz with rfl | ⟨hz,_⟩
   ·exact hal2 (zf a.ino g2) hx.2.1
   ·exact hal2 z hz
  ·rw[qy];show (decide ((zf a.ino g2).ino=m)||_)=_;rw[hx.2.2,hh2];by_cases h:a.ino=m
   ·rw[←h,hai];simp
   ·simp[h]
  ·have h:=Ha (m:=m) (x:={ zf a.ino g2 with parent:=b.dir }) hR2 hia hx.2.2;have e:Yk m { zf a.ino g2 with parent:=b.dir }=Yk m (zf a.ino g2):=rfl;have:=hc2 m;omega
 ·exact key
theorem zmo {f:FsV} (hf:FsI f):∀ (ns:List Lz) (s:zB),(s.ino≠0->zl s.ino f.xs=true)->(atW f.xs ns s).2=0->ns≠[] ->
  zl (atW f.xs ns s).1.dir f.xs=true/\(zf (atW f.xs ns s).1.dir f.xs).kind=2/\(atW f.xs ns s).1.ino=zT (atW f.xs ns s).1.name (zf (atW f.xs ns s).1.dir f.xs).es/\(atW f.xs ns s).1.name∈ns
 | [],s,_,_,h=>absurd rfl h
 | n :: r,s,hs,h0,_=>by
  unfold atW at h0 ⊢;by_cases h1:s.ino=0
  ·rw[if_pos h1]at h0;cases h0
  rw[if_neg h1]at h0 ⊢;by_cases h2:(zf s.ino f.xs).kind≠2
  ·rw[if_pos h2]at h0;cases h0
  rw[if_neg h2]at h0 ⊢;have h2:(zf s.ino f.xs).kind=2:=WB.1 h2;have hg:=zj (hs h1);have hnx:zT n (zf s.ino f.xs).es≠0->zl (zT n (zf s.ino f.xs).es) f.xs=true:=fun hne=>by
   have hh:Yj n (zf s.ino f.xs).es=true:=by
    unfold Yj;rw[qg];cases hq:qz zN.name n (zf s.ino f.xs).es with
    | some e=>rfl
    | none=>unfold zT at hne;rw[hq]at hne;exact absurd rfl hne
   exact hf.led _ hg.2.1 _ (zK (Yo hh)).2
  cases r with
  | nil =>
   unfold atW;rw[hg.2.2];exact ⟨hs h1,h2,rfl,Wk⟩
  | cons m r =>
   obtain ⟨i1,i2,i3,i4⟩:=zmo hf (m :: r) ⟨(zf s.ino f.xs).ino,n,zT n (zf s.ino f.xs).es⟩ hnx h0 (by simp);exact ⟨i1,i2,i3,Wl _ i4⟩
theorem uP {f:FsV} (hf:FsI f):∀ (ns:List Lz) (s:zB),(s.ino≠0->zl s.ino f.xs=true)->(atW f.xs ns s).1.ino≠0->zl (atW f.xs ns s).1.ino f.xs=true
 | [],s,hs,h=>hs h
 | n :: r,s,hs,h=>by
  unfold atW at h ⊢;by_cases h1:s.ino=0
  ·rw[if_pos h1]at h;exact absurd rfl h
  rw[if_neg h1]at h ⊢;by_cases h2:(zf s.ino f.xs).kind≠2
  ·rw[if_pos h2]at h;exact absurd rfl h
  rw[if_neg h2]at h ⊢;have hg:=zj (hs h1);refine uP hf r _ (fun hne=>?_) h;have hne:zT n (zf s.ino f.xs).es≠0:=hne;have hh:Yj n (zf s.ino f.xs).es=true:=by
   unfold Yj;rw[qg];cases hq:qz zN.name n (zf s.ino f.xs).es with
   | some e=>rfl
   | none=>unfold zT at hne;rw[hq]at hne;exact absurd rfl hne
  exact hf.led _ hg.2.1 _ (zK (Yo hh)).2
end
section
structure Zm (w:qj):Prop where
 fs:FsI w.fs
 kept:qQ j4 zL.slot w.kept
 pool:zW w.pool
 apart:∀ x∈w.pool,zl x.ino w.fs.xs=false/\x.ino<w.fs.next
theorem XY (hf:FsI f) {n:Int} (h:zl n f.xs=true):n≠0:=fun e=>by
 have:=(hf.ino _ (zj h).2.1).1;rw[(zj h).2.2]at this;omega
theorem ZF (hf:FsI f) {d:Int} (hd:zl d f.xs=true) {n:Lz} (h:Yj n (zf d f.xs).es=true):zl (zT n (zf d f.xs).es) f.xs=true:=
 hf.led _ (zj hd).2.1 _ (zK (Yo h)).2
theorem zi5 (hf:FsI f) {p:Lz} (hp:z8 p=true) (h:(atV f p).2=0) :
  zl (atV f p).1.dir f.xs=true/\(zf (atV f p).1.dir f.xs).kind=2/\(atV f p).1.ino=zT (atV f p).1.name (zf (atV f p).1.dir f.xs).es/\(atV f p).1.name∈zp p:=by
 unfold z8 at hp;simp only[Wp,OQ,Ok]at hp;unfold atV at h ⊢;rw[if_pos hp.1]at h ⊢;exact zmo hf (zp p) ⟨0,[],1⟩ (fun _=>hf.root) h hp.2
theorem j5 (hf:FsI f) {p:Lz} (hp:z8 p=true) (h:(isV f p true).2.2=0):zm f (isV f p true).1/\(isV f p true).2.1=zf (isV f p true).1.ino f.xs:=by
 unfold isV at h ⊢;simp only at h ⊢;by_cases h0:(atV f p).2≠0
 ·rw[if_pos h0]at h;exact absurd h h0
 rw[if_neg h0]at h;have h0:(atV f p).2=0:=WB.1 h0;obtain ⟨a1,a2,a3,_⟩:=zi5 hf hp h0;refine ⟨⟨a1,a2,?_⟩,trivial⟩;have hh:zl (atV f p).1.ino f.xs=true:=by
  cases hq:zl (atV f p).1.ino f.xs with
  | true=>rfl
  | false=>rw[hq]at h;simp at h
 have he:Yj (atV f p).1.name (zf (atV f p).1.dir f.xs).es=true:=by
  unfold Yj;rw[qg];cases hq:qz zN.name (atV f p).1.name (zf (atV f p).1.dir f.xs).es with
  | some e=>rfl
  | none =>
   unfold zT at a3;rw[hq]at a3;exact absurd a3 (XY hf hh)
 rw[Yo he,←a3]
theorem Yz (hf:FsI f) {p:Lz} (hp:z8 p=true) (h:(isV f p false).2.2=0):qX f (isV f p false).1:=by
 unfold isV at h ⊢;simp only at h ⊢;by_cases h0:(atV f p).2≠0
 ·rw[if_pos h0]at h;exact absurd h h0
 rw[if_neg h0]at h;have h0:(atV f p).2=0:=WB.1 h0;obtain ⟨a1,a2,a3,_⟩:=zi5 hf hp h0;refine ⟨a1,a2,?_⟩;have hh:zl (atV f p).1.ino f.xs=false:=by
  cases hq:zl (atV f p).1.ino f.xs with
  | false=>rfl
  | true=>rw[hq]at h;simp at h
 rw[Oy];intro he;have:=ZF hf a1 he;rw[←a3,hh]at this;cases this
theorem Xk {o:OpV} (h:Y6 o=true):z8 o.a=true/\(zoD o.kind=true->z8 o.b=true)/\1<=o.kind/\o.kind<=10:=by
 unfold Y6 at h;simp only[Wp,WW]at h;obtain ⟨⟨⟨⟨⟨⟨h1,h2⟩,h3⟩,h4⟩,h5⟩,h6⟩,h7⟩:=h;exact ⟨h3,fun hb=>by rw[if_pos hb]at h5;exact h5,h1,h2⟩
theorem zpc (hw:Zm w) {g:FsV} (hg:FsI g) (hn:w.fs.next<=g.next) (hh:∀ x∈w.pool,zl x.ino g.xs=false):Zm { w with fs:=g }:=
 ⟨hg,hw.kept,hw.pool,fun x hx=>⟨hh x hx,by have:=(hw.apart x hx).2;show x.ino<g.next;omega⟩⟩
theorem QY (f:FsV) (s:zB) (k:Int) (t:Lz):(zd5 f s k t).1=f∨(zd5 f s k t).1=zdz f s k t:=by
 unfold zd5;by_cases h1:may s.name=true
 ·rw[if_pos h1];by_cases h2:YN f 1 (if k=1 then (t.length:Int) else 0)=true
  ·rw[if_pos h2];exact .inr rfl
  ·rw[if_neg h2];exact .inl rfl
 ·rw[if_neg h1];exact .inl rfl
theorem vE (hw:Zm w) {p:Lz} (hp:z8 p=true) {k:Int} (hk:k=1∨k=2∨k=3) (t:Lz):Zm (V0 w p k t).1:=by
 unfold V0;by_cases h:(isV w.fs p false).2.2≠0
 ·rw[if_pos h];exact hw
 rw[if_neg h];have hs:=Yz hw.fs hp (WB.1 h);refine zpc hw (zpL hw.fs hs k hk t) ?_ ?_
 ·rcases QY w.fs (isV w.fs p false).1 k t with e | e
  ·rw[e];exact O0 _
  ·rw[e];show w.fs.next<=w.fs.next+1;omega
 ·intro x hx;obtain ⟨a1,a2⟩:=hw.apart x hx;rcases QY w.fs (isV w.fs p false).1 k t with e | e
  ·rw[e];exact a1
  ·rw[e];show zl x.ino (qd _ _)=false;rw[qy,zM hs.has,a1];show (decide (w.fs.next=x.ino)||false)=false;rw[Wj (by omega)];rfl
theorem kY (hf:FsI f) {p:Lz} (hp:z8 p=true) (h:(jr f p).2=0):zl (jr f p).1.ino f.xs=true/\(jr f p).1.kind=1/\(jr f p).1=zf (jr f p).1.ino f.xs:=by
 unfold jr at h ⊢;simp only at h ⊢;by_cases h0:(isV f p true).2.2≠0
 ·rw[if_pos h0]at h;exact absurd h h0
 rw[if_neg h0]at h;obtain ⟨h1,h2⟩:=j5 hf hp (WB.1 h0);have hi:=zm.ino hf h1;have hg:=zj hi;rw[h2]at h ⊢;rw[hg.2.2];refine ⟨hi,?_,rfl⟩;have hk:=hf.kind _ hg.2.1;by_cases h3:(zf (isV f p true).1.ino f.xs).kind=2
 ·rw[if_pos h3]at h;cases h
 rw[if_neg h3]at h;by_cases h4:(zf (isV f p true).1.ino f.xs).kind=3
 ·rw[if_pos h4]at h;cases h
 omega
theorem zfn {k:zL} (h:qQ j4 zL.slot ks) (hn:Vd k.slot ks=false):qQ j4 zL.slot (qw k ks):=
 Ud h fun y hy e=>by
  unfold Vd Js at hn;rw[W5]at hn;exact hn y hy (by simpa using e)
theorem Q7 {s:zB} (h:zl s.dir f.xs=true) (hi:zl s.ino f.xs=true) (m:Int):zl m (zk f s).xs=if (zf s.ino f.xs).links-1=0 then (!decide (m=s.ino)&&zl m f.xs) else zl m f.xs:=by
 unfold zk;split
 ·show zl m (zY _ _)=_;rw[J2,zM h]
 ·show zl m (qd _ _)=_;rw[qy,zM h];show (decide ((zf s.ino f.xs).ino=m)||_)=_;rw[(zj hi).2.2];by_cases e:s.ino=m
  ·rw[←e,hi];simp
  ·simp[e]
theorem YF (f:FsV) (s:zB):(zk f s).next=f.next:=by unfold zk;split<;>rfl
theorem zfQ (hw:Zm w) {n:Int} {s:zB} (hs:zm w.fs s) (he:(zf s.ino w.fs.xs).es = []):Zm (qL w n s).1:=by
 unfold qL;cases hn:Vd n w.kept with
 | true=>rw[if_pos rfl];exact hw
 | false =>
  rw[if_neg (by simp)];have hi:=zm.ino hw.fs hs;have hg:=zj hi;have hf:=HO hw.fs hs he;refine ⟨hf,zfn hw.kept hn,?_,fun x hx=>?_⟩
  ·show zW (if _ then _ else _);split
   ·exact zO hw.pool
   ·exact hw.pool
  ·show zl x.ino (zk w.fs s).xs=false/\x.ino<(zk w.fs s).next;rw[Q7 hs.has hi,YF];have hx:x∈(if (zf s.ino w.fs.xs).links=1 then qd { zf s.ino w.fs.xs with links:=0,parent:=0 } w.pool else w.pool):=hx;by_cases h1:(zf s.ino w.fs.xs).links=1
   ·rw[if_pos h1]at hx;rw[if_pos (by omega)];rcases qo.1 hx with rfl | ⟨hx,_⟩
    ·refine ⟨?_,?_⟩
     ·show (!decide ((zf s.ino w.fs.xs).ino=s.ino)&&_)=false;rw[hg.2.2];simp
     ·exact (hw.fs.ino _ hg.2.1).2
    ·obtain ⟨a1,a2⟩:=hw.apart x hx;rw[a1,Al];exact ⟨rfl,a2⟩
   ·rw[if_neg h1]at hx;rw[if_neg (by omega)];exact hw.apart x hx
theorem ztB (hw:Zm w) (o:OpV) (hk:o.kind<=7):Zm (doV w o).1:=by
 unfold doV;cases hm:Y6 o with
 | false=>exact hw
 | true =>
  obtain ⟨p1,p2,k1,_⟩:=Xk hm;rw[if_neg (by simp)];by_cases h1:o.kind=1
  ·rw[if_pos h1];exact vE hw p1 (.inr (.inl rfl)) []
  rw[if_neg h1];by_cases h2:o.kind=2
  ·rw[if_pos h2];unfold V3;split
   ·exact hw
   ·exact vE hw (p2 (by rw[h2];rfl)) (.inl rfl) _
  rw[if_neg h2];by_cases h3:o.kind=3
  ·rw[if_pos h3];have pb:=p2 (by rw[h3];rfl);unfold QQ;split
   ·exact hw
   ·split
    ·exact hw
    ·rename_i hfb;have hfb:=kY hw.fs pb (WB.1 hfb);split
     ·exact hw
     ·split
      ·exact hw
      ·rename_i hkd;split
       ·exact hw
       ·rename_i hda;have hkd:=WB.1 hkd;have hda:=WB.1 hda;unfold J9 at hkd ⊢;cases hn:Vd o.slot w.kept with
        | true=>rw[hn]at hkd;simp at hkd
        | false =>
         rw[if_neg (by simp)];unfold kJ at hda ⊢;by_cases hr:YN w.fs 0 (((jr w.fs o.a).1.data.length:Int)-(zf (jr w.fs o.b).1.ino w.fs.xs).data.length)=true
         ·rw[if_pos hr];have hfi:=zoR hw.fs hfb.1 (jr w.fs o.a).1.data;refine ⟨hfi,zfn hw.kept hn,hw.pool,fun x hx=>⟨?_,(hw.apart x hx).2⟩⟩;show zl x.ino (qd _ _)=false;rw[qy,(hw.apart x hx).1];show (decide ((zf (jr w.fs o.b).1.ino w.fs.xs).ino=x.ino)||false)=false;rw[(zj hfb.1).2.2,A5,Ok];intro e;have:=(hw.apart x hx).1;rw[←e,hfb.1]at this;cases this
         ·rw[if_neg hr]at hda;cases hda
  rw[if_neg h3];by_cases h4:o.kind=4
  ·rw[if_pos h4];exact vE hw p1 (.inr (.inr rfl)) _
  rw[if_neg h4];by_cases h5:o.kind=5
  ·rw[if_pos h5];have pb:=p2 (by rw[h5];rfl);unfold VV;simp only;split
   ·exact hw
   ·rename_i ha;obtain ⟨t1,t2⟩:=j5 hw.fs p1 (WB.1 ha);split
    ·exact hw
    ·rename_i hkd;split
     ·exact hw
     ·rename_i hb;have hfree:=Yz hw.fs pb (WB.1 hb);have hi:=zm.ino hw.fs t1;rw[t2]at hkd;have e:(isV w.fs o.a true).2.1.ino=(isV w.fs o.a true).1.ino:=by rw[t2,(zj hi).2.2]
      rw[e];have hfi:=znO hw.fs hfree hi hkd;refine zpc hw hfi (O0 _) fun x hx=>?_;show zl x.ino (qd _ _)=false;rw[qy,zM hfree.has,(hw.apart x hx).1];show (decide ((zf (isV w.fs o.a true).1.ino w.fs.xs).ino=x.ino)||false)=false;rw[(zj hi).2.2,A5,Ok];intro e2;have:=(hw.apart x hx).1;rw[←e2,hi]at this;cases this
  rw[if_neg h5];by_cases h6:o.kind=6
  ·rw[if_pos h6];have pb:=p2 (by rw[h6];rfl);unfold J1;split
   ·exact hw
   ·rename_i ha;split
    ·exact hw
    ·rename_i hb;obtain ⟨t1,t2⟩:=j5 hw.fs p1 (WB.1 ha);have hfree:=Yz hw.fs pb (WB.1 hb);have hmv:=NY hw.fs t1 hfree;refine zpc hw hmv ?_ fun x hx=>?_
     ·unfold qn;simp only;split<;>exact O0 _
     ·have hi:=zm.ino hw.fs t1;have hb1:zl (isV w.fs o.b false).1.dir (qe (isV w.fs o.a true).1.dir (zg (isV w.fs o.a true).1.name) w.fs.xs)=true:=by rw[zM t1.has];exact hfree.has
      have h2:∀ m,zl m (qe (isV w.fs o.b false).1.dir (zQ (isV w.fs o.b false).1.name (isV w.fs o.a true).1.ino) (qe (isV w.fs o.a true).1.dir (zg (isV w.fs o.a true).1.name) w.fs.xs))=zl m w.fs.xs:=fun m=>by rw[zM hb1,zM t1.has]
      unfold qn;simp only;split
      ·show zl x.ino (qd _ _)=false;have hi2:=h2 (isV w.fs o.a true).1.ino;rw[hi]at hi2;rw[qy,h2,(hw.apart x hx).1];show (decide ((zf (isV w.fs o.a true).1.ino _).ino=x.ino)||false)=false;rw[(zj hi2).2.2,A5,Ok];intro e2;have:=(hw.apart x hx).1;rw[←e2,hi]at this;cases this
      ·show zl x.ino (qe _ _ _)=false;rw[h2];exact (hw.apart x hx).1
  rw[if_neg h6];unfold qT;simp only;split
  ·exact hw
  ·rename_i ha;split
   ·exact hw
   ·rename_i hes;obtain ⟨t1,t2⟩:=j5 hw.fs p1 (WB.1 ha);rw[t2]at hes;exact zfQ hw t1 (WB.1 hes)
end
section
def Hf (N:Nat) (x:zn):Prop:=x.es.length<=N/\x.data.length<=5000/\∀ e∈x.es,e.name.length<=300
structure yS (N:Nat) (w:qj):Prop where
 len:w.fs.xs.length<=N
 node:∀ x∈w.fs.xs,Hf N x
 klen:w.kept.length<=N
 kdata:∀ k∈w.kept,k.data.length<=5000
 plen:w.pool.length<=N
 pnode:∀ x∈w.pool,Hf N x
 next:w.fs.next<=1099511627776+N
 room:w.fs.maxI<=1073741824/\w.fs.maxB<=1073741824/\-1073741824<=w.fs.maxI/\-1073741824<=w.fs.maxB
theorem Hf.up (h:Hf N x):Hf (N+1) x:=⟨OR h.1,h.2⟩
theorem yS.up (h:yS N w):yS (N+1) w:=
 ⟨OR h.len,fun x hx=>(h.node x hx).up,OR h.klen,h.kdata,OR h.plen,fun x hx=>(h.pnode x hx).up,by have:=h.next;omega,h.room⟩
theorem kZ {n:Lz} (h:may n=true):n.length<=255:=by
 unfold may at h;simp only[Wp,WW]at h;exact h.1.1.1.2
theorem zeO (n:Lz) (i:Int) (es:List zN):(zQ n i es).length<=es.length+1:=by
 unfold zQ;rw[U1];have:=YE (key:=zN.name) n es;omega
theorem ku (h:Hf N x) {n:Lz} (hn:n.length<=300) (i:Int):Hf (N+1) (qh x (zQ n i x.es)):=by
 refine ⟨?_,h.2.1,fun e he=>?_⟩
 ·have:=zeO n i x.es;have:=h.1;show (zQ n i x.es).length<=N+1;omega
 ·rcases Ys he with rfl | he
  ·exact hn
  ·exact h.2.2 e he
theorem Um (h:Hf N x) (n:Lz):Hf N (qh x (zg n x.es)):=by
 refine ⟨?_,h.2.1,fun e he=>h.2.2 e (qK he).1⟩;have:=YE (key:=zN.name) n x.es;have:=h.1;show (jh zN.name n x.es).length<=N;omega
theorem j8 (h:∀ x∈xs,Hf N x) {n:Int} (hh:zl n xs=true):Hf N (zf n xs):=h _ (zj hh).2.1
theorem VP (h:∀ x∈xs,Hf N x) (hx:Hf N x):∀ z∈qd x xs,Hf N z:=fun z hz=>by
 rcases qo.1 hz with rfl | ⟨hz,_⟩
 ·exact hx
 ·exact h z hz
theorem Jy (hR:zW xs) (hh:zl x.ino xs=true):(qd x xs).length=xs.length:=by rw[←vY hR hh];simp
theorem qV {F:List zN->List zN} (hR:zW xs) (hh:zl n xs=true):(qe n F xs).length=xs.length:=by
 unfold qe;refine Jy hR ?_;show zl (zf n xs).ino xs=true;rw[(zj hh).2.2];exact hh
theorem zmt (hf:FsI f) {p:Lz} (hp:z8 p=true) (h:(atV f p).2=0):(atV f p).1.name.length<=300:=by
 have h1:=(zi5 hf hp h).2.2.2;unfold z8 Jc at hp;simp only[Wp]at hp;have:=kZ (Wz.1 hp.1.2 _ h1);omega
theorem V2 {p:Lz} {b:Bool} (h:(isV f p b).2.2=0):(atV f p).2=0:=by
 unfold isV at h;simp only at h;by_cases h0:(atV f p).2≠0
 ·rw[if_pos h0]at h;exact h
 ·exact WB.1 h0
theorem zo1 (hw:Zm w) (hb:yS N w) {p:Lz} (hp:z8 p=true) {k:Int} {t:Lz} (ht:t.length<=5000):yS (N+1) (V0 w p k t).1:=by
 unfold V0;by_cases h:(isV w.fs p false).2.2≠0
 ·rw[if_pos h];exact hb.up
 rw[if_neg h];have h:=WB.1 h;have hs:=Yz hw.fs hp h;unfold zd5;by_cases h1:may (isV w.fs p false).1.name=true
 ·rw[if_pos h1];by_cases h2:YN w.fs 1 (if k=1 then (t.length:Int) else 0)=true
  ·rw[if_pos h2];have hl:=kZ h1;refine ⟨?_,?_,by have:=hb.klen;show w.kept.length<=N+1;omega,hb.kdata,by have:=hb.plen;show w.pool.length<=N+1;omega,fun x hx=>(hb.pnode x hx).up,?_,hb.room⟩
   ·show (qd _ _).length<=N+1;refine WJ zaa ?_;rw[qV hw.fs.rises hs.has];have:=hb.len;omega
   ·refine VP (fun z hz=>?_) ⟨Wb _,ht,fun e he=>by cases he⟩;rcases (qD hs.has).1 hz with rfl | ⟨hz,_⟩
    ·exact ku (j8 hb.node hs.has) (by omega) _
    ·exact (hb.node z hz).up
   ·show w.fs.next+1<=_;have:=hb.next;omega
  ·rw[if_neg h2];exact hb.up
 ·rw[if_neg h1];exact hb.up
theorem fsB (hb:yS N w) {g:FsV} (h1:g.xs.length<=N+1) (h2:∀ x∈g.xs,Hf (N+1) x) (h3:g.next=w.fs.next) (h4:g.maxI=w.fs.maxI/\g.maxB=w.fs.maxB):yS (N+1) { w with fs:=g }:=
 ⟨h1,h2,OR hb.klen,hb.kdata,OR hb.plen,fun x hx=>(hb.pnode x hx).up,by show g.next<=_;rw[h3];have:=hb.next;omega,by show g.maxI<=_/\g.maxB<=_/\_<=g.maxI/\_<=g.maxB;rw[h4.1,h4.2];exact hb.room⟩
theorem MM (k:zL) (ks:List zL):(qw k ks).length=ks.length+1:=U1 k ks
theorem znw (hf:FsI f) (h1:f.xs.length<=N) (h2:∀ x∈f.xs,Hf N x) {s:zB} (hs:zm f s):(zk f s).xs.length<=N/\(∀ x∈(zk f s).xs,Hf N x)/\(zk f s).next=f.next/\(zk f s).maxI=f.maxI/\(zk f s).maxB=f.maxB:=by
 have hi:=zm.ino hf hs;have hd:∀ z∈qe s.dir (zg s.name) f.xs,Hf N z:=fun z hz=>by
  rcases (qD hs.has).1 hz with rfl | ⟨hz,_⟩
  ·exact Um (j8 h2 hs.has) _
  ·exact h2 z hz
 have hl:=qV (F:=zg s.name) hf.rises hs.has;unfold zk;split
 ·refine ⟨?_,fun x hx=>hd x (J3.1 hx).1,rfl,rfl,rfl⟩;show (zY _ _).length<=N;exact WJ Ve (by rw[hl];exact h1)
 ·refine ⟨?_,VP hd (j8 h2 hi),rfl,rfl,rfl⟩;show (qd _ _).length<=N;rw[Jy (show zW (qe s.dir (zg s.name) f.xs) from zO hf.rises) ?_,hl]
  ·exact h1
  ·show zl (zf s.ino f.xs).ino (qe _ _ _)=true;rw[(zj hi).2.2,zM hs.has];exact hi
theorem doB (hw:Zm w) (hb:yS N w) (o:OpV) (hd:o.d.length<=5000) (hk:o.kind<=7):yS (N+1) (doV w o).1:=by
 unfold doV;cases hm:Y6 o with
 | false=>exact hb.up
 | true =>
  obtain ⟨p1,p2,k1,_⟩:=Xk hm;rw[if_neg (by simp)];by_cases h1:o.kind=1
  ·rw[if_pos h1];exact zo1 hw hb p1 (by simp)
  rw[if_neg h1];by_cases h2:o.kind=2
  ·rw[if_pos h2];unfold V3;split
   ·exact hb.up
   ·rename_i hfa;have hfa:=kY hw.fs p1 (WB.1 hfa);refine zo1 hw hb (p2 (by rw[h2];rfl)) ?_;rw[hfa.2.2];exact (j8 hb.node hfa.1).2.1
  rw[if_neg h2];by_cases h3:o.kind=3
  ·rw[if_pos h3];have pb:=p2 (by rw[h3];rfl);unfold QQ;split
   ·exact hb.up
   ·rename_i hfa;have hfa:=kY hw.fs p1 (WB.1 hfa);split
    ·exact hb.up
    ·rename_i hfb;have hfb:=kY hw.fs pb (WB.1 hfb);split
     ·exact hb.up
     ·split
      ·exact hb.up
      ·rename_i hkd;split
       ·exact hb.up
       ·rename_i hda;have hkd:=WB.1 hkd;have hda:=WB.1 hda;unfold J9 at hkd ⊢;cases hn:Vd o.slot w.kept with
        | true=>rw[hn]at hkd;simp at hkd
        | false =>
         rw[if_neg (by simp)];unfold kJ at hda ⊢;by_cases hr:YN w.fs 0 (((jr w.fs o.a).1.data.length:Int)-(zf (jr w.fs o.b).1.ino w.fs.xs).data.length)=true
         ·rw[if_pos hr];have hg:=zj hfb.1;refine ⟨?_,?_,?_,fun k hk=>?_,OR hb.plen,fun x hx=>(hb.pnode x hx).up,by have:=hb.next;show w.fs.next<=_;omega,hb.room⟩
          ·show (qd _ _).length<=N+1;rw[Jy hw.fs.rises (by show zl (zf _ _).ino _=true;rw[hg.2.2];exact hfb.1)];exact OR hb.len
          ·refine VP (fun z hz=>(hb.node z hz).up) ?_;have h7:=(j8 hb.node hfb.1).up;refine ⟨h7.1,?_,h7.2.2⟩;show (jr w.fs o.a).1.data.length<=5000;rw[hfa.2.2];exact (j8 hb.node hfa.1).2.1
          ·show (qw _ _).length<=N+1;rw[MM];have:=hb.klen;omega
          ·rcases Q3.1 hk with rfl | hk
           ·exact (j8 hb.node hfb.1).2.1
           ·exact hb.kdata k hk
         ·rw[if_neg hr]at hda;cases hda
  rw[if_neg h3];by_cases h4:o.kind=4
  ·rw[if_pos h4];exact zo1 hw hb p1 hd
  rw[if_neg h4];by_cases h5:o.kind=5
  ·rw[if_pos h5];have pb:=p2 (by rw[h5];rfl);unfold VV;simp only;split
   ·exact hb.up
   ·rename_i ha;obtain ⟨t1,t2⟩:=j5 hw.fs p1 (WB.1 ha);split
    ·exact hb.up
    ·split
     ·exact hb.up
     ·rename_i hb2;have hb2:=WB.1 hb2;have hfree:=Yz hw.fs pb hb2;have hi:=zm.ino hw.fs t1;have e:(isV w.fs o.a true).2.1.ino=(isV w.fs o.a true).1.ino:=by rw[t2,(zj hi).2.2]
      rw[e];have hln:=zmt hw.fs pb (V2 hb2);refine fsB hb ?_ ?_ rfl ⟨rfl,rfl⟩
      ·show (qd _ _).length<=N+1;rw[Jy (show zW (qe (isV w.fs o.b false).1.dir (zQ (isV w.fs o.b false).1.name (isV w.fs o.a true).1.ino) w.fs.xs) from zO hw.fs.rises) (by show zl (zf _ _).ino _=true;rw[(zj hi).2.2,zM hfree.has];exact hi),qV hw.fs.rises hfree.has];exact OR hb.len
      ·refine VP (fun z hz=>?_) (j8 hb.node hi).up;rcases (qD hfree.has).1 hz with rfl | ⟨hz,_⟩
       ·exact ku (j8 hb.node hfree.has) hln _
       ·exact (hb.node z hz).up
  rw[if_neg h5];by_cases h6:o.kind=6
  ·rw[if_pos h6];have pb:=p2 (by rw[h6];rfl);unfold J1;split
   ·exact hb.up
   ·rename_i ha;split
    ·exact hb.up
    ·rename_i hb2;have hb2:=WB.1 hb2;obtain ⟨t1,t2⟩:=j5 hw.fs p1 (WB.1 ha);have hfree:=Yz hw.fs pb hb2;have hi:=zm.ino hw.fs t1;have hln:=zmt hw.fs pb (V2 hb2);obtain ⟨g1,hg1⟩:∃ g1,qe (isV w.fs o.a true).1.dir (zg (isV w.fs o.a true).1.name) w.fs.xs=g1:=⟨_,rfl⟩;obtain ⟨g2,hg2⟩:∃ g2,qe (isV w.fs o.b false).1.dir (zQ (isV w.fs o.b false).1.name (isV w.fs o.a true).1.ino) g1=g2:=⟨_,rfl⟩;have hR1:zW g1:=by rw[←hg1];exact zO hw.fs.rises
     have hb1:zl (isV w.fs o.b false).1.dir g1=true:=by rw[←hg1,zM t1.has];exact hfree.has
     have hn1:∀ z∈g1,Hf N z:=fun z hz=>by
      rw[←hg1]at hz;rcases (qD t1.has).1 hz with rfl | ⟨hz,_⟩
      ·exact Um (j8 hb.node t1.has) _
      ·exact hb.node z hz
     have hn2:∀ z∈g2,Hf (N+1) z:=fun z hz=>by
      rw[←hg2]at hz;rcases (qD hb1).1 hz with rfl | ⟨hz,_⟩
      ·exact ku (j8 hn1 hb1) hln _
      ·exact (hn1 z hz).up
     have hl2:g2.length=w.fs.xs.length:=by rw[←hg2,qV hR1 hb1,←hg1,qV hw.fs.rises t1.has]
     have hi2:zl (isV w.fs o.a true).1.ino g2=true:=by rw[←hg2,zM hb1,←hg1,zM t1.has];exact hi
     have hR2:zW g2:=by rw[←hg2];exact zO hR1
     unfold qn;rw[hg1,hg2];simp only;split
     ·refine fsB hb ?_ (VP hn2 (j8 hn2 hi2)) rfl ⟨rfl,rfl⟩;show (qd _ _).length<=N+1;rw[Jy hR2 (by show zl (zf _ _).ino _=true;rw[(zj hi2).2.2];exact hi2),hl2];exact OR hb.len
     ·refine fsB hb ?_ hn2 rfl ⟨rfl,rfl⟩;show g2.length<=N+1;rw[hl2];exact OR hb.len
  rw[if_neg h6];unfold qT;simp only;split
  ·exact hb.up
  ·rename_i ha;split
   ·exact hb.up
   ·obtain ⟨t1,t2⟩:=j5 hw.fs p1 (WB.1 ha);have hi:=zm.ino hw.fs t1;unfold qL;split
    ·exact hb.up
    ·obtain ⟨u1,u2,u3,u4,u5⟩:=znw hw.fs hb.len hb.node t1;refine ⟨OR u1,fun x hx=>(u2 x hx).up,?_,fun k hk=>?_,?_,fun x hx=>?_,?_,?_⟩
     ·show (qw _ _).length<=N+1;rw[MM];have:=hb.klen;omega
     ·rcases Q3.1 hk with rfl | hk
      ·exact Wb _
      ·exact hb.kdata k hk
     ·show (if _ then _ else _:List zn).length<=N+1;split
      ·exact WJ zaa (by have:=hb.plen;omega)
      ·exact OR hb.plen
     ·have hx:x∈(if (zf (isV w.fs o.a true).1.ino w.fs.xs).links=1 then qd { zf (isV w.fs o.a true).1.ino w.fs.xs with links:=0,parent:=0 } w.pool else w.pool):=hx;split at hx
      ·exact VP (x:={ zf (isV w.fs o.a true).1.ino w.fs.xs with links:=0,parent:=0 }) (fun z hz=>(hb.pnode z hz).up) (show Hf (N+1) _ from (j8 hb.node hi).up) x hx
      ·exact (hb.pnode x hx).up
     ·show (zk _ _).next<=_;rw[u3];have:=hb.next;omega
     ·show (zk _ _).maxI<=_/\(zk _ _).maxB<=_/\_<=(zk _ _).maxI/\_<=(zk _ _).maxB;rw[u4,u5];exact hb.room
end
section
open CA CB
open Go.RowKit
section
variable {G:zu}
end
end
section
open CA CB
open Go.RowKit
abbrev Ye (s:zB):List C:=[.sc (.int .i64 s.dir),.str s.name,.sc (.int .i64 s.ino)]
theorem FsS.es (h:FsS f) {n:Int} (hh:zl n f.xs=true):(zf n f.xs).es.length<=10000:=(h.node _ (zj hh).2.1).1
theorem yz {xs:List Lz} (h:k<xs.length):(zV xs)[k]?=some [.str xs[k]]:=by simp[WA,Wa h]
theorem Mp (f:FsV) (hf:FsI f) (hs:FsS f) (p:Lz) (hp:p.length<=1000000):Fun Tryz.prog G0 257 [.agg (fsC f),.str p] (.tup [.agg (Ye (atV f p).1),.sc (.int .i64 (atV f p).2)]) 0:=by
 have hpl:=xT p (by omega);have hlen:=hs.len;have hnl:(zp p).length<=1000000:=by have:=qP p;omega
 cases hpp:Jc p with
 | false =>
  have e:atV f p=(jj,9):=by unfold atV;rw[hpp];rfl
  unfold Yw at hpl;rw[hpp]at hpl;refine fon Tryz.func257 ?_;dsimp only[Tryz.f257];push_cast;refine cl hpl ?_;push_cast;exact dn (by push_cast [ze,zd,CLe,zh,e,jj])
 | true =>
  have e:atV f p=atW f.xs (zp p) ⟨0,[],1⟩:=by unfold atV;rw[hpp];rfl
  unfold Yw at hpl;rw[hpp,if_pos rfl]at hpl;generalize zp p=ns at hpl hnl e;have hsl:(zV ns).length=ns.length:=We ..;refine fon Tryz.func257 ?_;dsimp only[Tryz.f257];push_cast;refine cl hpl ?_;push_cast;refine loop (fun x:Nat×zB=>⟨[(1,.str p),(2,.ptr 0 0),(4,.ptr 1 0),(8,.ptr 2 0),(24,.own 0 9 1 (zV ns)),(25,.sc (.int .i64 (ns.length:Nat))),(26,.sc (.int .i64 x.1))],[fsC f,[.sc (.int .i64 0),.str [],.sc (.int .i64 0)],Ye x.2],1,0⟩)
   (fun x=>x.1<=ns.length/\atW f.xs ns ⟨0,[],1⟩=atW f.xs (ns.drop x.1) x.2/\(x.2.ino≠0->zl x.2.ino f.xs=true)) (fun x=>ns.length-x.1) (0,⟨0,[],1⟩) ⟨Wb _,rfl,fun _=>hf.root⟩ ?_ ?_
  ·exact wks [.inl 0] (by push_cast [ze,zd,CLe,zh,hsl])
  rintro ⟨k,s⟩ ⟨hk,hat,hin⟩;simp only at hk hat hin ⊢;by_cases hlt:k<ns.length
  ·have gs:=yz hlt;have hdr:ns.drop k=ns[k] :: ns.drop (k+1):=Oe hlt;obtain ⟨nm,hnm⟩:∃ nm,ns[k]=nm:=⟨_,rfl⟩;rw[hnm]at gs hdr;have hg:=jn (G:=G0) f s.ino (by omega) hf.rises;cases hh:zl s.ino f.xs with
   | false =>
    have h0:s.ino=0:=OM fun hne=>by rw[hin hne]at hh;cases hh
    have hr:atV f p=(jj,1):=by rw[e,hat,hdr];unfold atW;rw[if_pos h0]
    rw[hh]at hg;push_cast [hlt,gs]
    repeat refine an ?_
    refine cl hg ?_;push_cast;exact dn (by push_cast [ze,zd,CLe,zh,hr,jj])
   | true =>
    have hn0:s.ino≠0:=XY hf hh;have hgg:=zj hh;rw[hh]at hg;by_cases hk2:(zf s.ino f.xs).kind=2
    ·have hfd:=yv (G:=G0) (zf s.ino f.xs).es nm (by have:=hs.es hh;omega) (hf.es _ hgg.2.1);have hnx:atW f.xs ns ⟨0,[],1⟩=atW f.xs (ns.drop (k+1)) ⟨(zf s.ino f.xs).ino,nm,zT nm (zf s.ino f.xs).es⟩:=by
      rw[hat,hdr]
      conv=>lhs;unfold atW
      rw[if_neg hn0,if_neg (by simp[hk2])]
     have hin2:zT nm (zf s.ino f.xs).es≠0->zl (zT nm (zf s.ino f.xs).es) f.xs=true:=fun hne=>by
      refine ZF hf hh ?_;unfold Yj;rw[qg];cases hq:qz zN.name nm (zf s.ino f.xs).es with
      | some e=>rfl
      | none=>unfold zT at hne;rw[hq]at hne;exact absurd rfl hne
     push_cast [hlt,gs]
     repeat refine an ?_
     refine cl hg ?_;push_cast [hk2];refine cl hfd ?_;push_cast
     repeat refine an ?_
     exact ⟨(k+1,⟨(zf s.ino f.xs).ino,nm,zT nm (zf s.ino f.xs).es⟩),⟨hlt,hnx,hin2⟩,by simp only;omega,wks [.inl 0]⟩
    ·have hr:atV f p=(jj,3):=by rw[e,hat,hdr];unfold atW;rw[if_neg hn0,if_pos hk2]
     push_cast [hlt,gs]
     repeat refine an ?_
     refine cl hg ?_;push_cast [hk2];exact dn (by push_cast [ze,zd,CLe,zh,hr,jj])
  ·have hr:atV f p=(s,0):=by rw[e,hat,Or (by omega)];unfold atW;rfl
   push_cast [hlt];exact dn (by push_cast [ze,zd,CLe,zh,hr])
end
section
open CA CB
open Go.RowKit
abbrev zsN (f:FsV):Prop:=0<=f.next/\f.next<=4000000000000000000
theorem uE (hf:FsI f):f.xs≠[]:=fun h=>by have:=hf.root;rw[h]at this;cases this
theorem ZV (hf:FsI f) {n:Int} (hh:zl n f.xs=true):Jb (zf n f.xs).es:=hf.es _ (zj hh).2.1
theorem Fun.argsLe {G:zu} {f:FuncId} {args':List C} {r:C} {n:Nat} (h:Fun P G f args r n) (ha:∀ R vs,zy R zP args' vs->zy R zP args vs):Fun P G f args' r n:=
 ⟨h.1,fun R vs hg hv=>h.2 R vs hg (ha R vs hv)⟩
theorem zkE {R:Env} {L:Loc} {v:Value} (h:Rep R L (.sc (.slice none 0 0)) v):Rep R L (.sl k []) v:=by
 rw[zt]at h;subst h;unfold Rep;exact ⟨none,0,rfl,Wc _,Wb _,.inl rfl⟩
end
section
open CA CB
open Go.RowKit
theorem ziu {g:zn->Nat} {n:Nat}:∀ {xs:List zn},(∀ x∈xs,g x<=n)->GL g xs<=xs.length*n
 | [],_=>by simp[GL]
 | x :: r,h=>by
  have ih:=ziu (g:=g) (n:=n) (xs:=r) fun y hy=>h y (Wl _ hy);have hx:=h x Wk;unfold GL at ih ⊢;simp only[Wq,OY,Wh];rw[AT];omega
theorem Mj (hf:FsI f) (hs:FsS f) {n:Int} (hh:zl n f.xs=true):0<=(zf n f.xs).links/\(zf n f.xs).links<=100000000:=by
 have h1:=hf.links _ (zj hh).2.1;have h2:=ziu (g:=Yk (zf n f.xs).ino) (n:=10000) (xs:=f.xs) fun x hx=>WJ (OI _ _) (hs.node x hx).1;have h3:=hs.len;have h4:f.xs.length*10000<=10000*10000:=WT _ h3;unfold Yh at h1;omega
theorem zb5 (f:FsV) (hf:FsI f) (hs:FsS f) (s:zB) (hsp:zm f s) (hne:s.dir≠s.ino):Fun Tryz.prog G0 247 [.agg (fsC f),.agg (Ye s)] (.agg (fsC (zk f s))) 0:=by
 have hi:=zm.ino hf hsp;have hlen:=hs.len;have hg:=jn (G:=G0) f s.dir (by omega) hf.rises;rw[hsp.has]at hg;have hes:=hs.es hsp.has;have hhe:Js zN.name s.name (zf s.dir f.xs).es=true:=by rw[qg,hsp.there];rfl
 have hw:=Uz (G:=G0) (zf s.dir f.xs).es s.name (by omega) (ZV hf hsp.has) hhe;have hd1:=Hw (G:=G0) f (qh (zf s.dir f.xs) (zg s.name (zf s.dir f.xs).es)) (by omega) hf.rises;have hdl:(qe s.dir (zg s.name) f.xs).length=f.xs.length:=qV hf.rises hsp.has;have hR1:zW (qe s.dir (zg s.name) f.xs):=zO hf.rises;have hg2:=jn (G:=G0) ⟨f.maxI,f.maxB,f.next,qe s.dir (zg s.name) f.xs⟩ s.ino (by simp only;omega) hR1;simp only at hg2;rw[zM hsp.has,hi,jk hsp.has,if_neg hne]at hg2;have hl:=Mj hf hs hi;have hxi:=(zj hi).2.2;have hd2:=Hw (G:=G0) ⟨f.maxI,f.maxB,f.next,qe s.dir (zg s.name) f.xs⟩ { zf s.ino f.xs with links:=(zf s.ino f.xs).links-1 } (by simp only;omega) hR1;have hd3:=zlf (G:=G0) ⟨f.maxI,f.maxB,f.next,qe s.dir (zg s.name) f.xs⟩ s.ino (by simp only;omega) hR1 (by intro h;have h0:f.xs = []:=At.1 (by rw[←hdl];exact Wu List.length h);exact uE hf h0);have e0:zk f s=if (zf s.ino f.xs).links-1=0 then ⟨f.maxI,f.maxB,f.next,zY s.ino (qe s.dir (zg s.name) f.xs)⟩ else ⟨f.maxI,f.maxB,f.next,qd { zf s.ino f.xs with links:=(zf s.ino f.xs).links-1 } (qe s.dir (zg s.name) f.xs)⟩:=rfl;unfold qe at hg2 hd2 hd3 e0;by_cases hz:(zf s.ino f.xs).links-1=0
 ·rw[if_pos hz]at e0;have hz':=eq_true hz;rw[←hxi]at hd3;refine fon Tryz.func247 ?_;dsimp only[Tryz.f247];push_cast;refine cl hg ?_;push_cast;refine cl hw ?_;push_cast;refine cl hd1 ?_;push_cast;refine cl hg2 ?_;push_cast [hz']
  repeat refine an ?_
  refine cl hd3 ?_;push_cast;exact dn (by push_cast [ze,zd,CLe,zh,e0,hxi])
 ·rw[if_neg hz]at e0;have hz':=Wy hz;refine fon Tryz.func247 ?_;dsimp only[Tryz.f247];push_cast;refine cl hg ?_;push_cast;refine cl hw ?_;push_cast;refine cl hd1 ?_;push_cast;refine cl hg2 ?_;push_cast [hz']
  repeat refine an ?_
  refine cl hd2 ?_;push_cast;exact dn (by push_cast [ze,zd,CLe,zh,e0])
end
section
open CA CB
open Go.RowKit
theorem zkF (f:FsV) (hf:FsI f) (hs:FsS f) (a b:zB) (ha:zm f a) (hb:qX f b) (hb0:b.ino=0):Fun Tryz.prog G0 245 [.agg (fsC f),.agg (Ye a),.agg (Ye b)] (.agg (fsC (qn f a b))) 0:=by
 have hai:=zm.ino hf ha;have hlen:=hs.len;have hhe:Js zN.name a.name (zf a.dir f.xs).es=true:=by rw[qg,ha.there];rfl
 have hga:=jn (G:=G0) f a.dir (by omega) hf.rises;rw[ha.has]at hga;have hwa:=Uz (G:=G0) (zf a.dir f.xs).es a.name (by have:=hs.es ha.has;omega) (ZV hf ha.has) hhe;have hda:=Hw (G:=G0) f (qh (zf a.dir f.xs) (zg a.name (zf a.dir f.xs).es)) (by omega) hf.rises;obtain ⟨g1,hg1⟩:∃ g1,qe a.dir (zg a.name) f.xs=g1:=⟨_,rfl⟩;obtain ⟨g2,hg2⟩:∃ g2,qe b.dir (zQ b.name a.ino) g1=g2:=⟨_,rfl⟩;have hR1:zW g1:=by rw[←hg1];exact zO hf.rises
 have hR2:zW g2:=by rw[←hg2];exact zO hR1
 have hl1:g1.length=f.xs.length:=by rw[←hg1];exact qV hf.rises ha.has
 have hb1:zl b.dir g1=true:=by rw[←hg1,zM ha.has];exact hb.has
 have hl2:g2.length=f.xs.length:=by rw[←hg2,qV hR1 hb1,hl1]
 have hi2:zl a.ino g2=true:=by rw[←hg2,zM hb1,←hg1,zM ha.has];exact hai
 have hgb:=jn (G:=G0) ⟨f.maxI,f.maxB,f.next,g1⟩ b.dir (by simp only;omega) hR1;simp only at hgb;rw[hb1]at hgb;have hres:Jb (zf b.dir g1).es/\(zf b.dir g1).es.length<=10000:=by
  rw[←hg1,jk ha.has];split
  ·refine ⟨Jw (ZV hf ha.has),?_⟩;show (jh zN.name _ _).length<=10000;have:=YE (key:=zN.name) a.name (zf a.dir f.xs).es;have:=hs.es ha.has;omega
  ·exact ⟨ZV hf hb.has,hs.es hb.has⟩
 have hwb:=zeJ (G:=G0) (zf b.dir g1).es b.name a.ino (by have:=hres.2;omega) hres.1;have hdb:=Hw (G:=G0) ⟨f.maxI,f.maxB,f.next,g1⟩ (qh (zf b.dir g1) (zQ b.name a.ino (zf b.dir g1).es)) (by simp only;omega) hR1;have hgx:=jn (G:=G0) ⟨f.maxI,f.maxB,f.next,g2⟩ a.ino (by simp only;omega) hR2;simp only at hgx;rw[hi2]at hgx;have hxi:=(zj hi2).2.2;have e0:qn f a b=if (zf a.ino g2).kind=2 then ⟨f.maxI,f.maxB,f.next,qd { zf a.ino g2 with parent:=b.dir } g2⟩ else ⟨f.maxI,f.maxB,f.next,g2⟩:=by unfold qn;rw[hg1,hg2]
 have hdx:=fun x:zn=>Hw (G:=G0) ⟨f.maxI,f.maxB,f.next,g2⟩ x (by simp only;omega) hR2;have hda':Fun Tryz.prog G0 271 [.agg (fsC f),.agg (JS (qh (zf a.dir f.xs) (zg a.name (zf a.dir f.xs).es)))] (.agg [.sc (.int .i64 f.maxI),.sc (.int .i64 f.maxB),.sc (.int .i64 f.next),.own 0 64 6 (zr g1)]) 1:=by rw[←hg1];exact hda
 have hdb':Fun Tryz.prog G0 271 [.agg (fsC ⟨f.maxI,f.maxB,f.next,g1⟩),.agg (JS (qh (zf b.dir g1) (zQ b.name a.ino (zf b.dir g1).es)))] (.agg [.sc (.int .i64 f.maxI),.sc (.int .i64 f.maxB),.sc (.int .i64 f.next),.own 0 64 6 (zr g2)]) 1:=by rw[←hg2];exact hdb
 have hb0':=eq_true hb0;by_cases hk:(zf a.ino g2).kind=2
 ·rw[if_pos hk]at e0;have hk':=eq_true hk;have hd:=hdx { zf a.ino g2 with parent:=b.dir };refine fon Tryz.func245 ?_;dsimp only[Tryz.f245];push_cast [hb0'];refine cl hga ?_;push_cast;refine cl hwa ?_;push_cast;refine cl hda' ?_;push_cast;refine cl hgb ?_;push_cast;refine cl hwb ?_;push_cast;refine cl hdb' ?_;push_cast;refine cl hgx ?_;push_cast [hk'];refine cl hd ?_;push_cast;exact dn (by push_cast [ze,zd,CLe,zh,e0])
 ·rw[if_neg hk]at e0;have hk':=Wy hk;have hsm:qd (zf a.ino g2) g2=g2:=x8 hR2 (by rw[hxi];exact (zj hi2).1);have hd:=hdx (zf a.ino g2);rw[hsm]at hd;refine fon Tryz.func245 ?_;dsimp only[Tryz.f245];push_cast [hb0'];refine cl hga ?_;push_cast;refine cl hwa ?_;push_cast;refine cl hda' ?_;push_cast;refine cl hgb ?_;push_cast;refine cl hwb ?_;push_cast;refine cl hdb' ?_;push_cast;refine cl hgx ?_;push_cast [hk'];refine cl hd ?_;push_cast;exact dn (by push_cast [ze,zd,CLe,zh,e0])
end
section
open Go.RowKit
section
variable {G:zu}
theorem Gs (rows:List (List C)) (hk:∀ r∈rows,r.length=4) (hs:ju rows) (hl:rows.length<=100000) :
  YX Tryz.prog G 280 [.sl 4 rows] [] 0 (zgp 4 rows):=by
 refine YX.bySlice (fun h=>?_) (fun h a cap hr=>?_)
 ·refine foX (fun i=>if i=1000000+25 then [true,true] else []) Tryz.func280 ?_;dsimp only[Tryz.f280];push_cast;refine ⟨h,Vw HC Qx rfl rfl (by decide) rfl (qA hk) rfl (Wc _) (Wc _) (by omega) (by omega) (fun hc=>absurd hc ?_) (fun _ c hc hm=>?_)⟩
  ·have:=WI.2 h;omega
  ·push_cast;rw[Ox]at hc;refine ⟨_,_,_,⟨⟨rfl,.inl ⟨h,c,hc,hm,rfl,rfl⟩⟩,Wb _⟩,[],rfl,rfl,?_,by push_cast [ze,zd,CLe,zh]⟩;push_cast [ze,zd,CLe,zh];exact z6 (zH hs)
 ·cases a with
  | none =>
   refine foX (fun i=>if i=1000000+25 then [true,true] else []) Tryz.func280 ?_;dsimp only[Tryz.f280];push_cast [hr,O9];exact ⟨_,_,_,⟨⟨rfl,.inr ⟨h,.inl ⟨rfl,rfl⟩⟩⟩,Wb _⟩,[],rfl,rfl,by push_cast [ze,zd,CLe,zh],by push_cast [ze,zd,CLe,zh]⟩
  | some a =>
   refine foX (fun i=>if i=1000000+25 then [true,true] else []) Tryz.func280 ?_;dsimp only[Tryz.f280];push_cast [hr,Aa];have hx:C.xs? 4 [[]] (C.sc (.slice (some a) 0 cap))=some (0,[]):=by simp[C.xs?,hr]
   refine Vw HC Qx hx rfl (by decide) rfl rfl rfl (Wc _) (Wc _) (by omega) (by omega) (fun _=>?_) (fun hc=>absurd hc (by omega));push_cast;exact ⟨_,_,_,⟨⟨rfl,.inr ⟨h,.inr ⟨rfl,rfl⟩⟩⟩,Wb _⟩,[],rfl,rfl,by (push_cast [ze,zd,CLe,zh];simp[spl,zh]),by push_cast [ze,zd,CLe,zh]⟩
theorem U3 (rows:List (List C)) (x:List C) (i c e:Nat) (hk:∀ r∈rows,r.length=4) (hx:x.length=4) (hs:ju rows) (hsx:(x.all C.stayB)=true) (hl:rows.length<=100000) (hi:i<=rows.length) (hc:rows.length<=c) (hcm:c<=9223372036854775807) :
  YX Tryz.prog G 279 [.bs 0 0 4 rows.length c,.sc (.int .i64 i),.own 0 e 4 [x]] [qF 4 rows c] 1 (zsE 4 (c*4) (rows.take i++x :: rows.drop i)):=by
 refine foX (fun j=>if j=1000000+25 then [true,true] else if j=11 then [false,false,false,false,false,false,false,false,true] else if j=15 then [false,false,false,false,false,false,false,false,true] else []) Tryz.func279 ?_;dsimp only[Tryz.f279];push_cast;have hlen:(rows.take i++x :: rows.drop i).length=rows.length+1:=by simp;omega
 have hki:∀ r∈rows.take i++x :: rows.drop i,r.length=4:=fun r hr=>by
  rcases WC.1 hr with hr | hr
  ·exact hk r (Wx hr)
  ·rcases WF.1 hr with rfl | hr
   ·exact hx
   ·exact hk r (WU hr)
 have hsi:ju (rows.take i++x :: rows.drop i):=fun r hr=>by
  rcases WC.1 hr with hr | hr
  ·exact hs r (Wx hr)
  ·rcases WF.1 hr with rfl | hr
   ·exact hsx
   ·exact hs r (WU hr)
 have hbl:=JX hk hc;have hfl:=qA hk;have hxl:[x].flatten.length=1*4:=by simp[hx]
 have hpre:(qF 4 rows c).take rows.flatten.length=rows.flatten:=by unfold qF;rw[Bi]
 refine ⟨hc,⟨by omega,hi⟩,br (fun h=>?_) (fun h=>?_)⟩
 ·push_cast;refine Vw HC Qx rfl rfl (by decide) rfl hxl rfl (by rw[hbl];omega) hc (by simp;omega) (by simp;omega) (fun h1=>?_) (fun h1 c' h2 h3=>?_)
  ·push_cast;have hi':i=rows.length:=WP h;refine ⟨_,_,_,⟨⟨rfl,c,by rw[hlen];exact h1,hcm,.inl ⟨rfl,rfl⟩⟩,Wc _⟩,[],rfl,rfl,?_,by push_cast [ze,zd,CLe,zh,hlen]⟩;push_cast [ze,zd,CLe,zh];have h6:rows.length*4+4<=c*4:=by have:rows.length+1<=c:=h1;omega
   refine JR hki hsi (by rw[hlen];exact h1) (by rw[ZD (by rw[hbl,hx];exact h6),hbl]) ?_;rw[hlen,hi',Oi,AL];unfold spl;rw[←hfl,hpre,OK (by simp[hx,hfl];omega)];simp
  ·push_cast;have hi':i=rows.length:=WP h;have h2':rows.length+1<=c':=h2;refine ⟨_,_,_,⟨⟨rfl,c',by rw[hlen];exact h2,h3,.inr ⟨rfl,rfl⟩⟩,OT rfl⟩,[],rfl,rfl,?_,by push_cast [ze,zd,CLe,zh,hlen]⟩;push_cast [ze,zd,CLe,zh];refine ⟨XV hbl,JR hki hsi (by rw[hlen];exact h2) (by simp[hx,hbl];omega) ?_⟩;rw[hlen,hi',Oi,AL,←hfl,hpre,OK (by simp[hx,hfl];omega)];simp
 ·have hne:i≠rows.length:=OS h;push_cast;refine ⟨⟨by omega,by omega⟩,br (fun h1=>?_) (fun h1=>?_)⟩
  ·have h1':(c:Int)<(rows.length:Int)+1:=WP h1;push_cast
   repeat refine an ?_
   refine znh HC zpu Qx rfl (by decide) rfl rfl (by rw[hbl];omega) (by omega) (by omega) (by omega) (by omega) (by omega) (fun c' B h2 h3 hBl hBt=>?_);have e1:((rows.length:Int)+1-(i:Int)).toNat=rows.length+1-i:=by omega
   rw[e1]at h2 ⊢;have e2:i+(rows.length+1-i)=rows.length+1:=by omega
   rw[e2]at h2 ⊢;push_cast
   repeat refine an ?_
   refine X1 HC Qx rfl rfl hxl (by rw[hBl];omega) (fun B1 hB1 hl1=>?_);rw[hBl]at hl1;push_cast
   repeat refine an ?_
   have hbp:=XB (c:=c) hk hi;refine X1 HC Qx (HQ rfl (by rw[hbl];omega)) rfl (by rw[hbp,W3,hfl];omega) (by rw[hl1];omega) (fun B2 hB2 hl2=>?_);rw[hl1]at hl2;have hX:[x].flatten.take (min [x].length (rows.length+1-i)*4)=x:=by
    rw[Om,OJ (by omega),Wf (by omega)];simp
   rw[hX]at hB1;rw[hbp,show min (rows.length-i) (rows.length-i)*4=(rows.length-i)*4 by omega,Wf (by rw[W3,hfl];omega),hB1]at hB2;push_cast;refine ⟨_,_,_,⟨⟨rfl,c',by rw[hlen];exact h2,h3,.inr ⟨rfl,rfl⟩⟩,OT rfl⟩,[],rfl,rfl,?_,by push_cast [ze,zd,CLe,zh,hlen]⟩;push_cast [ze,zd,CLe,zh];refine ⟨XV hbl,JR hki hsi (by rw[hlen];exact h2) hl2 ?_⟩;rw[hlen,←Q6 hk,hB2];have hg:=Nk (cs:=B) (L:=rows.flatten) (X:=x) (p:=i*4) (q:=(i+1)*4) (by omega) (by omega) (by
    rw[hBt,AY];unfold qF;rw[OU (by omega)]) (by omega)
   rw[hfl,hx]at hg;rw[←hg];congr 1;omega
  ·have h1':¬(c:Int)<(rows.length:Int)+1:=OS h1;push_cast
   repeat refine an ?_
   refine znA (vK (P:=Tryz.prog) (tR:=4) Tryz.func297 (by kernel_rfl) (by kernel_rfl) (by kernel_rfl) (by kernel_rfl) HC Qx rfl (Bk (by rw[hbl];omega)) (by simp) (by omega)) ?_;push_cast
   repeat refine an ?_
   have hbp:=XB (c:=c) hk hi;refine X1 HC Qx (HQ rfl (by rw[hbl];omega)) rfl (by simp[hbl];omega) (by rw[hbl];omega) (fun B1 hB1 hl1=>?_);rw[hbl]at hl1;rw[B3,OJ (by omega),show min (rows.length+1-i) (rows.length-i)*4=(rows.length-i)*4 by omega,hbp]at hB1;push_cast
   repeat refine an ?_
   refine X1 HC Qx rfl rfl hxl (by rw[hl1];omega) (fun B2 hB2 hl2=>?_);rw[hl1]at hl2;have hX:[x].flatten.take (min [x].length (rows.length+1-i)*4)=x:=by
    rw[Om,OJ (by omega),Wf (by omega)];simp
   rw[hX,hB1]at hB2;push_cast;have hcc:rows.length+1<=c:=by omega
   refine ⟨_,_,_,⟨⟨rfl,c,by rw[hlen];exact hcc,hcm,.inl ⟨rfl,rfl⟩⟩,OT rfl⟩,[],rfl,rfl,?_,by push_cast [ze,zd,CLe,zh,hlen]⟩;push_cast [ze,zd,CLe,zh];refine JR hki hsi (by rw[hlen];exact hcc) hl2 ?_;rw[hlen,←Q6 hk,hB2];have hg:=Hq (cs:=qF 4 rows c) (L:=rows.flatten) (X:=x) (p:=i*4) (q:=(i+1)*4) (by omega) (by omega) hpre (by omega);rw[hfl,hx]at hg;rw[←hg];congr 1;omega
theorem zbd {e:Nat} (x:List C) (hx:x.length=4) (hsx:(x.all C.stayB)=true) :
  YX Tryz.prog G 279 [.sc (.slice none 0 0),.sc (.int .i64 0),.own 0 e 4 [x]] [] 1 (fun r bx' n=>n=0/\∃ c,1<=c/\c<=9223372036854775807/\r = .bs 0 0 4 1 c/\bx' = [qF 4 [x] c]):=by
 refine foX (fun j=>if j=1000000+25 then [true,true] else if j=11 then [false,false,false,false,false,false,false,false,true] else if j=15 then [false,false,false,false,false,false,false,false,true] else []) Tryz.func279 ?_;dsimp only[Tryz.f279];push_cast;refine ND HC Qx rfl rfl (by decide) rfl (by simp[hx]) (by simp) (by simp) (by simp) (fun c h1 h2=>?_);push_cast;refine ⟨_,_,_,⟨⟨rfl,c,h1,h2,rfl,rfl⟩,Wb _⟩,[],rfl,rfl,?_,by push_cast [ze,zd,CLe,zh]⟩;push_cast [ze,zd,CLe,zh];have:=z6 (src:=[]) (n:=1) (zH (k:=4) (c:=c) (rows:=[x]) fun r hr=>by
  rw[W0.1 hr];exact hsx)
 unfold qF at this ⊢;simpa using this
end
end
section
open CA CB
open Go.RowKit
abbrev Jg (k:zL):List C:=[.sc (.int .i64 k.slot),.sc (.int .i64 k.ino),.sc (.bool k.content),.str k.data]
abbrev zI (ks:List zL):List (List C):=ks.map Jg
theorem jz (ks:List zL) (i:Nat) (h:i<ks.length):(zI ks)[i]?=some (Jg ks[i]):=by simp[WA,Wa h]
abbrev Uc (w:qj):List C:=[.sc (.int .i64 w.fs.maxI),.sc (.int .i64 w.fs.maxB),.sc (.int .i64 w.fs.next),.sl 6 (zr w.fs.xs),.sl 4 (zI w.kept),.sl 6 (zr w.pool)]
abbrev jP (w:qj):C:=.agg (Uc w)
theorem zhV (a b:Int):U8 a b<0↔j4.lt a b=true:=by
 show U8 a b<0↔decide (a<b)=true;unfold U8;rw[WW];split
 ·simp;assumption
 ·split<;>omega
theorem zhY (a b:Int):U8 a b=0↔a=b:=by
 unfold U8;split
 ·constructor
  ·intro h;cases h
  ·intro h;omega
 ·split
  ·constructor
   ·intro h;cases h
   ·intro h;omega
  ·constructor
   ·intro _;omega
   ·intro _;rfl
section
variable {G:zu}
theorem zlq (k:zL):Fun Tryz.prog G 274 [.agg (Jg k)] (.sc (.int .i64 k.slot)) 0:=by
 refine fon Tryz.func274 ?_;dsimp only[Tryz.f274];push_cast;exact dn
theorem zas (k:zL) (n:Int):Fun Tryz.prog G 294 [.agg (Jg k),.sc (.int .i64 n),.row [.clo (.func 274) [] []]] (.sc (.int .i64 (U8 k.slot n))) 0:=by
 refine fon Tryz.func294 ?_;dsimp only[Tryz.f294];push_cast;refine cl (zlq k) ?_;push_cast;refine cl (uW k.slot n) ?_;push_cast;exact dn
theorem xO (ks:List zL) (n:Int) (hl:ks.length<=100000) (hR:qQ j4 zL.slot ks) :
  Fun Tryz.prog G 293 [.sl 4 (zI ks),.sc (.int .i64 n),.clo (.func 294) [] [.row [.clo (.func 274) [] []]]] (.tup [.sc (.int .i64 (qx j4 zL.slot n ks:Nat)),.sc (.bool (Js zL.slot n ks))]) 0:=by
 refine fon Tryz.func293 ?_;dsimp only[Tryz.f293];push_cast;refine loop (fun p:Nat×Nat=>⟨[(0,.sl 4 (zI ks)),(1,.sc (.int .i64 n)),(2,.clo (.func 294) [] [.row [.clo (.func 274) [] []]]),(8,.sc (.int .i64 (ks.length:Nat))),(9,.sc (.int .i64 p.1)),(10,.sc (.int .i64 p.2))],[],0,0⟩)
  (fun p=>p.1<=p.2/\p.2<=ks.length/\(∀ t (h:t<ks.length),t<p.1->(j4).lt (zL.slot ks[t]) n=true)/\∀ t (h:t<ks.length),p.2<=t->(j4).lt (zL.slot ks[t]) n=false) (fun p=>p.2-p.1) (0,ks.length) ⟨Wb _,Wc _,fun t _ h=>by (simp at h),fun t h h'=>by (dsimp only at h';omega)⟩ ?_ ?_
 ·exact wk (by push_cast [ze,zd,CLe,zh,We])
 ·rintro ⟨i,j⟩ ⟨h1,h2,h3,h4⟩;dsimp only at h1 h2 h3 h4 ⊢;by_cases h:i<j
  ·obtain ⟨m,hm⟩:∃ m,m=(i+j) / 2:=⟨_,rfl⟩;have hmi:((i:Int)+(j:Int)) / 2=(m:Int):=by omega
   have hml:m<ks.length:=by omega
   have hat:=jz ks m hml;have hlt:=(zhV ks[m].slot n);push_cast [h,hmi,hat]
   repeat refine an ?_
   refine cl ((zas ks[m] n)) ?_;push_cast;cases hc:(j4).lt (zL.slot ks[m]) n with
   | true =>
    have hcv:(U8 ks[m].slot n<0)=True:=eq_true (hlt.mpr hc);push_cast [hcv]
    repeat refine an ?_
    refine ⟨(m+1,j),⟨by omega,h2,fun t ht hlt2=>?_,h4⟩,by dsimp only;omega,wk⟩;dsimp only at hlt2;rcases Wr t m with q | q
    ·exact (j4).tr ((WR.1 hR) t m ht hml q) hc
    ·have:t=m:=by omega
     subst this;exact hc
   | false =>
    have hcv:(U8 ks[m].slot n<0)=False:=Wy (fun e=>by have h7:(j4).lt (zL.slot ks[m]) n=true:=hlt.mp e;rw[hc]at h7;cases h7);push_cast [hcv]
    repeat refine an ?_
    refine ⟨(i,m),⟨by omega,by omega,h3,fun t ht hge=>?_⟩,by dsimp only;omega,wk⟩;dsimp only at hge;rcases Wr m t with q | q
    ·cases h9:(j4).lt (zL.slot ks[t]) n with
     | false=>rfl
     | true=>have:=(j4).tr ((WR.1 hR) m t hml ht q) h9;rw[hc]at this;cases this
    ·have:t=m:=by omega
     subst this;exact hc
  ·have hij:i=j:=by omega
   subst hij;have hrk:=Z1 (o:=j4) (key:=zL.slot) n ks i h2 h3 h4;push_cast [h];refine br (fun hx=>?_) (fun hx=>?_)
   ·have hx:i<ks.length:=by simpa using hx
    have hat:=jz ks i hx;have hh:=uO n hR hrk hx;push_cast [hx,hat]
    repeat refine an ?_
    refine cl ((zas ks[i] n)) ?_;push_cast;have hcv:decide (U8 ks[i].slot n=0)=Js zL.slot n ks:=by
     rw[hh];exact AW.2 (zhY ks[i].slot n)
    push_cast [hcv];exact dn (by push_cast [ze,zd,CLe,zh,hrk])
   ·have hx:¬i<ks.length:=by simpa using hx
    have hh:=Mh n hR (by omega);push_cast [hx];exact dn (by push_cast [ze,zd,CLe,zh,hrk,hh])
theorem zal (ks:List zL) (n:Int) (hl:ks.length<=100000) (hR:qQ j4 zL.slot ks):Fun Tryz.prog G 273 [.sl 4 (zI ks),.sc (.int .i64 n),.clo (.func 274) [] []] (.tup [.sc (.int .i64 (qx j4 zL.slot n ks:Nat)),.sc (.bool (Js zL.slot n ks))]) 0:=by
 refine fon Tryz.func273 ?_;dsimp only[Tryz.f273];push_cast;refine zp3 [.sl 4 (zI ks),.sc (.int .i64 n),.clo (.func 294) [] [.row [.clo (.func 274) [] []]]] (xO ks n hl hR) rfl ?_ ?_
 ·simp[X6,Qo,C.frz,C.frzL]
 push_cast;exact dn
def Xc (n:Int) (ks:List zL):zL:=(qz zL.slot n ks).getD zg7
theorem ziy (w:qj) (n:Int) (hl:w.kept.length<=100000) (hR:qQ j4 zL.slot w.kept):Fun Tryz.prog G 246 [jP w,.sc (.int .i64 n)] (.tup [.agg (Jg (Xc n w.kept)),.sc (.bool (Vd n w.kept))]) 0:=by
 obtain ⟨_,_,h3,h4⟩:=UP n hR;have h:=zal (G:=G) w.kept n hl hR;cases hh:Js zL.slot n w.kept with
 | false =>
  have hf:Xc n w.kept=zg7:=by unfold Xc;rw[(h4 hh).1];rfl
  have he:Vd n w.kept=false:=hh;rw[hh]at h;refine fon Tryz.func246 ?_;dsimp only[Tryz.f246];push_cast;refine cl h ?_;push_cast;exact dn (by push_cast [ze,zd,CLe,zh,hf,he,zg7])
 | true =>
  obtain ⟨hlt,_,g2,_⟩:=h3 hh;have hf:Xc n w.kept=w.kept[qx j4 zL.slot n w.kept]:=by unfold Xc;rw[g2];rfl
  have he:Vd n w.kept=true:=hh;have hat:=jz w.kept _ hlt;rw[hh]at h;refine fon Tryz.func246 ?_;dsimp only[Tryz.f246];push_cast;refine cl h ?_;push_cast [hat]
  repeat refine an ?_
  exact dn (by push_cast [ze,zd,CLe,zh,hf,he])
end
end
section
open Go.RowKit Go.ChangeMaps Go.ChangeShapes Go.WideShapes Go.Deep Go.Joins
section
variable {H:Type} {enc:TypeId×Value->H} {P:Program} {W:World}
theorem jG.two {t:TypeId} {f1 f2:Field} {k1 k2:Nat} {Q1 Q2:List C->Prop} (hs:P.underlying t=some (.struct #[f1,f2])) (h1:jG enc P W f1.type k1 Q1) (h2:jG enc P W f2.type k2 Q2)
  (e1:f1.offset=0) (e2:P.cellsOf f1.type=k1) (e3:f2.offset=k1) (e4:P.cellsOf f2.type=k2) (e5:P.cellsOf t=k1+k2):jG enc P W t (k1+k2) fun row=>∃ a b,row=a++b/\Q1 a/\Q2 b:=fun fuel cs x hx=>by
 obtain ⟨ys,n',hn',hy,hlen,hyl,hf⟩:=DataW.trod_struct hs hx;rw[e5]at hlen;have g1:=hf 0 f1 rfl;have g2:=hf 1 f2 rfl;have hy2:ys.length=2:=by simpa using hyl
 rw[e1,e2,AY,Wa (by omega)]at g1;rw[e3,e4,Wa (by omega)]at g2;obtain ⟨a,qa,la,la',ra⟩:=h1 _ _ _ g1;obtain ⟨b,qb,lb,lb',rb⟩:=h2 _ _ _ g2;refine ⟨a++b,⟨a,b,rfl,qa,qb⟩,by rw[Wn,la,lb],hlen,fun j c v h3 h4=>?_⟩;rcases Wr j k1 with hj | hj
 ·rw[Wv (by omega)]at h3;exact ra j c v h3 (by rw[Bu hj];exact h4)
 ·rw[WO (by omega),la]at h3;have hjl:=(Wd.1 h3).1;refine rb (j-k1) c v h3 ?_;rw[Bu (by omega),Ob,show k1+(j-k1)=j by omega];exact h4
theorem ziL:jG enc Tryz.prog W 105 4 fun row=>∃ o:zL,row=Jg o/\o.data.length<=maxLen:=fun fuel cs x hx=>by
 obtain ⟨row,⟨hl,hq⟩,h1,h2,h3⟩:=jG.struct (W:=W) (enc:=enc) (Qs:=fun j c=>match j with | 0=>∃ n,c = .sc (.int .i64 n)/\(Lit.int .i64 n).wf=true | 1=>∃ n,c = .sc (.int .i64 n)/\(Lit.int .i64 n).wf=true | 2=>∃ b,c = .sc (.bool b) | 3=>∃ l:Lz,c = .str l/\l.length<=maxLen | _=>True) Tryz.underlying105 (by kernel_rfl) (by kernel_rfl) (fun j f hj=>by
  match j,hj with
  | 0,hj=>cases hj;exact Opn.int Tryz.underlying3
  | 1,hj=>cases hj;exact Opn.int Tryz.underlying3
  | 2,hj=>cases hj;exact Opn.bool Tryz.underlying4
  | 3,hj=>cases hj;exact Opn.str Tryz.underlying9
  | j+4,hj=>simp at hj) fuel cs x hx
 match row,h1,hq,h3 with
 | [c0,c1,c2,c3],_,hq,h3 =>
  obtain ⟨a,rfl,_⟩:=hq 0 c0 rfl;obtain ⟨b,rfl,_⟩:=hq 1 c1 rfl;obtain ⟨c,rfl⟩:=hq 2 c2 rfl;obtain ⟨d,rfl,hd⟩:=hq 3 c3 rfl;exact ⟨_,⟨⟨a,b,c,d⟩,rfl,hd⟩,rfl,h2,h3⟩
theorem ze6:Opn enc Tryz.prog W 25 fun c=>∃ xs:List zL,c = .sl 4 (zI xs)/\xs.length<=maxLen/\∀ x∈xs,x.data.length<=maxLen:=fun fuel cs x hx=>by
 obtain ⟨v,c,rfl,⟨rows,rfl,hl,hr⟩,h1,h2⟩:=Opn.slice (W:=W) (enc:=enc) Tryz.underlying25 (show Tryz.prog.cellsOf 105=4 by kernel_rfl) (by decide) ziL fuel cs x hx;obtain ⟨xs,rfl,hq⟩:=NF hr;exact ⟨v,_,rfl,⟨xs,rfl,by simpa using hl,hq⟩,h1,h2⟩
theorem zf5:jG enc Tryz.prog W 27 2 fun row=>∃ (ks:List zL) (pool:List zn),row = [.sl 4 (zI ks),.sl 6 (zr pool)]/\ks.length<=maxLen/\pool.length<=maxLen:=fun fuel cs x hx=>by
 obtain ⟨row,⟨hl,hq⟩,h1,h2,h3⟩:=jG.struct (W:=W) (enc:=enc) (Qs:=fun j c=>match j with | 0=>∃ xs:List zL,c = .sl 4 (zI xs)/\xs.length<=maxLen/\∀ x∈xs,x.data.length<=maxLen | 1=>∃ xs:List zn,c = .sl 6 (zr xs)/\xs.length<=maxLen/\∀ x∈xs,zfO x | _=>True) Tryz.underlying27 (by kernel_rfl) (by kernel_rfl) (fun j f hj=>by
  match j,hj with
  | 0,hj=>cases hj;exact ze6
  | 1,hj=>cases hj;exact za5
  | j+2,hj=>simp at hj) fuel cs x hx
 match row,h1,hq,h3 with
 | [c0,c1],_,hq,h3 =>
  obtain ⟨a,rfl,ha,_⟩:=hq 0 c0 rfl;obtain ⟨b,rfl,hb,_⟩:=hq 1 c1 rfl;exact ⟨_,⟨a,b,rfl,ha,hb⟩,rfl,h2,h3⟩
theorem zf2:jG enc Tryz.prog W 29 6 fun row=>∃ w:qj,row=Uc w/\w.fs.xs.length<=maxLen:=fun fuel cs x hx=>by
 obtain ⟨row,⟨a,b,rfl,⟨f,rfl,hf,_⟩,⟨ks,pool,rfl,_⟩⟩,h1,h2,h3⟩:=jG.two (W:=W) (enc:=enc) Tryz.underlying29 zq6 zf5 rfl (by kernel_rfl) rfl (by kernel_rfl) (by kernel_rfl) fuel cs x hx;exact ⟨_,⟨⟨f,ks,pool⟩,rfl,hf⟩,h1,h2,h3⟩
end
end
section
open CA CB
open Go.RowKit
section
variable {G:zu}
theorem qf:∀ r∈zI ks,r.length=4:=fun r hr=>by
 obtain ⟨x,_,rfl⟩:=WV.1 hr;rfl
theorem zw:ju (zI ks):=fun r hr=>by
 obtain ⟨x,_,rfl⟩:=WV.1 hr;rfl
theorem zhl (w:qj) (k:zL) (hl:w.kept.length<=90000) (hR:qQ j4 zL.slot w.kept) (hn:Vd k.slot w.kept=false):Fun Tryz.prog G 252 [jP w,.agg (Jg k)] (jP { w with kept:=qw k w.kept }) 0:=by
 obtain ⟨_,_,h3,h4⟩:=UP (o:=j4) k.slot hR;have hll:(zI w.kept).length=w.kept.length:=We ..;have hat:=zal (G:=G) w.kept k.slot (by omega) hR;have hrl:=VC (o:=j4) (key:=zL.slot) k.slot w.kept;have hn':Js zL.slot k.slot w.kept=false:=hn;rw[hn']at hat;have hw:qw k w.kept=w.kept.take (qx j4 zL.slot k.slot w.kept)++k :: w.kept.drop (qx j4 zL.slot k.slot w.kept):=(h4 hn').2.2 k rfl;have hset:zI (qw k w.kept)=(zI w.kept).take (qx j4 zL.slot k.slot w.kept)++Jg k :: (zI w.kept).drop (qx j4 zL.slot k.slot w.kept):=by rw[hw];simp
 have hsl:(zI (qw k w.kept)).length=(zI w.kept).length+1:=by rw[hset];simp;omega
 refine foF (fun i=>if i=2 then Qd [(0,.pure),(1,.pure),(2,.pure),(4,.pure),(5,.pure),(6,.pure),(3,.flt [3,4,5]),(7,.bar),(8,.pure),(9,.pure),(10,.bar)] else []) Tryz.func252 ?_;dsimp only[Tryz.f252];push_cast;refine cl hat ?_;push_cast;refine zoC [] (Gs (zI w.kept) qf zw (by omega)) (by decide) (by simp) (by push_cast) (by push_cast) (fun r bx' m hp=>?_);obtain ⟨rfl,⟨hne,c,h1,h2,rfl,rfl⟩ | ⟨he,⟨rfl,rfl⟩ | ⟨rfl,rfl⟩⟩⟩:=hp
 ·have hbl:=JX qf h1;have hre:∀ fp fo,C.reL fp fo (qF 4 (zI w.kept) c)=qF 4 (zI w.kept) c:=fun fp fo=>zF (zH zw);have hpos:=WI.2 hne;have hre2:∀ fp fo c,C.reL fp fo (qF 4 (zI (qw k w.kept)) c)=qF 4 (zI (qw k w.kept)) c:=fun fp fo c=>zF (zH zw);push_cast [hre];refine jI [4] [0] (U3 (e:=105) (zI w.kept) (Jg k) (qx j4 zL.slot k.slot w.kept) c qf rfl zw rfl (by omega) (by omega) h1 h2) rfl (by decide) (by decide) (by simp) (by push_cast) (by push_cast [hre]) (fun r bx' m hp=>?_);rw[←hset]at hp;obtain ⟨rfl,c',g1,g2,⟨rfl,rfl⟩ | ⟨rfl,rfl⟩⟩:=hp
  ·push_cast [hre2,hre];exact ⟨[(4,105,4,zI (qw k w.kept),c')],[],zC rfl (by omega) g1 g2 qf zw,rfl,rfl,by push_cast [ze,zd,CLe,zh]⟩
  ·have hra:∀ fp fo,C.reL fp fo (List.replicate (c*4) .any)=List.replicate (c*4) .any:=fun fp fo=>zF (by simp[OL,C.stayB]);push_cast [hre2,hre,hra];exact ⟨[(5,105,4,zI (qw k w.kept),c')],[],zC rfl (by omega) g1 g2 qf zw,rfl,rfl,by push_cast [ze,zd,CLe,zh]⟩
 ·have he:w.kept = []:=by simpa using he
  have hr0:qx j4 zL.slot k.slot w.kept=0:=by rw[he];rfl
  have hs1:qw k w.kept = [k]:=by rw[he];rfl
  push_cast [hr0];refine jI [] [0] (zbd (e:=105) (Jg k) rfl rfl) rfl (by decide) (by decide) (by simp) (by push_cast) (by push_cast) (fun r bx' m hp=>?_);obtain ⟨rfl,c,g1,g2,rfl,rfl⟩:=hp;have hre:∀ fp fo,C.reL fp fo (qF 4 [Jg k] c)=qF 4 [Jg k] c:=fun fp fo=>zF (zH (zw (ks:=[k])));push_cast [hre];exact ⟨[(3,105,4,zI [k],c)],[],zC rfl (by omega) g1 g2 qf zw,rfl,rfl,by push_cast [ze,zd,CLe,zh,hs1]⟩
 ·have he:w.kept = []:=by simpa using he
  have hr0:qx j4 zL.slot k.slot w.kept=0:=by rw[he];rfl
  have hs1:qw k w.kept = [k]:=by rw[he];rfl
  push_cast [hr0];refine jI [3] [0] (U3 (e:=105) [] (Jg k) 0 0 (fun r hr=>by cases hr) rfl (fun r hr=>by cases hr) rfl (by simp) (by simp) (by simp) (by simp)) rfl (by decide) (by decide) (by simp) (by push_cast) (by push_cast [qF]) (fun r bx' m hp=>?_);obtain ⟨rfl,c,g1,g2,hp⟩:=hp;have hre:∀ fp fo,C.reL fp fo (qF 4 [Jg k] c)=qF 4 [Jg k] c:=fun fp fo=>zF (zH (zw (ks:=[k])));rcases hp with ⟨rfl,rfl⟩ | ⟨rfl,rfl⟩
  ·push_cast [hre];exact ⟨[(3,105,4,zI [k],c)],[],zC rfl (WM (AV _) g1) g1 g2 qf zw,rfl,rfl,by push_cast [ze,zd,CLe,zh,hs1]⟩
  ·push_cast [hre];exact ⟨[(4,105,4,zI [k],c)],[],zC rfl (WM (AV _) g1) g1 g2 qf zw,rfl,rfl,by push_cast [ze,zd,CLe,zh,hs1]⟩
theorem xN (f:FsV) (hf:FsI f) (hs:FsS f) (p:Lz) (hp:p.length<=1000000):Fun Tryz.prog G0 243 [.agg (fsC f),.str p] (.tup [.agg (Ye (isV f p true).1),.agg (JS (isV f p true).2.1),.sc (.int .i64 (isV f p true).2.2)]) 0:=by
 have h1:=Mp f hf hs p hp;have h2:=jn (G:=G0) f (atV f p).1.ino (by have:=hs.len;omega) hf.rises;have e1:(isV f p true).1=(atV f p).1:=rfl;have e2:(isV f p true).2.1=zf (atV f p).1.ino f.xs:=rfl;by_cases h0:(atV f p).2=0
 ·have h0':=eq_true h0;cases hz:zl (atV f p).1.ino f.xs with
  | true =>
   have e3:(isV f p true).2.2=0:=by unfold isV;simp[h0,hz]
   rw[hz]at h2;refine fof (fun i=>if i=4 then Qd [(0,.pure),(1,.pure),(2,.pure),(3,.flt [1,2]),(4,.flt [2]),(5,.pure)] else if i=6 then Qd [(0,.pure),(1,.pure),(2,.flt [1]),(3,.flt []),(4,.pure)] else if i=7 then Qd [(0,.pure),(1,.pure),(2,.flt [1]),(3,.flt []),(4,.pure)] else []) Tryz.func243 ?_;dsimp only[Tryz.f243];push_cast;refine cl h1 ?_;push_cast;refine cl h2 ?_;push_cast [h0'];exact dn (by push_cast [ze,zd,CLe,zh,e1,e2,e3])
  | false =>
   have e3:(isV f p true).2.2=1:=by unfold isV;simp[h0,hz]
   rw[hz]at h2;refine fof (fun i=>if i=4 then Qd [(0,.pure),(1,.pure),(2,.pure),(3,.flt [1,2]),(4,.flt [2]),(5,.pure)] else if i=6 then Qd [(0,.pure),(1,.pure),(2,.flt [1]),(3,.flt []),(4,.pure)] else if i=7 then Qd [(0,.pure),(1,.pure),(2,.flt [1]),(3,.flt []),(4,.pure)] else []) Tryz.func243 ?_;dsimp only[Tryz.f243];push_cast;refine cl h1 ?_;push_cast;refine cl h2 ?_;push_cast [h0'];exact dn (by push_cast [ze,zd,CLe,zh,e1,e2,e3])
 ·have h0':=Wy h0;have e3:(isV f p true).2.2=(atV f p).2:=by unfold isV;simp[h0]
  refine fof (fun i=>if i=4 then Qd [(0,.pure),(1,.pure),(2,.pure),(3,.flt [1,2]),(4,.flt [2]),(5,.pure)] else if i=6 then Qd [(0,.pure),(1,.pure),(2,.flt [1]),(3,.flt []),(4,.pure)] else if i=7 then Qd [(0,.pure),(1,.pure),(2,.flt [1]),(3,.flt []),(4,.pure)] else []) Tryz.func243 ?_;dsimp only[Tryz.f243];push_cast;refine cl h1 ?_;push_cast;refine cl h2 ?_;push_cast [h0',ite_self];exact dn (by push_cast [ze,zd,CLe,zh,e1,e2,e3])
end
end
section
open CA CB
open Go.RowKit
section
variable {G:zu}
theorem zlE (k:zn):Fun Tryz.prog G 249 [.agg (JS k)] (.sc (.int .i64 k.ino)) 0:=by
 refine fon Tryz.func249 ?_;dsimp only[Tryz.f249];push_cast;exact dn
theorem zaD (k:zn) (n:Int):Fun Tryz.prog G 276 [.agg (JS k),.sc (.int .i64 n),.row [.clo (.func 249) [] []]] (.sc (.int .i64 (U8 k.ino n))) 0:=by
 refine fon Tryz.func276 ?_;dsimp only[Tryz.f276];push_cast;refine cl (zlE k) ?_;push_cast;refine cl (uW k.ino n) ?_;push_cast;exact dn
theorem xp (ks:List zn) (n:Int) (hl:ks.length<=100000) (hR:qQ j4 zn.ino ks) :
  Fun Tryz.prog G 180 [.sl 6 (zr ks),.sc (.int .i64 n),.clo (.func 276) [] [.row [.clo (.func 249) [] []]]] (.tup [.sc (.int .i64 (qx j4 zn.ino n ks:Nat)),.sc (.bool (Js zn.ino n ks))]) 0:=by
 refine fon Tryz.func180 ?_;dsimp only[Tryz.f180];push_cast;refine loop (fun p:Nat×Nat=>⟨[(0,.sl 6 (zr ks)),(1,.sc (.int .i64 n)),(2,.clo (.func 276) [] [.row [.clo (.func 249) [] []]]),(8,.sc (.int .i64 (ks.length:Nat))),(9,.sc (.int .i64 p.1)),(10,.sc (.int .i64 p.2))],[],0,0⟩)
  (fun p=>p.1<=p.2/\p.2<=ks.length/\(∀ t (h:t<ks.length),t<p.1->(j4).lt (zn.ino ks[t]) n=true)/\∀ t (h:t<ks.length),p.2<=t->(j4).lt (zn.ino ks[t]) n=false) (fun p=>p.2-p.1) (0,ks.length) ⟨Wb _,Wc _,fun t _ h=>by (simp at h),fun t h h'=>by (dsimp only at h';omega)⟩ ?_ ?_
 ·exact wk (by push_cast [ze,zd,CLe,zh,We])
 ·rintro ⟨i,j⟩ ⟨h1,h2,h3,h4⟩;dsimp only at h1 h2 h3 h4 ⊢;by_cases h:i<j
  ·obtain ⟨m,hm⟩:∃ m,m=(i+j) / 2:=⟨_,rfl⟩;have hmi:((i:Int)+(j:Int)) / 2=(m:Int):=by omega
   have hml:m<ks.length:=by omega
   have hat:=jb ks m hml;have hlt:=(zhV ks[m].ino n);push_cast [h,hmi,hat]
   repeat refine an ?_
   refine cl ((zaD ks[m] n)) ?_;push_cast;cases hc:(j4).lt (zn.ino ks[m]) n with
   | true =>
    have hcv:(U8 ks[m].ino n<0)=True:=eq_true (hlt.mpr hc);push_cast [hcv]
    repeat refine an ?_
    refine ⟨(m+1,j),⟨by omega,h2,fun t ht hlt2=>?_,h4⟩,by dsimp only;omega,wk⟩;dsimp only at hlt2;rcases Wr t m with q | q
    ·exact (j4).tr ((WR.1 hR) t m ht hml q) hc
    ·have:t=m:=by omega
     subst this;exact hc
   | false =>
    have hcv:(U8 ks[m].ino n<0)=False:=Wy (fun e=>by have h7:(j4).lt (zn.ino ks[m]) n=true:=hlt.mp e;rw[hc]at h7;cases h7);push_cast [hcv]
    repeat refine an ?_
    refine ⟨(i,m),⟨by omega,by omega,h3,fun t ht hge=>?_⟩,by dsimp only;omega,wk⟩;dsimp only at hge;rcases Wr m t with q | q
    ·cases h9:(j4).lt (zn.ino ks[t]) n with
     | false=>rfl
     | true=>have:=(j4).tr ((WR.1 hR) m t hml ht q) h9;rw[hc]at this;cases this
    ·have:t=m:=by omega
     subst this;exact hc
  ·have hij:i=j:=by omega
   subst hij;have hrk:=Z1 (o:=j4) (key:=zn.ino) n ks i h2 h3 h4;push_cast [h];refine br (fun hx=>?_) (fun hx=>?_)
   ·have hx:i<ks.length:=by simpa using hx
    have hat:=jb ks i hx;have hh:=uO n hR hrk hx;push_cast [hx,hat]
    repeat refine an ?_
    refine cl ((zaD ks[i] n)) ?_;push_cast;have hcv:decide (U8 ks[i].ino n=0)=Js zn.ino n ks:=by
     rw[hh];exact AW.2 (zhY ks[i].ino n)
    push_cast [hcv];exact dn (by push_cast [ze,zd,CLe,zh,hrk])
   ·have hx:¬i<ks.length:=by simpa using hx
    have hh:=Mh n hR (by omega);push_cast [hx];exact dn (by push_cast [ze,zd,CLe,zh,hrk,hh])
theorem zns (ks:List zn) (n:Int) (hl:ks.length<=100000) (hR:qQ j4 zn.ino ks):Fun Tryz.prog G 248 [.sl 6 (zr ks),.sc (.int .i64 n),.clo (.func 249) [] []] (.tup [.sc (.int .i64 (qx j4 zn.ino n ks:Nat)),.sc (.bool (Js zn.ino n ks))]) 0:=by
 refine fon Tryz.func248 ?_;dsimp only[Tryz.f248];push_cast;refine zp3 [.sl 6 (zr ks),.sc (.int .i64 n),.clo (.func 276) [] [.row [.clo (.func 249) [] []]]] (xp ks n hl hR) rfl ?_ ?_
 ·simp[X6,Qo,C.frz,C.frzL]
 push_cast;exact dn
end
end
section
open CA CB
open Go.RowKit
section
variable {G:zu}
abbrev zqk (w:qj) (kc pc:C):C:=.agg [.sc (.int .i64 w.fs.maxI),.sc (.int .i64 w.fs.maxB),.sc (.int .i64 w.fs.next),.sl 6 (zr w.fs.xs),kc,pc]
def zta (w:qj) (k:zL) (B:List C) (pn pc:Nat) (r:C) (bx':List (List C)) (m:Nat):Prop:=
 m=0/\∃ (c':Nat) (Ls:List (List C)),(Ls = []∨(∃ X,Ls = [X]/\(X.all C.stayB)=true)∨∃ X Y,Ls = [X,Y]/\(X.all C.stayB)=true/\(Y.all C.stayB)=true)/\(zI (qw k w.kept)).length<=c'/\c'<=9223372036854775807/\r=zqk w (.bs (4+Ls.length) 0 4 (zI (qw k w.kept)).length c') (.bs 0 0 6 pn pc) /\
  bx'=B :: [.any,.any,.any,.any,.any,.any] :: [.any,.any,.any,.any] :: [.any,.any,.any,.any,.any,.any] :: (Ls++[qF 4 (zI (qw k w.kept)) c'])
theorem HL (w:qj) (k:zL) (B:List C) (pn pc:Nat) (hB:(B.all C.stayB)=true) (hl:w.kept.length<=90000) (hR:qQ j4 zL.slot w.kept) (hn:Vd k.slot w.kept=false):YX Tryz.prog G 252 [zqk w (.sl 4 (zI w.kept)) (.bs 0 0 6 pn pc),.agg (Jg k)] [B] 0 (zta w k B pn pc):=by
 obtain ⟨_,_,h3,h4⟩:=UP (o:=j4) k.slot hR;have hll:(zI w.kept).length=w.kept.length:=We ..;have hat:=zal (G:=G) w.kept k.slot (by omega) hR;have hrl:=VC (o:=j4) (key:=zL.slot) k.slot w.kept;have hn':Js zL.slot k.slot w.kept=false:=hn;rw[hn']at hat;have hw:qw k w.kept=w.kept.take (qx j4 zL.slot k.slot w.kept)++k :: w.kept.drop (qx j4 zL.slot k.slot w.kept):=(h4 hn').2.2 k rfl;have hset:zI (qw k w.kept)=(zI w.kept).take (qx j4 zL.slot k.slot w.kept)++Jg k :: (zI w.kept).drop (qx j4 zL.slot k.slot w.kept):=by rw[hw];simp
 have hsl:(zI (qw k w.kept)).length=(zI w.kept).length+1:=by rw[hset];simp;omega
 refine foX (fun i=>if i=2 then Qd [(0,.pure),(1,.pure),(2,.pure),(4,.pure),(5,.pure),(6,.pure),(3,.flt [3,4,5]),(7,.bar),(8,.pure),(9,.pure),(10,.bar)] else []) Tryz.func252 ?_;dsimp only[Tryz.f252];have hBr:∀ fp fo,C.reL fp fo B=B:=fun fp fo=>zF hB;push_cast;refine cl hat ?_;push_cast;refine zoC [] (Gs (zI w.kept) qf zw (by omega)) (by decide) (by simp) (by push_cast) (by push_cast) (fun r bx' m hp=>?_);obtain ⟨rfl,⟨hne,c,h1,h2,rfl,rfl⟩ | ⟨he,⟨rfl,rfl⟩ | ⟨rfl,rfl⟩⟩⟩:=hp
 ·have hbl:=JX qf h1;have hre:∀ fp fo,C.reL fp fo (qF 4 (zI w.kept) c)=qF 4 (zI w.kept) c:=fun fp fo=>zF (zH zw);have hpos:=WI.2 hne;have hre2:∀ fp fo c,C.reL fp fo (qF 4 (zI (qw k w.kept)) c)=qF 4 (zI (qw k w.kept)) c:=fun fp fo c=>zF (zH zw);push_cast [hre,hBr];refine jI [5] [0] (U3 (e:=105) (zI w.kept) (Jg k) (qx j4 zL.slot k.slot w.kept) c qf rfl zw rfl (by omega) (by omega) h1 h2) rfl (by decide) (by decide) (by simp) (by push_cast [hBr]) (by push_cast [hre,hBr]) (fun r bx' m hp=>?_);rw[←hset]at hp;obtain ⟨rfl,c',g1,g2,⟨rfl,rfl⟩ | ⟨rfl,rfl⟩⟩:=hp
  ·push_cast [hre2,hre,hBr];refine ⟨_,_,0,⟨⟨rfl,c',[[]],.inr (.inl ⟨[],rfl,rfl⟩),g1,g2,rfl,rfl⟩,by simp⟩,[],rfl,rfl,?_,by push_cast [ze,zd,CLe,zh]⟩;push_cast [ze,zd,CLe,zh];exact ⟨z6 hB,z6 (zH zw)⟩
  ·have hra:∀ fp fo,C.reL fp fo (List.replicate (c*4) .any)=List.replicate (c*4) .any:=fun fp fo=>zF (by simp[OL,C.stayB]);push_cast [hre2,hre,hra,hBr];refine ⟨_,_,0,⟨⟨rfl,c',[[],List.replicate (c*4) .any],.inr (.inr ⟨[],_,rfl,rfl,by simp[OL,C.stayB]⟩),g1,g2,rfl,rfl⟩,by simp⟩,[],rfl,rfl,?_,by push_cast [ze,zd,CLe,zh]⟩;push_cast [ze,zd,CLe,zh];exact ⟨z6 hB,z6 (by simp[OL,C.stayB]),z6 (zH zw)⟩
 ·have he:w.kept = []:=by simpa using he
  have hr0:qx j4 zL.slot k.slot w.kept=0:=by rw[he];rfl
  have hs1:qw k w.kept = [k]:=by rw[he];rfl
  push_cast [hr0];refine jI [] [0] (zbd (e:=105) (Jg k) rfl rfl) rfl (by decide) (by decide) (by simp) (by push_cast) (by push_cast) (fun r bx' m hp=>?_);obtain ⟨rfl,c,g1,g2,rfl,rfl⟩:=hp;have hre:∀ fp fo,C.reL fp fo (qF 4 [Jg k] c)=qF 4 [Jg k] c:=fun fp fo=>zF (zH (zw (ks:=[k])));push_cast [hre,hBr];refine ⟨zqk w (.bs 4 0 4 1 c) (.bs 0 0 6 pn pc),B :: [.any,.any,.any,.any,.any,.any] :: [.any,.any,.any,.any] :: [.any,.any,.any,.any,.any,.any] :: ([]++[qF 4 [Jg k] c]),0,⟨⟨rfl,c,[],.inl rfl,by rw[hs1];exact g1,g2,by rw[hs1];rfl,by rw[hs1];rfl⟩,by simp⟩,[],rfl,rfl,?_,by push_cast [ze,zd,CLe,zh]⟩;push_cast [ze,zd,CLe,zh];exact ⟨z6 hB,z6 (zH (zw (ks:=[k])))⟩
 ·have he:w.kept = []:=by simpa using he
  have hr0:qx j4 zL.slot k.slot w.kept=0:=by rw[he];rfl
  have hs1:qw k w.kept = [k]:=by rw[he];rfl
  push_cast [hr0];refine jI [4] [0] (U3 (e:=105) [] (Jg k) 0 0 (fun r hr=>by cases hr) rfl (fun r hr=>by cases hr) rfl (by simp) (by simp) (by simp) (by simp)) rfl (by decide) (by decide) (by simp) (by push_cast) (by push_cast [qF]) (fun r bx' m hp=>?_);obtain ⟨rfl,c,g1,g2,hp⟩:=hp;have hre:∀ fp fo,C.reL fp fo (qF 4 [Jg k] c)=qF 4 [Jg k] c:=fun fp fo=>zF (zH (zw (ks:=[k])));rcases hp with ⟨rfl,rfl⟩ | ⟨rfl,rfl⟩
  ·push_cast [hre,hBr];refine ⟨zqk w (.bs 4 0 4 1 c) (.bs 0 0 6 pn pc),B :: [.any,.any,.any,.any,.any,.any] :: [.any,.any,.any,.any] :: [.any,.any,.any,.any,.any,.any] :: ([]++[qF 4 [Jg k] c]),0,⟨⟨rfl,c,[],.inl rfl,by rw[hs1];exact g1,g2,by rw[hs1];rfl,by rw[hs1];rfl⟩,by simp⟩,[],rfl,rfl,?_,by push_cast [ze,zd,CLe,zh]⟩;push_cast [ze,zd,CLe,zh];exact ⟨z6 hB,z6 (zH (zw (ks:=[k])))⟩
  ·push_cast [hre,hBr];refine ⟨zqk w (.bs 5 0 4 1 c) (.bs 0 0 6 pn pc),B :: [.any,.any,.any,.any,.any,.any] :: [.any,.any,.any,.any] :: [.any,.any,.any,.any,.any,.any] :: ([[]]++[qF 4 [Jg k] c]),0,⟨⟨rfl,c,[[]],.inr (.inl ⟨[],rfl,rfl⟩),by rw[hs1];exact g1,g2,by rw[hs1];rfl,by rw[hs1];rfl⟩,by simp⟩,[],rfl,rfl,?_,by push_cast [ze,zd,CLe,zh]⟩;push_cast [ze,zd,CLe,zh];exact ⟨z6 hB,z6 (zH (zw (ks:=[k])))⟩
end
end
section
open CA CB
open Go.RowKit
theorem jy {bx:List (List C)} {a b:Nat×TypeId×Nat×List (List C)×Nat} (h1:zcf [a] bx) (h2:zcf [b] bx) (hne:a.1≠b.1):zcf [a,b] bx:=⟨by simp[hne],fun x hx=>by
 rcases WF.1 hx with rfl | hx
 ·exact h1.2 _ Wk
 ·exact h2.2 _ hx⟩
theorem GG (hf:FsI f) {s:zB} (hs:zm f s):(zk f s).xs.length<=f.xs.length:=by
 have hi:=zm.ino hf hs;have hl:=qV (F:=zg s.name) hf.rises hs.has;unfold zk;split
 ·show (zY _ _).length<=_;exact WJ Ve (by rw[hl];exact Wc _)
 ·show (qd _ _).length<=_;rw[Jy (show zW (qe s.dir (zg s.name) f.xs) from zO hf.rises) ?_,hl]
  ·exact Wc _
  ·show zl (zf s.ino f.xs).ino (qe _ _ _)=true;rw[(zj hi).2.2,zM hs.has];exact hi
theorem zmk (h:zW xs):qQ j4 zn.ino xs:=List.Pairwise.imp (fun {a b} h=>by show decide (a.ino<b.ino)=true;exact Wm h) h
theorem zmb (x:zn):∀ xs:List zn,Z7 x xs=YY j4 zn.ino x xs
 | []=>rfl
 | y :: r=>by
  unfold Z7 YY;rw[zmb x r];have e:j4.lt x.ino y.ino=decide (x.ino<y.ino):=rfl;rw[e];by_cases h:x.ino<y.ino
  ·rw[if_pos h,if_pos (Wm h)]
  ·rw[if_neg h,if_neg (by simpa using h)]
theorem zoS (hR:zW xs) (h:∀ y∈xs,y.ino≠x.ino):qd x xs=xs.take (qx j4 zn.ino x.ino xs)++x :: xs.drop (qx j4 zn.ino x.ino xs):=by
 have h1:zY x.ino xs=xs:=Bo.2 fun y hy=>by simpa using h y hy
 have h2:Js zn.ino x.ino xs=false:=by
  unfold Js;rw[W5];intro y hy;simpa using h y hy
 obtain ⟨_,_,_,h4⟩:=UP (o:=j4) x.ino (zmk hR);unfold qd;rw[h1,zmb];exact (h4 h2).2.2 x rfl
theorem zjj (w:qj) (hw:Zm w) (hs:FsS w.fs) (hk:w.kept.length<=90000) (hp:w.pool.length<=90000) (n:Int) (s:zB) (hsp:zm w.fs s) (he:(zf s.ino w.fs.xs).es = []):Fun Tryz.prog G0 216 [jP w,.sc (.int .i64 n),.agg (Ye s)] (.tup [jP (qL w n s).1,.sc (.int .i64 (qL w n s).2)]) 0:=by
 have hf:=hw.fs;have hlen:=hs.len;have hino:=hsp.ino hf;have h1:=ziy (G:=G0) w n (by omega) hw.kept;cases hh:Vd n w.kept with
 | true =>
  have e:qL w n s=(w,13):=by unfold qL;rw[hh];rfl
  rw[hh]at h1;refine fof (fun i=>if i=10 then Qd [(0,.pure),(1,.pure),(2,.pure),(4,.pure),(5,.pure),(6,.pure),(3,.flt [3,4,5]),(7,.bar),(8,.pure),(9,.pure),(10,.bar)] else []) Tryz.func216 ?_;dsimp only[Tryz.f216];push_cast;refine cl h1 ?_;push_cast;exact dn (by push_cast [ze,zd,CLe,zh,e])
 | false =>
  rw[hh]at h1;have hg:=jn (G:=G0) w.fs s.ino (by omega) hf.rises;rw[hino]at hg;have hne:s.dir≠s.ino:=fun e=>by
   have:=hsp.there;rw[e,he]at this;cases this
  have hu:=zb5 w.fs hf hs s hsp hne;have hul:=GG hf hsp;have hg2:=jn (G:=G0) (zk w.fs s) s.ino (by omega) (HO hf hsp he).rises;rw[Q7 hsp.has hino]at hg2;by_cases hz:(zf s.ino w.fs.xs).links=1
  ·rw[if_pos (show (zf s.ino w.fs.xs).links-1=0 by omega)]at hg2;simp only[decide_true,Av,W8]at hg2;have hxi:=(zj hino).2.2;have hno:∀ y∈w.pool,y.ino≠s.ino:=fun y hy e=>by
    have:=(hw.apart y hy).1;rw[e,hino]at this;cases this
   have hnk:Js zn.ino s.ino w.pool=false:=by
    unfold Js;rw[W5];intro y hy;simpa using hno y hy
   have e:qL w n s=(⟨zk w.fs s,qw ⟨n,s.ino,false,[]⟩ w.kept,qd { zf s.ino w.fs.xs with links:=0,parent:=0 } w.pool⟩,0):=by unfold qL;rw[hh,if_pos hz];rfl
   have hset:=zoS (x:={ zf s.ino w.fs.xs with links:=0,parent:=0 }) hw.pool (fun y hy=>by rw[show ({ zf s.ino w.fs.xs with links:=0,parent:=0 }:zn).ino=(zf s.ino w.fs.xs).ino from rfl,hxi];exact hno y hy);rw[show ({ zf s.ino w.fs.xs with links:=0,parent:=0 }:zn).ino=s.ino from hxi]at hset;have hat:=zns (G:=G0) w.pool s.ino (by omega) (zmk hw.pool);rw[hnk]at hat;have hll:(zr w.pool).length=w.pool.length:=We ..;have hrl:=VC (o:=j4) (key:=zn.ino) s.ino w.pool;generalize qx j4 zn.ino s.ino w.pool=r at *;generalize hpl:qd { zf s.ino w.fs.xs with links:=0,parent:=0 } w.pool=pl at *;have hpc:zr pl=(zr w.pool).take r++[.sc (.int .i64 s.ino),.sc (.int .i64 (zf s.ino w.fs.xs).kind),.sc (.int .i64 0),.str (zf s.ino w.fs.xs).data,.sc (.int .i64 0),.sl 2 (zJ (zf s.ino w.fs.xs).es)] :: (zr w.pool).drop r:=by rw[hset];simp[hxi]
   have hpl1:(zr pl).length=(zr w.pool).length+1:=by rw[hpc];simp;omega
   have hre2:∀ fp fo c,C.reL fp fo (qF 6 (zr pl) c)=qF 6 (zr pl) c:=fun fp fo c=>zF (zH zA);have hre4:∀ fp fo c,C.reL fp fo (qF 4 (zI (qw ⟨n,s.ino,false,[]⟩ w.kept)) c)=qF 4 (zI (qw ⟨n,s.ino,false,[]⟩ w.kept)) c:=fun fp fo c=>zF (zH zw);have hkp:0<(zI (qw ⟨n,s.ino,false,[]⟩ w.kept)).length:=by rw[We,qw,U1];omega
   refine foF (fun i=>if i=10 then Qd [(0,.pure),(1,.pure),(2,.pure),(4,.pure),(5,.pure),(6,.pure),(3,.flt [3,4,5]),(7,.bar),(8,.pure),(9,.pure),(10,.bar)] else []) Tryz.func216 ?_;dsimp only[Tryz.f216];push_cast;refine cl h1 ?_;push_cast;refine cl hg ?_;push_cast;refine cl hu ?_;push_cast;refine cl hg2 ?_;push_cast;rw[hxi];refine cl hat ?_;push_cast;refine zoC [] (Ua (zr w.pool) qc zA (by omega)) (by decide) (by simp) (by push_cast) (by push_cast) (fun r0 bx' m hp=>?_);obtain ⟨rfl,⟨hne',c,c1,c2,rfl,rfl⟩ | ⟨hnil,⟨rfl,rfl⟩ | ⟨rfl,rfl⟩⟩⟩:=hp
   ·have hbl:=JX qc c1;have hre:∀ fp fo,C.reL fp fo (qF 6 (zr w.pool) c)=qF 6 (zr w.pool) c:=fun fp fo=>zF (zH zA);push_cast [hre];refine jI [7] [0] (UU (e:=64) (zr w.pool) [.sc (.int .i64 s.ino),.sc (.int .i64 (zf s.ino w.fs.xs).kind),.sc (.int .i64 0),.str (zf s.ino w.fs.xs).data,.sc (.int .i64 0),.sl 2 (zJ (zf s.ino w.fs.xs).es)] r c qc rfl zA rfl (by omega) (by omega) c1 c2) rfl (by decide) (by decide) (by simp) (by push_cast) (by push_cast [hre]) (fun r1 bx' m hp=>?_);rw[←hpc]at hp;obtain ⟨rfl,c',g1,g2,⟨rfl,rfl⟩ | ⟨rfl,rfl⟩⟩:=hp
    ·push_cast [hre2,hre];refine jI [7] [] (HL (G:=G0) { w with fs:=zk w.fs s } ⟨n,s.ino,false,[]⟩ (qF 6 (zr pl) c') (zr pl).length c' (zH zA) hk hw.kept hh) rfl (by decide) (by decide) (by simp) (by push_cast) (by push_cast [hre2]) (fun r2 bx' m hp=>?_);obtain ⟨rfl,c3,Ls,hLs,k1,k2,rfl,rfl⟩:=hp;rcases hLs with rfl | ⟨X,rfl,hX⟩ | ⟨X,Y,rfl,hX,hY⟩
     ·push_cast [hre2,hre4];exact ⟨[(11,105,4,zI (qw ⟨n,s.ino,false,[]⟩ w.kept),c3),(7,64,6,zr pl,c')],[],jy (zC rfl (WM hkp k1) k1 k2 qf zw) (zC rfl (by omega) g1 g2 qc zA) (show (11:Nat)≠7 by decide),rfl,rfl,by push_cast [ze,zd,CLe,zh,e,AK,Oh]⟩
     ·have hXr:∀ fp fo,C.reL fp fo X=X:=fun fp fo=>zF hX;push_cast [hre2,hre4,hXr];exact ⟨[(12,105,4,zI (qw ⟨n,s.ino,false,[]⟩ w.kept),c3),(7,64,6,zr pl,c')],[],jy (zC rfl (WM hkp k1) k1 k2 qf zw) (zC rfl (by omega) g1 g2 qc zA) (show (12:Nat)≠7 by decide),rfl,rfl,by push_cast [ze,zd,CLe,zh,e,AK,Oh]⟩
     ·have hXr:∀ fp fo,C.reL fp fo X=X:=fun fp fo=>zF hX;have hYr:∀ fp fo,C.reL fp fo Y=Y:=fun fp fo=>zF hY;push_cast [hre2,hre4,hXr,hYr];exact ⟨[(13,105,4,zI (qw ⟨n,s.ino,false,[]⟩ w.kept),c3),(7,64,6,zr pl,c')],[],jy (zC rfl (WM hkp k1) k1 k2 qf zw) (zC rfl (by omega) g1 g2 qc zA) (show (13:Nat)≠7 by decide),rfl,rfl,by push_cast [ze,zd,CLe,zh,e,AK,Oh]⟩
    ·have hra:∀ fp fo,C.reL fp fo (List.replicate (c*6) .any)=List.replicate (c*6) .any:=fun fp fo=>zF (by simp[OL,C.stayB]);push_cast [hre2,hre,hra];refine jI [8] [] (HL (G:=G0) { w with fs:=zk w.fs s } ⟨n,s.ino,false,[]⟩ (qF 6 (zr pl) c') (zr pl).length c' (zH zA) hk hw.kept hh) rfl (by decide) (by decide) (by simp) (by push_cast) (by push_cast [hre2,hra]) (fun r2 bx' m hp=>?_);obtain ⟨rfl,c3,Ls,hLs,k1,k2,rfl,rfl⟩:=hp;rcases hLs with rfl | ⟨X,rfl,hX⟩ | ⟨X,Y,rfl,hX,hY⟩
     ·push_cast [hre2,hre4,hra];exact ⟨[(12,105,4,zI (qw ⟨n,s.ino,false,[]⟩ w.kept),c3),(8,64,6,zr pl,c')],[],jy (zC rfl (WM hkp k1) k1 k2 qf zw) (zC rfl (by omega) g1 g2 qc zA) (show (12:Nat)≠8 by decide),rfl,rfl,by push_cast [ze,zd,CLe,zh,e,AK,Oh]⟩
     ·have hXr:∀ fp fo,C.reL fp fo X=X:=fun fp fo=>zF hX;push_cast [hre2,hre4,hra,hXr];exact ⟨[(13,105,4,zI (qw ⟨n,s.ino,false,[]⟩ w.kept),c3),(8,64,6,zr pl,c')],[],jy (zC rfl (WM hkp k1) k1 k2 qf zw) (zC rfl (by omega) g1 g2 qc zA) (show (13:Nat)≠8 by decide),rfl,rfl,by push_cast [ze,zd,CLe,zh,e,AK,Oh]⟩
     ·have hXr:∀ fp fo,C.reL fp fo X=X:=fun fp fo=>zF hX;have hYr:∀ fp fo,C.reL fp fo Y=Y:=fun fp fo=>zF hY;push_cast [hre2,hre4,hra,hXr,hYr];exact ⟨[(14,105,4,zI (qw ⟨n,s.ino,false,[]⟩ w.kept),c3),(8,64,6,zr pl,c')],[],jy (zC rfl (WM hkp k1) k1 k2 qf zw) (zC rfl (by omega) g1 g2 qc zA) (show (14:Nat)≠8 by decide),rfl,rfl,by push_cast [ze,zd,CLe,zh,e,AK,Oh]⟩
   ·have hpe:w.pool = []:=by simpa using hnil
    have hr0:r=0:=by rw[hpe]at hrl;exact Nat.le_zero.1 hrl
    subst hr0;have hq:zr pl = [[.sc (.int .i64 s.ino),.sc (.int .i64 (zf s.ino w.fs.xs).kind),.sc (.int .i64 0),.str (zf s.ino w.fs.xs).data,.sc (.int .i64 0),.sl 2 (zJ (zf s.ino w.fs.xs).es)]]:=by rw[hpc,hpe];rfl
    push_cast;refine jI [] [0] (zaM (e:=64) [.sc (.int .i64 s.ino),.sc (.int .i64 (zf s.ino w.fs.xs).kind),.sc (.int .i64 0),.str (zf s.ino w.fs.xs).data,.sc (.int .i64 0),.sl 2 (zJ (zf s.ino w.fs.xs).es)] rfl rfl) rfl (by decide) (by decide) (by simp) (by push_cast) (by push_cast) (fun r1 bx' m hp=>?_);have hp:m=0/\∃ c,(zr pl).length<=c/\c<=9223372036854775807/\r1 = .bs 0 0 6 (zr pl).length c/\bx' = [qF 6 (zr pl) c]:=by rw[hq];exact hp
    obtain ⟨rfl,c',g1,g2,rfl,rfl⟩:=hp;push_cast [hre2];refine jI [6] [] (HL (G:=G0) { w with fs:=zk w.fs s } ⟨n,s.ino,false,[]⟩ (qF 6 (zr pl) c') (zr pl).length c' (zH zA) hk hw.kept hh) rfl (by decide) (by decide) (by simp) (by push_cast) (by push_cast [hre2]) (fun r2 bx' m hp=>?_);obtain ⟨rfl,c3,Ls,hLs,k1,k2,rfl,rfl⟩:=hp;rcases hLs with rfl | ⟨X,rfl,hX⟩ | ⟨X,Y,rfl,hX,hY⟩
    ·push_cast [hre2,hre4];exact ⟨[(10,105,4,zI (qw ⟨n,s.ino,false,[]⟩ w.kept),c3),(6,64,6,zr pl,c')],[],jy (zC rfl (WM hkp k1) k1 k2 qf zw) (zC rfl (by omega) g1 g2 qc zA) (show (10:Nat)≠6 by decide),rfl,rfl,by push_cast [ze,zd,CLe,zh,e,AK,Oh]⟩
    ·have hXr:∀ fp fo,C.reL fp fo X=X:=fun fp fo=>zF hX;push_cast [hre2,hre4,hXr];exact ⟨[(11,105,4,zI (qw ⟨n,s.ino,false,[]⟩ w.kept),c3),(6,64,6,zr pl,c')],[],jy (zC rfl (WM hkp k1) k1 k2 qf zw) (zC rfl (by omega) g1 g2 qc zA) (show (11:Nat)≠6 by decide),rfl,rfl,by push_cast [ze,zd,CLe,zh,e,AK,Oh]⟩
    ·have hXr:∀ fp fo,C.reL fp fo X=X:=fun fp fo=>zF hX;have hYr:∀ fp fo,C.reL fp fo Y=Y:=fun fp fo=>zF hY;push_cast [hre2,hre4,hXr,hYr];exact ⟨[(12,105,4,zI (qw ⟨n,s.ino,false,[]⟩ w.kept),c3),(6,64,6,zr pl,c')],[],jy (zC rfl (WM hkp k1) k1 k2 qf zw) (zC rfl (by omega) g1 g2 qc zA) (show (12:Nat)≠6 by decide),rfl,rfl,by push_cast [ze,zd,CLe,zh,e,AK,Oh]⟩
   ·have hpe:w.pool = []:=by simpa using hnil
    have hr0:r=0:=by rw[hpe]at hrl;exact Nat.le_zero.1 hrl
    subst hr0;have hq:zr pl = [[.sc (.int .i64 s.ino),.sc (.int .i64 (zf s.ino w.fs.xs).kind),.sc (.int .i64 0),.str (zf s.ino w.fs.xs).data,.sc (.int .i64 0),.sl 2 (zJ (zf s.ino w.fs.xs).es)]]:=by rw[hpc,hpe];rfl
    push_cast;refine jI [6] [0] (UU (e:=64) [] [.sc (.int .i64 s.ino),.sc (.int .i64 (zf s.ino w.fs.xs).kind),.sc (.int .i64 0),.str (zf s.ino w.fs.xs).data,.sc (.int .i64 0),.sl 2 (zJ (zf s.ino w.fs.xs).es)] 0 0 (fun r hr=>by cases hr) rfl (fun r hr=>by cases hr) rfl (by simp) (by simp) (by simp) (by simp)) rfl (by decide) (by decide) (by simp) (by push_cast) (by push_cast [qF]) (fun r1 bx' m hp=>?_);have hp:zsE 6 (0*6) (zr pl) r1 bx' m:=by rw[hq];exact hp
    obtain ⟨rfl,c',g1,g2,⟨rfl,rfl⟩ | ⟨rfl,rfl⟩⟩:=hp
    ·push_cast [hre2];refine jI [6] [] (HL (G:=G0) { w with fs:=zk w.fs s } ⟨n,s.ino,false,[]⟩ (qF 6 (zr pl) c') (zr pl).length c' (zH zA) hk hw.kept hh) rfl (by decide) (by decide) (by simp) (by push_cast) (by push_cast [hre2]) (fun r2 bx' m hp=>?_);obtain ⟨rfl,c3,Ls,hLs,k1,k2,rfl,rfl⟩:=hp;rcases hLs with rfl | ⟨X,rfl,hX⟩ | ⟨X,Y,rfl,hX,hY⟩
     ·push_cast [hre2,hre4];exact ⟨[(10,105,4,zI (qw ⟨n,s.ino,false,[]⟩ w.kept),c3),(6,64,6,zr pl,c')],[],jy (zC rfl (WM hkp k1) k1 k2 qf zw) (zC rfl (by omega) g1 g2 qc zA) (show (10:Nat)≠6 by decide),rfl,rfl,by push_cast [ze,zd,CLe,zh,e,AK,Oh]⟩
     ·have hXr:∀ fp fo,C.reL fp fo X=X:=fun fp fo=>zF hX;push_cast [hre2,hre4,hXr];exact ⟨[(11,105,4,zI (qw ⟨n,s.ino,false,[]⟩ w.kept),c3),(6,64,6,zr pl,c')],[],jy (zC rfl (WM hkp k1) k1 k2 qf zw) (zC rfl (by omega) g1 g2 qc zA) (show (11:Nat)≠6 by decide),rfl,rfl,by push_cast [ze,zd,CLe,zh,e,AK,Oh]⟩
     ·have hXr:∀ fp fo,C.reL fp fo X=X:=fun fp fo=>zF hX;have hYr:∀ fp fo,C.reL fp fo Y=Y:=fun fp fo=>zF hY;push_cast [hre2,hre4,hXr,hYr];exact ⟨[(12,105,4,zI (qw ⟨n,s.ino,false,[]⟩ w.kept),c3),(6,64,6,zr pl,c')],[],jy (zC rfl (WM hkp k1) k1 k2 qf zw) (zC rfl (by omega) g1 g2 qc zA) (show (12:Nat)≠6 by decide),rfl,rfl,by push_cast [ze,zd,CLe,zh,e,AK,Oh]⟩
    ·push_cast [hre2];refine jI [7] [] (HL (G:=G0) { w with fs:=zk w.fs s } ⟨n,s.ino,false,[]⟩ (qF 6 (zr pl) c') (zr pl).length c' (zH zA) hk hw.kept hh) rfl (by decide) (by decide) (by simp) (by push_cast) (by push_cast [hre2]) (fun r2 bx' m hp=>?_);obtain ⟨rfl,c3,Ls,hLs,k1,k2,rfl,rfl⟩:=hp;rcases hLs with rfl | ⟨X,rfl,hX⟩ | ⟨X,Y,rfl,hX,hY⟩
     ·push_cast [hre2,hre4];exact ⟨[(11,105,4,zI (qw ⟨n,s.ino,false,[]⟩ w.kept),c3),(7,64,6,zr pl,c')],[],jy (zC rfl (WM hkp k1) k1 k2 qf zw) (zC rfl (by omega) g1 g2 qc zA) (show (11:Nat)≠7 by decide),rfl,rfl,by push_cast [ze,zd,CLe,zh,e,AK,Oh]⟩
     ·have hXr:∀ fp fo,C.reL fp fo X=X:=fun fp fo=>zF hX;push_cast [hre2,hre4,hXr];exact ⟨[(12,105,4,zI (qw ⟨n,s.ino,false,[]⟩ w.kept),c3),(7,64,6,zr pl,c')],[],jy (zC rfl (WM hkp k1) k1 k2 qf zw) (zC rfl (by omega) g1 g2 qc zA) (show (12:Nat)≠7 by decide),rfl,rfl,by push_cast [ze,zd,CLe,zh,e,AK,Oh]⟩
     ·have hXr:∀ fp fo,C.reL fp fo X=X:=fun fp fo=>zF hX;have hYr:∀ fp fo,C.reL fp fo Y=Y:=fun fp fo=>zF hY;push_cast [hre2,hre4,hXr,hYr];exact ⟨[(13,105,4,zI (qw ⟨n,s.ino,false,[]⟩ w.kept),c3),(7,64,6,zr pl,c')],[],jy (zC rfl (WM hkp k1) k1 k2 qf zw) (zC rfl (by omega) g1 g2 qc zA) (show (13:Nat)≠7 by decide),rfl,rfl,by push_cast [ze,zd,CLe,zh,e,AK,Oh]⟩
  ·have hz2:¬(zf s.ino w.fs.xs).links-1=0:=by omega
   rw[if_neg hz2,hino]at hg2;have e:qL w n s=({ w with fs:=zk w.fs s,kept:=qw ⟨n,s.ino,false,[]⟩ w.kept },0):=by unfold qL;rw[hh,if_neg hz];rfl
   have hwi:=zhl (G:=G0) { w with fs:=zk w.fs s } ⟨n,s.ino,false,[]⟩ hk hw.kept hh;refine fof (fun i=>if i=10 then Qd [(0,.pure),(1,.pure),(2,.pure),(4,.pure),(5,.pure),(6,.pure),(3,.flt [3,4,5]),(7,.bar),(8,.pure),(9,.pure),(10,.bar)] else []) Tryz.func216 ?_;dsimp only[Tryz.f216];push_cast;refine cl h1 ?_;push_cast;refine cl hg ?_;push_cast;refine cl hu ?_;push_cast;refine cl hg2 ?_;push_cast;refine cl hwi ?_;push_cast;exact dn (by push_cast [ze,zd,CLe,zh,e])
end
section
open CA CB
open Go.RowKit
end
section
open CA CB
open Go.RowKit
theorem zrR (hf:FsI f) (p:Lz):(atV f p).1.ino≠0->zl (atV f p).1.ino f.xs=true:=by
 unfold atV;split
 ·exact uP hf (zp p) ⟨0,[],1⟩ fun _=>hf.root
 ·intro h;exact absurd rfl h
theorem ze9 (hf:FsI f) (p:Lz):zl (atV f p).1.ino f.xs = !decide ((atV f p).1.ino=0):=by
 by_cases h:(atV f p).1.ino=0
 ·rw[Wm h];cases hh:zl (atV f p).1.ino f.xs with
  | false=>rfl
  | true=>exact absurd h (XY hf hh)
 ·rw[zrR hf p h,Wj h];rfl
theorem zkN (f:FsV) (hf:FsI f) (hs:FsS f) (p:Lz) (hp:p.length<=1000000):Fun Tryz.prog G0 238 [.agg (fsC f),.str p] (.tup [.agg (Ye (isV f p false).1),.sc (.int .i64 (isV f p false).2.2)]) 0:=by
 have h1:=Mp f hf hs p hp;have hi:=ze9 hf p;have e1:(isV f p false).1=(atV f p).1:=rfl;by_cases h0:(atV f p).2=0
 ·have h0':=eq_true h0;by_cases hz:(atV f p).1.ino=0
  ·have hz':=eq_true hz;rw[Wm hz]at hi;have e3:(isV f p false).2.2=0:=by unfold isV;simp[h0,hi]
   refine fon Tryz.func238 ?_;dsimp only[Tryz.f238];push_cast;refine cl h1 ?_;push_cast [h0',hz'];exact dn (by push_cast [ze,zd,CLe,zh,e1,e3])
  ·have hz':=Wy hz;rw[Wj hz]at hi;have e3:(isV f p false).2.2=2:=by unfold isV;simp[h0,hi]
   refine fon Tryz.func238 ?_;dsimp only[Tryz.f238];push_cast;refine cl h1 ?_;push_cast [h0',hz'];exact dn (by push_cast [ze,zd,CLe,zh,e1,e3])
 ·have h0':=Wy h0;have e3:(isV f p false).2.2=(atV f p).2:=by unfold isV;simp[h0]
  refine fon Tryz.func238 ?_;dsimp only[Tryz.f238];push_cast;refine cl h1 ?_;push_cast [h0'];exact dn (by push_cast [ze,zd,CLe,zh,e1,e3])
structure v6 (w:qj):Prop where
 fs:FsS w.fs
 next:zsN w.fs
 kept:w.kept.length<=10000
 pool:w.pool.length<=10000
end
section
open CA CB
open Go.RowKit
theorem zeC (hf:FsI f) {p:Lz} (h:(isV f p false).2.2=0):(isV f p false).1.ino=0:=by
 have hz:=V2 h;have hi:=ze9 hf p;unfold isV at h ⊢;simp only[hz]at h ⊢;by_cases h0:(atV f p).1.ino=0
 ·exact h0
 ·rw[Wj h0]at hi;rw[hi]at h;simp at h
theorem zfj (w:qj) (hw:Zm w) (hs:v6 w) (o:OpV) (ho:short o) (pa:z8 o.a=true) (pb:z8 o.b=true):Fun Tryz.prog G0 212 [jP w,.agg (opL o)] (.tup [jP (J1 w o).1,.sc (.int .i64 (J1 w o).2)]) 0:=by
 have h1:=xN w.fs hw.fs hs.fs o.a ho.1;have h2:=zkN w.fs hw.fs hs.fs o.b ho.2.1;unfold opL;by_cases h0:(isV w.fs o.a true).2.2=0
 ·have h0':=eq_true h0;obtain ⟨t1,t2⟩:=j5 hw.fs pa h0;by_cases hb:(isV w.fs o.b false).2.2=0
  ·have hb':=eq_true hb;have hfree:=Yz hw.fs pb hb;have hn:=zkF w.fs hw.fs hs.fs (isV w.fs o.a true).1 (isV w.fs o.b false).1 t1 hfree (zeC hw.fs hb);have e:J1 w o=({ w with fs:=qn w.fs (isV w.fs o.a true).1 (isV w.fs o.b false).1 },0):=by unfold J1;simp[h0,hb]
   refine fon Tryz.func212 ?_;dsimp only[Tryz.f212];push_cast;refine cl h1 ?_;push_cast [h0'];refine cl h2 ?_;push_cast [hb'];refine cl hn ?_;push_cast;exact dn (by push_cast [ze,zd,CLe,zh,e,hb])
  ·have hb':=Wy hb;have e:J1 w o=(w,(isV w.fs o.b false).2.2):=by unfold J1;simp[h0,hb]
   refine fon Tryz.func212 ?_;dsimp only[Tryz.f212];push_cast;refine cl h1 ?_;push_cast [h0'];refine cl h2 ?_;push_cast [hb'];exact dn (by push_cast [ze,zd,CLe,zh,e])
 ·have h0':=Wy h0;have e:J1 w o=(w,(isV w.fs o.a true).2.2):=by unfold J1;simp[h0]
  refine fon Tryz.func212 ?_;dsimp only[Tryz.f212];push_cast;refine cl h1 ?_;push_cast [h0'];exact dn (by push_cast [ze,zd,CLe,zh,e])
end
section
open CA CB
open Go.RowKit
theorem zcC (w:qj) (hw:Zm w) (hs:v6 w) (o:OpV) (s:zB) (hsp:zm w.fs s) (he:(zf s.ino w.fs.xs).es = []):Mw Tryz.prog G0 215 [.agg (Ye s),.ptr 0 0,.ptr 1 0] [Uc w,opL o] 0 (.tup [jP (qL w o.slot s).1,.sc (.int .i64 (qL w o.slot s).2)]) [Uc w,opL o] 0:=by
 have h:=zjj w hw hs.fs (by have:=hs.kept;omega) (by have:=hs.pool;omega) o.slot s hsp he;unfold opL;refine foB (fun _=>[]) Tryz.func215 ?_;dsimp only[Tryz.f215];push_cast;refine cl h ?_;push_cast;exact ⟨[],rfl,rfl,by push_cast [ze,zd,CLe,zh],by push_cast [ze,zd,CLe,zh]⟩
theorem zjc (w:qj) (hw:Zm w) (hs:v6 w) (o:OpV) (ho:short o) (pa:z8 o.a=true):Mw Tryz.prog G0 214 [jP w,.str o.a,.clo (.func 215) [] [.ptr 0 0,.ptr 1 0]] [Uc w,opL o] 0 (.tup [jP (qT w o).1,.sc (.int .i64 (qT w o).2)]) [Uc w,opL o] 0:=by
 have h1:=xN w.fs hw.fs hs.fs o.a ho.1;by_cases h0:(isV w.fs o.a true).2.2=0
 ·have h0':=eq_true h0;obtain ⟨t1,t2⟩:=j5 hw.fs pa h0;by_cases hes:(isV w.fs o.a true).2.1.es = []
  ·have hel:(0<(zJ (isV w.fs o.a true).2.1.es).length)=False:=Wy (by rw[hes];simp);have he:(zf (isV w.fs o.a true).1.ino w.fs.xs).es = []:=by rw[←t2];exact hes
   have hd:=zcC w hw hs o (isV w.fs o.a true).1 t1 he;have e:qT w o=qL w o.slot (isV w.fs o.a true).1:=by unfold qT;simp[h0,hes]
   unfold opL at hd ⊢;refine foB (fun _=>[]) Tryz.func214 ?_;dsimp only[Tryz.f214];push_cast;refine cl h1 ?_;push_cast [h0',hel];refine VS [0,1] [] hd rfl (by decide) (by decide) (by simp) (by push_cast) (by push_cast) ?_;push_cast;exact ⟨[],rfl,rfl,by push_cast [ze,zd,CLe,zh],by push_cast [ze,zd,CLe,zh,e]⟩
  ·have hel:(0<(zJ (isV w.fs o.a true).2.1.es).length)=True:=eq_true (by rw[We];exact WI.2 hes);have e:qT w o=(w,5):=by unfold qT;simp[h0,hes]
   unfold opL;refine foB (fun _=>[]) Tryz.func214 ?_;dsimp only[Tryz.f214];push_cast;refine cl h1 ?_;push_cast [h0',hel];exact ⟨[],rfl,rfl,by push_cast [ze,zd,CLe,zh],by push_cast [ze,zd,CLe,zh,e]⟩
 ·have h0':=Wy h0;have e:qT w o=(w,(isV w.fs o.a true).2.2):=by unfold qT;simp[h0]
  unfold opL;refine foB (fun _=>[]) Tryz.func214 ?_;dsimp only[Tryz.f214];push_cast;refine cl h1 ?_;push_cast [h0'];exact ⟨[],rfl,rfl,by push_cast [ze,zd,CLe,zh],by push_cast [ze,zd,CLe,zh,e]⟩
theorem zhF (w:qj) (hw:Zm w) (hs:v6 w) (o:OpV) (ho:short o) (pa:z8 o.a=true):Fun Tryz.prog G0 213 [jP w,.agg (opL o)] (.tup [jP (qT w o).1,.sc (.int .i64 (qT w o).2)]) 0:=by
 have h:=zjc w hw hs o ho pa;unfold opL at h ⊢;refine fon Tryz.func213 ?_;dsimp only[Tryz.f213];push_cast;refine VS [0,1] [] h rfl (by decide) (by decide) (by simp) (by push_cast) (by push_cast) ?_;push_cast;exact dn
end
section
open Go.RowKit
section
variable {G:zu}
abbrev zrQ:List C:=[.clo (.func 206) [] [],.clo (.func 208) [] [],.clo (.func 209) [] [],.clo (.func 210) [] [],.clo (.func 211) [] [],.clo (.func 212) [] [],.clo (.func 213) [] [],.clo (.func 217) [] [],.clo (.func 220) [] [],.clo (.func 221) [] []]
theorem yq:Fun Tryz.prog G 171 [] (.mo 0 231 (.int .i64 [1,2,3,4,5,6,7,8,9,10]) zrQ) 1:=by
 refine fon Tryz.func171 ?_;dsimp only[Tryz.f171];push_cast [H1,HF,Ov,OB,Of,reduceIte,Int.reduceEq];exact ⟨[.inl 0],rfl,rfl,by push_cast [ze,zd,CLe,zh]⟩
end
end
section
open CA CB
open Go.RowKit
theorem Fun.g0 {G':zu} {f:FuncId} {r:C} {n:Nat} (h:Fun P G0 f args r n):Fun P G' f args r n:=⟨h.1,fun R vs hg hv=>h.2 R vs (uf R) hv⟩
end
section
open Go.RowKit
section
variable {G:zu}
theorem UI (o:OpV):Fun Tryz.prog G 128 [.agg (opL o)] (.sc (.bool (decide (o.kind=3∨o.kind=7)))) 0:=by
 unfold opL;by_cases h:o.kind=3
 ·have h':=eq_true h;refine fon Tryz.func128 ?_;dsimp only[Tryz.f128];push_cast [h'];exact dn (by push_cast [ze,zd,CLe,zh,h',true_or,decide_true])
 ·have h':=Wy h;refine fon Tryz.func128 ?_;dsimp only[Tryz.f128];push_cast [h'];exact dn (by push_cast [ze,zd,CLe,zh,h',false_or])
end
end
section
open Go.RowKit
abbrev zsV (d:zX):List C:=[.sc (.int .i64 d.w.fs.maxI),.sc (.int .i64 d.w.fs.maxB),.sc (.int .i64 d.w.fs.next),.sl 6 (zr d.w.fs.xs),.sl 4 (zI d.w.kept),.sl 6 (zr d.w.pool),.sl 5 (d.ops.map opL),.sl 1 (zV d.diags),.sc (.int .i64 d.status),.sc (.int .i64 d.slot)]
abbrev GJ (d:zX):C:=.agg (zsV d)
section
variable {G:zu}
end
end
section
open CA CB
open Go.RowKit
theorem G3 [DecidableEq κ] {key:α->κ} {n:κ} {xs:List α} {i:Nat} (h:i<xs.length) (h0:Js key n (xs.take i)=false) :
  (key xs[i]=n->qz key n xs=some xs[i])/\(key xs[i]≠n->Js key n (xs.take (i+1))=false):=by
 have e:xs=xs.take i++xs[i] :: xs.drop (i+1):=by rw[←Oe h,Od]
 refine ⟨fun hk=>?_,fun hk=>?_⟩
 ·have q:qz key n xs=qz key n (xs.take i++xs[i] :: xs.drop (i+1)):=Wu _ e;rw[q];unfold qz;unfold Js at h0;rw[W5]at h0;rw[List.find?_append,Be.2 fun x hx=>h0 x hx,Option.none_or,OW,Wm hk]
 ·unfold Js at h0 ⊢;rw[WQ,Wa h,By,h0];simp[hk]
theorem zaP [DecidableEq κ] {key:α->κ} {n:κ} {xs:List α} (h0:Js key n xs=false):qz key n xs=none:=by
 rw[qg]at h0;cases h:qz key n xs with
 | none=>rfl
 | some x=>rw[h]at h0;cases h0
theorem GN [DecidableEq κ] {key:α->κ} {n:κ} {xs:List α} {i:Nat} (h:i<xs.length) :
  jh key n (xs.take (i+1))=if key xs[i]=n then jh key n (xs.take i) else jh key n (xs.take i)++[xs[i]]:=by
 unfold jh;rw[WQ,Wa h,Oz];by_cases hk:key xs[i]=n<;>simp[hk]
theorem zi8 (a b:Lz):(Op.bytesLess a b||decide (a=b)) = !Op.bytesLess b a:=by
 cases h:Op.bytesLess b a with
 | true =>
  have h1:Op.bytesLess a b=false:=jF.asym h;have h2:a≠b:=fun e=>by rw[e,YD]at h;cases h
  rw[h1,Wj h2];rfl
 | false =>
  cases h1:Op.bytesLess a b with
  | true=>rfl
  | false=>rw[Wm (kr h1 h)];rfl
section
variable {G:zu}
theorem zgm (es:List zN) (n:Lz) (hl:es.length<=100000):Fun Tryz.prog G 51 [.sl 2 (zJ es),.str n] (.tup [.sc (.int .i64 (zT n es)),.sc (.bool (Yj n es))]) 0:=by
 have hll:(zJ es).length=es.length:=We ..;refine fon Tryz.func51 ?_;dsimp only[Tryz.f51];push_cast;refine loop (fun i:Nat=>⟨[(0,.sl 2 (zJ es)),(1,.str n),(6,.sc (.int .i64 i))],[],0,0⟩) (fun i=>i<=es.length/\Js zN.name n (es.take i)=false) (fun i=>es.length-i) 0 ⟨Wb _,rfl⟩ ?_ ?_
 ·exact wk
 ·rintro i ⟨h1,h2⟩;by_cases h:i<es.length
  ·have g1:=Jk es i h;obtain ⟨q1,q2⟩:=G3 h h2;by_cases he:es[i].name=n
   ·have q:=q1 he;have e1:Yj n es=true:=by unfold Yj;rw[qg,q];rfl
    have e2:zT n es=es[i].ino:=by unfold zT;rw[q]
    push_cast [hll,h,g1,he]
    repeat refine an ?_
    exact dn (by push_cast [ze,zd,CLe,zh,e1,e2])
   ·push_cast [hll,h,g1,he]
    repeat refine an ?_
    exact ⟨i+1,⟨h,q2 he⟩,by omega,wk⟩
  ·rw[Wf (by omega)]at h2;have e1:Yj n es=false:=h2;have e2:zT n es=0:=by unfold zT;rw[zaP h2]
   push_cast [hll,h];exact dn (by push_cast [ze,zd,CLe,zh,e1,e2])
theorem QB (es:List zN) (n:Lz) (hl:es.length<=90000):Fun Tryz.prog G 136 [.sl 2 (zJ es),.str n] (.own 0 112 2 (zJ (zg n es))) 1:=by
 have hll:(zJ es).length=es.length:=We ..;refine fon Tryz.func136 ?_;dsimp only[Tryz.f136];push_cast;refine loop (fun i:Nat=>⟨[(0,.sl 2 (zJ es)),(1,.str n),(5,.own 0 112 2 (zJ (zg n (es.take i)))),(6,.sc (.int .i64 i))],[],1,0⟩) (fun i=>i<=es.length) (fun i=>es.length-i) 0 (Wb _) ?_ ?_
 ·exact wks [.inr (112,2)] (by push_cast [ze,zd,CLe,zh,zg,jh,BO])
 ·intro i h1;by_cases h:i<es.length
  ·have g1:=Jk es i h;have ht:zg n (es.take (i+1))=if es[i].name=n then zg n (es.take i) else zg n (es.take i)++[es[i]]:=GN h;have hle:(zg n (es.take i)).length<=i:=WJ (YE n _) (by simp;omega);by_cases hc:es[i].name=n
   ·rw[if_pos hc]at ht;push_cast [hll,h,g1,hc]
    repeat refine an ?_
    exact ⟨i+1,h,by omega,wks [.inl 0] (by push_cast [ze,zd,CLe,zh,ht])⟩
   ·rw[if_neg hc]at ht;push_cast [hll,h,g1,hc]
    repeat refine an ?_
    exact ⟨i+1,h,by omega,wks [.inl 0] (by push_cast [ze,zd,CLe,zh,ht,WS])⟩
  ·rw[Wf (by omega)];push_cast [hll,h];exact ⟨[.inl 0],rfl,rfl,by push_cast [ze,zd,CLe,zh]⟩
theorem xd (es:List zN) (n:Lz) (j:Int) (hl:es.length<=90000):Fun Tryz.prog G 137 [.sl 2 (zJ es),.str n,.sc (.int .i64 j)] (.own 0 112 2 (zJ (zQ n j es))) 1:=by
 have hdl:(zg n es).length<=90000:=WJ (YE n _) hl;have hl2:(zJ (zg n es)).length=(zg n es).length:=We ..;refine fon Tryz.func137 ?_;dsimp only[Tryz.f137];push_cast;refine cl (QB es n hl) ?_;push_cast;show zf1 _ _ _ _ _ _;have hw:zQ n j es=YY jF zN.name ⟨n,j⟩ (zg n es):=rfl;rw[hw];generalize zg n es=rest at hdl hl2;refine loop (fun p:Nat×List zN×Bool=>⟨[(1,.str n),(2,.sc (.int .i64 j)),(7,.sl 2 (zJ rest)),(8,.own 0 112 2 (zJ p.2.1)),(9,.sc (.bool p.2.2)),(10,.sc (.int .i64 p.1))],[],1,0⟩)
  (fun p=>p.1<=rest.length/\p.2.1.length<=p.1+p.2.2.toNat/\YY jF zN.name ⟨n,j⟩ rest=p.2.1++(if p.2.2 then rest.drop p.1 else YY jF zN.name ⟨n,j⟩ (rest.drop p.1))) (fun p=>rest.length-p.1) (0,[],false) ⟨Wb _,Wb _,by simp⟩ ?_ ?_
 ·exact wks [.inr (112,2)]
 ·rintro ⟨i,out,d⟩ ⟨h1,h2,h3⟩;dsimp only at h1 h2 h3 ⊢;have hlo:(zJ out).length=out.length:=We ..;by_cases h:i<rest.length
  ·have g1:=Jk rest i h;rw[Oe h]at h3;cases d with
   | true =>
    simp only[Bg]at h2;push_cast [hl2,h,g1]
    repeat refine an ?_
    exact ⟨(i+1,out++[rest[i]],true),⟨h,by simp;omega,by rw[h3];simp⟩,by dsimp only;omega,wks [.inl 0] (by push_cast [ze,zd,CLe,zh,WS])⟩
   | false =>
    simp only[WX,Oh,YY]at h3;simp only[Ba]at h2;have hgl:=zi8 rest[i].name n;cases hc:Op.bytesLess n rest[i].name with
    | true =>
     rw[if_pos (show jF.lt n rest[i].name=true from hc)]at h3;rw[hc]at hgl;push_cast [hl2,h,g1,hgl]
     repeat refine an ?_
     exact ⟨(i+1,out++[(⟨n,j⟩:zN)]++[rest[i]],true),⟨h,by simp;omega,by rw[h3];simp⟩,by dsimp only;omega,wks [.inl 0] (by push_cast [ze,zd,CLe,zh,WS])⟩
    | false =>
     rw[if_neg (show ¬jF.lt n rest[i].name=true by rw[show jF.lt n rest[i].name=false from hc];decide)]at h3;rw[hc]at hgl;push_cast [hl2,h,g1,hgl]
     repeat refine an ?_
     exact ⟨(i+1,out++[rest[i]],false),⟨h,by simp;omega,by rw[h3];simp⟩,by dsimp only;omega,wks [.inl 0] (by push_cast [ze,zd,CLe,zh,WS])⟩
  ·rw[Or (by omega)]at h3;cases d with
   | true =>
    simp only[Bg]at h2;have h3:YY jF zN.name ⟨n,j⟩ rest=out:=by rw[h3];simp
    push_cast [hl2,h];exact ⟨[.inl 0],rfl,rfl,by push_cast [ze,zd,CLe,zh,h3]⟩
   | false =>
    simp only[Ba]at h2;have h3:YY jF zN.name ⟨n,j⟩ rest=out++[⟨n,j⟩]:=by rw[h3];simp[YY]
    push_cast [hl2,h]
    repeat refine an ?_
    exact ⟨[.inl 0],rfl,rfl,by push_cast [ze,zd,CLe,zh,h3,WS]⟩
theorem zeQ (f:FsV) (hf:FsS f) (n b:Int) (hn:-1000000000<=n/\n<=1000000000) (hb:-1000000000<=b/\b<=1000000000):Fun Tryz.prog G 143 [.agg (fsC f),.sc (.int .i64 n),.sc (.int .i64 b)] (.sc (.bool (YN f n b))) 0:=by
 have hll:(zr f.xs).length=f.xs.length:=We ..;have h40:=hf.len;have hbb:=hf.bytes;have hbf:=yJ (G:=G) f hf;by_cases h:(f.xs.length:Int)+n<=f.maxI
 ·have e:YN f n b=decide ((ql f.xs:Int)+b<=f.maxB):=by unfold YN;rw[Wm h,Oj]
  have h':(f.maxI<(f.xs.length:Int)+n)=False:=Wy (by omega);refine fon Tryz.func143 ?_;dsimp only[Tryz.f143];push_cast [hll,h']
  repeat refine an ?_
  refine cl hbf ?_;push_cast
  repeat refine an ?_
  exact dn (by push_cast [ze,zd,CLe,zh,e])
 ·have e:YN f n b=false:=by unfold YN;rw[Wj h,W8]
  have h':(f.maxI<(f.xs.length:Int)+n)=True:=eq_true (by omega);refine fon Tryz.func143 ?_;dsimp only[Tryz.f143];push_cast [hll,h']
  repeat refine an ?_
  exact dn (by push_cast [ze,zd,CLe,zh,e])
end
theorem zot (f:FsV) (hf:FsI f) (hs:FsS f) (p:Lz) (hp:p.length<=1000000):Fun Tryz.prog G0 22 [.agg (fsC f),.str p] (.tup [.agg (Ye (atV f p).1),.sc (.int .i64 (atV f p).2)]) 0:=by
 have hpl:=Qt p (by omega);have hlen:=hs.len;have hnl:(zp p).length<=1000000:=by have:=qP p;omega
 cases hpp:Jc p with
 | false =>
  have e:atV f p=(jj,9):=by unfold atV;rw[hpp];rfl
  unfold Yw at hpl;rw[hpp]at hpl;refine fof (fun i=>if i=14 then [false,false,false,false,false,false,false,false,true] else []) Tryz.func22 ?_;dsimp only[Tryz.f22];push_cast;refine cl hpl ?_;push_cast;exact dn (by push_cast [ze,zd,CLe,zh,e,jj])
 | true =>
  have e:atV f p=atW f.xs (zp p) ⟨0,[],1⟩:=by unfold atV;rw[hpp];rfl
  unfold Yw at hpl;rw[hpp,if_pos rfl]at hpl;generalize zp p=ns at hpl hnl e;have hsl:(zV ns).length=ns.length:=We ..;refine fof (fun i=>if i=14 then [false,false,false,false,false,false,false,false,true] else []) Tryz.func22 ?_;dsimp only[Tryz.f22];push_cast;refine cl hpl ?_;push_cast;refine loop (fun x:Nat×zB=>⟨[(1,.str p),(2,.ptr 0 0),(4,.ptr 1 0),(6,.own 0 9 1 (zV ns)),(8,.ptr 2 0),(9,.sc (.int .i64 x.1))],[fsC f,[.sc (.int .i64 0),.str [],.sc (.int .i64 0)],Ye x.2],1,0⟩)
   (fun x=>x.1<=ns.length/\atW f.xs ns ⟨0,[],1⟩=atW f.xs (ns.drop x.1) x.2/\(x.2.ino≠0->zl x.2.ino f.xs=true)) (fun x=>ns.length-x.1) (0,⟨0,[],1⟩) ⟨Wb _,rfl,fun _=>hf.root⟩ ?_ ?_
  ·exact wks [.inl 0] (by push_cast [ze,zd,CLe,zh,hsl])
  rintro ⟨k,s⟩ ⟨hk,hat,hin⟩;simp only at hk hat hin ⊢;by_cases hlt:k<ns.length
  ·have gs:=yz hlt;have hdr:ns.drop k=ns[k] :: ns.drop (k+1):=Oe hlt;obtain ⟨nm,hnm⟩:∃ nm,ns[k]=nm:=⟨_,rfl⟩;rw[hnm]at gs hdr;by_cases h0:s.ino=0
   ·have hr:atV f p=(jj,1):=by rw[e,hat,hdr];unfold atW;rw[if_pos h0]
    push_cast [hsl,hlt,h0];exact dn (by push_cast [ze,zd,CLe,zh,hr,jj])
   ·have hh:=hin h0;have hg:=qU (G:=G0) f s.ino (by omega);have hgg:=zj hh;rw[hh]at hg;by_cases hk2:(zf s.ino f.xs).kind=2
    ·have hfd:=zgm (G:=G0) (zf s.ino f.xs).es nm (by have:=hs.es hh;omega);have hnx:atW f.xs ns ⟨0,[],1⟩=atW f.xs (ns.drop (k+1)) ⟨(zf s.ino f.xs).ino,nm,zT nm (zf s.ino f.xs).es⟩:=by
      rw[hat,hdr]
      conv=>lhs;unfold atW
      rw[if_neg h0,if_neg (by simp[hk2])]
     have hin2:zT nm (zf s.ino f.xs).es≠0->zl (zT nm (zf s.ino f.xs).es) f.xs=true:=fun hne=>by
      refine ZF hf hh ?_;unfold Yj;rw[qg];cases hq:qz zN.name nm (zf s.ino f.xs).es with
      | some e=>rfl
      | none=>unfold zT at hne;rw[hq]at hne;exact absurd rfl hne
     push_cast [hsl,hlt,h0];refine cl hg ?_;push_cast [hk2,gs]
     repeat refine an ?_
     refine cl hfd ?_;push_cast [gs]
     repeat refine an ?_
     exact ⟨(k+1,⟨(zf s.ino f.xs).ino,nm,zT nm (zf s.ino f.xs).es⟩),⟨hlt,hnx,hin2⟩,by simp only;omega,wks [.inl 0]⟩
    ·have hr:atV f p=(jj,3):=by rw[e,hat,hdr];unfold atW;rw[if_neg h0,if_pos hk2]
     push_cast [hsl,hlt,h0];refine cl hg ?_;push_cast [hk2];exact dn (by push_cast [ze,zd,CLe,zh,hr,jj])
  ·have hd0:ns.drop k = []:=Or (by omega);have hr:atV f p=(s,0):=by rw[e,hat,hd0];rfl
   push_cast [hsl,hlt];exact dn (by push_cast [ze,zd,CLe,zh,hr])
end
section
open CA CB
open Go.RowKit
theorem zjs {f:C} (hx:x.es = []) (R:Env) (vs:List Value) (h:zy R zP [f,.agg [.sc (.int .i64 x.ino),.sc (.int .i64 x.kind),.sc (.int .i64 x.links),.str x.data,.sc (.int .i64 x.parent),.sc (.slice none 0 0)]] vs):zy R zP [f,.agg (JS x)] vs:=by
 obtain ⟨v1,us1,rfl,h1,h⟩:=zi.1 h;obtain ⟨v2,us2,rfl,h2,h⟩:=zi.1 h;refine zi.2 ⟨_,_,rfl,h1,zi.2 ⟨_,_,rfl,?_,h⟩⟩;obtain ⟨ws,rfl,hw⟩:=Ju.1 h2;obtain ⟨w1,t1,e1,g1,hw⟩:=zi.1 hw;obtain ⟨w2,t2,e2,g2,hw⟩:=zi.1 hw;obtain ⟨w3,t3,e3,g3,hw⟩:=zi.1 hw;obtain ⟨w4,t4,e4,g4,hw⟩:=zi.1 hw;obtain ⟨w5,t5,e5,g5,hw⟩:=zi.1 hw;obtain ⟨w6,t6,e6,g6,hw⟩:=zi.1 hw;refine Ju.2 ⟨ws,rfl,?_⟩;have g6':Rep R zP (.sl 2 (zJ x.es)) w6:=by rw[hx];exact zkE g6
 rw[e1,e2,e3,e4,e5,e6];exact zi.2 ⟨_,_,rfl,g1,zi.2 ⟨_,_,rfl,g2,zi.2 ⟨_,_,rfl,g3,zi.2 ⟨_,_,rfl,g4,zi.2 ⟨_,_,rfl,g5,zi.2 ⟨_,_,rfl,g6',hw⟩⟩⟩⟩⟩⟩
theorem NJ {G:zu} (f:FsV) (x:zn) (hx:x.es = []) (hl:f.xs.length<=90000) :
  Fun Tryz.prog G 58 [.agg (fsC f),.agg [.sc (.int .i64 x.ino),.sc (.int .i64 x.kind),.sc (.int .i64 x.links),.str x.data,.sc (.int .i64 x.parent),.sc (.slice none 0 0)]] (.agg [.sc (.int .i64 f.maxI),.sc (.int .i64 f.maxB),.sc (.int .i64 f.next),.own 0 64 6 (zr (qd x f.xs))]) 1:=
 (Jz f x hl).argsLe (zjs hx)
theorem u9 (f:FsV) (hf:FsI f) (hs:FsS f) (s:zB) (hsp:zm f s):Fun Tryz.prog G0 91 [.agg (fsC f),.agg (Ye s)] (.agg (fsC (zk f s))) 0:=by
 have hlen:=hs.len;have hi:=hsp.ino hf;have hdl:(qe s.dir (zg s.name) f.xs).length=f.xs.length:=qV hf.rises hsp.has;have hg:=qU (G:=G0) f s.dir (by omega);have hg2:=qU (G:=G0) f s.ino (by omega);rw[hsp.has]at hg;rw[hi]at hg2;have hes:=hs.es hsp.has;have hw:=QB (G:=G0) (zf s.dir f.xs).es s.name (by omega);have hd1:=Jz (G:=G0) f (qh (zf s.dir f.xs) (zg s.name (zf s.dir f.xs).es)) (by omega);have hd2:=Jz (G:=G0) ⟨f.maxI,f.maxB,f.next,qe s.dir (zg s.name) f.xs⟩ { zf s.ino f.xs with links:=(zf s.ino f.xs).links-1 } (by simp only;omega);have hd3:=Hi (G:=G0) ⟨f.maxI,f.maxB,f.next,qe s.dir (zg s.name) f.xs⟩ s.ino (by simp only;omega);have hll:=Mj hf hs hi;by_cases hz:(zf s.ino f.xs).links-1=0
 ·have e:zk f s=⟨f.maxI,f.maxB,f.next,zY s.ino (qe s.dir (zg s.name) f.xs)⟩:=by unfold zk;rw[if_pos hz]
  unfold qe at hd3 e;have hz':=eq_true hz;refine fon Tryz.func91 ?_;dsimp only[Tryz.f91];push_cast;refine cl hg ?_;push_cast;refine cl hg2 ?_;push_cast;refine cl hw ?_;push_cast
  repeat refine an ?_
  refine cl hd1 ?_;push_cast [hz'];refine cl hd3 ?_;push_cast;exact dn (by push_cast [ze,zd,CLe,zh,e])
 ·have e:zk f s=⟨f.maxI,f.maxB,f.next,qd { zf s.ino f.xs with links:=(zf s.ino f.xs).links-1 } (qe s.dir (zg s.name) f.xs)⟩:=by unfold zk;rw[if_neg hz]
  unfold qe at hd2 e;have hz':=Wy hz;refine fon Tryz.func91 ?_;dsimp only[Tryz.f91];push_cast;refine cl hg ?_;push_cast;refine cl hg2 ?_;push_cast;refine cl hw ?_;push_cast
  repeat refine an ?_
  refine cl hd1 ?_;push_cast [hz'];refine cl hd2 ?_;push_cast;exact dn (by push_cast [ze,zd,CLe,zh,e])
end
section
open CA CB
open Go.RowKit
theorem zhN (f:FsV) (hf:FsI f) (hs:FsS f) (a b:zB) (ha:zm f a) (hb:qX f b) (hb0:b.ino=0):Fun Tryz.prog G0 83 [.agg (fsC f),.agg (Ye a),.agg (Ye b)] (.agg (fsC (qn f a b))) 0:=by
 have hai:=zm.ino hf ha;have hlen:=hs.len;have hga:=qU (G:=G0) f a.dir (by omega);rw[ha.has]at hga;have hwa:=QB (G:=G0) (zf a.dir f.xs).es a.name (by have:=hs.es ha.has;omega);have hda:=Jz (G:=G0) f (qh (zf a.dir f.xs) (zg a.name (zf a.dir f.xs).es)) (by omega);obtain ⟨g1,hg1⟩:∃ g1,qe a.dir (zg a.name) f.xs=g1:=⟨_,rfl⟩;obtain ⟨g2,hg2⟩:∃ g2,qe b.dir (zQ b.name a.ino) g1=g2:=⟨_,rfl⟩;have hR1:zW g1:=by rw[←hg1];exact zO hf.rises
 have hl1:g1.length=f.xs.length:=by rw[←hg1];exact qV hf.rises ha.has
 have hb1:zl b.dir g1=true:=by rw[←hg1,zM ha.has];exact hb.has
 have hl2:g2.length=f.xs.length:=by rw[←hg2,qV hR1 hb1,hl1]
 have hi2:zl a.ino g2=true:=by rw[←hg2,zM hb1,←hg1,zM ha.has];exact hai
 have hgb:=qU (G:=G0) ⟨f.maxI,f.maxB,f.next,g1⟩ b.dir (by simp only;omega);simp only at hgb;rw[hb1]at hgb;have hres:(zf b.dir g1).es.length<=10000:=by
  rw[←hg1,jk ha.has];split
  ·show (jh zN.name _ _).length<=10000;have:=YE (key:=zN.name) a.name (zf a.dir f.xs).es;have:=hs.es ha.has;omega
  ·exact hs.es hb.has
 have hwb:=xd (G:=G0) (zf b.dir g1).es b.name a.ino (by omega);have hdb:=Jz (G:=G0) ⟨f.maxI,f.maxB,f.next,g1⟩ (qh (zf b.dir g1) (zQ b.name a.ino (zf b.dir g1).es)) (by simp only;omega);have hgx:=qU (G:=G0) ⟨f.maxI,f.maxB,f.next,g2⟩ a.ino (by simp only;omega);simp only at hgx;rw[hi2]at hgx;have e0:qn f a b=if (zf a.ino g2).kind=2 then ⟨f.maxI,f.maxB,f.next,qd { zf a.ino g2 with parent:=b.dir } g2⟩ else ⟨f.maxI,f.maxB,f.next,g2⟩:=by unfold qn;rw[hg1,hg2]
 have hda':Fun Tryz.prog G0 58 [.agg (fsC f),.agg (JS (qh (zf a.dir f.xs) (zg a.name (zf a.dir f.xs).es)))] (.agg [.sc (.int .i64 f.maxI),.sc (.int .i64 f.maxB),.sc (.int .i64 f.next),.own 0 64 6 (zr g1)]) 1:=by rw[←hg1];exact hda
 have hdb':Fun Tryz.prog G0 58 [.agg (fsC ⟨f.maxI,f.maxB,f.next,g1⟩),.agg (JS (qh (zf b.dir g1) (zQ b.name a.ino (zf b.dir g1).es)))] (.agg [.sc (.int .i64 f.maxI),.sc (.int .i64 f.maxB),.sc (.int .i64 f.next),.own 0 64 6 (zr g2)]) 1:=by rw[←hg2];exact hdb
 have hb0':=eq_true hb0;by_cases hk:(zf a.ino g2).kind=2
 ·rw[if_pos hk]at e0;have hk':=eq_true hk;have hd:=Jz (G:=G0) ⟨f.maxI,f.maxB,f.next,g2⟩ { zf a.ino g2 with parent:=b.dir } (by simp only;omega);refine fon Tryz.func83 ?_;dsimp only[Tryz.f83];push_cast [hb0'];refine cl hga ?_;push_cast;refine cl hwa ?_;push_cast;refine cl hda' ?_;push_cast;refine cl hgb ?_;push_cast;refine cl hwb ?_;push_cast;refine cl hdb' ?_;push_cast;refine cl hgx ?_;push_cast [hk'];refine cl hd ?_;push_cast;exact dn (by push_cast [ze,zd,CLe,zh,e0])
 ·rw[if_neg hk]at e0;have hk':=Wy hk;refine fon Tryz.func83 ?_;dsimp only[Tryz.f83];push_cast [hb0'];refine cl hga ?_;push_cast;refine cl hwa ?_;push_cast;refine cl hda' ?_;push_cast;refine cl hgb ?_;push_cast;refine cl hwb ?_;push_cast;refine cl hdb' ?_;push_cast;refine cl hgx ?_;push_cast [hk'];exact dn (by push_cast [ze,zd,CLe,zh,e0])
theorem kN {i:Nat} (h:i<ks.length):Jj (ks.take (i+1))=ks[i].slot:=by
 have q:(ks.take (i+1)).getLast?=some ks[i]:=by
  rw[List.getLast?_eq_getElem?,show (ks.take (i+1)).length-1=i by rw[W7];omega,Bu (by omega),Wa h]
 unfold Jj;rw[q]
section
variable {G:zu}
theorem GO (w:qj) (n:Int) (hl:w.kept.length<=100000):Fun Tryz.prog G 93 [jP w,.sc (.int .i64 n)] (.tup [.agg (Jg (Xc n w.kept)),.sc (.bool (Vd n w.kept))]) 0:=by
 obtain ⟨f,ks,pool⟩:=w;have hl:ks.length<=100000:=hl;have hll:(zI ks).length=ks.length:=We ..;show Fun Tryz.prog G 93 [jP ⟨f,ks,pool⟩,.sc (.int .i64 n)] (.tup [.agg (Jg (Xc n ks)),.sc (.bool (Vd n ks))]) 0;refine fon Tryz.func93 ?_;dsimp only[Tryz.f93];push_cast;refine loop (fun i:Nat=>⟨[(1,.sc (.int .i64 n)),(2,.ptr 0 0),(4,.ptr 1 0),(6,.sc (.int .i64 i))],[Uc ⟨f,ks,pool⟩,[.sc (.int .i64 0),.sc (.int .i64 0),.sc (.bool false),.str []]],0,0⟩) (fun i=>i<=ks.length/\Js zL.slot n (ks.take i)=false) (fun i=>ks.length-i) 0 ⟨Wb _,rfl⟩ ?_ ?_
 ·exact wk
 ·rintro i ⟨h1,h2⟩;by_cases h:i<ks.length
  ·have g1:=jz ks i h;obtain ⟨q1,q2⟩:=G3 h h2;by_cases he:ks[i].slot=n
   ·have q:=q1 he;have e1:Vd n ks=true:=by unfold Vd;rw[qg,q];rfl
    have e2:Xc n ks=ks[i]:=by unfold Xc;rw[q];rfl
    push_cast [hll,h,g1,he]
    repeat refine an ?_
    exact dn (by push_cast [ze,zd,CLe,zh,e1,e2,he])
   ·push_cast [hll,h,g1,he]
    repeat refine an ?_
    exact ⟨i+1,⟨h,q2 he⟩,by omega,wk⟩
  ·rw[Wf (by omega)]at h2;have e1:Vd n ks=false:=h2;have e2:Xc n ks=zg7:=by unfold Xc;rw[zaP h2];rfl
   push_cast [hll,h];exact dn (by push_cast [ze,zd,CLe,zh,e1,e2,zg7])
theorem GT (w:qj) (k:zL) (hl:w.kept.length<=90000):Fun Tryz.prog G 142 [jP w,.agg (Jg k)] (jP { w with kept:=qw k w.kept }) 0:=by
 obtain ⟨f,ks,pool⟩:=w;have hl:ks.length<=90000:=hl;have hll:(zI ks).length=ks.length:=We ..;show Fun Tryz.prog G 142 [jP ⟨f,ks,pool⟩,.agg (Jg k)] (jP ⟨f,YY j4 zL.slot k ks,pool⟩) 0;refine fon Tryz.func142 ?_;dsimp only[Tryz.f142];push_cast;refine loop (fun p:Nat×List zL×Bool=>⟨[(2,.ptr 0 0),(3,.ptr 1 0),(4,.ptr 2 0),(5,.own 0 105 4 (zI p.2.1)),(6,.sc (.bool p.2.2)),(7,.sc (.int .i64 p.1))],[Uc ⟨f,ks,pool⟩,Jg k,[.sc (.int .i64 0),.sc (.int .i64 0),.sc (.int .i64 0),.sc (.slice none 0 0),.sc (.slice none 0 0),.sc (.slice none 0 0)]],1,0⟩)
  (fun p=>p.1<=ks.length/\p.2.1.length<=p.1+p.2.2.toNat/\YY j4 zL.slot k ks=p.2.1++(if p.2.2 then ks.drop p.1 else YY j4 zL.slot k (ks.drop p.1))) (fun p=>ks.length-p.1) (0,[],false) ⟨Wb _,Wb _,by simp⟩ ?_ ?_
 ·exact wks [.inr (105,4)]
 ·rintro ⟨i,out,d⟩ ⟨h1,h2,h3⟩;dsimp only at h1 h2 h3 ⊢;have hlo:(zI out).length=out.length:=We ..;by_cases h:i<ks.length
  ·have g1:=jz ks i h;rw[Oe h]at h3;cases d with
   | true =>
    simp only[Bg]at h2;push_cast [hll,h,g1]
    repeat refine an ?_
    exact ⟨(i+1,out++[ks[i]],true),⟨h,by simp;omega,by rw[h3];simp⟩,by dsimp only;omega,wks [.inl 0] (by push_cast [ze,zd,CLe,zh,WS])⟩
   | false =>
    simp only[WX,Oh,YY]at h3;simp only[Ba]at h2;by_cases hc:k.slot<ks[i].slot
    ·rw[if_pos (show j4.lt k.slot ks[i].slot=true from Wm hc)]at h3;push_cast [hll,h,g1,hc]
     repeat refine an ?_
     exact ⟨(i+1,out++[k]++[ks[i]],true),⟨h,by simp;omega,by rw[h3];simp⟩,by dsimp only;omega,wks [.inl 0] (by push_cast [ze,zd,CLe,zh,WS])⟩
    ·rw[if_neg (show ¬j4.lt k.slot ks[i].slot=true by rw[show j4.lt k.slot ks[i].slot=false from Wj hc];decide)]at h3;push_cast [hll,h,g1,hc]
     repeat refine an ?_
     exact ⟨(i+1,out++[ks[i]],false),⟨h,by simp;omega,by rw[h3];simp⟩,by dsimp only;omega,wks [.inl 0] (by push_cast [ze,zd,CLe,zh,WS])⟩
  ·rw[Or (by omega)]at h3;cases d with
   | true =>
    simp only[Bg]at h2;have h3:YY j4 zL.slot k ks=out:=by rw[h3];simp
    push_cast [hll,h];exact dn (by push_cast [ze,zd,CLe,zh,h3])
   | false =>
    simp only[Ba]at h2;have h3:YY j4 zL.slot k ks=out++[k]:=by rw[h3];simp[YY]
    push_cast [hll,h]
    repeat refine an ?_
    exact dn (by push_cast [ze,zd,CLe,zh,h3,WS])
theorem Xw (w:qj):Fun Tryz.prog G 106 [jP w] (.agg [.sc (.int .i64 0),.sc (.int .i64 0),.sc (.int .i64 0),.sl 6 (zr w.pool)]) 0:=by
 refine fon Tryz.func106 ?_;dsimp only[Tryz.f106];push_cast;exact dn
theorem kL (w:qj) (hk:w.kept.length<=100000) (hR:qQ j4 zL.slot w.kept) (hp:∀ k∈w.kept,1<=k.slot):Fun Tryz.prog G 35 [jP w] (.sc (.int .i64 (Jj w.kept))) 0:=by
 obtain ⟨f,ks,pool⟩:=w;have hk:ks.length<=100000:=hk;have hll:(zI ks).length=ks.length:=We ..;show Fun Tryz.prog G 35 [jP ⟨f,ks,pool⟩] (.sc (.int .i64 (Jj ks))) 0;have h0:Jj []=0:=rfl;refine fon Tryz.func35 ?_;dsimp only[Tryz.f35];push_cast;refine loop (fun i:Nat=>⟨[(1,.ptr 0 0),(3,.sc (.int .i64 (Jj (ks.take i)))),(4,.sc (.int .i64 i))],[Uc ⟨f,ks,pool⟩],0,0⟩) (fun i=>i<=ks.length) (fun i=>ks.length-i) 0 (Wb _) ?_ ?_
 ·exact wk (by push_cast [ze,zd,CLe,zh,OF,h0])
 ·intro i hi;by_cases h:i<ks.length
  ·have g1:=jz ks i h;have e1:Jj (ks.take (i+1))=ks[i].slot:=kN h;have e2:(if ks[i].slot>Jj (ks.take i) then ks[i].slot else Jj (ks.take i))=ks[i].slot:=by
    suffices hle:Jj (ks.take i)<=ks[i].slot by split<;>omega
    rcases O8 i with rfl | hpos
    ·have:=hp _ (Ww h);show (0:Int)<=_;omega
    ·obtain ⟨j,rfl⟩:∃ j,i=j+1:=⟨i-1,by omega⟩;have hj:j<ks.length:=by omega
     rw[kN hj];have:=(WR.1 hR) j (j+1) hj h (by omega);have:ks[j].slot<ks[j+1].slot:=WP this;omega
   push_cast [hll,h,g1]
   repeat refine an ?_
   exact ⟨i+1,h,by omega,wk (by push_cast [ze,zd,CLe,zh,e1,e2])⟩
  ·rw[Wf (by omega)];push_cast [hll,h];exact dn
end
end
section
open CA CB
open Go.RowKit
theorem zg5 (w:qj) (hw:Zm w) (hs:FsS w.fs) (hk:w.kept.length<=90000) (hp:w.pool.length<=90000) (n:Int) (s:zB) (hsp:zm w.fs s):Fun Tryz.prog G0 90 [jP w,.sc (.int .i64 n),.agg (Ye s)] (.tup [jP (qL w n s).1,.sc (.int .i64 (qL w n s).2)]) 0:=by
 have hf:=hw.fs;have hlen:=hs.len;have hino:=hsp.ino hf;have h1:=GO (G:=G0) w n (by omega);cases hh:Vd n w.kept with
 | true =>
  have e:qL w n s=(w,13):=by unfold qL;rw[hh];rfl
  rw[hh]at h1;refine fof (fun j=>if j=9 then [false,false,false,false,false,false,false,true] else []) Tryz.func90 ?_;dsimp only[Tryz.f90];push_cast;refine cl h1 ?_;push_cast;exact dn (by push_cast [ze,zd,CLe,zh,e])
 | false =>
  rw[hh]at h1;have hg:=qU (G:=G0) w.fs s.ino (by omega);rw[hino]at hg;have hu:=u9 w.fs hf hs s hsp;by_cases hz:(zf s.ino w.fs.xs).links=1
  ·have e:qL w n s=(⟨zk w.fs s,qw ⟨n,s.ino,false,[]⟩ w.kept,qd { zf s.ino w.fs.xs with links:=0,parent:=0 } w.pool⟩,0):=by unfold qL;rw[hh,if_pos hz];rfl
   have hz':=eq_true hz;have hpo:=Xw (G:=G0) ⟨zk w.fs s,w.kept,w.pool⟩;have hst:=Jz (G:=G0) ⟨0,0,0,w.pool⟩ { zf s.ino w.fs.xs with links:=0,parent:=0 } hp;have hwi:=GT (G:=G0) ⟨zk w.fs s,w.kept,qd { zf s.ino w.fs.xs with links:=0,parent:=0 } w.pool⟩ ⟨n,s.ino,false,[]⟩ hk;refine fof (fun j=>if j=9 then [false,false,false,false,false,false,false,true] else []) Tryz.func90 ?_;dsimp only[Tryz.f90];push_cast;refine cl h1 ?_;push_cast;refine cl hg ?_;push_cast;refine cl hu ?_;push_cast [hz'];refine cl hpo ?_;push_cast;refine cl hst ?_;push_cast;refine cl hwi ?_;push_cast;exact dn (by push_cast [ze,zd,CLe,zh,e])
  ·have e:qL w n s=(⟨zk w.fs s,qw ⟨n,s.ino,false,[]⟩ w.kept,w.pool⟩,0):=by unfold qL;rw[hh,if_neg hz];rfl
   have hz':=Wy hz;have hwi:=GT (G:=G0) ⟨zk w.fs s,w.kept,w.pool⟩ ⟨n,s.ino,false,[]⟩ hk;refine fof (fun j=>if j=9 then [false,false,false,false,false,false,false,true] else []) Tryz.func90 ?_;dsimp only[Tryz.f90];push_cast;refine cl h1 ?_;push_cast;refine cl hg ?_;push_cast;refine cl hu ?_;push_cast [hz'];refine cl hwi ?_;push_cast;exact dn (by push_cast [ze,zd,CLe,zh,e])
theorem N5 (f:FsV) (hf:FsI f) (hs:FsS f) (p:Lz) (hp:p.length<=1000000) (b:Bool):Fun Tryz.prog G0 88 [.agg (fsC f),.str p,.sc (.int .i64 (if b then 1 else 0))] (.tup [.agg (Ye (isV f p b).1),.agg (JS (isV f p b).2.1),.sc (.int .i64 (isV f p b).2.2)]) 0:=by
 have hlen:=hs.len;have h1:=zot f hf hs p hp;have h2:=qU (G:=G0) f (atV f p).1.ino (by omega);have e1:(isV f p b).1=(atV f p).1:=rfl;have e2:(isV f p b).2.1=zf (atV f p).1.ino f.xs:=rfl;have e3:(isV f p b).2.2=if (atV f p).2≠0 then (atV f p).2 else if b&&!zl (atV f p).1.ino f.xs then 1 else if !b&&zl (atV f p).1.ino f.xs then 2 else 0:=rfl;by_cases h0:(atV f p).2=0
 ·rw[if_neg (fun h=>h h0)]at e3;have h0':=eq_true h0;rw[h0]at h1;cases hb:b with
  | true =>
   subst hb;cases hh:zl (atV f p).1.ino f.xs with
   | true =>
    rw[hh]at h2 e3;simp only[Oj,Av,W8,Oh,WX]at e3;refine fof (fun i=>if i=7 then Qd [(0,.pure),(1,.pure),(2,.pure),(3,.flt [1,2]),(4,.flt [2]),(5,.pure)] else []) Tryz.func88 ?_;dsimp only[Tryz.f88];push_cast [if_true];refine cl h1 ?_;push_cast;refine cl h2 ?_;push_cast;exact dn (by push_cast [ze,zd,CLe,zh,e1,e2,e3])
   | false =>
    rw[hh]at h2 e3;simp only[Oj,Ab,if_true]at e3;refine fof (fun i=>if i=7 then Qd [(0,.pure),(1,.pure),(2,.pure),(3,.flt [1,2]),(4,.flt [2]),(5,.pure)] else []) Tryz.func88 ?_;dsimp only[Tryz.f88];push_cast [if_true];refine cl h1 ?_;push_cast;refine cl h2 ?_;push_cast;exact dn (by push_cast [ze,zd,CLe,zh,e1,e2,e3])
  | false =>
   subst hb;cases hh:zl (atV f p).1.ino f.xs with
   | true =>
    rw[hh]at h2 e3;simp only[W8,Ab,Oj,if_true,Oh,WX]at e3;refine fof (fun i=>if i=7 then Qd [(0,.pure),(1,.pure),(2,.pure),(3,.flt [1,2]),(4,.flt [2]),(5,.pure)] else []) Tryz.func88 ?_;dsimp only[Tryz.f88];push_cast [WX,Oh];refine cl h1 ?_;push_cast;refine cl h2 ?_;push_cast;exact dn (by push_cast [ze,zd,CLe,zh,e1,e2,e3])
   | false =>
    rw[hh]at h2 e3;simp only[W8,Ab,Oj,Oh,WX]at e3;refine fof (fun i=>if i=7 then Qd [(0,.pure),(1,.pure),(2,.pure),(3,.flt [1,2]),(4,.flt [2]),(5,.pure)] else []) Tryz.func88 ?_;dsimp only[Tryz.f88];push_cast [WX,Oh];refine cl h1 ?_;push_cast;refine cl h2 ?_;push_cast;exact dn (by push_cast [ze,zd,CLe,zh,e1,e2,e3])
 ·rw[if_pos h0]at e3;have h0':=Wy h0;refine fof (fun i=>if i=7 then Qd [(0,.pure),(1,.pure),(2,.pure),(3,.flt [1,2]),(4,.flt [2]),(5,.pure)] else []) Tryz.func88 ?_;dsimp only[Tryz.f88];push_cast;refine cl h1 ?_;push_cast;refine cl h2 ?_;push_cast [h0'];exact dn (by push_cast [ze,zd,CLe,zh,e1,e2,e3])
end
section
open CA CB
open Go.RowKit
def zt8 (n:Int):List C:=[.sc (.int .i64 n)]
abbrev ztf (l:List Int):List (List C):=l.map zt8
theorem uT (l:List Int):(ztf l).length=l.length:=We _
theorem zgn (l:List Int) (n:Int):ztf l++[[.sc (.int .i64 n)]]=ztf (l++[n]):=by simp[zt8]
attribute [push_cast] uT zgn
abbrev zd7 (l:List OpV):List (List C):=l.map opL
theorem vt (l:List OpV):(zd7 l).length=l.length:=We _
theorem uy (l:List OpV) (k:Nat) (h:k<l.length):(zd7 l)[k]?=some (opL (l[k]'h)):=by rw[WA,Wa h];rfl
theorem zgQ (l:List OpV) (k:Nat):(zd7 l).take k=zd7 (l.take k):=List.map_take.symm
theorem zhA (l:List OpV) (k:Nat):(zd7 l).drop k=zd7 (l.drop k):=List.map_drop.symm
attribute [push_cast] vt zgQ zhA
def zpC (a b:Int):Int:=if a<b then -1 else if b<a then 1 else 0
def zay (w:Int):List Int->Bool
 | a :: b :: r=>decide (zpC b a=w)&&zay w (b :: r)
 | _=>true
theorem zaR (w:Int):∀ l:List Int,zay w l=true↔∀ (j:Nat) (h:j+1<l.length),zpC (l[j+1]'h) (l[j]'(by omega))=w
 | []=>by simp[zay]
 | [a]=>by simp[zay]
 | a :: b :: r=>by
  have ih:=zaR w (b :: r);simp only[zay,Wp,WW,ih];constructor
  ·rintro ⟨h1,h2⟩ j h;cases j with
   | zero=>exact h1
   | succ j=>exact h2 j (by simpa using h)
  ·exact fun h=>⟨h 0 (by simp),fun j hj=>h (j+1) (by simpa using hj)⟩
end
section
open Go.RowKit
def Ja (l:List OpV):List Int:=(l.filter fun o=>qR o.kind).map (·.slot)
theorem Hp (l:List OpV) (k:Nat) (h:k<l.length):Ja (l.take (k+1))=if qR (l[k]'h).kind then Ja (l.take k)++[(l[k]'h).slot] else Ja (l.take k):=by
 unfold Ja;rw[WQ,Wa h,Oz];cases hf:qR (l[k]'h).kind<;>simp[hf]
end
section
open Go.RowKit
def QM (o:OpV):Bool:=!Y6 o||decide (7<o.kind)
def zrG (l:List OpV):Prop:=∀ o∈l,short o
def Qj (l:List OpV):Bool:=!l.any QM&&zay 1 (Ja l)
def znJ (o p:OpV):Bool:=decide (o.kind=p.kind)&&decide (o.slot=p.slot)&&decide (o.a=p.a)&&decide (o.b=p.b)&&decide (o.d=p.d)
def Yf:List OpV->List OpV->Bool
 | [],[]=>true
 | o :: r,p :: s=>znJ o p&&Yf r s
 | _,_=>false
theorem XT:∀ l m:List OpV,Yf l m=true↔l.length=m.length/\∀ (j:Nat) (h:j<l.length) (h':j<m.length),znJ (l[j]'h) (m[j]'h')=true
 | [],[]=>by simp[Yf]
 | [],p :: s=>by simp[Yf]
 | o :: r,[]=>by simp[Yf]
 | o :: r,p :: s=>by
  have ih:=XT r s;simp only[Yf,Wp,ih,Wh];constructor
  ·rintro ⟨h1,h2,h3⟩;refine ⟨by omega,fun j hj hj'=>?_⟩;cases j with
   | zero=>exact h1
   | succ j=>exact h3 j (by omega) (by omega)
  ·rintro ⟨h1,h2⟩;exact ⟨h2 0 (by omega) (by omega),by omega,fun j hj hj'=>h2 (j+1) (by omega) (by omega)⟩
end
section
open CA CB
open Go.RowKit
theorem GW (p:Lz) (hp:p.length<=1000000):Fun Tryz.prog G0 95 [.str p] (qJ (z8 p)) 0:=by
 have h:=Qt p (by omega);unfold Yw at h;cases hb:Jc p with
 | false =>
  rw[hb]at h;refine fon Tryz.func95 ?_;dsimp only[Tryz.f95];push_cast;refine cl h ?_;push_cast;exact ⟨[],rfl,rfl,by push_cast [ze,zd,CLe,zh];simp[z8,hb]⟩
 | true =>
  rw[hb,if_pos rfl]at h;refine fon Tryz.func95 ?_;dsimp only[Tryz.f95];push_cast;refine cl h ?_;push_cast;refine ⟨[],rfl,rfl,?_⟩;push_cast [ze,zd,CLe,zh];by_cases hn:zp p = []
  ·simp[z8,hb,hn]
  ·have:=WI.2 hn;simp[z8,hb,hn,this]
theorem vv (s:Lz) (hs:s.length<=1000000):Fun Tryz.prog G0 96 [.str s] (qJ (Yc s)) 0:=by
 refine fon Tryz.func96 ?_;dsimp only[Tryz.f96];push_cast;refine loop (fun k:Nat=>⟨[(0,.str s),(3,.sc (.int .i64 k))],[],0,0⟩) (fun k=>k<=s.length/\∀ j (hj:j<s.length),j<k->decide (s[j]'hj=0)=false) (fun k=>s.length-k) 0 ⟨Wb _,fun j _ hj=>by omega⟩ ?_ ?_
 ·exact wk
 ·intro k hk;have hk1:=hk.1;have hk2:=hk.2;by_cases h:k<s.length
  ·have hb:s[k]?=some (s[k]'h):=Wa h;by_cases h0:s[k]'h=0
   ·have h1:((s[k]'h).toNat:Int)=0:=by rw[h0];rfl
    push_cast [h,hb,h1];refine ⟨by omega,[],rfl,rfl,?_⟩;push_cast [ze,zd,CLe,zh];have:s.any (fun b=>decide (b=0))=true:=Ou.2 ⟨s[k]'h,Ww h,by simpa using h0⟩;simp[Yc,this]
   ·have h1:¬((s[k]'h).toNat:Int)=0:=zjk h0;push_cast [h,hb,h1]
    repeat refine an ?_
    refine ⟨k+1,⟨by omega,fun j hj hjk=>?_⟩,by omega,wk⟩;rcases Wr j k with g | g
    ·exact hk2 j hj g
    ·have:j=k:=by omega
     subst this;simpa using h0
  ·have hall:s.any (fun b=>decide (b=0))=false:=W5.2 fun x hx=>by
    obtain ⟨j,hj,rfl⟩:=Wt hx;have:=hk2 j hj (by omega);simp[this]
   by_cases h1:s = []
   ·have hn:¬(1:Int)<=(s.length:Int):=by rw[h1];simp
    push_cast [h,hn];exact ⟨[],rfl,rfl,by push_cast [ze,zd,CLe,zh]<;>simp[Yc,h1]⟩
   ·have hpos:1<=s.length:=WI.2 h1;have hpos':(1:Int)<=(s.length:Int):=by omega
    push_cast [h,hpos,hpos'];refine ⟨[],rfl,rfl,?_⟩;push_cast [ze,zd,CLe,zh];have:decide ((s.length:Int)<=4095)=decide (s.length<=4095):=by rw[AW];omega
    simp[Yc,h1,hall,this]
theorem ki (k:Int):Fun Tryz.prog G0 48 [.sc (.int .i64 k)] (qJ (qR k)) 0:=by
 refine fon Tryz.func48 ?_;dsimp only[Tryz.f48];push_cast
 repeat' (first
  | (refine br (fun h=>?_) (fun h=>?_)<;>push_cast [h])
  | (refine ⟨[],rfl,rfl,?_⟩;push_cast [ze,zd,CLe,zh];simp_all [qR]))
theorem Hc {a b:Lz} (ha:z8 a=true) (hb:z8 b=true):Jf a b=Jt a b:=by
 simp only[z8,Wp]at ha hb;exact k8 a b ha.1 hb.1
theorem U0 (k s:Int) (a b d:Lz) (hs:short ⟨k,s,a,b,d⟩):Fun Tryz.prog G0 47 [.agg (opL ⟨k,s,a,b,d⟩)] (qJ (Y6 ⟨k,s,a,b,d⟩)) 0:=by
 have hs1:a.length<=1000000:=hs.1;have hs2:b.length<=1000000:=hs.2.1;have hs3:d.length<=1000000:=hs.2.2;have h1:=(GW a (by omega));have h2:=(GW b (by omega));have h3:=(vv d (by omega));have h4:=(Uw a b (by omega) (by omega));have h5:=(Uw b a (by omega) (by omega));have h6:=ki k;unfold opL;by_cases hk1:k<1
 ·have:¬1<=k:=by omega
  refine fon Tryz.func47 ?_;dsimp only[Tryz.f47];push_cast [hk1];exact ⟨[],rfl,rfl,by push_cast [ze,zd,CLe,zh];simp[Y6,this]⟩
 by_cases hk2:10<k
 ·have:¬k<=10:=by omega
  refine fon Tryz.func47 ?_;dsimp only[Tryz.f47];push_cast [hk1,hk2];exact ⟨[],rfl,rfl,by push_cast [ze,zd,CLe,zh];simp[Y6,this]⟩
 cases hp:z8 a with
 | false =>
  rw[hp]at h1;refine fon Tryz.func47 ?_;dsimp only[Tryz.f47];push_cast [hk1,hk2];refine cl h1 ?_;push_cast;exact ⟨[],rfl,rfl,by push_cast [ze,zd,CLe,zh];simp[Y6,hp]⟩
 | true =>
  rw[hp]at h1;have hu:z8 b=true->Jf a b=Jt a b:=fun hb=>Hc hp hb;have hu2:z8 b=true->Jf b a=Jt b a:=fun hb=>Hc hb hp;have hk:k=1∨k=2∨k=3∨k=4∨k=5∨k=6∨k=7∨k=8∨k=9∨k=10:=by omega
  clear hk1 hk2 hs hs1 hs2 hs3;rcases hk with rfl | rfl | rfl | rfl | rfl | rfl | rfl | rfl | rfl | rfl
  all_goals
   simp[qR]at h6;refine fon Tryz.func47 ?_;dsimp only[Tryz.f47];push_cast;refine cl h1 ?_;push_cast;refine cl h6 ?_;push_cast
   repeat' (first
    | (refine call h2 ?_;push_cast)
    | (refine H7 h2 ?_;push_cast)
    | (refine call h3 ?_;push_cast)
    | (refine H7 h3 ?_;push_cast)
    | (refine call h4 ?_;push_cast)
    | (refine H7 h4 ?_;push_cast)
    | (refine call h5 ?_;push_cast)
    | (refine H7 h5 ?_;push_cast)
    | (refine br (fun h=>?_) (fun h=>?_)<;>push_cast [h])
    | (refine ⟨[],rfl,rfl,?_⟩;push_cast [ze,zd,CLe,zh];clear h1 h2 h3 h4 h5 h6;simp_all [Y6,qR,zoD]<;>omega))
end
section
open CA CB
open Go.RowKit
end
section
open CA CB
open Go.RowKit
def JO (f:FsV):Prop:=1<=f.maxI/\f.maxI<=1073741824/\0<=f.maxB/\f.maxB<=1073741824/\f.next<=1099511627776/\(∀ x∈f.xs,1<=x.ino/\x.ino<f.next)/\zW f.xs/\zl 1 f.xs=true/\(zf 1 f.xs).kind=2
instance (f:FsV):Decidable (JO f):=by unfold JO;infer_instance
def YW (f:FsV):Prop:=∀ x∈f.xs,∀ e∈x.es,zl e.ino f.xs=true
instance (f:FsV):Decidable (YW f):=by unfold YW;infer_instance
def Gb (f:FsV):Prop:=(f.xs.length:Int)<=f.maxI/\(ql f.xs:Int)<=f.maxB
instance (f:FsV):Decidable (Gb f):=by unfold Gb;infer_instance
theorem qv {l:List α} {i:Nat} (h:i<l.length) {P:α->Prop} (h1:∀ x∈l.take i,P x) (h2:P l[i]):∀ x∈l.take (i+1),P x:=fun x hx=>by
 rw[WQ,Wa h]at hx;rcases WC.1 hx with hx | hx
 ·exact h1 x hx
 ·simp at hx;subst hx;exact h2
section
variable {G:zu}
theorem xl (f:FsV) (hl:f.xs.length<=100000):Fun Tryz.prog G 153 [.agg (fsC f)] (.sc (.bool (decide (JO f)))) 0:=by
 have hll:(zr f.xs).length=f.xs.length:=We ..;refine fon Tryz.func153 ?_;dsimp only[Tryz.f153];by_cases e0:f.maxI<1
 case pos =>
  have hn:¬JO f:=fun h=>by have:=h.1;omega
  push_cast [e0];exact dn (by push_cast [ze,zd,CLe,zh,hn])
 by_cases e1:1073741824<f.maxI
 case pos =>
  have hn:¬JO f:=fun h=>by have:=h.2.1;omega
  push_cast [e0,e1];exact dn (by push_cast [ze,zd,CLe,zh,hn])
 by_cases e2:f.maxB<0
 case pos =>
  have hn:¬JO f:=fun h=>by have:=h.2.2.1;omega
  push_cast [e0,e1,e2];exact dn (by push_cast [ze,zd,CLe,zh,hn])
 by_cases e3:1073741824<f.maxB
 case pos =>
  have hn:¬JO f:=fun h=>by have:=h.2.2.2.1;omega
  push_cast [e0,e1,e2,e3];exact dn (by push_cast [ze,zd,CLe,zh,hn])
 by_cases e4:1099511627776<f.next
 case pos =>
  have hn:¬JO f:=fun h=>by have:=h.2.2.2.2.1;omega
  push_cast [e0,e1,e2,e3,e4];exact dn (by push_cast [ze,zd,CLe,zh,hn])
 push_cast [e0,e1,e2,e3,e4];refine loop (fun i:Nat=>⟨[(1,.ptr 0 0),(3,.sc (.int .i64 i))],[fsC f],0,0⟩) (fun i=>i<=f.xs.length/\∀ x∈f.xs.take i,1<=x.ino/\x.ino<f.next) (fun i=>f.xs.length-i) 0 ⟨Wb _,fun x hx=>by simp at hx⟩ ?_ ?_
 ·exact wk
 ·rintro i ⟨h1,h2⟩;by_cases h:i<f.xs.length
  ·have g1:=jb f.xs i h;by_cases c1:f.xs[i].ino<1
   ·have hn:¬JO f:=fun h'=>by have:=h'.2.2.2.2.2.1 _ (Ww h);omega
    push_cast [hll,h,g1,c1]
    repeat refine an ?_
    exact dn (by push_cast [ze,zd,CLe,zh,hn])
   ·by_cases c2:f.next<=f.xs[i].ino
    ·have hn:¬JO f:=fun h'=>by have:=h'.2.2.2.2.2.1 _ (Ww h);omega
     push_cast [hll,h,g1,c1,c2]
     repeat refine an ?_
     exact dn (by push_cast [ze,zd,CLe,zh,hn])
    ·push_cast [hll,h,g1,c1,c2]
     repeat refine an ?_
     exact ⟨i+1,⟨h,qv h h2 (by omega)⟩,by omega,wk⟩
  ·rw[Wf (by omega)]at h2;have hf:JO f↔zW f.xs/\zl 1 f.xs=true/\(zf 1 f.xs).kind=2:=⟨fun h=>h.2.2.2.2.2.2,fun h=>⟨by omega,by omega,by omega,by omega,by omega,h2,h⟩⟩;push_cast [hll,h];refine cl (qU f 1 hl) ?_;push_cast;by_cases c1:zW f.xs
   ·cases c2:zl 1 f.xs with
    | true =>
     refine cl (U5 f hl) ?_;push_cast [Wm c1,c2];exact dn (by push_cast [ze,zd,CLe,zh,hf,c1,c2])
    | false =>
     have hn:¬JO f:=fun h=>by have:=(hf.1 h).2.1;rw[c2]at this;cases this
     refine cl (U5 f hl) ?_;push_cast [Wm c1,c2];exact dn (by push_cast [ze,zd,CLe,zh,hn])
   ·have hn:¬JO f:=fun h=>c1 (hf.1 h).1;refine cl (U5 f hl) ?_;push_cast [Wj c1];exact dn (by push_cast [ze,zd,CLe,zh,hn])
theorem MC (f:FsV) (hf:FsS f):Fun Tryz.prog G 155 [.agg (fsC f)] (.sc (.bool (decide (YW f)))) 0:=by
 have hll:(zr f.xs).length=f.xs.length:=We ..;have h40:=hf.len;refine fof (fun i=>if i=7 then js 15 16 else []) Tryz.func155 ?_;dsimp only[Tryz.f155];push_cast;refine loop (fun i:Nat=>⟨[(1,.ptr 0 0),(3,.sc (.int .i64 i))],[fsC f],0,0⟩) (fun i=>i<=f.xs.length/\∀ x∈f.xs.take i,∀ e∈x.es,zl e.ino f.xs=true) (fun i=>f.xs.length-i) 0 ⟨Wb _,fun x hx=>by simp at hx⟩ ?_ ?_
 ·exact wk
 ·rintro i ⟨h1,h2⟩;by_cases h:i<f.xs.length
  ·have g1:=jb f.xs i h;have he:=(hf.node _ (Ww h)).1;have hle:(zJ f.xs[i].es).length=f.xs[i].es.length:=We ..;push_cast [hll,h];refine loop (fun k:Nat=>⟨[(1,.ptr 0 0),(3,.sc (.int .i64 i)),(4,.sc (.int .i64 k))],[fsC f],0,0⟩) (fun k=>k<=f.xs[i].es.length/\∀ e∈f.xs[i].es.take k,zl e.ino f.xs=true) (fun k=>f.xs[i].es.length-k) 0 ⟨Wb _,fun x hx=>by simp at hx⟩ ?_ ?_
   ·exact wk
   ·rintro k ⟨h3,h4⟩;by_cases hk:k<f.xs[i].es.length
    ·have g2:=Jk f.xs[i].es k hk;push_cast [g1,hle,hk,g2]
     repeat refine an ?_
     refine cl (qU f f.xs[i].es[k].ino (by omega)) ?_;push_cast;cases hh:zl f.xs[i].es[k].ino f.xs with
     | true =>
      push_cast [hh]
      repeat refine an ?_
      exact ⟨k+1,⟨hk,qv hk h4 hh⟩,by omega,wk⟩
     | false =>
      have hn:¬YW f:=fun h'=>by have:=h' _ (Ww h) _ (Ww hk);rw[hh]at this;cases this
      push_cast [hh];exact dn (by push_cast [ze,zd,CLe,zh,hn])
    ·rw[Wf (by omega)]at h4;push_cast [g1,hle,hk]
     repeat refine an ?_
     exact ⟨i+1,⟨h,qv h h2 h4⟩,by omega,wk⟩
  ·rw[Wf (by omega)]at h2;have hn:YW f:=h2;push_cast [hll,h];exact dn (by push_cast [ze,zd,CLe,zh,hn])
theorem zbr (f:FsV) (hf:FsS f) (hb:ql f.xs<=100000000):Fun Tryz.prog G 143 [.agg (fsC f),.sc (.int .i64 0),.sc (.int .i64 0)] (.sc (.bool (decide (Gb f)))) 0:=by
 have hll:(zr f.xs).length=f.xs.length:=We ..;have h40:=hf.len;refine fon Tryz.func143 ?_;dsimp only[Tryz.f143];by_cases c1:f.maxI<f.xs.length
 ·have hn:¬Gb f:=fun h=>by have:=h.1;omega
  push_cast [hll,c1]
  repeat refine an ?_
  exact dn (by push_cast [ze,zd,CLe,zh,hn])
 ·have hn:Gb f↔(ql f.xs:Int)<=f.maxB:=⟨fun h=>h.2,fun h=>⟨by omega,h⟩⟩;push_cast [hll,c1]
  repeat refine an ?_
  refine cl (yJ f hf) ?_;push_cast
  repeat refine an ?_
  exact dn (by push_cast [ze,zd,CLe,zh,hn])
end
end
section
open Go.RowKit
abbrev VO (x:zn) (es:List zN):List (Int×Int):=es.map fun e=>(e.ino,x.ino)
def qt (xs:List zn):List (Int×Int):=xs.flatMap fun x=>VO x x.es
def ZI (n:Int) (l:List (Int×Int)):Nat:=(l.filter fun p=>p.1==n).length
def UN (n:Int) (l:List (Int×Int)):Int:=(((l.filter fun p=>p.1==n).getLast?).map (·.2)).getD 0
theorem zn0 {p:Int×Int}:ZI n (l++[p])=ZI n l+if p.1=n then 1 else 0:=by
 unfold ZI;rw[Oz,Wn];by_cases h:p.1=n<;>simp[h]
theorem ziV {p:Int×Int}:UN n (l++[p])=if p.1=n then p.2 else UN n l:=by
 unfold UN;rw[Oz];by_cases h:p.1=n<;>simp[h]
theorem zcq {i:Nat} (h:i<xs.length):qt (xs.take (i+1))=qt (xs.take i)++VO xs[i] xs[i].es:=by
 unfold qt;rw[WQ,Wa h,Bp];simp
theorem zd0 {es:List zN} (h:k<es.length):VO x (es.take (k+1))=VO x (es.take k)++[(es[k].ino,x.ino)]:=by
 rw[WQ,Wa h,Option.toList_some];exact WS
theorem zfr (hf:∀ x∈xs,x.es.length<=10000):(qt xs).length<=xs.length*10000:=by
 induction xs with
 | nil=>exact Wc _
 | cons x r ih =>
  have h1:=hf x Wk;have h2:=ih fun y hy=>hf y (Wl _ hy);unfold qt at h2 ⊢;rw[Ap,Wn,We,Wh];omega
theorem zqt:ZI n l<=l.length:=OI _ _
def V9 (xs:List zn) (x:zn):Prop:=x.links=ZI x.ino (qt xs)/\if x.ino=1 then ZI x.ino (qt xs)=0/\x.parent=1 else 1<=ZI x.ino (qt xs)/\(x.kind=2->ZI x.ino (qt xs)=1/\x.parent=UN x.ino (qt xs))
instance (xs:List zn) (x:zn):Decidable (V9 xs x):=by unfold V9;infer_instance
def Xd (f:FsV):Prop:=∀ x∈f.xs,V9 f.xs x
instance (f:FsV):Decidable (Xd f):=by unfold Xd;infer_instance
section
variable {G:zu}
theorem zcV (f:FsV) (n:Int) (hf:FsS f):Fun Tryz.prog G 189 [.agg (fsC f),.sc (.int .i64 n)] (.tup [.sc (.int .i64 (ZI n (qt f.xs):Nat)),.sc (.int .i64 (UN n (qt f.xs)))]) 0:=by
 have hll:(zr f.xs).length=f.xs.length:=We ..;have h40:=hf.len;have hc0:ZI n (qt [])=0:=rfl;have hl0:UN n (qt [])=0:=rfl;refine fon Tryz.func189 ?_;dsimp only[Tryz.f189];push_cast;refine loop (fun i:Nat=>⟨[(1,.sc (.int .i64 n)),(2,.ptr 0 0),(6,.sc (.int .i64 (ZI n (qt (f.xs.take i)):Nat))),(7,.sc (.int .i64 (UN n (qt (f.xs.take i))))),(8,.sc (.int .i64 i))],[fsC f],0,0⟩) (fun i=>i<=f.xs.length) (fun i=>f.xs.length-i) 0 (Wb _) ?_ ?_
 ·exact wk (by push_cast [ze,zd,CLe,zh,OF,hc0,hl0])
 ·intro i h1;by_cases h:i<f.xs.length
  ·have g1:=jb f.xs i h;have hle:(zJ f.xs[i].es).length=f.xs[i].es.length:=We ..;have hpl:(qt (f.xs.take i)).length<=i*10000:=by
    have:=zfr (xs:=f.xs.take i) fun x hx=>(hf.node x (Wx hx)).1;rw[W7]at this;exact WJ this (WT _ (Nat.min_le_left _ _))
   have h40e:=(hf.node _ (Ww h)).1;push_cast [hll,h];refine loop (fun k:Nat=>⟨[(1,.sc (.int .i64 n)),(2,.ptr 0 0),(6,.sc (.int .i64 (ZI n (qt (f.xs.take i)++VO f.xs[i] (f.xs[i].es.take k)):Nat))),(7,.sc (.int .i64 (UN n (qt (f.xs.take i)++VO f.xs[i] (f.xs[i].es.take k))))),(8,.sc (.int .i64 i)),(9,.sc (.int .i64 k))],[fsC f],0,0⟩) (fun k=>k<=f.xs[i].es.length) (fun k=>f.xs[i].es.length-k) 0 (Wb _) ?_ ?_
   ·exact wk (by push_cast [ze,zd,CLe,zh,OF,W2])
   ·intro k hk0;by_cases hk:k<f.xs[i].es.length
    ·have g2:=Jk f.xs[i].es k hk;have ht:=zd0 (x:=f.xs[i]) hk;have hcl:=zqt (n:=n) (l:=qt (f.xs.take i)++VO f.xs[i] (f.xs[i].es.take k));rw[Wn,We,W7]at hcl;have hca:=zn0 (n:=n) (l:=qt (f.xs.take i)++VO f.xs[i] (f.xs[i].es.take k)) (p:=(f.xs[i].es[k].ino,f.xs[i].ino));have hla:=ziV (n:=n) (l:=qt (f.xs.take i)++VO f.xs[i] (f.xs[i].es.take k)) (p:=(f.xs[i].es[k].ino,f.xs[i].ino));rw[WH,←ht]at hca hla;by_cases hc:f.xs[i].es[k].ino=n
     ·rw[if_pos hc]at hca hla;push_cast [g1,hle,hk,g2,hc]
      repeat refine an ?_
      exact ⟨k+1,hk,by omega,wk (by push_cast [ze,zd,CLe,zh,hca,hla])⟩
     ·rw[if_neg hc]at hca hla;push_cast [g1,hle,hk,g2,hc]
      repeat refine an ?_
      exact ⟨k+1,hk,by omega,wk (by push_cast [ze,zd,CLe,zh,hca,hla])⟩
    ·have hkk:f.xs[i].es.take k=f.xs[i].es:=Wf (by omega);rw[hkk];have ht:=zcq h;push_cast [g1,hle,hk]
     repeat refine an ?_
     exact ⟨i+1,h,by omega,wk (by push_cast [ze,zd,CLe,zh,ht])⟩
  ·rw[Wf (by omega)];push_cast [hll,h];exact dn
end
end
section
open CA CB
open Go.RowKit
section
variable {G:zu}
theorem Gn (f:FsV) (hf:FsS f):Fun Tryz.prog G 156 [.agg (fsC f)] (.sc (.bool (decide (Xd f)))) 0:=by
 have hll:(zr f.xs).length=f.xs.length:=We ..;have h40:=hf.len;refine fon Tryz.func156 ?_;dsimp only[Tryz.f156];push_cast;refine loop (fun i:Nat=>⟨[(1,.ptr 0 0),(3,.sc (.int .i64 i))],[fsC f],0,0⟩) (fun i=>i<=f.xs.length/\∀ x∈f.xs.take i,V9 f.xs x) (fun i=>f.xs.length-i) 0 ⟨Wb _,fun x hx=>by simp at hx⟩ ?_ ?_
 ·exact wk
 ·rintro i ⟨h1,h2⟩;by_cases h:i<f.xs.length
  ·have g1:=jb f.xs i h;have hbad:¬V9 f.xs f.xs[i]->¬Xd f:=fun hn h'=>hn (h' _ (Ww h));have hdef:V9 f.xs f.xs[i]↔f.xs[i].links=ZI f.xs[i].ino (qt f.xs)/\if f.xs[i].ino=1 then ZI f.xs[i].ino (qt f.xs)=0/\f.xs[i].parent=1 else 1<=ZI f.xs[i].ino (qt f.xs)/\(f.xs[i].kind=2->ZI f.xs[i].ino (qt f.xs)=1/\f.xs[i].parent=UN f.xs[i].ino (qt f.xs)):=Iff.rfl;push_cast [hll,h,g1]
   repeat refine an ?_
   refine cl (zcV f f.xs[i].ino hf) ?_;push_cast;generalize ZI f.xs[i].ino (qt f.xs)=c at hdef;generalize UN f.xs[i].ino (qt f.xs)=d at hdef;by_cases c1:f.xs[i].links=(c:Int)
   case neg =>
    have hn:=hbad fun h=>c1 (hdef.1 h).1;push_cast [c1];exact dn (by push_cast [ze,zd,CLe,zh,hn])
   by_cases c2:f.xs[i].ino=1
   ·rw[if_pos c2]at hdef;by_cases c3:(c:Int)=0
    ·by_cases c4:f.xs[i].parent=1
     ·push_cast [c1,c2,c3,c4]
      repeat refine an ?_
      exact ⟨i+1,⟨h,qv h h2 (hdef.2 ⟨c1,by omega,c4⟩)⟩,by omega,wk⟩
     ·have hn:=hbad fun h=>c4 (hdef.1 h).2.2;push_cast [c1,c2,c3,c4];exact dn (by push_cast [ze,zd,CLe,zh,hn])
    ·have hn:=hbad fun h=>by have:=(hdef.1 h).2.1;omega
     push_cast [c1,c2,c3];exact dn (by push_cast [ze,zd,CLe,zh,hn])
   ·rw[if_neg c2]at hdef;by_cases c3:(c:Int)<1
    ·have hn:=hbad fun h=>by have:=(hdef.1 h).2.1;omega
     push_cast [c1,c2,c3];exact dn (by push_cast [ze,zd,CLe,zh,hn])
    by_cases c4:f.xs[i].kind=2
    ·by_cases c5:(c:Int)=1
     ·by_cases c6:f.xs[i].parent=d
      ·push_cast [c1,c2,c3,c4,c5,c6]
       repeat refine an ?_
       exact ⟨i+1,⟨h,qv h h2 (hdef.2 ⟨c1,by omega,fun _=>⟨by omega,c6⟩⟩)⟩,by omega,wk⟩
      ·have hn:=hbad fun h=>c6 ((hdef.1 h).2.2 c4).2;push_cast [c1,c2,c3,c4,c5,c6];exact dn (by push_cast [ze,zd,CLe,zh,hn])
     ·have hn:=hbad fun h=>by have:=((hdef.1 h).2.2 c4).1;omega
      push_cast [c1,c2,c3,c4,c5];exact dn (by push_cast [ze,zd,CLe,zh,hn])
    ·push_cast [c1,c2,c3,c4]
     repeat refine an ?_
     exact ⟨i+1,⟨h,qv h h2 (hdef.2 ⟨c1,by omega,fun h=>absurd h c4⟩)⟩,by omega,wk⟩
  ·rw[Wf (by omega)]at h2;have hn:Xd f:=h2;push_cast [hll,h];exact dn (by push_cast [ze,zd,CLe,zh,hn])
end
end
section
open CA CB
open Go.RowKit
abbrev zcO (S:List Int):List (List C):=S.map fun n=>[C.sc (.int .i64 n)]
def YV (S:List Int) (n:Int):List Int:=if n∈S then S else S++[n]
def HV (S:List Int) (es:List zN):List Int:=es.foldl (fun s e=>YV s e.ino) S
def Zy (xs:List zn):Nat->Nat->List Int->List Int
 | 0,_,S=>S
 | m+1,i,S=>match S[i]? with
  | some n=>Zy xs m (i+1) (HV S (zf n xs).es)
  | none=>S
def Zk (f:FsV):Prop:=(Zy f.xs (f.xs.length+1) 0 [1]).length=f.xs.length
instance (f:FsV):Decidable (Zk f):=by unfold Zk;infer_instance
theorem UT:∀ {S T:List Int},S.Nodup->(∀ n∈S,n∈T)->S.length<=T.length
 | [],T,_,_=>Wb _
 | a :: r,T,hn,hs=>by
  have ha:=hs a Wk;obtain ⟨h1,h2⟩:=OV.1 hn;have:=UT (S:=r) (T:=T.erase a) h2 fun n hr=>(List.mem_erase_of_ne (fun e=>h1 (by rw[←e];exact hr))).2 (hs n (Wl _ hr));rw[List.length_erase_of_mem ha]at this;have hpos:=WI.2 (List.ne_nil_of_mem ha);rw[Wh];omega
theorem N8:zl n xs=true↔n∈xs.map (·.ino):=by
 unfold zl;rw[Ou,WV];simp
theorem Vn (hn:S.Nodup) (hs:∀ n∈S,zl n xs=true):S.length<=xs.length:=by
 have:=UT (T:=xs.map (·.ino)) hn fun n h=>N8.1 (hs n h);rwa [We]at this
theorem yr (h:S.Nodup):(YV S n).Nodup:=by
 unfold YV;split
 ·exact h
 ·rw[Ag];refine ⟨h,by simp,fun a ha b hb e=>?_⟩;simp at hb;subst hb;subst e;contradiction
theorem GC {m:Int}:m∈YV S n↔m∈S∨m=n:=by
 unfold YV;split
 ·constructor
  ·exact .inl
  ·rintro (h | h)
   ·exact h
   ·rw[h];assumption
 ·simp
theorem jD (h:zl n xs=true):zf n xs∈xs/\(zf n xs).ino=n:=by
 unfold zl at h;unfold zf Xy;cases hq:xs.find? fun x=>x.ino==n with
 | none =>
  rw[Be]at hq;obtain ⟨x,hx,he⟩:=Ou.1 h;exact absurd he (hq x hx)
 | some y =>
  exact ⟨Bl hq,by simpa using List.find?_some hq⟩
theorem zhq {es:List zN} (h:k<es.length):HV S (es.take (k+1))=YV (HV S (es.take k)) es[k].ino:=by
 unfold HV;rw[WQ,Wa h,List.foldl_append]
 rfl
theorem zkO (es:List zN):∀ (S:List Int),S <+: HV S es:=by
 induction es with
 | nil=>exact fun S=>List.prefix_refl S
 | cons e r ih =>
  intro S;refine List.IsPrefix.trans ?_ (ih (YV S e.ino));unfold YV;split
  ·exact List.prefix_refl S
  ·exact List.prefix_append S _
theorem zlN (S:List Int) (es:List zN):S.length<=(HV S es).length:=(zkO es S).length_le
structure YT (xs:List zn) (S:List Int):Prop where
 nodup:S.Nodup
 has:∀ n∈S,zl n xs=true
theorem YT.len (h:YT xs S):S.length<=xs.length:=Vn h.nodup h.has
theorem YT.one (h:YT xs S) (hn:zl n xs=true):YT xs (YV S n):=⟨yr h.nodup,fun m hm=>by
 rcases GC.1 hm with hm | rfl
 ·exact h.has m hm
 ·exact hn⟩
theorem zfA {j:Nat} (h:j<S.length):((S.take (j+1)).any fun m=>decide (m=n))=(((S.take j).any fun m=>decide (m=n))||decide (S[j]=n)):=by
 rw[WQ,Wa h,By];simp
theorem zoB:(S.any fun m=>decide (m=n))=decide (n∈S):=by
 rw[BQ,Ou,decide_eq_true_iff];constructor
 ·rintro ⟨m,hm,h⟩;exact (WP h)▸hm
 ·exact fun h=>⟨n,h,Wm rfl⟩
theorem zaS (S:List Int) (i:Nat) (h:i<S.length):(zcO S)[i]?=some [.sc (.int .i64 S[i])]:=by simp[WA,Wa h]
section
variable {G:zu}
theorem MU (f:FsV) (hf:FsS f) (h3:YW f) (h1:zl 1 f.xs=true):Fun Tryz.prog G 157 [.agg (fsC f)] (.sc (.bool (decide (Zk f)))) 0:=by
 have hll:(zr f.xs).length=f.xs.length:=We ..;have h40:=hf.len;refine fof (fun i=>if i=5 then js 9 10 else []) Tryz.func157 ?_;dsimp only[Tryz.f157];push_cast;refine loop (fun p:Nat×List Int=>⟨[(1,.ptr 0 0),(3,.own 0 3 1 (zcO p.2)),(4,.sc (.int .i64 p.1))],[fsC f],1,0⟩) (fun p=>p.1<=p.2.length/\YT f.xs p.2/\Zy f.xs (f.xs.length+1-p.1) p.1 p.2=Zy f.xs (f.xs.length+1) 0 [1]) (fun p=>f.xs.length+1-p.1) (0,[1]) ⟨Wb _,⟨by simp,fun n hn=>by simp at hn;subst hn;exact h1⟩,rfl⟩ ?_ ?_
 ·exact wks [.inl 0]
 ·rintro ⟨i,S⟩ ⟨k1,k2,k3⟩;dsimp only at k1 k2 k3 ⊢;have hSl:=k2.len;have hli:(zcO S).length=S.length:=We ..;by_cases h:i<S.length
  ·have g0:=zaS S i h;obtain ⟨hm,hino⟩:=jD (k2.has S[i] (Ww h));push_cast [hli,h,g0]
   repeat refine an ?_
   refine cl (qU f S[i] (by omega)) ?_;push_cast;rw[show f.xs.length+1-i=(f.xs.length+1-(i+1))+1 by omega,Zy,Wa h]at k3;dsimp only at k3;generalize zf S[i] f.xs=x at hm hino k3;have hx40:=(hf.node x hm).1;have hle:(zJ x.es).length=x.es.length:=We ..;refine loop (fun k:Nat=>⟨[(1,.ptr 0 0),(3,.own 0 3 1 (zcO (HV S (x.es.take k)))),(4,.sc (.int .i64 i)),(5,.ptr 1 0),(7,.sc (.int .i64 k))],[fsC f,JS x],1,0⟩) (fun k=>k<=x.es.length/\YT f.xs (HV S (x.es.take k))) (fun k=>x.es.length-k) 0 ⟨Wb _,k2⟩ ?_ ?_
   ·exact wks [.inl 0] (by push_cast [ze,zd,CLe,zh,OF,HV,B0])
   ·rintro k ⟨hk0,k4⟩;by_cases hk:k<x.es.length
    ·have g2:=Jk x.es k hk;have hT:=k4.len;have ht:=zhq (S:=S) hk;have hhas:zl x.es[k].ino f.xs=true:=h3 x hm _ (Ww hk);have k5:=k4.one hhas;rw[←ht]at k5;generalize hT1:HV S (x.es.take (k+1))=T1 at ht k5;generalize HV S (x.es.take k)=T at k4 hT ht;have hlT:(zcO T).length=T.length:=We ..;generalize hn:x.es[k].ino=n at g2 ht;push_cast [hle,hk];refine loop (fun j:Nat=>⟨[(1,.ptr 0 0),(3,.own 0 3 1 (zcO T)),(4,.sc (.int .i64 i)),(5,.ptr 1 0),(7,.sc (.int .i64 k)),(8,.sc (.bool ((T.take j).any fun m=>decide (m=n)))),(9,.sc (.int .i64 j))],[fsC f,JS x],1,0⟩) (fun j=>j<=T.length) (fun j=>T.length-j) 0 (Wb _) ?_ ?_
     ·exact wks [.inl 0] (by push_cast [ze,zd,CLe,zh,OF,BV])
     ·intro j hj0;by_cases hj:j<T.length
      ·have g3:=zaS T j hj;have ha:=zfA (n:=n) hj;by_cases hq:((T.take j).any fun m=>decide (m=n))=true
       ·rw[hq,BW]at ha;push_cast [hlT,hj,hq]
        repeat refine an ?_
        exact ⟨j+1,hj,by omega,wks [.inl 0] (by push_cast [ze,zd,CLe,zh,ha])⟩
       ·have hq:=Oy.2 hq;rw[hq,O6]at ha;push_cast [hlT,hj,hq,g3,g2,hn]
        repeat refine an ?_
        exact ⟨j+1,hj,by omega,wks [.inl 0] (by push_cast [ze,zd,CLe,zh,ha])⟩
      ·have hTj:(T.take j)=T:=Wf (by omega);have hany:=zoB (S:=T) (n:=n);unfold YV at ht;by_cases hin:n∈T
       ·rw[if_pos hin]at ht;rw[Wm hin]at hany;push_cast [hlT,hj,hTj,hany]
        repeat refine an ?_
        exact ⟨k+1,⟨hk,by rw[hT1];exact k5⟩,by omega,wks [.inl 0] (by push_cast [ze,zd,CLe,zh,hT1,ht])⟩
       ·rw[if_neg hin]at ht;rw[Wj hin]at hany;push_cast [hlT,hj,hTj,hany,g2,hn]
        repeat refine an ?_
        exact ⟨k+1,⟨hk,by rw[hT1];exact k5⟩,by omega,wks [.inl 0] (by push_cast [ze,zd,CLe,zh,hT1,ht,WS])⟩
    ·have hkk:x.es.take k=x.es:=Wf (by omega);rw[hkk]at k4;have hge:i+1<=(HV S x.es).length:=WJ h (zlN S x.es);push_cast [hle,hk,hkk]
     repeat refine an ?_
     exact ⟨(i+1,HV S x.es),⟨hge,k4,k3⟩,by dsimp only;omega,wks [.inl 0]⟩
  ·push_cast [hli,h];have hfin:Zy f.xs (f.xs.length+1-i) i S=S:=by
    rw[show f.xs.length+1-i=(f.xs.length-i)+1 by omega,Zy,W4 (by omega)]
   rw[hfin]at k3;have hn:Zk f↔S.length=f.xs.length:=by unfold Zk;rw[←k3]
   exact dn (by push_cast [ze,zd,CLe,zh,hn,hll])
end
end
section
open CA CB
open Go.RowKit
def Xr (es:List zN):Prop:=∀ i (h:i<es.length),may es[i].name=true/\1<=es[i].ino/\(0<i->Op.bytesLess es[i-1].name es[i].name=true)
instance (es:List zN):Decidable (Xr es):=by unfold Xr;infer_instance
def Xf (x:zn):Prop:=(x.kind=1∨x.kind=2∨x.kind=3)/\(x.kind≠2->x.es = []/\x.parent=0)/\(x.kind=2->x.data = []/\Xr x.es)/\(x.kind=3->1<=x.data.length/\x.data.length<=4095/\∀ b∈x.data,b≠0)
instance (x:zn):Decidable (Xf x):=by unfold Xf;infer_instance
def Xa (f:FsV):Prop:=∀ x∈f.xs,Xf x
instance (f:FsV):Decidable (Xa f):=by unfold Xa;infer_instance
def JQ (f:FsV):Int:=if JO f then if Xa f then if YW f then if Xd f then if Zk f then if Gb f then 0 else 6 else 5 else 4 else 3 else 2 else 1
def okV (f:FsV):Prop:=Gg f.xs/\JQ f=0
instance (f:FsV):Decidable (okV f):=by unfold okV;infer_instance
theorem zeI (es:List zN) (hl:es.length<=100000) (hn:∀ e∈es,e.name.length<=1000000):Fun Tryz.prog G0 188 [.sl 2 (zJ es)] (qJ (decide (Xr es))) 0:=by
 have hle:(zJ es).length=es.length:=We ..;refine fon Tryz.func188 ?_;dsimp only[Tryz.f188];push_cast;refine loop (fun i:Nat=>⟨[(0,.sl 2 (zJ es)),(3,.sc (.int .i64 i))],[],0,0⟩) (fun i=>i<=es.length/\∀ j (h:j<es.length),j<i->may es[j].name=true/\1<=es[j].ino/\(0<j->Op.bytesLess es[j-1].name es[j].name=true)) (fun i=>es.length-i) 0 ⟨Wb _,fun j h h'=>absurd h' (Oo _)⟩ ?_ ?_
 ·exact wk
 ·rintro i ⟨h1,h2⟩;by_cases h:i<es.length
  ·have g1:=Jk es i h;have hm:=VK es[i].name (by have:=hn _ (Ww h);omega);push_cast [hle,h,g1]
   repeat refine an ?_
   cases c1:may es[i].name with
   | false =>
    have hno:¬Xr es:=fun hr=>by have:=(hr i h).1;rw[c1]at this;cases this
    refine cl hm ?_;push_cast [c1];exact dn (by push_cast [ze,zd,CLe,zh,hno])
   | true =>
    by_cases c2:es[i].ino<1
    ·have hno:¬Xr es:=fun hr=>by have:=(hr i h).2.1;omega
     refine cl hm ?_;push_cast [c1,g1,c2]
     repeat refine an ?_
     exact dn (by push_cast [ze,zd,CLe,zh,hno])
    ·have step:(0<i->Op.bytesLess es[i-1].name es[i].name=true)->∀ j (h:j<es.length),j<i+1->may es[j].name=true/\1<=es[j].ino/\(0<j->Op.bytesLess es[j-1].name es[j].name=true):=fun hb j hj hlt=>by
      rcases Wr j i with q | q
      ·exact h2 j hj q
      ·have:j=i:=by omega
       subst this;exact ⟨c1,by omega,hb⟩
     by_cases c3:0<i
     ·have g2:=Jk es (i-1) (by omega);have e1:(i:Int)-1=((i-1:Nat):Int):=by omega
      cases c4:Op.bytesLess es[i-1].name es[i].name with
      | true =>
       refine cl hm ?_;push_cast [c1,g1,c2]
       repeat refine an ?_
       push_cast [c3,e1,g2,g1,c4]
       repeat refine an ?_
       exact ⟨i+1,⟨h,step fun _=>c4⟩,by omega,wk⟩
      | false =>
       have hno:¬Xr es:=fun hr=>by have:=(hr i h).2.2 c3;rw[c4]at this;cases this
       refine cl hm ?_;push_cast [c1,g1,c2]
       repeat refine an ?_
       push_cast [c3,e1,g2,g1,c4]
       repeat refine an ?_
       exact dn (by push_cast [ze,zd,CLe,zh,hno])
     ·refine cl hm ?_;push_cast [c1,g1,c2]
      repeat refine an ?_
      push_cast [c3]
      repeat refine an ?_
      exact ⟨i+1,⟨h,step fun h=>absurd h c3⟩,by omega,wk⟩
  ·have hr:Xr es:=fun j hj=>h2 j hj (by omega);push_cast [hle,h];exact dn (by push_cast [ze,zd,CLe,zh,hr])
end
section
open CA CB
open Go.RowKit
theorem Gl (f:FsV) (hf:FsS f):Fun Tryz.prog G0 154 [.agg (fsC f)] (qJ (decide (Xa f))) 0:=by
 have hll:(zr f.xs).length=f.xs.length:=We ..;have h40:=hf.len;refine fon Tryz.func154 ?_;dsimp only[Tryz.f154];push_cast;refine loop (fun i:Nat=>⟨[(1,.ptr 0 0),(3,.sc (.int .i64 i))],[fsC f],0,0⟩) (fun i=>i<=f.xs.length/\∀ x∈f.xs.take i,Xf x) (fun i=>f.xs.length-i) 0 ⟨Wb _,fun x hx=>by simp at hx⟩ ?_ ?_
 ·exact wk
 ·rintro i ⟨h1,h2⟩;by_cases h:i<f.xs.length
  case neg =>
   rw[Wf (by omega)]at h2;have hn:Xa f:=h2;push_cast [hll,h];exact dn (by push_cast [ze,zd,CLe,zh,hn])
  have g1:=jb f.xs i h;have hbad:¬Xf f.xs[i]->¬Xa f:=fun hn h'=>hn (h' _ (Ww h));have hs:=hf.node _ (Ww h);have step:Xf f.xs[i]->∀ x∈f.xs.take (i+1),Xf x:=fun hq=>qv h h2 hq;push_cast [hll,h,g1]
  repeat refine an ?_
  generalize f.xs[i]=x at g1 hbad hs step;have hle:(zJ x.es).length=x.es.length:=We ..;have hent:x.es.length<=10000:=hs.1;by_cases k2:x.kind=2
  ·by_cases d0:x.data = []
   ·have hr:=zeI x.es (by omega) fun e he=>by have:=hs.2.2 e he;omega
    cases c1:decide (Xr x.es) with
    | false =>
     have hn:=hbad fun hq=>OS c1 (hq.2.2.1 k2).2;push_cast [k2,d0];refine cl hr ?_;push_cast [c1];exact dn (by push_cast [ze,zd,CLe,zh,hn])
    | true =>
     have hq:Xf x:=⟨.inr (.inl k2),fun h=>absurd k2 h,fun _=>⟨d0,WP c1⟩,fun h=>by omega⟩;push_cast [k2,d0];refine cl hr ?_;push_cast [c1,k2];refine loop (fun j:Nat=>⟨[(1,.ptr 0 0),(3,.sc (.int .i64 i)),(4,.ptr 1 0),(5,.sc (.int .i64 j))],[fsC f,JS x],0,0⟩) (fun j=>j=0) (fun j=>0) 0 rfl ?_ ?_
     ·exact wk (by push_cast [ze,zd,CLe,zh,k2,d0]) (by push_cast [ze,zd,CLe,zh,k2,d0])
     ·rintro j rfl;push_cast [d0]
      repeat refine an ?_
      exact ⟨i+1,⟨h,step hq⟩,by omega,wk⟩
   ·have hn:=hbad fun hq=>d0 (hq.2.2.1 k2).1;push_cast [k2,d0];exact dn (by push_cast [ze,zd,CLe,zh,hn])
  by_cases e0:x.es = []
  case neg =>
   have hn:=hbad fun hq=>e0 (hq.2.1 k2).1;have hpos:0<(x.es.length:Int):=by have:=WI.2 e0;omega
   by_cases k1:x.kind=1
   ·push_cast [k1,hle,hpos];exact dn (by push_cast [ze,zd,CLe,zh,hn])
   ·by_cases k3:x.kind=3
    ·push_cast [k1,k2,k3,hle,hpos];exact dn (by push_cast [ze,zd,CLe,zh,hn])
    ·have hn:=hbad fun hq=>by rcases hq.1 with q | q | q<;>contradiction
     push_cast [k1,k2,k3];exact dn (by push_cast [ze,zd,CLe,zh,hn])
  have hl0:x.es.length=0:=by rw[e0];rfl
  by_cases p0:x.parent=0
  case neg =>
   have hn:=hbad fun hq=>p0 (hq.2.1 k2).2;by_cases k1:x.kind=1
   ·push_cast [k1,hle,hl0,p0];exact dn (by push_cast [ze,zd,CLe,zh,hn])
   ·by_cases k3:x.kind=3
    ·push_cast [k1,k2,k3,hle,hl0,p0];exact dn (by push_cast [ze,zd,CLe,zh,hn])
    ·have hn:=hbad fun hq=>by rcases hq.1 with q | q | q<;>contradiction
     push_cast [k1,k2,k3];exact dn (by push_cast [ze,zd,CLe,zh,hn])
  by_cases k1:x.kind=1
  ·have hq:Xf x:=⟨.inl k1,fun _=>⟨e0,p0⟩,fun h=>absurd h k2,fun h=>by omega⟩;push_cast [k1,hle,hl0,p0];refine loop (fun j:Nat=>⟨[(1,.ptr 0 0),(3,.sc (.int .i64 i)),(4,.ptr 1 0),(5,.sc (.int .i64 j))],[fsC f,JS x],0,0⟩) (fun j=>j=0) (fun j=>0) 0 rfl ?_ ?_
   ·exact wk (by push_cast [ze,zd,CLe,zh,k1,p0]) (by push_cast [ze,zd,CLe,zh,k1,p0])
   ·rintro j rfl;by_cases hd:(0:Int)<x.data.length
    ·push_cast [hd,k1]
     repeat refine an ?_
     exact ⟨i+1,⟨h,step hq⟩,by omega,wk⟩
    ·push_cast [hd,k1]
     repeat refine an ?_
     exact ⟨i+1,⟨h,step hq⟩,by omega,wk⟩
  by_cases k3:x.kind=3
  case neg =>
   have hn:=hbad fun hq=>by rcases hq.1 with q | q | q<;>contradiction
   push_cast [k1,k2,k3];exact dn (by push_cast [ze,zd,CLe,zh,hn])
  by_cases l1:(x.data.length:Int)<1
  ·have hn:=hbad fun hq=>by have:=(hq.2.2.2 k3).1;omega
   push_cast [k1,k2,k3,hle,hl0,p0,l1];exact dn (by push_cast [ze,zd,CLe,zh,hn])
  by_cases l2:4095<(x.data.length:Int)
  ·have hn:=hbad fun hq=>by have:=(hq.2.2.2 k3).2.1;omega
   push_cast [k1,k2,k3,hle,hl0,p0,l1,l2];exact dn (by push_cast [ze,zd,CLe,zh,hn])
  push_cast [k1,k2,k3,hle,hl0,p0,l1,l2];refine loop (fun j:Nat=>⟨[(1,.ptr 0 0),(3,.sc (.int .i64 i)),(4,.ptr 1 0),(5,.sc (.int .i64 j))],[fsC f,JS x],0,0⟩) (fun j=>j<=x.data.length/\∀ b∈x.data.take j,b≠0) (fun j=>x.data.length-j) 0 ⟨Wb _,fun b hb=>by simp at hb⟩ ?_ ?_
  ·exact wk (by push_cast [ze,zd,CLe,zh,k3,p0]) (by push_cast [ze,zd,CLe,zh,k3,p0])
  ·rintro j ⟨j1,j2⟩;by_cases hj:j<x.data.length
   ·have hb:x.data[j]?=some x.data[j]:=Wa hj;by_cases z:(x.data[j].toNat:Int)=0
    ·have hn:=hbad fun hq=>(hq.2.2.2 k3).2.2 _ (Ww hj) (Am.1 (by simpa using z));push_cast [hj,k3,hb,z]
     repeat refine an ?_
     exact dn (by push_cast [ze,zd,CLe,zh,hn])
    ·push_cast [hj,k3,hb,z]
     repeat refine an ?_
     exact ⟨j+1,⟨hj,qv hj j2 fun hz=>z (by rw[hz];rfl)⟩,by omega,wk⟩
   ·rw[Wf (by omega)]at j2;have hq:Xf x:=⟨.inr (.inr k3),fun _=>⟨e0,p0⟩,fun h=>absurd h k2,fun _=>⟨by omega,by omega,j2⟩⟩;push_cast [hj,k3]
    repeat refine an ?_
    exact ⟨i+1,⟨h,step hq⟩,by omega,wk⟩
theorem zgT (f:FsV) (hf:FsS f):Fun Tryz.prog G0 107 [.agg (fsC f)] (.sc (.int .i64 (JQ f))) 0:=by
 have h40:=hf.len;have hb:ql f.xs<=100000000:=by have:=hf.bytes;omega
 refine fon Tryz.func107 ?_;dsimp only[Tryz.f107];push_cast;by_cases c1:JO f
 case neg =>
  refine cl (xl f (by omega)) ?_;push_cast [Wj c1];exact dn (by push_cast [ze,zd,CLe,zh,JQ,c1])
 refine cl (xl f (by omega)) ?_;push_cast [Wm c1];by_cases c2:Xa f
 case neg =>
  refine cl (Gl f hf) ?_;push_cast [Wj c2];exact dn (by push_cast [ze,zd,CLe,zh,JQ,c1,c2])
 refine cl (Gl f hf) ?_;push_cast [Wm c2];by_cases c3:YW f
 case neg =>
  refine cl (MC f hf) ?_;push_cast [Wj c3];exact dn (by push_cast [ze,zd,CLe,zh,JQ,c1,c2,c3])
 refine cl (MC f hf) ?_;push_cast [Wm c3];by_cases c4:Xd f
 case neg =>
  refine cl (Gn f hf) ?_;push_cast [Wj c4];exact dn (by push_cast [ze,zd,CLe,zh,JQ,c1,c2,c3,c4])
 refine cl (Gn f hf) ?_;push_cast [Wm c4];by_cases c5:Zk f
 case neg =>
  refine cl (MU f hf c3 c1.2.2.2.2.2.2.2.1) ?_;push_cast [Wj c5];exact dn (by push_cast [ze,zd,CLe,zh,JQ,c1,c2,c3,c4,c5])
 refine cl (MU f hf c3 c1.2.2.2.2.2.2.2.1) ?_;push_cast [Wm c5];by_cases c6:Gb f
 case neg =>
  refine cl (zbr f hf hb) ?_;push_cast [Wj c6];exact dn (by push_cast [ze,zd,CLe,zh,JQ,c1,c2,c3,c4,c5,c6])
 refine cl (zbr f hf hb) ?_;push_cast [Wm c6];exact dn (by push_cast [ze,zd,CLe,zh,JQ,c1,c2,c3,c4,c5,c6])
end
section
open CA CB
open Go.RowKit
def jS (x:zn) (k:zL):Bool:=decide (k.ino=x.ino)&&!k.content
def qI (w:qj) (x:zn):Prop:=zl x.ino w.fs.xs=false/\1<=x.ino/\x.ino<w.fs.next/\x.links=0/\x.parent=0/\x.es = []/\(x.kind=1∨x.kind=2∨x.kind=3)/\(x.kind=2->x.data = [])/\(x.kind=3->1<=x.data.length/\x.data.length<=4095/\∀ b∈x.data,b≠0)/\w.kept.any (jS x)=true
instance (w:qj) (x:zn):Decidable (qI w x):=by unfold qI;infer_instance
theorem zsD {α:Type} {P:α->Bool} {l:List α} (h:k<l.length):(l.take (k+1)).any P=((l.take k).any P||P l[k]):=by
 rw[WQ,Wa h,By];simp
theorem zc7 (w:qj) (x:zn) (hl:w.fs.xs.length<=100000) (hk:w.kept.length<=100000) (he:x.es.length<=100000) (hd:x.data.length<=100000):Fun Tryz.prog G0 109 [jP w,.agg (JS x)] (qJ (decide (qI w x))) 0:=by
 have hg:=qU (G:=G0) w.fs x.ino hl;have hkl:(zI w.kept).length=w.kept.length:=We ..;have hle:(zJ x.es).length=x.es.length:=We ..;by_cases c1:zl x.ino w.fs.xs=true
 ·have hn:¬qI w x:=fun h=>by have:=h.1;rw[c1]at this;cases this
  rw[c1]at hg;refine fon Tryz.func109 ?_;dsimp only[Tryz.f109];push_cast;refine cl hg ?_;push_cast;exact dn (by push_cast [ze,zd,CLe,zh,hn])
 have c1:=Oy.2 c1;rw[c1]at hg;by_cases c2:x.ino<1
 case pos =>
  have hn:¬qI w x:=fun h=>by have:=h.2.1;omega
  refine fon Tryz.func109 ?_;dsimp only[Tryz.f109];push_cast;refine cl hg ?_;push_cast [hle,c2];exact dn (by push_cast [ze,zd,CLe,zh,hn])
 by_cases c3:w.fs.next<=x.ino
 case pos =>
  have hn:¬qI w x:=fun h=>by have:=h.2.2.1;omega
  refine fon Tryz.func109 ?_;dsimp only[Tryz.f109];push_cast;refine cl hg ?_;push_cast [hle,c2,c3];exact dn (by push_cast [ze,zd,CLe,zh,hn])
 by_cases c4:x.links=0
 case neg =>
  have hn:¬qI w x:=fun h=>c4 h.2.2.2.1;refine fon Tryz.func109 ?_;dsimp only[Tryz.f109];push_cast;refine cl hg ?_;push_cast [hle,c2,c3,c4];exact dn (by push_cast [ze,zd,CLe,zh,hn])
 by_cases c5:x.parent=0
 case neg =>
  have hn:¬qI w x:=fun h=>c5 h.2.2.2.2.1;refine fon Tryz.func109 ?_;dsimp only[Tryz.f109];push_cast;refine cl hg ?_;push_cast [hle,c2,c3,c4,c5];exact dn (by push_cast [ze,zd,CLe,zh,hn])
 by_cases c6:(x.es.length:Int)=0
 case neg =>
  have hn:¬qI w x:=fun h=>c6 (by rw[h.2.2.2.2.2.1];rfl);refine fon Tryz.func109 ?_;dsimp only[Tryz.f109];push_cast;refine cl hg ?_;push_cast [hle,c2,c3,c4,c5,c6];exact dn (by push_cast [ze,zd,CLe,zh,hn])
 by_cases c7:x.kind<1
 case pos =>
  have hn:¬qI w x:=fun h=>by have:=h.2.2.2.2.2.2.1;omega
  refine fon Tryz.func109 ?_;dsimp only[Tryz.f109];push_cast;refine cl hg ?_;push_cast [hle,c2,c3,c4,c5,c6,c7];exact dn (by push_cast [ze,zd,CLe,zh,hn])
 by_cases c8:3<x.kind
 case pos =>
  have hn:¬qI w x:=fun h=>by have:=h.2.2.2.2.2.2.1;omega
  refine fon Tryz.func109 ?_;dsimp only[Tryz.f109];push_cast;refine cl hg ?_;push_cast [hle,c2,c3,c4,c5,c6,c7,c8];exact dn (by push_cast [ze,zd,CLe,zh,hn])
 have hes:x.es = []:=W6 (by omega);have hkd:x.kind=1∨x.kind=2∨x.kind=3:=by omega
 have key:(x.kind=2->x.data = [])->(x.kind=3->1<=x.data.length/\x.data.length<=4095/\∀ b∈x.data,b≠0)->decide (qI w x)=w.kept.any (jS x):=fun q1 q2=>by
  cases hn:w.kept.any (jS x) with
  | true=>exact Wm ⟨c1,by omega,by omega,c4,c5,hes,hkd,q1,q2,hn⟩
  | false=>exact Wj fun h=>by have:=h.2.2.2.2.2.2.2.2.2;rw[hn]at this;cases this
 by_cases k2:x.kind=2
 ·by_cases d0:x.data = []
  ·have hdl:((0:Int)<x.data.length)=False:=Wy (by rw[d0];simp);refine fon Tryz.func109 ?_;dsimp only[Tryz.f109];push_cast;refine cl hg ?_;push_cast [hle,c2,c3,c4,c5,c6,c7,c8,k2,d0,hdl];refine loop (fun j:Nat=>⟨[(2,.ptr 0 0),(3,.ptr 1 0),(7,.sc (.int .i64 j))],[Uc w,JS x],0,0⟩) (fun j=>j=0) (fun j=>0) 0 rfl ?_ ?_
   ·exact wk (h5:=by push_cast [ze,zd,CLe,zh,k2,d0,c4,c5])
   ·rintro j rfl;push_cast [hdl,d0];refine loop (fun i:Nat=>⟨[(2,.ptr 0 0),(3,.ptr 1 0),(8,.sc (.bool ((w.kept.take i).any (jS x)))),(9,.sc (.int .i64 i))],[Uc w,JS x],0,0⟩) (fun i=>i<=w.kept.length) (fun i=>w.kept.length-i) 0 (Wb _) ?_ ?_
    ·exact wk (by push_cast [ze,zd,CLe,zh,OF,BV])
    ·intro i hi;by_cases h:i<w.kept.length
     ·have g:=jz w.kept i h;have ha:=zsD (P:=jS x) h;have hp:jS x w.kept[i]=(decide (w.kept[i].ino=x.ino)&&!w.kept[i].content):=rfl;by_cases hn:((w.kept.take i).any (jS x))=true
      ·rw[hn,BW]at ha;push_cast [hkl,h,hn]
       repeat refine an ?_
       exact ⟨i+1,h,by omega,wk (by push_cast [ze,zd,CLe,zh,ha])⟩
      ·have hn:=Oy.2 hn;rw[hn,O6,hp]at ha;by_cases he:w.kept[i].ino=x.ino
       ·rw[Wm he,Oj]at ha;push_cast [hkl,h,hn,g,he]
        repeat refine an ?_
        exact ⟨i+1,h,by omega,wk (by push_cast [ze,zd,CLe,zh,ha])⟩
       ·rw[Wj he,W8]at ha;push_cast [hkl,h,hn,g,he]
        repeat refine an ?_
        exact ⟨i+1,h,by omega,wk (by push_cast [ze,zd,CLe,zh,ha])⟩
     ·rw[Wf (by omega)];have hd:decide (qI w x)=w.kept.any (jS x):=key (fun _=>d0) (fun h=>by omega);push_cast [hkl,h];exact dn (by push_cast [ze,zd,CLe,zh,hd])
  ·have hn:¬qI w x:=fun h=>d0 (h.2.2.2.2.2.2.2.1 k2);refine fon Tryz.func109 ?_;dsimp only[Tryz.f109];push_cast;refine cl hg ?_;push_cast [hle,c2,c3,c4,c5,c6,c7,c8,k2,d0];exact dn (by push_cast [ze,zd,CLe,zh,hn])
 by_cases k3:x.kind=3
 ·by_cases l1:(x.data.length:Int)<1
  ·have hn:¬qI w x:=fun h=>by have:=(h.2.2.2.2.2.2.2.2.1 k3).1;omega
   refine fon Tryz.func109 ?_;dsimp only[Tryz.f109];push_cast;refine cl hg ?_;push_cast [hle,c2,c3,c4,c5,c6,c7,c8,k2,k3,l1];exact dn (by push_cast [ze,zd,CLe,zh,hn])
  by_cases l2:4095<(x.data.length:Int)
  ·have hn:¬qI w x:=fun h=>by have:=(h.2.2.2.2.2.2.2.2.1 k3).2.1;omega
   refine fon Tryz.func109 ?_;dsimp only[Tryz.f109];push_cast;refine cl hg ?_;push_cast [hle,c2,c3,c4,c5,c6,c7,c8,k2,k3,l1,l2];exact dn (by push_cast [ze,zd,CLe,zh,hn])
  refine fon Tryz.func109 ?_;dsimp only[Tryz.f109];push_cast;refine cl hg ?_;push_cast [hle,c2,c3,c4,c5,c6,c7,c8,k2,k3,l1,l2];refine loop (fun j:Nat=>⟨[(2,.ptr 0 0),(3,.ptr 1 0),(7,.sc (.int .i64 j))],[Uc w,JS x],0,0⟩) (fun j=>j<=x.data.length/\∀ b∈x.data.take j,b≠0) (fun j=>x.data.length-j) 0 ⟨Wb _,fun b hb=>by simp at hb⟩ ?_ ?_
  ·exact wk (h5:=by push_cast [ze,zd,CLe,zh,k3,c4,c5])
  ·rintro j ⟨j1,j2⟩;by_cases hj:j<x.data.length
   ·have hb:x.data[j]?=some x.data[j]:=Wa hj;by_cases z:(x.data[j].toNat:Int)=0
    ·have hn:¬qI w x:=fun h=>(h.2.2.2.2.2.2.2.2.1 k3).2.2 _ (Ww hj) (Am.1 (by simpa using z));push_cast [hj,k3,hb,z]
     repeat refine an ?_
     exact dn (by push_cast [ze,zd,CLe,zh,hn])
    ·push_cast [hj,k3,hb,z]
     repeat refine an ?_
     exact ⟨j+1,⟨hj,qv hj j2 fun hz=>z (by rw[hz];rfl)⟩,by omega,wk⟩
   ·rw[Wf (by omega)]at j2;push_cast [hj,k3];refine loop (fun i:Nat=>⟨[(2,.ptr 0 0),(3,.ptr 1 0),(8,.sc (.bool ((w.kept.take i).any (jS x)))),(9,.sc (.int .i64 i))],[Uc w,JS x],0,0⟩) (fun i=>i<=w.kept.length) (fun i=>w.kept.length-i) 0 (Wb _) ?_ ?_
    ·exact wk (by push_cast [ze,zd,CLe,zh,OF,BV])
    ·intro i hi;by_cases h:i<w.kept.length
     ·have g:=jz w.kept i h;have ha:=zsD (P:=jS x) h;have hp:jS x w.kept[i]=(decide (w.kept[i].ino=x.ino)&&!w.kept[i].content):=rfl;by_cases hn:((w.kept.take i).any (jS x))=true
      ·rw[hn,BW]at ha;push_cast [hkl,h,hn]
       repeat refine an ?_
       exact ⟨i+1,h,by omega,wk (by push_cast [ze,zd,CLe,zh,ha])⟩
      ·have hn:=Oy.2 hn;rw[hn,O6,hp]at ha;by_cases he:w.kept[i].ino=x.ino
       ·rw[Wm he,Oj]at ha;push_cast [hkl,h,hn,g,he]
        repeat refine an ?_
        exact ⟨i+1,h,by omega,wk (by push_cast [ze,zd,CLe,zh,ha])⟩
       ·rw[Wj he,W8]at ha;push_cast [hkl,h,hn,g,he]
        repeat refine an ?_
        exact ⟨i+1,h,by omega,wk (by push_cast [ze,zd,CLe,zh,ha])⟩
     ·rw[Wf (by omega)];have hd:decide (qI w x)=w.kept.any (jS x):=key (fun h=>absurd h k2) (fun _=>⟨by omega,by omega,j2⟩);push_cast [hkl,h];exact dn (by push_cast [ze,zd,CLe,zh,hd])
 ·have k1:x.kind=1:=by omega
  refine fon Tryz.func109 ?_;dsimp only[Tryz.f109];push_cast;refine cl hg ?_;push_cast [hle,c2,c3,c4,c5,c6,c7,c8,k2,k3];refine loop (fun j:Nat=>⟨[(2,.ptr 0 0),(3,.ptr 1 0),(7,.sc (.int .i64 j))],[Uc w,JS x],0,0⟩) (fun j=>j=0) (fun j=>0) 0 rfl ?_ ?_
  ·exact wk (h5:=by push_cast [ze,zd,CLe,zh,c4,c5])
  ·rintro j rfl;by_cases hd0:(0:Int)<x.data.length
   ·push_cast [hd0,k3];refine loop (fun i:Nat=>⟨[(2,.ptr 0 0),(3,.ptr 1 0),(8,.sc (.bool ((w.kept.take i).any (jS x)))),(9,.sc (.int .i64 i))],[Uc w,JS x],0,0⟩) (fun i=>i<=w.kept.length) (fun i=>w.kept.length-i) 0 (Wb _) ?_ ?_
    ·exact wk (by push_cast [ze,zd,CLe,zh,OF,BV])
    ·intro i hi;by_cases h:i<w.kept.length
     ·have g:=jz w.kept i h;have ha:=zsD (P:=jS x) h;have hp:jS x w.kept[i]=(decide (w.kept[i].ino=x.ino)&&!w.kept[i].content):=rfl;by_cases hn:((w.kept.take i).any (jS x))=true
      ·rw[hn,BW]at ha;push_cast [hkl,h,hn]
       repeat refine an ?_
       exact ⟨i+1,h,by omega,wk (by push_cast [ze,zd,CLe,zh,ha])⟩
      ·have hn:=Oy.2 hn;rw[hn,O6,hp]at ha;by_cases he:w.kept[i].ino=x.ino
       ·rw[Wm he,Oj]at ha;push_cast [hkl,h,hn,g,he]
        repeat refine an ?_
        exact ⟨i+1,h,by omega,wk (by push_cast [ze,zd,CLe,zh,ha])⟩
       ·rw[Wj he,W8]at ha;push_cast [hkl,h,hn,g,he]
        repeat refine an ?_
        exact ⟨i+1,h,by omega,wk (by push_cast [ze,zd,CLe,zh,ha])⟩
     ·rw[Wf (by omega)];have hd:decide (qI w x)=w.kept.any (jS x):=key (fun h=>absurd h k2) (fun h=>absurd h k3);push_cast [hkl,h];exact dn (by push_cast [ze,zd,CLe,zh,hd])
   ·push_cast [hd0,k3];refine loop (fun i:Nat=>⟨[(2,.ptr 0 0),(3,.ptr 1 0),(8,.sc (.bool ((w.kept.take i).any (jS x)))),(9,.sc (.int .i64 i))],[Uc w,JS x],0,0⟩) (fun i=>i<=w.kept.length) (fun i=>w.kept.length-i) 0 (Wb _) ?_ ?_
    ·exact wk (by push_cast [ze,zd,CLe,zh,OF,BV])
    ·intro i hi;by_cases h:i<w.kept.length
     ·have g:=jz w.kept i h;have ha:=zsD (P:=jS x) h;have hp:jS x w.kept[i]=(decide (w.kept[i].ino=x.ino)&&!w.kept[i].content):=rfl;by_cases hn:((w.kept.take i).any (jS x))=true
      ·rw[hn,BW]at ha;push_cast [hkl,h,hn]
       repeat refine an ?_
       exact ⟨i+1,h,by omega,wk (by push_cast [ze,zd,CLe,zh,ha])⟩
      ·have hn:=Oy.2 hn;rw[hn,O6,hp]at ha;by_cases he:w.kept[i].ino=x.ino
       ·rw[Wm he,Oj]at ha;push_cast [hkl,h,hn,g,he]
        repeat refine an ?_
        exact ⟨i+1,h,by omega,wk (by push_cast [ze,zd,CLe,zh,ha])⟩
       ·rw[Wj he,W8]at ha;push_cast [hkl,h,hn,g,he]
        repeat refine an ?_
        exact ⟨i+1,h,by omega,wk (by push_cast [ze,zd,CLe,zh,ha])⟩
     ·rw[Wf (by omega)];have hd:decide (qI w x)=w.kept.any (jS x):=key (fun h=>absurd h k2) (fun h=>absurd h k3);push_cast [hkl,h];exact dn (by push_cast [ze,zd,CLe,zh,hd])
end
end Go.Proofs.YtnpdbhbmakdklaaGreatDoor.Vcg
