/- What the proof of MvsStays leans on, part 4: May2 May3 Path5 Ref3 PathLaw Open Laid Op1 QuotePlain QuotePlain2 QuotePlain3 OpV Op2 Wld0 Ent1 Ent2 EntW TabW Wld1 Wld2 Wld3 Wld4 Wld5 Room Plc Crt Drp Mov SlcK Sts OpenW StW Sts2 StX Kep Stp Stp2 Stp3 Stp4 Deed Doo Dra1 Dra2 Rf4 Rf5 Rf6 Rf7 Op3 Op4 Op5 Ref19 Rf8 Snd2 Snd3 Snd4 Snd5 Snd6 Snd7 Rf9 Rf10 Grw Con Kit KitBytes QuoteWalk1. No condition beyond what each theorem states. -/
import Derived.Test.YtnpdbhbmakdklaaGreatDoorMvsStaysKc
import Derived.Lib.QuoteLoop
import Derived.Lib.IndexAny
import Derived.ProofKit
import Derived.Deep.Slices
import Derived.Deep.Fields
import Derived.ChangeSame
import Derived.ChangeOld
import Derived.Lib.SmallJoins
import Derived.Lib.LaidU8
import Derived.OpenShut
import Derived.FnData
import Derived.Lib.Bytealg
import Derived.WalkKit
import Derived.Lib.Hide
import Derived.Lib.Join
import Derived.Deep.Draws
import Derived.Lib.SlBytesRow
import Derived.StillTailTactics
import Derived.Test.YtnpdbhbmakdklaaGreatDoorProg
import Derived.WalkLawsBesides
import Derived.WalkSpells
set_option linter.unusedVariables false
set_option linter.unusedSimpArgs false
set_option linter.unusedSectionVars false
set_option maxRecDepth 100000
set_option maxHeartbeats 4000000
namespace Go.Proofs.YtnpdbhbmakdklaaGreatDoor.Vcg
section
open Go.RowKit Go.Shelf
def bad (b:UInt8):Bool:=decide (b=47)||decide (b=0)
theorem VL (b:UInt8):[47,0].contains b=bad b:=by simp[bad,List.contains_iff_mem,Bool.eq_iff_iff]
theorem vi {P:Program} {W:World} {b:Nat} {s:ByteArray} {pos:Nat} (hb:W.heap[b]?=some (.stringIter s pos)) (h:pos<s.size) (ty:TypeId) :
  (Instr.next (.pointer (some ⟨b,0,none⟩)) true ty).run P W = .ok (.tuple #[.bool true,.int .i64 pos,.int .i32 (Utf8.decode s pos).1]) (W.putObj b (.stringIter s (pos+(Utf8.decode s pos).2))):=by
 simp only[Instr.next,getObj,setObj,Sem.run_bind,Sem.run,hb,Result.andThen,h,if_true];simp[goInt,Sem.run,hb,World.putObj]
theorem Ul {P:Program} {W:World} {b:Nat} {s:ByteArray} {pos:Nat} (hb:W.heap[b]?=some (.stringIter s pos)) (h:¬pos<s.size) (ty:TypeId) :
  (Instr.next (.pointer (some ⟨b,0,none⟩)) true ty).run P W = .ok (.tuple #[.bool false]) W:=by
 simp[Instr.next,getObj,Sem.run,hb,h]
theorem get!_eq (s:ByteArray) (k:Nat) (hk:k<s.size):s.get! k=s[k]'hk:=by
 simp[ByteArray.get!,getElem!_pos,hk];rfl
theorem zjR {c:Nat} (h:c<55296∨(57344<=c/\c<=1114111)):Utf8.valid (c:Int)=true:=by
 unfold Utf8.valid;rcases h with h | h
 ·have h1:((c:Int)<55296):=by omega
  simp;omega
 ·simp;omega
theorem vQ (s:ByteArray) (i:Nat) (h:i<s.size):(((s[i]'h).toNat<128/\Utf8.decode s i=((s[i]'h).toNat,1))∨(128<=(Utf8.decode s i).1/\Utf8.valid ((Utf8.decode s i).1:Int)=true/\1<=(Utf8.decode s i).2/\i+(Utf8.decode s i).2<=s.size/\∀ j (hj:j<s.size),i<=j->j<i+(Utf8.decode s i).2->128<=(s[j]'hj).toNat)):=by
 by_cases ha:(s[i]'h).toNat<128
 ·exact .inl ⟨ha,decode_ascii s i h ha⟩
 ·refine .inr ?_;have hb0:¬(s.get! (i+0)).toNat<128:=by rw[Nat.add_zero,get!_eq s i h];exact ha
  have hby:∀ n,(∀ k,k<n->128<=(s.get! (i+k)).toNat)->∀ j (hj:j<s.size),i<=j->j<i+n->128<=(s[j]'hj).toNat:=fun n hn j hj h1 h2=>by
   have:=hn (j-i) (by omega);rw[show i+(j-i)=j by omega,get!_eq s j hj]at this;exact this
  have hone:128<=65533/\Utf8.valid ((65533:Nat):Int)=true/\1<=1/\i+1<=s.size/\∀ j (hj:j<s.size),i<=j->j<i+1->128<=(s[j]'hj).toNat:=
   ⟨by omega,by decide,by omega,by omega,hby 1 fun k hk=>by rw[show k=0 by omega];omega⟩
  unfold Utf8.decode;simp only[if_neg hb0,Utf8.runeError];obtain ⟨b0,hg0⟩:∃ b,(s.get! (i+0)).toNat=b:=⟨_,rfl⟩;obtain ⟨b1,hg1⟩:∃ b,(s.get! (i+1)).toNat=b:=⟨_,rfl⟩;obtain ⟨b2,hg2⟩:∃ b,(s.get! (i+2)).toNat=b:=⟨_,rfl⟩;obtain ⟨b3,hg3⟩:∃ b,(s.get! (i+3)).toNat=b:=⟨_,rfl⟩;rw[hg0]at hb0;simp only[hg0,hg1,hg2,hg3];have hlt:b0<256:=by rw[←hg0];exact (s.get! (i+0)).toNat_lt
  split
  ·rename_i hc;simp only[Bool.and_eq_true,beq_iff_eq,decide_eq_true_eq]at hc;split
   ·rename_i hv;refine ⟨by show 128<=_;omega,zjR (.inl (by omega)),by show 1<=2;omega,by show i+2<=_;omega,hby 2 fun k hk=>?_⟩;rcases (show k=0∨k=1 by omega) with rfl | rfl
    ·rw[hg0];omega
    ·rw[hg1];omega
   ·exact hone
  ·split
   ·rename_i hc;simp only[Bool.and_eq_true,beq_iff_eq,decide_eq_true_eq]at hc;split
    ·rename_i hv;simp only[Bool.and_eq_true,decide_eq_true_eq]at hv;refine ⟨by show 128<=_;omega,hv.2,by show 1<=3;omega,by show i+3<=_;omega,hby 3 fun k hk=>?_⟩;rcases (show k=0∨k=1∨k=2 by omega) with rfl | rfl | rfl
     ·rw[hg0];omega
     ·rw[hg1];omega
     ·rw[hg2];omega
    ·exact hone
   ·split
    ·rename_i hc;simp only[Bool.and_eq_true,beq_iff_eq,decide_eq_true_eq]at hc;split
     ·rename_i hv;simp only[Bool.and_eq_true,decide_eq_true_eq]at hv;refine ⟨by show 128<=_;omega,hv.2,by show 1<=4;omega,by show i+4<=_;omega,hby 4 fun k hk=>?_⟩;rcases (show k=0∨k=1∨k=2∨k=3 by omega) with rfl | rfl | rfl | rfl
      ·rw[hg0];omega
      ·rw[hg1];omega
      ·rw[hg2];omega
      ·rw[hg3];omega
     ·exact hone
    ·exact hone
theorem G6 (r:Int) (h1:128<=r) (hv:Utf8.valid r=true) (w:World):Calls Tryz.prog 234 #[.string ⟨#[47,0]⟩,.int .i32 r] w fun e w'=>e = .returned (.int .i64 (-1))/\Below w.heap.size w w':=by
 by_cases h2:r=65533
 ·subst h2;exact Nd w
 ·refine ((MC r h1 hv h2).2 ⟨w,fun _ _=>False,fun _=>False⟩ [.string ⟨#[47,0]⟩,.int .i32 r] (fun g cs h=>by cases h) ?_).mono ?_
  ·exact zh.2 ⟨_,_,rfl,zT.2 rfl,zh.2 ⟨_,_,rfl,zo.2 rfl,zl.2 rfl⟩⟩
  ·rintro e w' ⟨v,R',L',rfl,rfl,hst,hr⟩;rw[zo]at hr;exact ⟨by rw[hr],hst.below⟩
theorem zd9 (w:World) (s:ByteArray):(w.iter s 0).heap[w.heap.size]?=some (.stringIter s 0):=World.iter_heap w s 0
theorem vK {w W:World} {s:ByteArray} {p:Nat} (hb:Below w.heap.size w W) (hs:W.heap[w.heap.size]?=some (.stringIter s p)) (p':Nat):Below w.heap.size w (W.putObj w.heap.size (.stringIter s p'))/\(W.putObj w.heap.size (.stringIter s p')).heap[w.heap.size]?=some (.stringIter s p'):=
 ⟨⟨hb.os,hb.tape,hb.output,by simpa using hb.size,fun k hk=>(World.putObj_heap_other (by omega)).trans (hb.block k hk)⟩,World.putObj_heap_same (z7 hs)⟩
theorem zaD {w W W':World} {s:ByteArray} {p:Nat} (hb:Below w.heap.size w W) (hs:W.heap[w.heap.size]?=some (.stringIter s p)) (h:Below W.heap.size W W'):Below w.heap.size w W'/\W'.heap[w.heap.size]?=some (.stringIter s p):=
 ⟨hb.trans (h.mono hb.size),(h.block _ (z7 hs)).trans hs⟩
theorem kO (s:ByteArray) (w:World) (h8:s.size<=8):Calls Tryz.prog 202 #[.string s,.string ⟨#[47,0]⟩] w fun e w'=>e = .returned (.int .i64 (Lib.indexAny s.data.toList [47,0]))/\Below w.heap.size w w':=by
 have h8z:decide ((8:Int)<(s.size:Int))=false:=decide_eq_false (by omega);have hsi:=zd9 w s;have hbi:Below w.heap.size w (w.iter s 0):=(Below.refl _ _).alloc (Nat.le_refl _) _;have HI:Aside ((w.iter s 0).heap[w.heap.size]?=some (.stringIter s 0)/\Below w.heap.size w (w.iter s 0)):=⟨hsi,hbi⟩;clear hsi hbi
 go_enter Tryz.func202,Tryz.ntmps202
 go_wp2_with (go_at_call 235;refine (Tryz.strings_shouldUseASCIISet _ _).mono ?_;rintro e w' ⟨rfl,hw⟩;rw[hw,h8z])
 go_loopg [9,10] s.size (fun g _ _ wx=>∃ i:Nat,i+g=s.size/\wx.heap[w.heap.size]?=some (.stringIter s i)/\Below w.heap.size w wx/\Lib.NoAny s.data.toList [47,0] i)
 case atStart=>exact ⟨0,by omega,HI.out.1,HI.out.2,Lib.NoAny.zero _ _⟩
 case round =>
  obtain ⟨i,hig,hs,hbl,hno⟩:=hrel;have HN:Aside (Lib.NoAny s.data.toList [47,0] i/\wr.heap[w.heap.size]?=some (.stringIter s i)/\Below w.heap.size w wr):=⟨hno,hs,hbl⟩;cases gk with
  | zero =>
   obtain rfl:i=s.size:=by omega
   have hnx:=fun ty=>Ul (P:=Tryz.prog) hs (by omega) ty;clear hno hs hbl
   go_wp2
   go_ret
   exact ⟨by rw[Lib.indexAny_none (by rw[←Lib.size_eq];exact HN.out.1)];rfl,HN.out.2.2⟩
  | succ g =>
   have hi:i<s.size:=by omega
   have hnx:=fun ty=>vi (P:=Tryz.prog) hs hi ty;have hpi:=vK hbl hs (i+(Utf8.decode s i).2);have HP:Aside (Below w.heap.size w (wr.putObj w.heap.size (.stringIter s (i+(Utf8.decode s i).2)))/\(wr.putObj w.heap.size (.stringIter s (i+(Utf8.decode s i).2))).heap[w.heap.size]?=some (.stringIter s (i+(Utf8.decode s i).2))):=hpi;clear hno hs hbl hpi;obtain ⟨x,hx⟩:∃ x:UInt8,s[i]'hi=x:=⟨_,rfl⟩;have hxl:s.data.toList[i]?=some x:=by rw[←hx];exact Lib.data_getElem? s i hi
   rcases vQ s i hi with ⟨hd1,hd2⟩ | ⟨hd1,hd2,hd3,hd4,hd5⟩
   ·rw[hx]at hd1 hd2;rw[hd2]at hnx HP;have Hx:Aside (s.data.toList[i]?=some x):=hxl;clear hxl hx hd2;have hcon:=Lib.contains_iff_indexByte [47,0] x;have hback:((x.toNat:Int)).toNat.toUInt8=x:=by simp
    cases hin:([47,0]:List UInt8).contains x
    ·rw[hin]at hcon;have hlt:¬((0:Int)<=Lib.indexByte [47,0] x):=of_decide_eq_false hcon.symm;clear hcon
     go_wp2_with (go_at_call 234;refine (Tryz.strings_IndexRune_ascii _ _ _ (by omega) (by omega)).mono ?_;rintro e w' ⟨rfl,hw⟩;rw[hw,hback])
     go_roundg g
     case measure=>omega
     case rel=>exact ⟨i+1,by omega,HP.out.2,HP.out.1,HN.out.1.succ Hx.out hin⟩
    ·rw[hin]at hcon;have hge:(0:Int)<=Lib.indexByte [47,0] x:=of_decide_eq_true hcon.symm;clear hcon
     go_wp2_with (go_at_call 234;refine (Tryz.strings_IndexRune_ascii _ _ _ (by omega) (by omega)).mono ?_;rintro e w' ⟨rfl,hw⟩;rw[hw,hback])
     go_ret
     exact ⟨by rw[Lib.indexAny_hit HN.out.1 Hx.out hin];rfl,HP.out.1⟩
   ·obtain ⟨c,hc⟩:∃ c,(Utf8.decode s i).1=c:=⟨_,rfl⟩;obtain ⟨n,hn⟩:∃ n,(Utf8.decode s i).2=n:=⟨_,rfl⟩;rw[hc,hn]at hnx;rw[hn]at HP hd3 hd4 hd5;rw[hc]at hd1 hd2;have H5:Aside (∀ j (hj:j<s.size),i<=j->j<i+n->128<=(s[j]'hj).toNat):=hd5;have H2:Aside (Utf8.valid (c:Int)=true):=hd2;clear hd5 hd2 hxl hx hc hn
    go_wp2_with (go_at_call 234;refine (G6 _ (by omega) H2.out _).mono ?_;rintro e w' ⟨rfl,hw⟩;have HW:=zaD HP.out.1 HP.out.2 hw)
    go_roundg (s.size-(i+n))
    case measure=>omega
    case rel =>
     refine ⟨i+n,by omega,HW.2,HW.1,fun j b hj hb=>?_⟩;rcases Nat.lt_or_ge j i with g | g
     ·exact HN.out.1 j b g hb
     ·have hjs:j<s.size:=by omega
      have:=H5.out j hjs g hj;have hb2:=Lib.data_getElem? s j hjs;rw[hb]at hb2;have hb3:b=s[j]'hjs:=Option.some.inj hb2;rw[VL,hb3];have h47:s[j]'hjs≠47:=fun e=>by rw[e]at this;revert this;decide
      have h00:s[j]'hjs≠0:=fun e=>by rw[e]at this;revert this;decide
      simp[bad,h47,h00]
end
section
open Go.RowKit Go.Shelf
theorem Hq (w:World):(zeroValue 254).run Tryz.prog w = .ok (.agg (Array.replicate 256 (.bool false))) w:=by kernel_rfl
theorem VH:∀ l:List UInt8,decide (0<=Lib.indexAny l [47,0])=l.any bad
 | []=>rfl
 | b :: l=>by
  have ih:=VH l;have hg:=Lib.indexAny_ge [47,0] l;unfold Lib.indexAny;rw[VL,List.any_cons];cases hb:bad b with
  | true=>simp
  | false =>
   simp only[Bool.false_eq_true,if_false,Bool.false_or,←ih];split
   ·rename_i h;have:=beq_iff_eq.1 h
    first | rw[this];done | (rw[this];rfl)
   ·rename_i h;have h':Lib.indexAny l [47,0]≠-1:=by simpa using h
    rw[decide_eq_decide];omega
theorem MI (l:List UInt8) (hl:l.length<=1000000):Fun Tryz.prog G0 202 [.str l,.str [47,0]] (.sc (.int .i64 (Lib.indexAny l [47,0]))) 0:=by
 refine Fun.wrap (by kernel_rfl) fun R vs h=>?_;obtain ⟨v1,us1,rfl,h1,h⟩:=zh.1 h;obtain ⟨v2,us2,rfl,h2,h⟩:=zh.1 h;rw[zl]at h;subst h;rw[zT]at h1 h2;subst h1 h2;have hsz:(ByteArray.mk l.toArray).size=l.length:=by simp[ByteArray.size]
 by_cases h8:l.length<=8
 ·refine (kO ⟨l.toArray⟩ R.w (by omega)).mono ?_;rintro e w' ⟨rfl,hb⟩;exact ⟨_,rfl,hb,fun R' _=>zo.2 (by simp)⟩
 ·refine (Tryz.strings_IndexAny_long Hq ⟨l.toArray⟩ ⟨#[47,0]⟩ R.w (by decide) (by omega) (by omega) (by decide) ?_).mono ?_
  ·intro j b hb;have:b=47∨b=0:=by
    have:=List.mem_of_getElem? hb;simpa using this
   rcases this with rfl | rfl<;>decide
  ·rintro e w' ⟨rfl,rfl⟩;exact ⟨_,rfl,((Below.refl _ _).alloc (Nat.le_refl _) _).alloc (by simp) _,fun R' _=>zo.2 (by simp)⟩
theorem Yc (l:List UInt8) (hl:l.length<=1000000):Fun Tryz.prog G0 169 [.str l,.str [47,0]] (qP (l.any bad)) 0:=by
 have h:=VH l;refine fon Tryz.func169 ?_;dsimp only[Tryz.f169];push_cast -dsimp;refine call (MI l hl) ?_;push_cast -dsimp;exact dn (by push_cast -dsimp [ze,zd,CLe,zg,h])
def may (l:List UInt8):Bool:=!decide (l = [])&&decide (l.length<=255)&&!l.any bad&&!decide (l = [46])&&!decide (l = [46,46])
theorem zf1 (l:List UInt8) (hl:l.length<=1000000):Fun Tryz.prog G0 126 [.str l] (qP (may l)) 0:=by
 by_cases h1:l = []
 ·refine fon Tryz.func126 ?_;dsimp only[Tryz.f126];push_cast -dsimp [h1];exact ⟨[],rfl,rfl,by push_cast -dsimp [ze,zd,CLe,zg];simp[may]⟩
 ·by_cases h2:l.length<=255
  ·have h2':(l.length:Int)<=255:=by omega
   cases h3:l.any bad with
   | true =>
    refine fon Tryz.func126 ?_;dsimp only[Tryz.f126];push_cast -dsimp [h1,h2'];refine call (Yc l hl) ?_;push_cast -dsimp [h3];exact ⟨[],rfl,rfl,by push_cast -dsimp [ze,zd,CLe,zg];simp[may,h3]⟩
   | false =>
    by_cases h4:l = [46]
    ·subst h4;refine fon Tryz.func126 ?_;dsimp only[Tryz.f126];push_cast -dsimp [h2'];refine call (Yc _ hl) ?_;push_cast -dsimp [h3];exact ⟨[],rfl,rfl,by push_cast -dsimp [ze,zd,CLe,zg];simp[may]⟩
    ·refine fon Tryz.func126 ?_;dsimp only[Tryz.f126];push_cast -dsimp [h1,h2'];refine call (Yc l hl) ?_;push_cast -dsimp [h3,h4];exact ⟨[],rfl,rfl,by push_cast -dsimp [ze,zd,CLe,zg];simp[may,h1,h2,h3,h4]⟩
  ·have h2':¬(l.length:Int)<=255:=by omega
   refine fon Tryz.func126 ?_;dsimp only[Tryz.f126];push_cast -dsimp [h1,h2'];exact ⟨[],rfl,rfl,by push_cast -dsimp [ze,zd,CLe,zg];simp[may,h2]⟩
theorem zbN (l:List UInt8) (hl:l.length<=1000000):Fun Tryz.prog G0 267 [.str l] (qP (!may l)) 0:=by
 refine fon Tryz.func267 ?_;dsimp only[Tryz.f267];push_cast -dsimp;refine call (zf1 l hl) ?_;push_cast -dsimp;exact dn
end
section
open Go.RowKit
def zcV (xs:List (List UInt8)):Int:=match xs.findIdx? (fun x=>!may x) with | some i=>(i:Int) | none=>-1
theorem zij (xs:List (List UInt8)):decide (0<=zcV xs) = !xs.all may:=by
 unfold zcV;cases h:xs.findIdx? (fun x=>!may x) with
 | none =>
  have:=List.findIdx?_eq_none_iff.1 h;have h2:xs.all may=true:=List.all_eq_true.2 fun x hx=>by simpa using this x hx
  rw[h2];rfl
 | some i =>
  have h1:=List.findIdx?_eq_some_iff_getElem.1 h;obtain ⟨hi,hp,_⟩:=h1;have h2:xs.all may=false:=List.all_eq_false.2 ⟨xs[i],List.getElem_mem hi,by simpa using hp⟩;rw[h2];simp
theorem HT (xs:List (List UInt8)) (hx:xs.length<=1000001) (hl:∀ x∈xs,x.length<=1000000):Fun Tryz.prog G0 288 [.sl 1 (zM xs),.clo (.func 267) [] []] (.sc (.int .i64 (zcV xs))) 0:=by
 refine fon Tryz.func288 ?_;dsimp only[Tryz.f288];push_cast -dsimp;refine loop (fun k:Nat=>⟨[(0,.sl 1 (zM xs)),(1,.clo (.func 267) [] []),(7,.sc (.int .i64 (xs.length:Int))),(8,.sc (.int .i64 k))],[],0,0⟩) (fun k=>k<=xs.length/\∀ j (hj:j<xs.length),j<k->may (xs[j]'hj)=true) (fun k=>xs.length-k) 0 ⟨Nat.zero_le _,fun j _ hj=>by omega⟩ ?_ ?_
 ·exact wk
 ·intro k hk;have hk1:=hk.1;have hk2:=hk.2;by_cases h:k<xs.length
  ·have hg:(zM xs)[k]?=some [.str (xs[k]'h)]:=by rw[strs_get?,List.getElem?_eq_getElem h];rfl
   push_cast -dsimp [h,hg];refine ⟨by omega,?_⟩;refine call (zbN (xs[k]'h) (hl _ (List.getElem_mem h))) ?_;push_cast -dsimp;cases hm:may (xs[k]'h) with
   | true =>
    push_cast -dsimp;refine ⟨by omega,k+1,⟨by omega,fun j hj hjk=>?_⟩,by omega,wk⟩;rcases Nat.lt_or_ge j k with g | g
    ·exact hk2 j hj g
    ·have:j=k:=by omega
     subst this;exact hm
   | false =>
    push_cast -dsimp;refine ⟨[],rfl,rfl,?_⟩;push_cast -dsimp [ze,zd,CLe,zg];have:xs.findIdx? (fun x=>!may x)=some k:=List.findIdx?_eq_some_iff_getElem.2 ⟨h,by simp[hm],fun j hj=>by simp[hk2 j (by omega) hj]⟩;simp[zcV,this]
  ·push_cast -dsimp [h];refine ⟨[],rfl,rfl,?_⟩;push_cast -dsimp [ze,zd,CLe,zg];have:xs.findIdx? (fun x=>!may x)=none:=List.findIdx?_eq_none_iff.2 fun x hx=>by
    obtain ⟨j,hj,rfl⟩:=List.getElem_of_mem hx;simp[hk2 j hj (by omega)]
   simp[zcV,this]
theorem VV (xs:List (List UInt8)) (hx:xs.length<=1000001) (hl:∀ x∈xs,x.length<=1000000):Fun Tryz.prog G0 266 [.sl 1 (zM xs),.clo (.func 267) [] []] (qP (!xs.all may)) 0:=by
 have h:=zij xs;refine fon Tryz.func266 ?_;dsimp only[Tryz.f266];push_cast -dsimp;refine call (HT xs hx hl) ?_;push_cast -dsimp;exact dn (by push_cast -dsimp [ze,zd,CLe,zg,h])
def J5 (p:List UInt8):Bool:=decide (qO (zE p)=p)&&(zE p).all may
def Xw (p:List UInt8):C:=.tup [.own 0 9 1 (zM (if J5 p then zE p else [])),qP (J5 p)]
theorem j0 (x y:List UInt8) (r:List (List UInt8)) (sep:List UInt8):Lib.join (x :: y :: r) sep=x++sep++Lib.join (y :: r) sep:=by
 simp[Lib.join,List.intercalate,List.intersperse]
theorem X5:∀ xs:List (List UInt8),xs≠[]->(Lib.join xs [47]).length+1=(xs.map fun x=>x.length+1).sum
 | [],h=>absurd rfl h
 | [x],_=>by simp[Lib.join]
 | x :: y :: r,_=>by
  have ih:=X5 (y :: r) (by simp);rw[j0];simp only[List.length_append,List.length_cons,List.length_nil,List.map_cons,List.sum_cons]at ih ⊢;omega
theorem ze3:∀ l:List UInt8,((j5 l).map fun x=>x.length+1).sum=l.length+1
 | []=>rfl
 | b :: l=>by
  have ih:=ze3 l;unfold j5;split
  ·simp only[List.map_cons,List.sum_cons,List.length_nil,List.length_cons,ih];omega
  ·cases h:j5 l with
   | nil=>exact absurd h (MH l)
   | cons x r =>
    rw[h]at ih;simp only[List.map_cons,List.sum_cons,List.length_cons]at ih ⊢;omega
theorem HJ (f:List UInt8->Bool):∀ xs:List (List UInt8),((xs.filter f).map fun x=>x.length+1).sum<=(xs.map fun x=>x.length+1).sum
 | []=>by simp
 | x :: r=>by
  have ih:=HJ f r;rw[List.filter_cons];split
  ·simp only[List.map_cons,List.sum_cons];omega
  ·simp only[List.map_cons,List.sum_cons];omega
theorem zd2:∀ (xs:List (List UInt8)) (x:List UInt8),x∈xs->x.length+1<=(xs.map fun x=>x.length+1).sum
 | y :: r,x,h=>by
  simp only[List.map_cons,List.sum_cons];rcases List.mem_cons.1 h with rfl | h
  ·omega
  ·have:=zd2 r x h;omega
theorem XK (l:List UInt8):(Lib.join (zE l) [47]).length<=l.length/\∀ x∈zE l,x.length<=l.length:=by
 have h1:=ze3 l;have h2:=HJ (fun x=>!decide (x = [])) (j5 l);rw[←Ya]at h2;refine ⟨?_,fun x hx=>?_⟩
 ·by_cases h:zE l = []
  ·rw[h];simp[Lib.join]
  ·have:=X5 (zE l) h;omega
 ·have:=zd2 (zE l) x hx;omega
theorem M1 (p:List UInt8) (hp:p.length<=1000000):Fun Tryz.prog G0 236 [.str p] (Xw p) 1:=by
 have hz:=js p;have hj:=XK p;by_cases h1:qO (zE p)=p
 ·have h1':(p=qO (zE p)):=h1.symm;refine fon Tryz.func236 ?_;dsimp only[Tryz.f236];push_cast -dsimp;refine call (JT p) ?_;push_cast -dsimp;refine call (XG p hp) ?_;push_cast -dsimp;refine call (XT (zE p) (by omega) (by omega)) ?_;push_cast -dsimp [h1];refine call (VV (zE p) (by omega) fun x hx=>by have:=hj.2 x hx;omega) ?_;push_cast -dsimp;cases hm:(zE p).all may with
  | true =>
   push_cast -dsimp;exact ⟨[.inl 0],rfl,rfl,by simp only[Xw,J5,h1,hm];push_cast -dsimp [ze,zd,CLe,zg]<;>simp⟩
  | false =>
   push_cast -dsimp;exact ⟨[.inr (9,1)],rfl,rfl,by simp only[Xw,J5,h1,hm];push_cast -dsimp [ze,zd,CLe,zg]<;>simp⟩
 ·refine fon Tryz.func236 ?_;dsimp only[Tryz.f236];push_cast -dsimp;refine call (JT p) ?_;push_cast -dsimp;refine call (XG p hp) ?_;push_cast -dsimp;refine call (XT (zE p) (by omega) (by omega)) ?_;push_cast -dsimp [h1];exact ⟨[.inr (9,1)],rfl,rfl,by simp only[Xw,J5,h1];push_cast -dsimp [ze,zd,CLe,zg]<;>simp⟩
end
section
open Go.RowKit
theorem Nw (xs:List (List UInt8)) (k:Nat) (x:List UInt8) (h:xs[k]?=some x):Lib.join (xs.take (k+1)) [47]=(if k=0 then x else Lib.join (xs.take k) [47]++[47]++x):=by
 cases xs with
 | nil=>simp at h
 | cons y r =>
  cases k with
  | zero=>simp at h;subst h;simp[Lib.join_one]
  | succ k =>
   simp only[List.take_succ_cons,Nat.succ_ne_zero,if_false];rw[Lib.join_cons,Lib.join_cons,Lib.joinTail_take_succ _ _ _ x (by simpa using h)];simp[List.append_assoc]
theorem zmd (xs:List (List UInt8)) (k:Nat):(Lib.join (xs.take k) [47]).length<=(Lib.join xs [47]).length:=by
 by_cases h:xs.take k = []
 ·rw[h];simp[Lib.join]
 ·have h1:=X5 (xs.take k) h;have hx:xs≠[]:=fun e=>h (by rw[e];simp);have h2:=X5 xs hx;have h3:((xs.take k).map fun x=>x.length+1).sum<=(xs.map fun x=>x.length+1).sum:=by
   conv=>rhs;rw[←List.take_append_drop k xs,List.map_append,List.sum_append]
   omega
  omega
theorem zbE (xs:List (List UInt8)) (k:Nat) (x:List UInt8) (h:xs[k]?=some x):(if xs.take (k+1) = [] then [] else qO (xs.take (k+1)))=(if xs.take k = [] then [] else qO (xs.take k))++[47]++x:=by
 have hk:k<xs.length:=(List.getElem?_eq_some_iff.1 h).1;have h1:xs.take (k+1)≠[]:=fun e=>by have:=congrArg List.length e;rw[List.length_take]at this;simp only[List.length_nil]at this;omega
 rw[if_neg h1];unfold qO;rw[if_neg h1,Nw xs k x h];by_cases hk0:k=0
 ·subst hk0;simp
 ·have h2:xs.take k≠[]:=fun e=>by have:=congrArg List.length e;rw[List.length_take]at this;simp only[List.length_nil]at this;omega
  simp[h2,hk0]
def jst (xs:List (List UInt8)) (k:Nat):List UInt8:=if xs.take k = [] then [] else qO (xs.take k)
theorem zgw (xs:List (List UInt8)) (k:Nat):(jst xs k).length<=(Lib.join xs [47]).length+1:=by
 unfold jst;split
 ·simp
 ·rename_i h;have:=zmd xs k;unfold qO;rw[if_neg h];simp;omega
theorem yy (xs:List (List UInt8)) (hx:xs.length<=2000001) (hl:(Lib.join xs [47]).length<=100000000):Fun Tryz.prog G0 60 [.sl 1 (zM xs)] (.str (qO xs)) 0:=by
 by_cases h0:xs = []
 ·subst h0;refine fon Tryz.func60 ?_;dsimp only[Tryz.f60];push_cast -dsimp;exact ⟨[],rfl,rfl,by push_cast -dsimp [ze,zd,CLe,zg]<;>simp[qO]⟩
 ·have h0':¬((xs.length:Int)=0):=by have:=List.length_pos_iff.2 h0;omega
  refine fon Tryz.func60 ?_;dsimp only[Tryz.f60];push_cast -dsimp [h0'];refine loop (fun k:Nat=>⟨[(0,.sl 1 (zM xs)),(3,.str (jst xs k)),(4,.sc (.int .i64 k))],[],0,0⟩) (fun k=>k<=xs.length) (fun k=>xs.length-k) 0 (Nat.zero_le _) ?_ ?_
  ·exact Jz.mk [] rfl rfl (Nat.zero_le _) rfl (by push_cast -dsimp [ze,zd,CLe,zg]<;>simp[jst]) (by push_cast -dsimp [ze,zd,CLe,zg])
  ·intro k hk;by_cases h:k<xs.length
   ·have hg:=Um xs k h;have hst:jst xs (k+1)=jst xs k++[47]++xs[k]'h:=zbE xs k (xs[k]'h) (List.getElem?_eq_getElem h);have hjk:=zgw xs k;have hjl:=zgw xs (k+1);rw[hst]at hjl;simp only[List.length_append,List.length_cons,List.length_nil]at hjl;push_cast -dsimp [h,hg]
    repeat refine an ?_
    refine ⟨k+1,by omega,by omega,Jz.mk [] rfl rfl (Nat.zero_le _) rfl ?_ (by push_cast -dsimp [ze,zd,CLe,zg])⟩;push_cast -dsimp [ze,zd,CLe,zg];simp[hst]
   ·have hkl:k=xs.length:=by omega
    push_cast -dsimp [h];exact ⟨[],rfl,rfl,by push_cast -dsimp [ze,zd,CLe,zg]<;>simp[jst,hkl,h0]⟩
theorem Hz (l:List UInt8) (hl:l.length<=2000000):Fun Tryz.prog G0 59 [.str l] (qP (may l)) 0:=by
 refine fon Tryz.func59 ?_;dsimp only[Tryz.f59];push_cast -dsimp;refine loop (fun k:Nat=>⟨[(0,.str l),(3,.sc (.int .i64 k))],[],0,0⟩) (fun k=>k<=l.length/\∀ j (hj:j<l.length),j<k->bad (l[j]'hj)=false) (fun k=>l.length-k) 0 ⟨Nat.zero_le _,fun j _ hj=>by omega⟩ ?_ ?_
 ·exact wk
 ·intro k hk;have hk1:=hk.1;have hk2:=hk.2;by_cases h:k<l.length
  ·have hb:l[k]?=some (l[k]'h):=List.getElem?_eq_getElem h;have hbad:bad (l[k]'h)=true->may l=false:=fun hb=>by
    have:l.any bad=true:=List.any_eq_true.2 ⟨l[k]'h,List.getElem_mem h,hb⟩;simp[may,this]
   by_cases h47:l[k]'h=47
   ·have h1:(((l[k]'h).toNat:Int)=47):=by rw[h47];rfl
    push_cast -dsimp [h,hb,h1];refine ⟨by omega,[],rfl,rfl,?_⟩;push_cast -dsimp [ze,zd,CLe,zg];rw[hbad (by simp[bad,h47])]
   ·have h1:¬(((l[k]'h).toNat:Int)=47):=zni h47;by_cases h00:l[k]'h=0
    ·have h2:(((l[k]'h).toNat:Int)=0):=by rw[h00];rfl
     push_cast -dsimp [h,hb,h1,h2];refine ⟨by omega,by omega,[],rfl,rfl,?_⟩;push_cast -dsimp [ze,zd,CLe,zg];rw[hbad (by simp[bad,h00])]
    ·have h2:¬(((l[k]'h).toNat:Int)=0):=zni h00;push_cast -dsimp [h,hb,h1,h2]
     repeat refine an ?_
     refine ⟨k+1,⟨by omega,fun j hj hjk=>?_⟩,by omega,wk⟩;rcases Nat.lt_or_ge j k with g | g
     ·exact hk2 j hj g
     ·have:j=k:=by omega
      subst this;simp[bad,h47,h00]
  ·have hany:l.any bad=false:=List.any_eq_false.2 fun x hx=>by
    obtain ⟨j,hj,rfl⟩:=List.getElem_of_mem hx;simp[hk2 j hj (by omega)]
   obtain rfl:k=l.length:=by omega
   by_cases h0:l = []
   ·subst h0;push_cast -dsimp;exact ⟨[],rfl,rfl,by push_cast -dsimp [ze,zd,CLe,zg]<;>simp[may]⟩
   ·have h1:(1:Int)<=(l.length:Int):=by have:=List.length_pos_iff.2 h0;omega
    by_cases h2:(l.length:Int)<=255
    ·have h2':l.length<=255:=by omega
     by_cases h4:l = [46]
     ·subst h4;push_cast -dsimp;exact ⟨[],rfl,rfl,by push_cast -dsimp [ze,zd,CLe,zg]<;>simp[may]⟩
     ·by_cases h5:l = [46,46]
      ·subst h5;push_cast -dsimp [h4];exact ⟨[],rfl,rfl,by push_cast -dsimp [ze,zd,CLe,zg]<;>simp[may]⟩
      ·push_cast -dsimp [h,h1,h2,h4,h5];exact ⟨[],rfl,rfl,by push_cast -dsimp [ze,zd,CLe,zg]<;>simp[may,h0,h2',hany,h4,h5]⟩
    ·have h2':¬l.length<=255:=by omega
     push_cast -dsimp [h,h1,h2];exact ⟨[],rfl,rfl,by push_cast -dsimp [ze,zd,CLe,zg]<;>simp[may,h2']⟩
theorem xp (p:List UInt8) (hp:p.length<=2000000):Fun Tryz.prog G0 33 [.str p] (Xw p) 1:=by
 have hn:=zcR p (by omega);have hs:=js p;have hj:=XK p;refine fon Tryz.func33 ?_;dsimp only[Tryz.f33];push_cast -dsimp;refine call hn ?_;push_cast -dsimp;refine loop (fun k:Nat=>⟨[(0,.str p),(4,.own 0 9 1 (zM (zE p))),(5,.sc (.int .i64 k))],[],1,0⟩) (fun k=>k<=(zE p).length/\∀ j (hj:j<(zE p).length),j<k->may ((zE p)[j]'hj)=true) (fun k=>(zE p).length-k) 0 ⟨Nat.zero_le _,fun j _ hj=>by omega⟩ ?_ ?_
 ·exact wks [.inl 0]
 ·intro k hk;have hk1:=hk.1;have hk2:=hk.2;by_cases h:k<(zE p).length
  ·have hg:=Um (zE p) k h;have hlen:=hj.2 ((zE p)[k]'h) (List.getElem_mem h);push_cast -dsimp [h,hg];refine ⟨by omega,?_⟩;refine call (Hz ((zE p)[k]'h) (by omega)) ?_;push_cast -dsimp;cases hm:may ((zE p)[k]'h) with
   | true =>
    push_cast -dsimp
    repeat refine an ?_
    refine ⟨k+1,⟨by omega,fun j hj hjk=>?_⟩,by omega,wks [.inl 0]⟩;rcases Nat.lt_or_ge j k with g | g
    ·exact hk2 j hj g
    ·have:j=k:=by omega
     subst this;exact hm
   | false =>
    have hall:(zE p).all may=false:=List.all_eq_false.2 ⟨(zE p)[k]'h,List.getElem_mem h,by simp[hm]⟩;push_cast -dsimp;exact ⟨[.inr (9,1)],rfl,rfl,by simp only[Xw,J5,hall];push_cast -dsimp [ze,zd,CLe,zg]<;>simp⟩
  ·have hall:(zE p).all may=true:=List.all_eq_true.2 fun x hx=>by
    obtain ⟨j,hj,rfl⟩:=List.getElem_of_mem hx;exact hk2 j hj (by omega)
   push_cast -dsimp [h];refine call (yy (zE p) (by omega) (by omega)) ?_;push_cast -dsimp;by_cases h1:qO (zE p)=p
   ·push_cast -dsimp [h1];exact ⟨[.inl 0],rfl,rfl,by simp only[Xw,J5,h1,hall];push_cast -dsimp [ze,zd,CLe,zg]<;>simp⟩
   ·push_cast -dsimp [h1];exact ⟨[.inr (9,1)],rfl,rfl,by simp only[Xw,J5,h1];push_cast -dsimp [ze,zd,CLe,zg]<;>simp⟩
end
section
open Go.RowKit
def Uu (x:List UInt8):Prop:=x≠[]/\(47:UInt8)∉x
theorem zf9:∀ a t:List UInt8,j5 (a++47 :: t)=j5 a++j5 t
 | [],t=>by
  have:j5 (47 :: t) = [] :: j5 t:=rfl;exact this
 | b :: a,t=>by
  have ih:=zf9 a t;have e1:j5 (b :: (a++47 :: t))=if b=47 then [] :: j5 (a++47 :: t) else match j5 (a++47 :: t) with
   | []=>[[b]]
   | x :: r=>(b :: x) :: r:=rfl
  have e2:j5 (b :: a)=if b=47 then [] :: j5 a else match j5 a with
   | []=>[[b]]
   | x :: r=>(b :: x) :: r:=rfl
  rw[List.cons_append,e1,e2,ih];by_cases hb:b=47
  ·simp[hb]
  ·rw[if_neg hb,if_neg hb];have hne:=MH a;cases hs:j5 a with
   | nil=>exact absurd hs hne
   | cons x r=>simp
theorem zc4:∀ x:List UInt8,(47:UInt8)∉x->j5 x = [x]
 | [],_=>rfl
 | b :: x,h=>by
  have hb:¬(b=47):=fun e=>h (by rw[e];exact List.mem_cons_self);have ih:=zc4 x (fun hx=>h (List.mem_cons_of_mem _ hx));unfold j5;rw[if_neg hb,ih]
theorem zdr:∀ (l x:List UInt8),x∈j5 l->(47:UInt8)∉x
 | [],x,h=>by simp[j5]at h;subst h;simp
 | b :: l,x,h=>by
  have ih:=zdr l;unfold j5 at h;by_cases hb:b=47
  ·rw[if_pos hb]at h;rcases List.mem_cons.1 h with rfl | h
   ·simp
   ·exact ih x h
  ·rw[if_neg hb]at h;have hne:=MH l;cases hs:j5 l with
   | nil=>exact absurd hs hne
   | cons y r =>
    rw[hs]at h ih;simp only at h;rcases List.mem_cons.1 h with rfl | h
    ·intro hm;rcases List.mem_cons.1 hm with e | hm
     ·exact hb e.symm
     ·exact ih y List.mem_cons_self hm
    ·exact ih x (List.mem_cons_of_mem _ h)
theorem MR {l x:List UInt8} (h:x∈zE l):Uu x:=by
 rw[Ya,List.mem_filter]at h;exact ⟨by simpa using h.2,zdr l x h.1⟩
theorem U7 (a t:List UInt8):zE (a++47 :: t)=zE a++zE t:=by
 rw[Ya,Ya,Ya,zf9,List.filter_append]
theorem xx {x:List UInt8} (h:Uu x):zE x = [x]:=by
 rw[Ya,zc4 x h.2];simp[h.1]
theorem x5 (l:List UInt8):zE (47 :: l)=zE l:=U7 [] l
theorem HC:∀ xs:List (List UInt8),(∀ x∈xs,Uu x)->zE (Lib.join xs [47])=xs
 | [],_=>rfl
 | [x],h=>by rw[Lib.join_one];exact xx (h x List.mem_cons_self)
 | x :: y :: r,h=>by
  have ih:=HC (y :: r) fun z hz=>h z (List.mem_cons_of_mem _ hz);rw[j0,List.append_assoc];show zE (x++47 :: Lib.join (y :: r) [47])=_;rw[U7,ih,xx (h x List.mem_cons_self)]
  rfl
theorem QE (xs:List (List UInt8)) (h:∀ x∈xs,Uu x):zE (qO xs)=xs:=by
 unfold qO;by_cases hx:xs = []
 ·rw[if_pos hx,hx];rfl
 ·rw[if_neg hx,x5,HC xs h]
theorem uK {x:List UInt8} (h:may x=true):Uu x:=by
 simp only[may,Bool.and_eq_true,Bool.not_eq_true',decide_eq_false_iff_not]at h;refine ⟨h.1.1.1.1,fun hm=>?_⟩;have:=List.any_eq_false.1 h.1.1.2 47 hm;exact this (by decide)
theorem zgt (xs zs:List (List UInt8)) (hx:xs≠[]) (hz:zs≠[]):qO (xs++zs)=qO xs++47 :: Lib.join zs [47]:=by
 unfold qO;rw[if_neg hx,if_neg (by simp[hx])];simp only[List.cons_append,List.cons.injEq,true_and]
 induction xs with
 | nil=>exact absurd rfl hx
 | cons x r ih =>
  cases r with
  | nil =>
   cases zs with
   | nil=>exact absurd rfl hz
   | cons z zs=>simp only[List.cons_append,List.nil_append];rw[j0,Lib.join_one];simp
  | cons y r =>
   have:=ih (by simp);simp only[List.cons_append]at this ⊢;rw[j0,j0,this];simp
theorem yT (xs ys:List (List UInt8)) (hx:∀ x∈xs,Uu x) (hy:∀ y∈ys,Uu y):Qz (qO xs) (qO ys)=decide (xs.take ys.length=ys):=by
 have nx:=QE xs hx;have ny:=QE ys hy;rw[Bool.eq_iff_iff];simp only[decide_eq_true_eq,Qz,Bool.or_eq_true];constructor
 ·rintro ((h | h) | h)
  ·have:xs=ys:=by rw[←nx,←ny,h]
   rw[this,List.take_length]
  ·have:ys = []:=by rw[←ny,h];rfl
   rw[this];rfl
  ·unfold Lib.hasPrefix at h;obtain ⟨t,ht⟩:=List.isPrefixOf_iff_prefix.1 h;have:xs=ys++zE t:=by
    rw[←nx,←ht,List.append_assoc];show zE (qO ys++47 :: t)=_;rw[U7,ny]
   rw[this,List.take_left]
 ·intro h;have e:xs=ys++xs.drop ys.length:=by
   conv=>lhs;rw[←List.take_append_drop ys.length xs,h]
  by_cases hys:ys = []
  ·exact .inl (.inr (by rw[hys];rfl))
  ·by_cases hd:xs.drop ys.length = []
   ·refine .inl (.inl ?_);rw[hd,List.append_nil]at e;rw[e]
   ·refine .inr ?_;rw[e,zgt _ _ hys hd];unfold Lib.hasPrefix;refine List.isPrefixOf_iff_prefix.2 ⟨Lib.join (xs.drop ys.length) [47],?_⟩;simp
theorem US {p:List UInt8} (h:J5 p=true):qO (zE p)=p:=by
 unfold J5 at h;simp only[Bool.and_eq_true,decide_eq_true_eq]at h;exact h.1
end
section
open Go.RowKit Go.ChangeMaps Go.ChangeShapes Go.WideShapes Go.Deep Go.Joins
theorem xE (R:Env):Xx G0 R:=fun g cs h=>by cases h
theorem VI:∀ {rows:List (List C)},(∀ r∈rows,∃ c,r = [c]/\∃ l:List UInt8,c = .str l/\l.length<=maxLen)->∃ xs:List (List UInt8),rows=zM xs/\∀ x∈xs,x.length<=maxLen
 | [],_=>⟨[],rfl,fun x h=>by cases h⟩
 | r :: rows,h=>by
  obtain ⟨xs,rfl,hx⟩:=VI fun r' hr=>h r' (List.mem_cons_of_mem _ hr);obtain ⟨c,rfl,l,rfl,hl⟩:=h r List.mem_cons_self;exact ⟨l :: xs,rfl,fun x hx'=>(List.mem_cons.1 hx').elim (fun e=>e▸hl) (hx x)⟩
section
variable {H:Type} {enc:TypeId×Value->H} {W:World}
theorem zhd:Opn enc Tryz.prog W 30 fun c=>∃ xs:List (List UInt8),c = .sl 1 (zM xs)/\xs.length<=maxLen/\∀ x∈xs,x.length<=maxLen:=fun fuel cs x hx=>by
 obtain ⟨v,c,rfl,⟨rows,rfl,hl,hr⟩,h1,h2⟩:=Opn.slice (W:=W) (enc:=enc) Tryz.underlying30 (show Tryz.prog.cellsOf 9=1 by kernel_rfl) (Nat.zero_lt_one) (jr.one (Opn.str Tryz.underlying9)) fuel cs x hx;obtain ⟨xs,rfl,hx'⟩:=VI hr;exact ⟨v,_,rfl,⟨xs,rfl,by simpa using hl,hx'⟩,h1,h2⟩
end
end
section
open Go.RowKit
mutual
/-- the cells that read as a datum of J5 data -/
def ZP:DataW Unit->Option (List Value)
 | .lit (.int k n)=>some [.int k n]
 | .lit (.bool b)=>some [.bool b]
 | .lit (.string l)=>some [.string ⟨l.toArray⟩]
 | .agg ds=>UN ds
 | _=>none
def UN:List (DataW Unit)->Option (List Value)
 | []=>some []
 | d :: ds=>match ZP d,UN ds with
  | some a,some b=>some (a++b)
  | _,_=>none
end
def Mc (P:Program):Nat->List Field->Nat->Bool
 | j,[],n=>j==n
 | j,f :: fs,n=>f.offset==j&&Mc P (j+P.cellsOf f.type) fs n
def UO (P:Program):Nat->TypeId->Bool
 | 0,_=>false
 | m+1,t=>match P.underlying t with
  | some .bool=>true
  | some (.int _)=>true
  | some .string=>true
  | some (.struct fs)=>Mc P 0 fs.toList (P.cellsOf t)&&fs.toList.all fun f=>UO P m f.type
  | some (.array n e)=>UO P m e&&P.cellsOf t==n*P.cellsOf e
  | _=>false
section
variable {enc:TypeId×Value->Unit} {P:Program} {w:World} {base:Nat} {spare:Nat->Bool} {held:Bool}
theorem kz {d:DataW Unit} {ds:List (DataW Unit)} {a b:List Value} (h1:ZP d=some a) (h2:UN ds=some b):UN (d :: ds)=some (a++b):=by
 rw[UN,h1,h2]
theorem Za {n:Nat} {cs:List Value} (ih:∀ t cs d p,UO P n t=true->DataW.trod enc P w base spare held n t cs=some (d,p)->ZP d=some cs) {m:Nat} (hm:∀ t cs d p,UO P m t=true->DataW.trod enc P w base spare held n t cs=some (d,p)->ZP d=some cs) :
  ∀ (fs:List Field) (j N:Nat) (xs:List (DataW Unit×List MemPlace)),Mc P j fs N=true->(fs.all fun f=>UO P m f.type)=true->cs.length=N->xs.length=fs.length ->
   (∀ (i:Nat) (f:Field),fs[i]?=some f->DataW.trod enc P w base spare held n f.type ((cs.drop f.offset).take (P.cellsOf f.type))=xs[i]?)->UN (xs.map (·.1))=some (cs.drop j)
 | [],j,N,xs,hc,_,hl,hx,_=>by
  simp only[Mc,beq_iff_eq]at hc
  match xs,hx with
  | [],_=>rw[List.drop_of_length_le (by omega)];rfl
 | f :: fs,j,N,xs,hc,ha,hl,hx,hf=>by
  simp only[Mc,Bool.and_eq_true,beq_iff_eq]at hc;simp only[List.all_cons,Bool.and_eq_true]at ha
  match xs,hx with
  | x :: xs,hx =>
   have h0:=hf 0 f rfl;have e0:ZP x.1=some ((cs.drop f.offset).take (P.cellsOf f.type)):=hm _ _ _ x.2 ha.1 h0;have e1:=Za ih hm fs _ N xs hc.2 ha.2 hl (by simpa using hx) fun i g hg=>hf (i+1) g hg;rw[List.map_cons,kz e0 e1,hc.1,←List.drop_drop,List.take_append_drop]
theorem Vv {n:Nat} {e:TypeId} {cs:List Value}:∀ (N j:Nat) (xs:List (DataW Unit×List MemPlace)),(∀ cs d p,DataW.trod enc P w base spare held n e cs=some (d,p)->ZP d=some cs)->cs.length=(j+N)*P.cellsOf e->xs.length=N ->
   (∀ (i:Nat),i<N->DataW.trod enc P w base spare held n e ((cs.drop ((j+i)*P.cellsOf e)).take (P.cellsOf e))=xs[i]?)->UN (xs.map (·.1))=some (cs.drop (j*P.cellsOf e))
 | 0,j,xs,_,hl,hx,_=>by
  match xs,hx with
  | [],_=>rw[List.drop_of_length_le (by simp at hl;omega)];rfl
 | N+1,j,xs,hm,hl,hx,hf=>by
  match xs,hx with
  | x :: xs,hx =>
   have e0:=hm _ _ x.2 (hf 0 (Nat.zero_lt_succ _));have e1:=Vv N (j+1) xs hm (by rw[hl];congr 1;omega) (by simpa using hx) fun i hi=>by
    have:=hf (i+1) (by omega);rw[show j+(i+1)=j+1+i by omega]at this;exact this
   rw[List.map_cons,kz e0 e1,Nat.add_zero,show (j+1)*P.cellsOf e=j*P.cellsOf e+P.cellsOf e by rw[Nat.add_mul];omega,←List.drop_drop,List.take_append_drop]
theorem XU:∀ (n m:Nat) (t:TypeId) (cs:List Value) (d:DataW Unit) (p:List MemPlace),UO P m t=true->DataW.trod enc P w base spare held n t cs=some (d,p)->ZP d=some cs
 | 0,m,t,cs,d,p,_,h=>by simp[DataW.trod]at h
 | n+1,0,t,cs,d,p,hf,h=>by simp[UO]at hf
 | n+1,m+1,t,cs,d,p,hf,h=>by
  unfold UO at hf;split at hf
  ·rename_i hu;obtain ⟨b,rfl,e⟩:=DataW.trod_bool hu h;cases e;rfl
  ·rename_i k hu;obtain ⟨b,rfl,e,_⟩:=DataW.trod_int hu h;cases e;rfl
  ·rename_i hu;obtain ⟨s,rfl,e,_⟩:=DataW.trod_string hu h;cases e;rw[ZP]
  ·rename_i fs hu;simp only[Bool.and_eq_true]at hf;obtain ⟨xs,n',hn,e,hl,hx,hg⟩:=DataW.trod_struct hu h;cases hn;cases e;have hrec:∀ t cs d p,UO P m t=true->DataW.trod enc P w base spare held n t cs=some (d,p)->ZP d=some cs:=fun t cs d p=>XU n m t cs d p;have:=Za (n:=n) (fun t cs d p=>XU n n t cs d p) hrec fs.toList 0 _ xs hf.1 hf.2 hl (by rw[hx];rfl) fun i f hif=>hg i f (by simpa using hif);rw[List.drop_zero]at this;rw[ZP,this]
  ·rename_i N e hu;simp only[Bool.and_eq_true,beq_iff_eq]at hf;obtain ⟨xs,n',hn,e',hl,hx,hg⟩:=DataW.trod_array hu h;cases hn;cases e';have:=Vv (n:=n) (e:=e) (cs:=cs) N 0 xs (fun cs d p=>XU n m e cs d p hf.1) (by rw[hl,hf.2,Nat.zero_add]) hx fun i hi=>by rw[Nat.zero_add];exact hg i hi
   rw[Nat.zero_mul,List.drop_zero]at this;rw[ZP,this]
  ·cases hf
end
theorem GF {W:World} {g:Nat}:∀ (vs:List Value) (o:Nat),(∀ (i:Nat) v,vs[i]?=some v->W.cell? ⟨g,o+i,none⟩=some v)->(vs.all fun v=>v.oneCell')=true->zK (Mb W) (vs.map zA) g o:=fun vs o h ho=>by
 refine qc fun i c hc=>?_;rw[List.getElem?_map,Option.map_eq_some_iff]at hc;obtain ⟨v,hv,rfl⟩:=hc;exact ⟨v,h i v hv,fun hf=>hf,jy _ _ v,List.all_eq_true.1 ho v (List.mem_of_getElem? hv)⟩
theorem Gl {P:Program} {W:World} {l:List (String×DataW Unit)} (h:laidMetH P l W) (hp:(l.filter fun x=>x.2.handleName?.isSome) = []) {n:String} {d:DataW Unit} (hm:(n,d)∈l) {g:Nat} {t:TypeId} {m:Nat} {vs:List Value}
  (hg:P.globalNamed n=some g) (ht:(P.globals[g]?).map (·.type)=some t) (hf:UO P m t=true) (hd:ZP d=some vs) (ho:(vs.all fun v=>v.oneCell')=true):zK (Mb W) (vs.map zA) g 0:=by
 unfold laidMetH at h;rw[hp]at h;obtain ⟨g',t',cs,fuel,p,hg',ht',hvar,htr⟩:=Lib.laidMet.reads h hm;rw[hg]at hg';cases hg';rw[ht]at ht';cases ht';have e:=XU _ _ _ _ _ _ hf htr;have e':vs=cs.toList:=Option.some.inj (hd.symm.trans e);subst e';refine GF _ 0 (fun i v hv=>?_) ho;rw[World.var?_cell hg hvar,Nat.zero_add];simpa using hv
theorem Jx {P:Program} {W:World} {l:List (String×DataW Unit)} (h:laidMetH P l W) (hp:(l.filter fun x=>x.2.handleName?.isSome) = []) {n:String} {d:DataW Unit} (hm:(n,d)∈l) {g:Nat} {t:TypeId} {m:Nat} {vs:List Value}
  (hg:P.globalNamed n=some g) (ht:(P.globals[g]?).map (·.type)=some t) (hf:UO P m t=true) (hd:ZP d=some vs) (ho:(vs.all fun v=>v.oneCell')=true) :
  zK (Mb W) (vs.map zA) g 0/\(∃ us ty fl,(Mb W).w.heap[g]?=some (.cells us ty fl)/\us.size=(vs.map zA).length)/\∀ o,¬(Mb W).M g o:=by
 refine ⟨Gl h hp hm hg ht hf hd ho,?_,fun o h=>h⟩;unfold laidMetH at h;rw[hp]at h;obtain ⟨g',t',cs,fuel,p,hg',ht',hvar,htr⟩:=Lib.laidMet.reads h hm;rw[hg]at hg';cases hg';rw[ht]at ht';cases ht';have e:=XU _ _ _ _ _ _ hf htr;have e':vs=cs.toList:=Option.some.inj (hd.symm.trans e);subst e';unfold World.var? at hvar;rw[hg]at hvar;simp only[Option.bind_some]at hvar;split at hvar
 ·rename_i cs' ty fl hh;cases hvar;exact ⟨_,_,_,hh,by simp⟩
 ·cases hvar
theorem Fun.glob {P:Program} {G G':zp} {f:FuncId} {args:List C} {r:C} {n:Nat} (h:Fun P G f args r n) (hG:∀ g cs,G g=some cs->G' g=some cs):Fun P G' f args r n:=
 ⟨h.1,fun R vs hg ha=>h.2 R vs (fun g cs e=>hg g cs (hG g cs e)) ha⟩
theorem Fun.glob0 {P:Program} {G':zp} {f:FuncId} {args:List C} {r:C} {n:Nat} (h:Fun P G0 f args r n):Fun P G' f args r n:=h.glob fun g cs e=>by cases e
end
section
open CA CB
open Go.RowKit
def zpd:List Value:=[.bool false,.bool false,.bool false,.bool false,.bool false,.bool false,.bool false,.bool true,.bool false,.bool true,.bool true,.bool false,.bool false,.bool false,.bool true,.bool false,.bool true,.bool false,.bool false,.bool true,.bool false,.bool true,.bool false,.bool false,.bool false,.bool false,.bool false,.bool true,.bool false,.bool false,.bool true,.bool false,.bool false]
def G1:zp:=fun g=>if g=3 then some (zpd.map zA) else none
theorem zp8:G1 3=some [.sc (.bool false),.sc (.bool false),.sc (.bool false),.sc (.bool false),.sc (.bool false),.sc (.bool false),.sc (.bool false),.sc (.bool true),.sc (.bool false),.sc (.bool true),.sc (.bool true),.sc (.bool false),.sc (.bool false),.sc (.bool false),.sc (.bool true),.sc (.bool false),.sc (.bool true),.sc (.bool false),.sc (.bool false),.sc (.bool true),.sc (.bool false),.sc (.bool true),.sc (.bool false),.sc (.bool false),.sc (.bool false),.sc (.bool false),.sc (.bool false),.sc (.bool true),.sc (.bool false),.sc (.bool false),.sc (.bool true),.sc (.bool false),.sc (.bool false)]:=rfl
attribute [push_cast] zp8
def qH (p:List UInt8):Bool:=J5 p&&!decide (zE p = [])
theorem Mo (p:List UInt8) (hp:p.length<=1000000):Fun Tryz.prog G0 203 [.str p] (qP (qH p)) 0:=by
 have h:=M1 p hp;unfold Xw at h;cases hb:J5 p with
 | false =>
  rw[hb]at h;refine fon Tryz.func203 ?_;dsimp only[Tryz.f203];push_cast -dsimp;refine cl (h) ?_;push_cast -dsimp;exact ⟨[],rfl,rfl,by push_cast -dsimp [ze,zd,CLe,zg];simp[qH,hb]⟩
 | true =>
  rw[hb,if_pos rfl]at h;refine fon Tryz.func203 ?_;dsimp only[Tryz.f203];push_cast -dsimp;refine cl (h) ?_;push_cast -dsimp;refine ⟨[],rfl,rfl,?_⟩;push_cast -dsimp [ze,zd,CLe,zg];by_cases hn:zE p = []
  ·simp[qH,hb,hn]
  ·have:=List.length_pos_iff.2 hn;simp[qH,hb,hn,this]
theorem zbs (l:List UInt8):Fun Tryz.prog G0 192 [.str l,.str [0]] (.sc (.int .i64 (Lib.indexByte l 0))) 0:=by
 refine Fun.wrap (by kernel_rfl) fun R vs h=>?_;obtain ⟨v1,us1,rfl,h1,h⟩:=zh.1 h;obtain ⟨v2,us2,rfl,h2,h⟩:=zh.1 h;rw[zl]at h;subst h;rw[zT]at h1 h2;subst h1 h2;refine (Tryz.strings_Index_one ⟨l.toArray⟩ 0 R.w).mono ?_;rintro e w' ⟨rfl,rfl⟩;exact ⟨_,rfl,Below.refl _ _,fun R' _=>zo.2 (by simp)⟩
theorem Hw:∀ l:List UInt8,decide (0<=Lib.indexByte l 0)=l.any (fun b=>decide (b=0))/\-1<=Lib.indexByte l 0
 | []=>⟨rfl,by decide⟩
 | b :: l=>by
  obtain ⟨h1,h2⟩:=Hw l;unfold Lib.indexByte;by_cases hb:b=0
  ·subst hb;simp
  ·have hb':(b==0)=false:=by simpa using hb
   rw[hb'];simp only[Bool.false_eq_true,if_false,List.any_cons,hb,decide_false,Bool.false_or,←h1];split
   ·rename_i hm;have:=beq_iff_eq.1 hm;rw[this];simp
   ·rename_i hm;have:¬Lib.indexByte l 0 = -1:=fun e=>hm (by rw[e];rfl);constructor
    ·rw[decide_eq_decide];omega
    ·omega
theorem Gb (l:List UInt8) (hl:l.length<=1000000):Fun Tryz.prog G0 237 [.str l,.str [0]] (qP (l.any fun b=>decide (b=0))) 0:=by
 have h:=(Hw l).1;refine fon Tryz.func237 ?_;dsimp only[Tryz.f237];push_cast -dsimp;refine cl (zbs l) ?_;push_cast -dsimp;exact dn (by push_cast -dsimp [ze,zd,CLe,zg,h])
def XY (s:List UInt8):Bool:=!decide (s = [])&&decide (s.length<=4095)&&!(s.any fun b=>decide (b=0))
theorem za8 (s:List UInt8) (hs:s.length<=1000000):Fun Tryz.prog G0 204 [.str s] (qP (XY s)) 0:=by
 have h:=Gb s hs;by_cases h1:s = []
 ·refine fon Tryz.func204 ?_;dsimp only[Tryz.f204];push_cast -dsimp [h1];exact ⟨[],rfl,rfl,by push_cast -dsimp [ze,zd,CLe,zg];simp[XY,h1]⟩
 ·by_cases h2:s.length<=4095
  ·have h2':(s.length:Int)<=4095:=by omega
   refine fon Tryz.func204 ?_;dsimp only[Tryz.f204];push_cast -dsimp [h1,h2'];refine cl (h) ?_;push_cast -dsimp;exact ⟨[],rfl,rfl,by push_cast -dsimp [ze,zd,CLe,zg];simp[XY,h1,h2]⟩
  ·have h2':¬(s.length:Int)<=4095:=by omega
   refine fon Tryz.func204 ?_;dsimp only[Tryz.f204];push_cast -dsimp [h1,h2'];exact ⟨[],rfl,rfl,by push_cast -dsimp [ze,zd,CLe,zg];simp[XY,h1,h2]⟩
end
end Go.Proofs.YtnpdbhbmakdklaaGreatDoor.Vcg
section
namespace Go.Proofs.YtnpdbhbmakdklaaGreatDoor.QuotePlain
abbrev Bs:=List UInt8
def good (c:UInt8):Bool:=decide (32<=c.toNat/\c.toNat<=126/\c.toNat≠34/\c.toNat≠92)
def zj9:Bs:=[48,49,50,51,52,53,54,55,56,57,97,98,99,100,101,102]
def H0 (n:Nat):UInt8:=zj9.getD n 0
def qb (c:UInt8):Bs:=if good c then [c] else [92,120,H0 (c.toNat / 16),H0 (c.toNat % 16)]
def mid (l:Bs):Bs:=l.flatMap qb
def quoteL (l:Bs):Bs:=34 :: (mid l++[34])
def zoQ (l:Bs):Bool:=decide (l≠[])&&l.all fun c=>decide (33<=c.toNat/\c.toNat<=126/\c.toNat≠34)
def zny (c:UInt8):Nat:=(zj9.findIdx? (·==c)).getD 16
def ziU:Bs->UInt8×Nat
 | []=>(0,0)
 | c :: r =>
  if c≠92 then (if good c then (c,1) else (0,0))
  else match r with
   | x :: a :: b :: _=>if x=120/\zny a<16/\zny b<16/\good (UInt8.ofNat (zny a*16+zny b))=false then (UInt8.ofNat (zny a*16+zny b),4) else (0,0)
   | _=>(0,0)
theorem zc8 {p:UInt8->Bool} (h:(List.range 256).all (fun n=>p (UInt8.ofNat n))=true) (c:UInt8):p c=true:=by
 have h1:=List.all_eq_true.1 h c.toNat (List.mem_range.2 c.toNat_lt);simpa using h1
def zpr:Nat->Bs->Option (Bs×Nat)
 | 0,_=>none
 | _+1,[]=>none
 | f+1,c :: r=>if c=34 then some ([],1) else if (ziU (c :: r)).2=0 then none else (zpr f ((c :: r).drop (ziU (c :: r)).2)).map fun x=>((ziU (c :: r)).1 :: x.1,(ziU (c :: r)).2+x.2)
def body (l:Bs):Option (Bs×Nat):=zpr (l.length+1) l
def qtd:Bs->Option (Bs×Nat)
 | []=>none
 | c :: r=>if c=34 then (body r).map fun x=>(x.1,x.2+1) else none
def unq (l:Bs):Option Bs:=match qtd l with | some (t,n)=>if n=l.length then some t else none | none=>none
end Go.Proofs.YtnpdbhbmakdklaaGreatDoor.QuotePlain
end
section
namespace Go.Proofs.YtnpdbhbmakdklaaGreatDoor.QuotePlain
def okw (w:Bs):Bool:=(unq w).isSome||zoQ w
def cut:Bs->Bs->Bool->Option (List Bs)
 | [],w,_=>if okw w then some [w] else none
 | c :: r,w,i=>if c=32/\i=false then (if okw w then (cut r [] i).map (w :: ·) else none) else cut r (w++[c]) (if c=34 then !i else i)
end Go.Proofs.YtnpdbhbmakdklaaGreatDoor.QuotePlain
end
section
namespace Go.Proofs.YtnpdbhbmakdklaaGreatDoor.QuotePlain
def F (q:List Bs):Bs:=q.flatMap (·++[32])
end Go.Proofs.YtnpdbhbmakdklaaGreatDoor.QuotePlain
end
namespace Go.Proofs.YtnpdbhbmakdklaaGreatDoor.Vcg
section
structure OpV where
 kind:Int
 slot:Int
 a:List UInt8
 b:List UInt8
 d:List UInt8
deriving DecidableEq,Inhabited
def Nh (k:Int):Bool:=decide (k=3)||decide (k=7)||decide (k=9)||decide (k=10)
def zqE (k:Int):Bool:=decide (k=2)||decide (k=3)||decide (k=5)||decide (k=6)
end
section
open CA CB
open Go.RowKit
def opL (o:OpV):List C:=[.sc (.int .i64 o.kind),.sc (.int .i64 o.slot),.str o.a,.str o.b,.str o.d]
def NC (o:OpV):Bool:=decide (1<=o.kind)&&decide (o.kind<=10)&&qH o.a&&(if Nh o.kind then decide (1<=o.slot)&&decide (o.slot<=1073741824) else decide (o.slot=0))&&(if zqE o.kind then qH o.b else decide (o.b = []))
 && (if o.kind=4 then XY o.d else decide (o.d = []))&&(!decide (o.kind=6)||(!Qz o.a o.b&&!Qz o.b o.a))
def zar (o:OpV):Prop:=o.a.length<=1000000/\o.b.length<=1000000/\o.d.length<=1000000
theorem MU (k s:Int) (a b d:List UInt8) (hs:zar ⟨k,s,a,b,d⟩):Fun Tryz.prog G1 170 [.agg (opL ⟨k,s,a,b,d⟩)] (qP (NC ⟨k,s,a,b,d⟩)) 0:=by
 have hs1:a.length<=1000000:=hs.1;have hs2:b.length<=1000000:=hs.2.1;have hs3:d.length<=1000000:=hs.2.2;have h1:=(Mo a (by omega)).glob0 (G':=G1);have h2:=(Mo b (by omega)).glob0 (G':=G1);have h3:=(za8 d (by omega)).glob0 (G':=G1);have h4:=(HD a b (by omega)).glob0 (G':=G1);have h5:=(HD b a (by omega)).glob0 (G':=G1);unfold opL;by_cases hk1:k<1
 ·have:¬1<=k:=by omega
  refine fon Tryz.func170 ?_;dsimp only[Tryz.f170];push_cast -dsimp [hk1];exact ⟨[],rfl,rfl,by push_cast -dsimp [ze,zd,CLe,zg];simp[NC,this]⟩
 by_cases hk2:10<k
 ·have:¬k<=10:=by omega
  refine fon Tryz.func170 ?_;dsimp only[Tryz.f170];push_cast -dsimp [hk1,hk2];exact ⟨[],rfl,rfl,by push_cast -dsimp [ze,zd,CLe,zg];simp[NC,this]⟩
 cases hp:qH a with
 | false =>
  rw[hp]at h1;refine fon Tryz.func170 ?_;dsimp only[Tryz.f170];push_cast -dsimp [hk1,hk2];refine cl (h1) ?_;push_cast -dsimp;exact ⟨[],rfl,rfl,by push_cast -dsimp [ze,zd,CLe,zg];simp[NC,hp]⟩
 | true =>
  rw[hp]at h1;have hk:k=1∨k=2∨k=3∨k=4∨k=5∨k=6∨k=7∨k=8∨k=9∨k=10:=by omega
  clear hk1 hk2 hs hs1 hs2 hs3;rcases hk with rfl | rfl | rfl | rfl | rfl | rfl | rfl | rfl | rfl | rfl
  all_goals
   refine fon Tryz.func170 ?_;dsimp only[Tryz.f170];push_cast -dsimp;refine cl (h1) ?_;push_cast -dsimp
   repeat' (first
    | (refine call h2 ?_;push_cast -dsimp)
    | (refine zbF h2 ?_;push_cast -dsimp)
    | (refine call h3 ?_;push_cast -dsimp)
    | (refine zbF h3 ?_;push_cast -dsimp)
    | (refine call h4 ?_;push_cast -dsimp)
    | (refine zbF h4 ?_;push_cast -dsimp)
    | (refine call h5 ?_;push_cast -dsimp)
    | (refine zbF h5 ?_;push_cast -dsimp)
    | (refine br (fun h=>?_) (fun h=>?_)<;>push_cast -dsimp [h])
    | (refine ⟨[],rfl,rfl,?_⟩;push_cast -dsimp [ze,zd,CLe,zg];clear h1 h2 h3 h4 h5;simp_all [NC,Nh,zqE]<;>omega))
end
section
structure zR where
 dir:Int
 name:List UInt8
 ino:Int
deriving DecidableEq,Inhabited
structure zP where
 slot:Int
 ino:Int
 content:Bool
 data:List UInt8
deriving DecidableEq,Inhabited
structure qA where
 fs:FsV
 kept:List zP
 pool:List zm
deriving DecidableEq,Inhabited
def jE:zR:=⟨0,[],0⟩
def zmU:zP:=⟨0,0,false,[]⟩
abbrev Jo (es:List zW):Prop:=qF Ji zW.name es
def Zu (n:List UInt8) (es:List zW):Bool:=YG zW.name n es
def qh (n:List UInt8) (es:List zW):Int:=match Jk zW.name n es with | some e=>e.ino | none=>0
def zj (n:List UInt8) (es:List zW):List zW:=Y1 zW.name n es
def zY (n:List UInt8) (i:Int) (es:List zW):List zW:=VY Ji zW.name ⟨n,i⟩ (Y1 zW.name n es)
def atW (xs:List zm):List (List UInt8)->zR->zR×Int
 | [],s=>(s,0)
 | n :: r,s=>if s.ino=0 then (jE,1) else if (zf s.ino xs).kind≠2 then (jE,3) else atW xs r ⟨(zf s.ino xs).ino,n,qh n (zf s.ino xs).es⟩
def atV (f:FsV) (p:List UInt8):zR×Int:=if J5 p then atW f.xs (zE p) ⟨0,[],1⟩ else (jE,9)
def Zx (f:FsV) (n b:Int):Bool:=decide (f.xs.length+n<=f.maxI)&&decide (qe f.xs+b<=f.maxB)
def qp (d:Int) (es:List zW->List zW) (xs:List zm):List zm:=ql { zf d xs with es:=es (zf d xs).es } xs
def zb9 (f:FsV) (s:zR) (k:Int) (t:List UInt8):FsV:={ f with next:=f.next+1,xs:=ql ⟨f.next,k,1,t,if k=2 then s.dir else 0,[]⟩ (qp s.dir (zY s.name f.next) f.xs) }
def zcG (f:FsV) (s:zR) (k:Int) (t:List UInt8):FsV×Int:=
 if may s.name then (if Zx f 1 (if k=1 then (t.length:Int) else 0) then (zb9 f s k t,0) else (f,8)) else (f,9)
def zF (f:FsV) (s:zR):FsV:=
 if (zf s.ino f.xs).links-1=0 then { f with xs:=z8 s.ino (qp s.dir (zj s.name) f.xs) }
 else { f with xs:=ql { zf s.ino f.xs with links:=(zf s.ino f.xs).links-1 } (qp s.dir (zj s.name) f.xs) }
def UW (f:FsV) (s:zR) (i:Int):FsV:={ f with xs:=ql { zf i f.xs with links:=(zf i f.xs).links+1 } (qp s.dir (zY s.name i) f.xs) }
def YL (f:FsV) (a b:zR):FsV:=
 let g:=qp b.dir (zY b.name a.ino) (qp a.dir (zj a.name) f.xs)
 if (zf a.ino g).kind=2 then { f with xs:=ql { zf a.ino g with parent:=b.dir } g } else { f with xs:=g }
def XB (f:FsV) (i:Int) (t:List UInt8):FsV:={ f with xs:=ql { zf i f.xs with data:=t } f.xs }
def km (f:FsV) (i:Int) (t:List UInt8):FsV×Int:=
 if Zx f 0 ((t.length:Int)-(zf i f.xs).data.length) then (XB f i t,0) else (f,8)
def zah (n:Int) (ks:List zP):Bool:=YG zP.slot n ks
def qC (k:zP) (ks:List zP):List zP:=VY j6 zP.slot k ks
def Xi (w:qA) (n:Int) (s:zR):qA×Int:=
 if zah n w.kept then (w,13)
 else (⟨zF w.fs s,qC ⟨n,s.ino,false,[]⟩ w.kept,if (zf s.ino w.fs.xs).links=1 then ql { zf s.ino w.fs.xs with links:=0,parent:=0 } w.pool else w.pool⟩,0)
def JF (w:qA) (n i:Int):qA×Int:=
 if zah n w.kept then (w,13) else ({ w with kept:=qC ⟨n,i,true,(zf i w.fs.xs).data⟩ w.kept },0)
def isV (f:FsV) (p:List UInt8) (want:Bool):zR×zm×Int:=
 let a:=atV f p
 (a.1,zf a.1.ino f.xs,if a.2≠0 then a.2 else if want&&!zk a.1.ino f.xs then 1 else if !want&&zk a.1.ino f.xs then 2 else 0)
def jb (f:FsV) (p:List UInt8):zm×Int:=
 let a:=isV f p true
 (a.2.1,if a.2.2≠0 then a.2.2 else if a.2.1.kind=2 then 4 else if a.2.1.kind=3 then 9 else 0)
def Vq (w:qA) (p:List UInt8) (k:Int) (t:List UInt8):qA×Int:=
 if (isV w.fs p false).2.2≠0 then (w,(isV w.fs p false).2.2) else ({ w with fs:=(zcG w.fs (isV w.fs p false).1 k t).1 },(zcG w.fs (isV w.fs p false).1 k t).2)
def Va (w:qA) (o:OpV):qA×Int:=
 if (jb w.fs o.a).2≠0 then (w,(jb w.fs o.a).2) else Vq w o.b 1 (jb w.fs o.a).1.data
def Ql (w:qA) (o:OpV):qA×Int:=
 if (jb w.fs o.a).2≠0 then (w,(jb w.fs o.a).2)
 else if (jb w.fs o.b).2≠0 then (w,(jb w.fs o.b).2)
 else if (jb w.fs o.a).1.ino=(jb w.fs o.b).1.ino then (w,9)
 else if (JF w o.slot (jb w.fs o.b).1.ino).2≠0 then (w,(JF w o.slot (jb w.fs o.b).1.ino).2)
 else if (km w.fs (jb w.fs o.b).1.ino (jb w.fs o.a).1.data).2≠0 then (w,(km w.fs (jb w.fs o.b).1.ino (jb w.fs o.a).1.data).2)
 else ({ (JF w o.slot (jb w.fs o.b).1.ino).1 with fs:=(km w.fs (jb w.fs o.b).1.ino (jb w.fs o.a).1.data).1 },0)
def Z7 (w:qA) (o:OpV):qA×Int:=
 let a:=isV w.fs o.a true
 if a.2.2≠0 then (w,a.2.2) else if a.2.1.kind=2 then (w,11)
 else if (isV w.fs o.b false).2.2≠0 then (w,(isV w.fs o.b false).2.2)
 else ({ w with fs:=UW w.fs (isV w.fs o.b false).1 a.2.1.ino },0)
def JX (w:qA) (o:OpV):qA×Int:=
 if (isV w.fs o.a true).2.2≠0 then (w,(isV w.fs o.a true).2.2)
 else if (isV w.fs o.b false).2.2≠0 then (w,(isV w.fs o.b false).2.2)
 else ({ w with fs:=YL w.fs (isV w.fs o.a true).1 (isV w.fs o.b false).1 },0)
def qM (w:qA) (o:OpV):qA×Int:=
 let a:=isV w.fs o.a true
 if a.2.2≠0 then (w,a.2.2) else if a.2.1.es≠[] then (w,5) else Xi w o.slot a.1
def doV (w:qA) (o:OpV):qA×Int:=
 if !NC o then (w,12)
 else if o.kind=1 then Vq w o.a 2 []
 else if o.kind=2 then Va w o
 else if o.kind=3 then Ql w o
 else if o.kind=4 then Vq w o.a 3 o.d
 else if o.kind=5 then Z7 w o
 else if o.kind=6 then JX w o
 else qM w o
def j7 (ks:List zP):Int:=match ks.getLast? with | some k=>k.slot | none=>0
structure qd where
 w:qA
 ops:List OpV
 diags:List (List UInt8)
 status:Int
 slot:Int
deriving DecidableEq,Inhabited
def xf (w:qA):qd:=⟨w,[],[],0,j7 w.kept⟩
def Vf (d:qd) (o:OpV):OpV:={ o with slot:=if o.kind=3∨o.kind=7 then d.slot+1 else 0 }
def VZ (d:qd) (o:OpV):qd×Int:=
 if 7<o.kind then (d,12)
 else if (doV d.w (Vf d o)).2≠0 then (d,(doV d.w (Vf d o)).2)
 else (⟨(doV d.w (Vf d o)).1,d.ops++[Vf d o],d.diags,d.status,if 0<(Vf d o).slot then (Vf d o).slot else d.slot⟩,0)
end
section
open CA CB
open Go.RowKit
theorem zcr (a b:List UInt8):Fun Tryz.prog G0 260 [.str a,.str b] (.sc (.int .i64 (Lib.compareBytes a b))) 0:=by
 refine Fun.wrap (by kernel_rfl) fun R vs h=>?_;obtain ⟨v1,us1,rfl,h1,h⟩:=zh.1 h;obtain ⟨v2,us2,rfl,h2,h⟩:=zh.1 h;rw[zl]at h;subst h;rw[zT]at h1 h2;subst h1 h2;refine (Tryz.strings_Compare ⟨a.toArray⟩ ⟨b.toArray⟩ R.w).mono ?_;rintro e w' ⟨rfl,rfl⟩;exact ⟨_,rfl,Below.refl _ _,fun R' _=>zo.2 (by simp)⟩
section
variable {G:zp}
theorem uR (e:zW) (n:List UInt8):Fun Tryz.prog G 259 [.agg (GE e),.str n] (.sc (.int .i64 (Lib.compareBytes e.name n))) 0:=by
 have h:=(zcr e.name n).glob0 (G':=G);refine fon Tryz.func259 ?_;dsimp only[Tryz.f259];push_cast -dsimp;refine cl (h) ?_;push_cast -dsimp;exact dn
theorem xq (es:List zW) (n:List UInt8) (hl:es.length<=100000) (hR:qF Ji zW.name es) :
  Fun Tryz.prog G 258 [.sl 2 (zL es),.str n,.clo (.func 259) [] []] (.tup [.sc (.int .i64 (qk Ji zW.name n es:Nat)),.sc (.bool (YG zW.name n es))]) 0:=by
 refine fon Tryz.func258 ?_;dsimp only[Tryz.f258];push_cast -dsimp;refine loop (fun p:Nat×Nat=>⟨[(0,.sl 2 (zL es)),(1,.str n),(2,.clo (.func 259) [] []),(8,.sc (.int .i64 (es.length:Nat))),(9,.sc (.int .i64 p.1)),(10,.sc (.int .i64 p.2))],[],0,0⟩)
  (fun p=>p.1<=p.2/\p.2<=es.length/\(∀ t (h:t<es.length),t<p.1->(Ji).lt (zW.name es[t]) n=true)/\∀ t (h:t<es.length),p.2<=t->(Ji).lt (zW.name es[t]) n=false) (fun p=>p.2-p.1) (0,es.length) ⟨Nat.zero_le _,Nat.le_refl _,fun t _ h=>by (simp at h),fun t h h'=>by (dsimp only at h';omega)⟩ ?_ ?_
 ·exact wk (by push_cast -dsimp [ze,zd,CLe,zg,List.length_map])
 ·rintro ⟨i,j⟩ ⟨h1,h2,h3,h4⟩;dsimp only at h1 h2 h3 h4 ⊢;by_cases h:i<j
  ·obtain ⟨m,hm⟩:∃ m,m=(i+j) / 2:=⟨_,rfl⟩;have hmi:((i:Int)+(j:Int)) / 2=(m:Int):=by omega
   have hml:m<es.length:=by omega
   have hat:=JH es m hml;have hlt:=(zdT es[m].name n).to_iff;push_cast -dsimp [h,hmi,hat]
   repeat refine an ?_
   refine cl ((uR es[m] n)) ?_;push_cast -dsimp;cases hc:(Ji).lt (zW.name es[m]) n with
   | true =>
    have hcv:(Lib.compareBytes es[m].name n<0)=True:=eq_true (hlt.mpr hc);push_cast -dsimp [hcv]
    repeat refine an ?_
    refine ⟨(m+1,j),⟨by omega,h2,fun t ht hlt2=>?_,h4⟩,by dsimp only;omega,wk⟩;dsimp only at hlt2;rcases Nat.lt_or_ge t m with q | q
    ·exact (Ji).tr ((List.pairwise_iff_getElem.1 hR) t m ht hml q) hc
    ·have:t=m:=by omega
     subst this;exact hc
   | false =>
    have hcv:(Lib.compareBytes es[m].name n<0)=False:=eq_false (fun e=>by have h7:(Ji).lt (zW.name es[m]) n=true:=hlt.mp e;rw[hc]at h7;cases h7);push_cast -dsimp [hcv]
    repeat refine an ?_
    refine ⟨(i,m),⟨by omega,by omega,h3,fun t ht hge=>?_⟩,by dsimp only;omega,wk⟩;dsimp only at hge;rcases Nat.lt_or_ge m t with q | q
    ·cases h9:(Ji).lt (zW.name es[t]) n with
     | false=>rfl
     | true=>have:=(Ji).tr ((List.pairwise_iff_getElem.1 hR) m t hml ht q) h9;rw[hc]at this;cases this
    ·have:t=m:=by omega
     subst this;exact hc
  ·have hij:i=j:=by omega
   subst hij;have hrk:=ZC (o:=Ji) (key:=zW.name) n es i h2 h3 h4;push_cast -dsimp [h];refine br (fun hx=>?_) (fun hx=>?_)
   ·have hx:i<es.length:=by simpa using hx
    have hat:=JH es i hx;have hh:=yb n hR hrk hx;push_cast -dsimp [hx,hat]
    repeat refine an ?_
    refine cl ((uR es[i] n)) ?_;push_cast -dsimp;have hcv:decide (Lib.compareBytes es[i].name n=0)=YG zW.name n es:=by
     rw[hh];exact decide_eq_decide.2 (zdl es[i].name n).to_iff
    push_cast -dsimp [hcv];exact dn (by push_cast -dsimp [ze,zd,CLe,zg,hrk])
   ·have hx:¬i<es.length:=by simpa using hx
    have hh:=H6 n hR (by omega);push_cast -dsimp [hx];exact dn (by push_cast -dsimp [ze,zd,CLe,zg,hrk,hh])
theorem yW (es:List zW) (n:List UInt8) (hl:es.length<=100000) (hR:Jo es):Fun Tryz.prog G 224 [.sl 2 (zL es),.str n] (.tup [.sc (.int .i64 (qk Ji zW.name n es:Nat)),.sc (.bool (YG zW.name n es))]) 0:=by
 refine fon Tryz.func224 ?_;dsimp only[Tryz.f224];push_cast -dsimp;refine cl (xq es n hl hR) ?_;push_cast -dsimp;exact dn
theorem NG (es:List zW) (n:List UInt8) (hl:es.length<=100000) (hR:Jo es):Fun Tryz.prog G 177 [.sl 2 (zL es),.str n] (.tup [.sc (.int .i64 (qh n es)),.sc (.bool (Zu n es))]) 0:=by
 obtain ⟨_,_,h3,h4⟩:=V2 n hR;have h:=yW (G:=G) es n hl hR;cases hh:YG zW.name n es with
 | false =>
  have hf:qh n es=0:=by unfold qh;rw[(h4 hh).1]
  have he:Zu n es=false:=hh;rw[hh]at h;refine fon Tryz.func177 ?_;dsimp only[Tryz.f177];push_cast -dsimp;refine cl (h) ?_;push_cast -dsimp;exact dn (by push_cast -dsimp [ze,zd,CLe,zg,hf,he])
 | true =>
  obtain ⟨hlt,_,g2,_⟩:=h3 hh;have hf:qh n es=es[qk Ji zW.name n es].ino:=by unfold qh;rw[g2]
  have he:Zu n es=true:=hh;have hat:=JH es _ hlt;rw[hh]at h;refine fon Tryz.func177 ?_;dsimp only[Tryz.f177];push_cast -dsimp;refine cl (h) ?_;push_cast -dsimp [hat]
  repeat refine an ?_
  exact dn (by push_cast -dsimp [ze,zd,CLe,zg,hf,he])
end
end
section
open CA CB
open Go.RowKit
section
variable {G:zp}
theorem qW {es:List zW}:∀ r∈zL es,r.length=2:=fun r hr=>by
 obtain ⟨x,_,rfl⟩:=List.mem_map.1 hr;rfl
theorem qX {es:List zW}:jd (zL es):=fun r hr=>by
 obtain ⟨x,_,rfl⟩:=List.mem_map.1 hr;rfl
theorem zao {k c i:Nat} {rows:List (List C)} (hk:∀ r∈rows,r.length=k) (hi:i<=rows.length):(qr k rows c).take (i*k)=(rows.take i).flatten:=by
 have hf:=qm hk;have h1:i*k<=rows.length*k:=Nat.mul_le_mul_right _ hi;unfold qr;rw[List.take_append_of_le_length (by omega),Q0 hk]
theorem zjw {es:List zW} {c r:Nat} {i:Int} (hr:r<es.length) :
  (qr 2 (zL es) c).take (r*2+1)++[C.sc (.int .i64 i)]++(qr 2 (zL es) c).drop (r*2+1+1)=qr 2 (zL (es.set r ⟨es[r].name,i⟩)) c:=by
 have hll:(zL es).length=es.length:=List.length_map ..;have h:=vV (c:=c) (row:=GE ⟨es[r].name,i⟩) (i:=r) qW rfl (show r<(zL es).length by omega);have e1:(zL es).set r (GE ⟨es[r].name,i⟩)=zL (es.set r ⟨es[r].name,i⟩):=by simp[List.map_set]
 rw[e1]at h;rw[←h];have t0:=zao (c:=c) (i:=r) (qW (es:=es)) (by omega);have t1:=zao (c:=c) (i:=r+1) (qW (es:=es)) (by omega);have e2:((zL es).take (r+1)).flatten=((zL es).take r).flatten++GE es[r]:=by
  rw[List.take_add_one,JH es r hr];simp
 have e3:(qr 2 (zL es) c).take (r*2+1)=(qr 2 (zL es) c).take (r*2)++[C.str es[r].name]:=by
  have e4:(qr 2 (zL es) c).take (r*2+1)=((qr 2 (zL es) c).take ((r+1)*2)).take (r*2+1):=by rw[List.take_take,Nat.min_eq_left (by omega)]
  have hl0:((zL es).take r).flatten.length=r*2:=by
   rw[qm (k:=2) fun x hx=>qW x (List.mem_of_mem_take hx),List.length_take,hll,Nat.min_eq_left (by omega)]
  rw[e4,t1,e2,t0,List.take_append,hl0,List.take_of_length_le (by omega),show r*2+1-r*2=1 by omega]
  rfl
 rw[e3];simp
theorem zgJ (es:List zW) (n:List UInt8) (i:Int) (hl:es.length<=90000) (hR:Jo es) :
  Fun Tryz.prog G 270 [.sl 2 (zL es),.str n,.sc (.int .i64 i)] (.own 0 112 2 (zL (zY n i es))) 1:=by
 obtain ⟨_,_,h3,h4⟩:=V2 n hR;have hll:(zL es).length=es.length:=List.length_map ..;have hat:=yW (G:=G) es n (by omega) hR;have hrl:=Q3 (o:=Ji) (key:=zW.name) n es;refine foF (fun _=>[]) Tryz.func270 ?_;dsimp only[Tryz.f270];push_cast -dsimp;refine cl (hat) ?_;push_cast -dsimp;refine jo [] [] (zaN (zL es) qW qX (by omega)) rfl (by decide) (by decide) (by simp) (by push_cast -dsimp) (by push_cast -dsimp) (fun r bx' m hp=>?_);obtain ⟨rfl,⟨hne,c,h1,h2,rfl,rfl⟩ | ⟨he,⟨rfl,rfl⟩ | ⟨rfl,rfl⟩⟩⟩:=hp
 ·have hbl:=Jt qW h1;have hre:∀ fp fo,C.reL fp fo (qr 2 (zL es) c)=qr 2 (zL es) c:=fun fp fo=>zB (zD qX);have hpos:=List.length_pos_iff.2 hne;cases hh:YG zW.name n es with
  | true =>
   obtain ⟨hlt,g1,g2,g3,g4⟩:=h3 hh;have hset:zY n i es=es.set (qk Ji zW.name n es) ⟨n,i⟩:=g4 ⟨n,i⟩ rfl;have hbs:=zjw (c:=c) (i:=i) hlt;rw[g1,←hset]at hbs;have hwl:(zY n i es).length=es.length:=by rw[hset,List.length_set]
   push_cast -dsimp [hh,hre];rw[hbs];refine ⟨by omega,by omega,by rw[hbl];omega,[(1,112,2,zL (zY n i es),c)],[.inl 0],zx rfl (by omega) (by rw[List.length_map,hwl];omega) h2 qW qX,rfl,rfl,?_⟩;rw[hll,←hwl];push_cast -dsimp [ze,zd,CLe,zg,show (zL (zY n i es)).length=(zY n i es).length from List.length_map ..]
  | false =>
   have hw:zY n i es=es.take (qk Ji zW.name n es)++⟨n,i⟩ :: es.drop (qk Ji zW.name n es):=by
    unfold zY;rw[(h4 hh).2.1];exact (h4 hh).2.2 ⟨n,i⟩ rfl
   have hset:zL (zY n i es)=(zL es).take (qk Ji zW.name n es)++GE ⟨n,i⟩ :: (zL es).drop (qk Ji zW.name n es):=by rw[hw];simp
   have hsl:(zL (zY n i es)).length=(zL es).length+1:=by rw[hset];simp;omega
   push_cast -dsimp [hh,hre];refine jo [1] [0] (uC (e:=112) (zL es) (GE ⟨n,i⟩) (qk Ji zW.name n es) c qW rfl qX rfl (by omega) (by omega) h1 h2) rfl (by decide) (by decide) (by simp) (by push_cast -dsimp) (by push_cast -dsimp [hre]) (fun r bx' m hp=>?_);rw[←hset]at hp;have hre2:∀ fp fo c,C.reL fp fo (qr 2 (zL (zY n i es)) c)=qr 2 (zL (zY n i es)) c:=fun fp fo c=>zB (zD qX);obtain ⟨rfl,c',g1,g2,⟨rfl,rfl⟩ | ⟨rfl,rfl⟩⟩:=hp
   ·push_cast -dsimp [hre2,hre];exact ⟨[(1,112,2,zL (zY n i es),c')],[.inl 1],zx rfl (by omega) g1 g2 qW qX,rfl,rfl,by push_cast -dsimp [ze,zd,CLe,zg]⟩
   ·have hra:∀ fp fo,C.reL fp fo (List.replicate (c*2) .any)=List.replicate (c*2) .any:=fun fp fo=>zB (by simp[List.all_replicate,C.stayB]);push_cast -dsimp [hre2,hre,hra];exact ⟨[(2,112,2,zL (zY n i es),c')],[.inl 1],zx rfl (by omega) g1 g2 qW qX,rfl,rfl,by push_cast -dsimp [ze,zd,CLe,zg]⟩
 ·have he:es = []:=by simpa using he
  have hh:YG zW.name n es=false:=by rw[he];rfl
  have hr0:qk Ji zW.name n es=0:=by rw[he];rfl
  have hset:zY n i es = [⟨n,i⟩]:=by rw[he];rfl
  push_cast -dsimp [hh,hr0];refine jo [] [0] (zhS (e:=112) (GE ⟨n,i⟩) rfl rfl) rfl (by decide) (by decide) (by simp) (by push_cast -dsimp) (by push_cast -dsimp) (fun r bx' m hp=>?_);obtain ⟨rfl,c,g1,g2,rfl,rfl⟩:=hp;have hre:∀ fp fo,C.reL fp fo (qr 2 [GE ⟨n,i⟩] c)=qr 2 [GE ⟨n,i⟩] c:=fun fp fo=>zB (zD (qX (es:=[⟨n,i⟩])));push_cast -dsimp [hre];exact ⟨[(0,112,2,zL [⟨n,i⟩],c)],[.inl 1],zx rfl (by omega) g1 g2 qW qX,rfl,rfl,by push_cast -dsimp [ze,zd,CLe,zg,hset]⟩
 ·have he:es = []:=by simpa using he
  have hh:YG zW.name n es=false:=by rw[he];rfl
  have hr0:qk Ji zW.name n es=0:=by rw[he];rfl
  have hset:zY n i es = [⟨n,i⟩]:=by rw[he];rfl
  push_cast -dsimp [hh,hr0];refine jo [0] [0] (uC (e:=112) [] (GE ⟨n,i⟩) 0 0 (fun r hr=>by cases hr) rfl (fun r hr=>by cases hr) rfl (by simp) (by simp) (by simp) (by simp)) rfl (by decide) (by decide) (by simp) (by push_cast -dsimp) (by push_cast -dsimp [qr]) (fun r bx' m hp=>?_);obtain ⟨rfl,c,g1,g2,hp⟩:=hp;have hre:∀ fp fo,C.reL fp fo (qr 2 [GE ⟨n,i⟩] c)=qr 2 [GE ⟨n,i⟩] c:=fun fp fo=>zB (zD (qX (es:=[⟨n,i⟩])));rcases hp with ⟨rfl,rfl⟩ | ⟨rfl,rfl⟩
  ·push_cast -dsimp [hre];exact ⟨[(0,112,2,zL [⟨n,i⟩],c)],[.inl 1],zx rfl (Nat.lt_of_lt_of_le (Nat.zero_lt_succ _) g1) g1 g2 qW qX,rfl,rfl,by push_cast -dsimp [ze,zd,CLe,zg,hset]⟩
  ·push_cast -dsimp [hre];exact ⟨[(1,112,2,zL [⟨n,i⟩],c)],[.inl 1],zx rfl (Nat.lt_of_lt_of_le (Nat.zero_lt_succ _) g1) g1 g2 qW qX,rfl,rfl,by push_cast -dsimp [ze,zd,CLe,zg,hset]⟩
end
end
section
open CA CB
open Go.RowKit
section
variable {G:zp}
theorem zmT {A B Z:List C} {r k:Nat} (hA:A.length=r*2) (hB:B.length=(k-r)*2) (hZ:Z.length=k*2) (hr:r<=k):spl (A++Z.drop (r*2)) (r*2) (B.take ((k-r)*2))=A++B:=by
 unfold spl;rw[List.take_of_length_le (l:=B) (by omega),List.take_append_of_le_length (by omega),List.take_of_length_le (l:=A) (by omega),List.drop_of_length_le (l:=A++Z.drop (r*2)) (by rw[List.length_append,List.length_drop];omega),List.append_nil]
theorem VQ (es:List zW) (n:List UInt8) (hl:es.length<=90000) (hR:Jo es) (hh:YG zW.name n es=true) :
  Fun Tryz.prog G 272 [.sl 2 (zL es),.str n] (.own 0 112 2 (zL (zj n es))) 1:=by
 obtain ⟨_,_,h3,h4⟩:=V2 n hR;have hll:(zL es).length=es.length:=List.length_map ..;have hat:=yW (G:=G) es n (by omega) hR;have hrl:=Q3 (o:=Ji) (key:=zW.name) n es;rw[hh]at hat;obtain ⟨hlt,g1,g2,g3,g4⟩:=h3 hh;have hw:zj n es=es.take (qk Ji zW.name n es)++es.drop (qk Ji zW.name n es+1):=g3;obtain ⟨k,hk⟩:∃ k,es.length=k+1:=⟨es.length-1,by omega⟩;have hkc:(zL es).length=k+1:=by omega
 have hn:((zL es).length:Int)-1=(k:Int):=by omega
 have hwl:(zj n es).length=k:=by rw[hw];simp;omega
 generalize qk Ji zW.name n es=r at *;have hm:min r k=r:=by omega
 rcases Nat.eq_zero_or_pos k with h1 | h1
 ·subst h1;obtain rfl:r=0:=by omega
  have hn:((zL es).length:Int)-1=0:=hn;have hwe:zj n es = []:=List.length_eq_zero_iff.1 hwl;refine fof (fun i=>if i=5 then QT [(0,.pure),(1,.pure),(2,.pure),(3,.pure),(4,.pure),(7,.pure),(8,.pure),(9,.pure),(10,.pure),(5,.flt [0,5,6,7,8]),(6,.pure),(11,.bar)] else []) Tryz.func272 ?_;dsimp only[Tryz.f272];push_cast -dsimp;refine cl (hat) ?_;push_cast -dsimp [hn,Int.toNat_zero];refine ⟨by omega,by omega,znG (m:=0) (xs:=[]) QL J4 rfl rfl (fun _ _ _ _ _ h=>by cases h) rfl ?_⟩;push_cast -dsimp;have hd:(zL es).drop 1 = []:=List.drop_of_length_le (by omega);rw[hd];refine ⟨⟨by split<;>first | omega | trivial,by split<;>first | omega | trivial⟩,znG (m:=0) (xs:=[]) QL J4 rfl rfl (fun _ _ _ _ _ h=>by cases h) rfl ?_⟩;push_cast -dsimp;exact ⟨[.inl 0],rfl,rfl,by push_cast -dsimp [ze,zd,CLe,zg,hwe]⟩
 ·refine foF (fun i=>if i=5 then QT [(0,.pure),(1,.pure),(2,.pure),(3,.pure),(4,.pure),(7,.pure),(8,.pure),(9,.pure),(10,.pure),(5,.flt [0,5,6,7,8]),(6,.pure),(11,.bar)] else if i=1000000+62 then [true,true] else []) Tryz.func272 ?_;dsimp only[Tryz.f272];push_cast -dsimp;refine cl (hat) ?_;push_cast -dsimp [hn,Int.toNat_natCast];have hA:((zL es).take r).flatten.length=r*2:=by
   rw[qm (k:=2) fun x hx=>qW x (List.mem_of_mem_take hx),List.length_take,hkc,Nat.min_eq_left (by omega)]
  have hB:((zL es).drop (r+1)).flatten.length=(k-r)*2:=by
   rw[qm (k:=2) fun x hx=>qW x (List.mem_of_mem_drop hx),List.length_drop,hkc];omega
  have hZ:((List.replicate k [C.str [],C.sc (.int .i64 0)]).flatten).length=k*2:=by simp
  refine ⟨⟨by omega,by omega⟩,by omega,by omega,by omega,by omega,⟨by omega,by omega⟩,⟨by omega,by omega⟩,⟨by omega,by omega⟩,zlf (m:=r) (xs:=((zL es).take r).flatten) QL J4 (by simp[C.xs?,C.rows?,hkc];omega) rfl hA (by rw[hZ];omega) ?_⟩;rw[hm];push_cast -dsimp;have hS:spl (List.replicate k [C.str [],C.sc (.int .i64 0)]).flatten 0 (((zL es).take r).flatten.take (r*2))=((zL es).take r).flatten++((List.replicate k [C.str [],C.sc (.int .i64 0)]).flatten).drop (r*2):=by
   unfold spl;rw[List.take_zero,List.nil_append,Nat.zero_add,List.take_of_length_le (by omega),hA]
  have hm2:min (k-r) (k-r)=k-r:=Nat.min_self _;rw[hS];refine ⟨⟨by split<;>first | exact ⟨by omega,by omega⟩ | trivial,by split<;>first | exact ⟨by omega,by omega⟩ | trivial,by split<;>first | exact ⟨by omega,by omega⟩ | trivial⟩,Nat.le_refl _,⟨by omega,by omega⟩,zlf (m:=k-r) (xs:=((zL es).drop (r+1)).flatten) QL J4 (by simp[C.xs?,C.rows?,hkc]) rfl hB (by rw[List.length_append,List.length_drop,hA,hZ];omega) ?_⟩;rw[hm2];push_cast -dsimp;have hwc:(zL (zj n es)).length=k:=(List.length_map ..).trans hwl;have hF:spl (((zL es).take r).flatten++((List.replicate k [C.str [],C.sc (.int .i64 0)]).flatten).drop (r*2)) (r*2) (((zL es).drop (r+1)).flatten.take ((k-r)*2))=qr 2 (zL (zj n es)) k:=by
   rw[zmT hA hB hZ (by omega)];unfold qr;rw[hwc,Nat.sub_self,Nat.zero_mul,hw];simp
  rw[hF];refine ⟨[(0,112,2,zL (zj n es),k)],[.inl 0],zx rfl h1 (by omega) (by omega) qW qX,rfl,rfl,?_⟩;push_cast -dsimp [ze,zd,CLe,zg,hwc]
end
end
section
theorem Zb (n:Int) (xs:List zm):zk n xs=(YZ n xs).isSome:=by
 unfold zk YZ
 induction xs with
 | nil=>rfl
 | cons y r ih =>
  rw[List.any_cons,List.find?_cons];cases h:(y.ino==n) with
  | true=>rfl
  | false=>rw[Bool.false_or,ih]
theorem Gh {n:Int} {xs:List zm} {x:zm} (h:YZ n xs=some x):x.ino=n/\x∈xs:=by
 unfold YZ at h;have h1:=List.find?_some h;exact ⟨by simpa using h1,List.mem_of_find?_eq_some h⟩
theorem zam (n:Int) (x:zm):∀ xs:List zm,(∀ z∈xs,z.ino≠x.ino)->YZ n (Zg x xs)=if x.ino=n then some x else YZ n xs
 | [],_=>by
  unfold Zg YZ;by_cases h:x.ino=n<;>simp[h]
 | y :: r,hn=>by
  have hy:=hn y List.mem_cons_self;have ih:=zam n x r fun z hz=>hn z (List.mem_cons_of_mem _ hz);unfold YZ at ih ⊢;unfold Zg;split
  ·by_cases h:x.ino=n
   ·simp[h]
   ·simp[h,List.find?_cons]
  ·by_cases h:x.ino=n
   ·rw[if_pos h]at ih ⊢;have hyn:(y.ino==n)=false:=by simp;omega
    rw[List.find?_cons,hyn];exact ih
   ·rw[if_neg h]at ih ⊢;rw[List.find?_cons,List.find?_cons,ih]
theorem Zs (n m:Int):∀ xs:List zm,YZ n (z8 m xs)=if n=m then none else YZ n xs
 | []=>by unfold YZ z8;simp
 | y :: r=>by
  have ih:=Zs n m r;by_cases hy:y.ino=m
  ·rw[j3 hy,ih];by_cases h:n=m
   ·rw[if_pos h,if_pos h]
   ·rw[if_neg h,if_neg h];have hyn:(y.ino==n)=false:=by simp;omega
    unfold YZ;rw[List.find?_cons,hyn]
  ·rw[JB hy];unfold YZ at ih ⊢;rw[List.find?_cons,List.find?_cons,ih];by_cases h:n=m
   ·have hyn:(y.ino==n)=false:=by simp;omega
    simp only[hyn,if_pos h]
   ·simp only[if_neg h]
theorem zmi {n:Int} {xs:List zm}:∀ z∈z8 n xs,z.ino≠n:=fun z hz=>by
 unfold z8 at hz;simpa using (List.mem_filter.1 hz).2
theorem vU (n:Int) (x:zm) (xs:List zm):YZ n (ql x xs)=if x.ino=n then some x else YZ n xs:=by
 unfold ql;rw[zam n x _ zmi,Zs];by_cases h:x.ino=n
 ·rw[if_pos h,if_pos h]
 ·rw[if_neg h,if_neg h,if_neg (fun e=>h e.symm)]
theorem qN (n:Int) (x:zm) (xs:List zm):zk n (ql x xs)=(decide (x.ino=n)||zk n xs):=by
 rw[Zb,vU,Zb];by_cases h:x.ino=n<;>simp[h]
theorem XL (n m:Int) (xs:List zm):zk n (z8 m xs)=(!decide (n=m)&&zk n xs):=by
 rw[Zb,Zs,Zb];by_cases h:n=m<;>simp[h]
theorem MY {x:zm}:∀ {xs:List zm},zX xs->YZ x.ino xs=some x->ql x xs=xs
 | [],_,h=>by unfold YZ at h;simp at h
 | y :: r,hR,h=>by
  obtain ⟨h1,h2⟩:=jK.1 hR;by_cases hy:y.ino=x.ino
  ·have e:y=x:=by
    unfold YZ at h;rw[List.find?_cons_of_pos (by simpa using hy)]at h;simpa using h
   subst e;have hb:zk y.ino r=false:=Vk h1;unfold ql;rw[j3 rfl,X8 hb,zdn h1]
  ·have hx:YZ x.ino r=some x:=by
    unfold YZ at h ⊢;rwa [List.find?_cons_of_neg (by simpa using hy)]at h
   have hlt:=h1 x (Gh hx).2;rw[QF hlt,MY h2 hx]
theorem zkP {xs:List zm}:∀ {x:zm},zX xs->(x∈xs↔YZ x.ino xs=some x):=by
 induction xs with
 | nil=>intro x _;simp[YZ]
 | cons y r ih =>
  intro x hR;obtain ⟨h1,h2⟩:=jK.1 hR;constructor
  ·intro hx;rcases List.mem_cons.1 hx with rfl | hx
   ·unfold YZ;rw[List.find?_cons_of_pos (by simp)]
   ·have:=h1 x hx;unfold YZ;rw[List.find?_cons_of_neg (by simp;omega)];exact (ih h2).1 hx
  ·intro h;exact (Gh h).2
def Nl (g:zm->Nat) (xs:List zm):Nat:=(xs.map g).sum
theorem ZD (g:zm->Nat) {n:Int}:∀ {xs:List zm},zX xs->Nl g xs=Nl g (z8 n xs)+(match YZ n xs with | some x=>g x | none=>0)
 | [],_=>rfl
 | y :: r,hR=>by
  obtain ⟨h1,h2⟩:=jK.1 hR;have ih:=ZD g (n:=n) h2;unfold Nl at ih ⊢;by_cases hy:y.ino=n
  ·have hb:zk n r=false:=Vk fun z hz=>by have:=h1 z hz;omega
   have hg:YZ n (y :: r)=some y:=by unfold YZ;rw[List.find?_cons_of_pos (by simpa using hy)]
   rw[hg,j3 hy,X8 hb];simp;omega
  ·have hg:YZ n (y :: r)=YZ n r:=by unfold YZ;rw[List.find?_cons_of_neg (by simpa using hy)]
   rw[hg,JB hy];simp only[List.map_cons,List.sum_cons];omega
theorem zaq (g:zm->Nat) (x:zm):∀ xs:List zm,Nl g (Zg x xs)=Nl g xs+g x
 | []=>by unfold Zg Nl;simp
 | y :: r=>by
  have ih:=zaq g x r;unfold Nl at ih ⊢;unfold Zg;split
  ·simp;omega
  ·simp only[List.map_cons,List.sum_cons];omega
theorem Uf (g:zm->Nat) {x:zm} {xs:List zm} (hR:zX xs):Nl g (ql x xs)+(match YZ x.ino xs with | some y=>g y | none=>0)=Nl g xs+g x:=by
 unfold ql;rw[zaq,ZD g (n:=x.ino) hR];omega
end
section
def JM (n:Int) (x:zm):Nat:=(x.es.filter fun e=>decide (e.ino=n)).length
def JI (n:Int) (xs:List zm):Nat:=Nl (JM n) xs
structure FsI (f:FsV):Prop where
 rises:zX f.xs
 ino:∀ x∈f.xs,1<=x.ino/\x.ino<f.next
 kind:∀ x∈f.xs,x.kind=1∨x.kind=2∨x.kind=3
 es:∀ x∈f.xs,Jo x.es
 file:∀ x∈f.xs,x.kind≠2->x.es = []
 led:∀ x∈f.xs,∀ e∈x.es,zk e.ino f.xs=true
 links:∀ x∈f.xs,x.links=(JI x.ino f.xs:Int)
 root:zk 1 f.xs=true
 base:(zf 1 f.xs).kind=2
 bare:JI 1 f.xs=0
theorem zi {n:Int} {xs:List zm} (h:zk n xs=true):YZ n xs=some (zf n xs)/\zf n xs∈xs/\(zf n xs).ino=n:=by
 rw[Zb]at h;obtain ⟨x,hx⟩:=Option.isSome_iff_exists.1 h;have e:zf n xs=x:=by unfold zf;rw[hx];rfl
 obtain ⟨h1,h2⟩:=Gh hx;rw[e];exact ⟨hx,h2,h1⟩
theorem J8 {n:Int} {xs:List zm} (h:zk n xs=false):YZ n xs=none/\zf n xs=uX:=by
 have h1:=HU h;exact ⟨h1,by unfold zf;rw[h1];rfl⟩
theorem qG (n:Int) (x:zm) (xs:List zm):zf n (ql x xs)=if x.ino=n then x else zf n xs:=by
 unfold zf;rw[vU];split<;>rfl
theorem U1 (n m:Int) (xs:List zm):zf n (z8 m xs)=if n=m then uX else zf n xs:=by
 unfold zf;rw[Zs];split<;>rfl
theorem qq {x z:zm} {xs:List zm}:z∈ql x xs↔z=x∨(z∈xs/\z.ino≠x.ino):=by
 unfold ql;rw[Nf];unfold z8;simp
theorem YU {n:Int} {z:zm} {xs:List zm}:z∈z8 n xs↔z∈xs/\z.ino≠n:=by
 unfold z8;simp
theorem JP {x:zm} {xs:List zm} (h:x∈xs):zk x.ino xs=true:=by
 unfold zk;exact List.any_eq_true.2 ⟨x,h,by simp⟩
theorem u7 {α κ:Type} [DecidableEq κ] {o:zkt κ} {key:α->κ} (p:α->Bool) (x:α):∀ xs:List α,((VY o key x xs).filter p).length=(xs.filter p).length+if p x then 1 else 0
 | []=>by unfold VY;cases h:p x<;>simp[h]
 | y :: r=>by
  have ih:=u7 (o:=o) (key:=key) p x r;unfold VY;split
  ·cases h:p x<;>simp[h,List.filter_cons]
  ·rw[List.filter_cons,List.filter_cons];cases h:p y
   ·simpa using ih
   ·simp[ih];omega
theorem zdF {α κ:Type} [DecidableEq κ] {o:zkt κ} {key:α->κ} (p:α->Bool) {n:κ} {xs:List α} (hR:qF o key xs) {e:α} (h:Jk key n xs=some e):(xs.filter p).length=((Y1 key n xs).filter p).length+if p e then 1 else 0:=by
 obtain ⟨_,_,h3,h4⟩:=V2 n hR;cases hh:YG key n xs with
 | false=>rw[(h4 hh).1]at h;cases h
 | true =>
  obtain ⟨g,_,g2,g3,_⟩:=h3 hh;rw[g2]at h;simp only[Option.some.injEq]at h;have e0:xs=xs.take (qk o key n xs)++e :: xs.drop (qk o key n xs+1):=by
   rw[←h,←List.drop_eq_getElem_cons g,List.take_append_drop]
  rw[g3]
  conv=>lhs;rw[e0]
  rw[List.filter_append,List.filter_append,List.filter_cons];cases hp:p e<;>simp<;>omega
theorem qy {α κ:Type} [DecidableEq κ] {key:α->κ} {n:κ} {xs:List α} {e:α} (h:Jk key n xs=some e):key e=n/\e∈xs:=by
 unfold Jk at h;exact ⟨by have:=List.find?_some h;simpa using this,List.mem_of_find?_eq_some h⟩
theorem jB {α κ:Type} [DecidableEq κ] {key:α->κ} {n:κ} {xs:List α}:YG key n xs=(Jk key n xs).isSome:=by
 unfold YG Jk
 induction xs with
 | nil=>rfl
 | cons y r ih =>
  rw[List.any_cons,List.find?_cons];cases h:decide (key y=n) with
  | true=>rfl
  | false=>rw[Bool.false_or,ih]
theorem UB {n m:Int} {x:zm} {xs:List zm} (hR:zX xs) (hh:zk n xs=true) (hx:x.ino=n):JI m (ql x xs)+JM m (zf n xs)=JI m xs+JM m x:=by
 have h:=Uf (JM m) (x:=x) hR;rw[hx,(zi hh).1]at h;exact h
theorem zeV {m:Int} {x:zm} {xs:List zm} (hR:zX xs) (hh:zk x.ino xs=false):JI m (ql x xs)=JI m xs+JM m x:=by
 have h:=Uf (JM m) (x:=x) hR;rw[(J8 hh).1]at h;exact h
theorem zih {n m:Int} {xs:List zm} (hR:zX xs) (hh:zk n xs=true):JI m xs=JI m (z8 n xs)+JM m (zf n xs):=by
 have h:=ZD (JM m) (n:=n) hR;rw[(zi hh).1]at h;exact h
theorem zh6 {n:Int} {xs:List zm} (h:∀ x∈xs,∀ e∈x.es,e.ino≠n):JI n xs=0:=by
 unfold JI Nl;rw[List.sum_eq_zero_iff_forall_eq_nat];intro k hk;obtain ⟨x,hx,rfl⟩:=List.mem_map.1 hk;unfold JM;rw[List.length_eq_zero_iff,List.filter_eq_nil_iff];intro e he;simpa using h x hx e he
theorem Zn {n:Int} {xs:List zm} (h:JI n xs=0):∀ x∈xs,∀ e∈x.es,e.ino≠n:=fun x hx e he hn=>by
 unfold JI Nl at h;rw[List.sum_eq_zero_iff_forall_eq_nat]at h;have:=h _ (List.mem_map_of_mem hx);unfold JM at this;rw[List.length_eq_zero_iff,List.filter_eq_nil_iff]at this;exact this e he (by simpa using hn)
theorem Zr {m i:Int} {n:List UInt8} {es:List zW} {x:zm} (hR:Jo es) (h:Zu n es=false):JM m { x with es:=zY n i es }=JM m { x with es:=es }+if i=m then 1 else 0:=by
 obtain ⟨_,_,_,h4⟩:=V2 n hR;unfold zY JM;rw[(h4 h).2.1];show ((VY Ji zW.name ⟨n,i⟩ es).filter _).length=_;rw[u7];by_cases hi:i=m<;>simp[hi]
theorem X0 {m i:Int} {n:List UInt8} {es:List zW} {x:zm} (hR:Jo es) (h:Jk zW.name n es=some ⟨n,i⟩):JM m { x with es:=es }=JM m { x with es:=zj n es }+if i=m then 1 else 0:=by
 unfold zj JM;have:=zdF (fun e:zW=>decide (e.ino=m)) hR h;simp only at this ⊢;rw[this];by_cases hi:i=m<;>simp[hi]
theorem Y4 {n:List UInt8} {es:List zW} (h:Zu n es=true):Jk zW.name n es=some ⟨n,qh n es⟩:=by
 unfold Zu at h;rw[jB]at h;obtain ⟨e,he⟩:=Option.isSome_iff_exists.1 h;have h1:=(qy he).1;unfold qh;rw[he];cases e with
 | mk a b=>simp at h1 ⊢;exact h1
theorem ZX {n:List UInt8} {i:Int} {es:List zW} (h:Jo es):Jo (zY n i es):=kl (x:=(⟨n,i⟩:zW)) h
theorem JO {n:List UInt8} {es:List zW} (h:Jo es):Jo (zj n es):=UY n h
theorem JS {n:List UInt8} {i:Int} {es:List zW} {e:zW} (h:e∈zY n i es):e=⟨n,i⟩∨e∈es:=by
 unfold zY at h;rcases Qj.1 h with h | h
 ·exact .inl h
 ·exact .inr (Ze.1 h).1
theorem qR {n:List UInt8} {es:List zW} {e:zW} (h:e∈zj n es):e∈es/\e.name≠n:=Ze.1 h
end
section
structure YY (f:FsV) (s:zR):Prop where
 has:zk s.dir f.xs=true
 kind:(zf s.dir f.xs).kind=2
 free:Zu s.name (zf s.dir f.xs).es=false
structure zQ (f:FsV) (s:zR):Prop where
 has:zk s.dir f.xs=true
 kind:(zf s.dir f.xs).kind=2
 there:Jk zW.name s.name (zf s.dir f.xs).es=some ⟨s.name,s.ino⟩
theorem zQ.ino {f:FsV} {s:zR} (hf:FsI f) (h:zQ f s):zk s.ino f.xs=true:=by
 have:=hf.led _ (zi h.has).2.1 ⟨s.name,s.ino⟩ (qy h.there).2;exact this
abbrev qo (d:zm) (es:List zW):zm:={ d with es:=es }
theorem qt {xs:List zm} {n:Int} {F:List zW->List zW} (hh:zk n xs=true) {z:zm}:z∈qp n F xs↔z=qo (zf n xs) (F (zf n xs).es)∨(z∈xs/\z.ino≠n):=by
 unfold qp;rw[qq];show z=qo _ _∨(z∈xs/\z.ino≠(zf n xs).ino)↔_;rw[(zi hh).2.2]
theorem zS {xs:List zm} {n m:Int} {F:List zW->List zW} (hh:zk n xs=true):zk m (qp n F xs)=zk m xs:=by
 unfold qp;rw[qN];show (decide ((zf n xs).ino=m)||zk m xs)=_;rw[(zi hh).2.2];by_cases h:n=m
 ·subst h;rw[hh];simp
 ·simp[h]
theorem JG {xs:List zm} {n m:Int} {F:List zW->List zW} (hh:zk n xs=true):zf m (qp n F xs)=if n=m then qo (zf n xs) (F (zf n xs).es) else zf m xs:=by
 unfold qp;rw[qG];show (if (zf n xs).ino=m then _ else _)=_;rw[(zi hh).2.2]
theorem QI {xs:List zm} {n m:Int} {F:List zW->List zW} (hR:zX xs) (hh:zk n xs=true):JI m (qp n F xs)+JM m (zf n xs)=JI m xs+JM m (qo (zf n xs) (F (zf n xs).es)):=
 UB hR hh (zi hh).2.2
theorem Gi {f:FsV} (hf:FsI f):zk f.next f.xs=false/\∀ x∈f.xs,∀ e∈x.es,e.ino≠f.next:=by
 have h1:zk f.next f.xs=false:=by
  rw[Bool.eq_false_iff];intro h;have:=(hf.ino _ (zi h).2.1).2;rw[(zi h).2.2]at this;omega
 refine ⟨h1,fun x hx e he hn=>?_⟩;have:=hf.led x hx e he;rw[hn,h1]at this;cases this
theorem vO {f:FsV} (hf:FsI f):1<f.next:=by
 have:=(hf.ino _ (zi hf.root).2.1).2;rw[(zi hf.root).2.2]at this;exact this
theorem zl3 {f:FsV} (hf:FsI f) {s:zR} (hs:YY f s) (k:Int) (hk:k=1∨k=2∨k=3) (t:List UInt8):FsI (zb9 f s k t):=by
 obtain ⟨n1,n2⟩:=Gi hf;have hd:=(zi hs.has).2.1;have hR1:zX (qp s.dir (zY s.name f.next) f.xs):=z6 hf.rises;have hn1:zk f.next (qp s.dir (zY s.name f.next) f.xs)=false:=by rw[zS hs.has];exact n1
 have hlt:=vO hf;have hdn:s.dir≠f.next:=fun e=>by have:=hs.has;rw[e,n1]at this;cases this
 refine ⟨z6 hR1,fun x hx=>?_,fun x hx=>?_,fun x hx=>?_,fun x hx hk2=>?_,fun x hx e he=>?_,fun x hx=>?_,?_,?_,?_⟩
 ·rcases qq.1 hx with rfl | ⟨hx,_⟩
  ·exact ⟨by show 1<=f.next;omega,by show f.next<f.next+1;omega⟩
  ·rcases (qt hs.has).1 hx with rfl | ⟨hx,_⟩
   ·have:=hf.ino _ hd;exact ⟨this.1,by show (zf s.dir f.xs).ino<f.next+1;omega⟩
   ·have:=hf.ino _ hx;exact ⟨this.1,by show x.ino<f.next+1;omega⟩
 ·rcases qq.1 hx with rfl | ⟨hx,_⟩
  ·exact hk
  ·rcases (qt hs.has).1 hx with rfl | ⟨hx,_⟩
   ·exact .inr (.inl hs.kind)
   ·exact hf.kind _ hx
 ·rcases qq.1 hx with rfl | ⟨hx,_⟩
  ·exact List.Pairwise.nil
  ·rcases (qt hs.has).1 hx with rfl | ⟨hx,_⟩
   ·exact ZX (hf.es _ hd)
   ·exact hf.es _ hx
 ·rcases qq.1 hx with rfl | ⟨hx,_⟩
  ·rfl
  ·rcases (qt hs.has).1 hx with rfl | ⟨hx,_⟩
   ·exact absurd hs.kind hk2
   ·exact hf.file _ hx hk2
 ·show zk e.ino (ql _ _)=true;rw[qN,zS hs.has];show (decide (f.next=e.ino)||zk e.ino f.xs)=true;rcases qq.1 hx with rfl | ⟨hx,_⟩
  ·cases he
  ·rcases (qt hs.has).1 hx with rfl | ⟨hx,_⟩
   ·rcases JS he with rfl | he
    ·simp
    ·rw[hf.led _ hd e he,Bool.or_true]
   ·rw[hf.led _ hx e he,Bool.or_true]
 ·show x.links=(JI x.ino (ql _ _):Int);rw[zeV hR1 hn1];have hc:=QI (m:=x.ino) (F:=zY s.name f.next) hf.rises hs.has;have hw:=Zr (m:=x.ino) (i:=f.next) (x:=zf s.dir f.xs) (hf.es _ hd) hs.free;have hz:JM x.ino (⟨f.next,k,1,t,if k=2 then s.dir else 0,[]⟩:zm)=0:=rfl;have hw:JM x.ino (qo (zf s.dir f.xs) (zY s.name f.next (zf s.dir f.xs).es))=JM x.ino (zf s.dir f.xs)+if f.next=x.ino then 1 else 0:=hw;rw[hz];rcases qq.1 hx with rfl | ⟨hx,hxn⟩
  ·have h0:JI f.next f.xs=0:=zh6 n2;have hw:JM f.next (qo (zf s.dir f.xs) (zY s.name f.next (zf s.dir f.xs).es))=JM f.next (zf s.dir f.xs)+if f.next=f.next then 1 else 0:=hw;rw[if_pos rfl]at hw;show (1:Int)=((JI f.next (qp s.dir (zY s.name f.next) f.xs)+0:Nat):Int);have hc:JI f.next (qp s.dir (zY s.name f.next) f.xs)+JM f.next (zf s.dir f.xs)=JI f.next f.xs+JM f.next (qo (zf s.dir f.xs) (zY s.name f.next (zf s.dir f.xs).es)):=hc;omega
  ·have hxn:x.ino≠f.next:=hxn;rw[if_neg fun e=>hxn e.symm]at hw;have hl:x.links=(JI x.ino f.xs:Int):=by
    rcases (qt hs.has).1 hx with rfl | ⟨hx,_⟩
    ·exact hf.links (zf s.dir f.xs) hd
    ·exact hf.links _ hx
   omega
 ·show zk 1 (ql _ _)=true;rw[qN,zS hs.has,hf.root,Bool.or_true]
 ·show (zf 1 (ql _ _)).kind=2;rw[qG];rw[if_neg (show ¬f.next=1 by omega),JG hs.has];split
  ·exact hs.kind
  ·exact hf.base
 ·show JI 1 (ql _ _)=0;rw[zeV hR1 hn1];have hc:=QI (m:=1) (F:=zY s.name f.next) hf.rises hs.has;have hw:JM 1 (qo (zf s.dir f.xs) (zY s.name f.next (zf s.dir f.xs).es))=JM 1 (zf s.dir f.xs)+if f.next=1 then 1 else 0:=Zr (m:=1) (i:=f.next) (x:=zf s.dir f.xs) (hf.es (zf s.dir f.xs) hd) hs.free;have hz:JM 1 (⟨f.next,k,1,t,if k=2 then s.dir else 0,[]⟩:zm)=0:=rfl;have:=hf.bare;rw[if_neg (show ¬f.next=1 by omega)]at hw;omega
theorem zpE {f:FsV} (hf:FsI f) {s:zR} (hs:YY f s) (k:Int) (hk:k=1∨k=2∨k=3) (t:List UInt8):FsI (zcG f s k t).1:=by
 unfold zcG;by_cases h1:may s.name=true
 ·rw[if_pos h1];by_cases h2:Zx f 1 (if k=1 then (t.length:Int) else 0)=true
  ·rw[if_pos h2];exact zl3 hf hs k hk t
  ·rw[if_neg h2];exact hf
 ·rw[if_neg h1];exact hf
theorem znq {f:FsV} (hf:FsI f) {i:Int} (hh:zk i f.xs=true) (t:List UInt8):FsI (XB f i t):=by
 have hg:=zi hh;have hmem:∀ {z:zm},z∈(XB f i t).xs->∃ y∈f.xs,z.ino=y.ino/\z.kind=y.kind/\z.es=y.es/\z.links=y.links:=fun {z} hz=>by
  rcases qq.1 hz with rfl | ⟨hz,_⟩
  ·exact ⟨_,hg.2.1,rfl,rfl,rfl,rfl⟩
  ·exact ⟨_,hz,rfl,rfl,rfl,rfl⟩
 have hhas:∀ m,zk m (XB f i t).xs=zk m f.xs:=fun m=>by
  show zk m (ql _ _)=_;rw[qN];show (decide ((zf i f.xs).ino=m)||_)=_;rw[hg.2.2];by_cases h:i=m
  ·subst h;rw[hh];simp
  ·simp[h]
 have hcnt:∀ m,JI m (XB f i t).xs=JI m f.xs:=fun m=>by
  have h:=UB (m:=m) (x:={ zf i f.xs with data:=t }) hf.rises hh hg.2.2;have e:JM m { zf i f.xs with data:=t }=JM m (zf i f.xs):=rfl;show JI m (ql _ _)=_;omega
 refine ⟨z6 hf.rises,fun x hx=>?_,fun x hx=>?_,fun x hx=>?_,fun x hx hk2=>?_,fun x hx e he=>?_,fun x hx=>?_,by rw[hhas];exact hf.root,?_,?_⟩
 ·obtain ⟨y,hy,e1,_⟩:=hmem hx;rw[e1];exact hf.ino y hy
 ·obtain ⟨y,hy,_,e2,_⟩:=hmem hx;rw[e2];exact hf.kind y hy
 ·obtain ⟨y,hy,_,_,e3,_⟩:=hmem hx;rw[e3];exact hf.es y hy
 ·obtain ⟨y,hy,_,e2,e3,_⟩:=hmem hx;rw[e3];exact hf.file y hy (by rw[←e2];exact hk2)
 ·obtain ⟨y,hy,_,_,e3,_⟩:=hmem hx;rw[hhas];exact hf.led y hy e (by rw[←e3];exact he)
 ·obtain ⟨y,hy,e1,_,_,e4⟩:=hmem hx;rw[hcnt,e4,e1];exact hf.links y hy
 ·show (zf 1 (ql _ _)).kind=2;rw[qG];split
  ·rename_i h;have h:(zf i f.xs).ino=1:=h;rw[hg.2.2]at h;subst h;exact hf.base
  ·exact hf.base
 ·rw[hcnt];exact hf.bare
theorem znl {f:FsV} (hf:FsI f) {s:zR} (hs:YY f s) {i:Int} (hi:zk i f.xs=true) (hk:(zf i f.xs).kind≠2):FsI (UW f s i):=by
 have hd:=zi hs.has;have hx:=zi hi;have hne:s.dir≠i:=fun e=>hk (by rw[←e];exact hs.kind);have hR1:zX (qp s.dir (zY s.name i) f.xs):=z6 hf.rises;have hi1:zk i (qp s.dir (zY s.name i) f.xs)=true:=by rw[zS hs.has];exact hi
 have hg1:zf i (qp s.dir (zY s.name i) f.xs)=zf i f.xs:=by rw[JG hs.has,if_neg hne]
 have hmem:∀ {z:zm},z∈(UW f s i).xs->z = { zf i f.xs with links:=(zf i f.xs).links+1 }∨z=qo (zf s.dir f.xs) (zY s.name i (zf s.dir f.xs).es)∨(z∈f.xs/\z.ino≠s.dir/\z.ino≠i):=fun {z} hz=>by
  rcases qq.1 hz with rfl | ⟨hz,hzi⟩
  ·exact .inl rfl
  ·have hzi:z.ino≠(zf i f.xs).ino:=hzi;rw[hx.2.2]at hzi;rcases (qt hs.has).1 hz with rfl | ⟨hz,hzd⟩
   ·exact .inr (.inl rfl)
   ·exact .inr (.inr ⟨hz,hzd,hzi⟩)
 have hhas:∀ m,zk m (UW f s i).xs=zk m f.xs:=fun m=>by
  show zk m (ql _ _)=_;rw[qN,zS hs.has];show (decide ((zf i f.xs).ino=m)||_)=_;rw[hx.2.2];by_cases h:i=m
  ·subst h;rw[hi];simp
  ·simp[h]
 have hcnt:∀ m,JI m (UW f s i).xs=JI m f.xs+if i=m then 1 else 0:=fun m=>by
  have h:=UB (m:=m) (x:={ zf i f.xs with links:=(zf i f.xs).links+1 }) hR1 hi1 hx.2.2;rw[hg1]at h;have e:JM m { zf i f.xs with links:=(zf i f.xs).links+1 }=JM m (zf i f.xs):=rfl;have hc:=QI (m:=m) (F:=zY s.name i) hf.rises hs.has;have hw:JM m (qo (zf s.dir f.xs) (zY s.name i (zf s.dir f.xs).es))=JM m (zf s.dir f.xs)+if i=m then 1 else 0:=Zr (m:=m) (i:=i) (x:=zf s.dir f.xs) (hf.es (zf s.dir f.xs) hd.2.1) hs.free;show JI m (ql _ _)=_;omega
 refine ⟨z6 hR1,fun x hx'=>?_,fun x hx'=>?_,fun x hx'=>?_,fun x hx' hk2=>?_,fun x hx' e he=>?_,fun x hx'=>?_,by rw[hhas];exact hf.root,?_,?_⟩
 ·rcases hmem hx' with rfl | rfl | ⟨h,_⟩
  ·exact hf.ino (zf i f.xs) hx.2.1
  ·exact hf.ino (zf s.dir f.xs) hd.2.1
  ·exact hf.ino _ h
 ·rcases hmem hx' with rfl | rfl | ⟨h,_⟩
  ·exact hf.kind (zf i f.xs) hx.2.1
  ·exact hf.kind (zf s.dir f.xs) hd.2.1
  ·exact hf.kind _ h
 ·rcases hmem hx' with rfl | rfl | ⟨h,_⟩
  ·exact hf.es (zf i f.xs) hx.2.1
  ·exact ZX (hf.es (zf s.dir f.xs) hd.2.1)
  ·exact hf.es _ h
 ·rcases hmem hx' with rfl | rfl | ⟨h,_⟩
  ·exact hf.file (zf i f.xs) hx.2.1 hk2
  ·exact absurd hs.kind hk2
  ·exact hf.file _ h hk2
 ·rw[hhas];rcases hmem hx' with rfl | rfl | ⟨h,_⟩
  ·exact hf.led (zf i f.xs) hx.2.1 e he
  ·rcases JS he with rfl | he
   ·exact hi
   ·exact hf.led (zf s.dir f.xs) hd.2.1 e he
  ·exact hf.led _ h e he
 ·rw[hcnt];rcases hmem hx' with rfl | rfl | ⟨h,_,hzi⟩
  ·have:=hf.links (zf i f.xs) hx.2.1;show (zf i f.xs).links+1=((JI (zf i f.xs).ino f.xs+if i=(zf i f.xs).ino then 1 else 0:Nat):Int);rw[if_pos hx.2.2.symm,this];rfl
  ·have:=hf.links (zf s.dir f.xs) hd.2.1;show (zf s.dir f.xs).links=((JI (zf s.dir f.xs).ino f.xs+if i=(zf s.dir f.xs).ino then 1 else 0:Nat):Int);rw[if_neg (by rw[hd.2.2];exact fun e=>hne e.symm),this];rfl
  ·rw[if_neg fun e=>hzi e.symm];exact hf.links _ h
 ·show (zf 1 (ql _ _)).kind=2;rw[qG];split
  ·rename_i h;have h:(zf i f.xs).ino=1:=h;rw[hx.2.2]at h;subst h;exact hf.base
  ·rw[JG hs.has];split
   ·exact hs.kind
   ·exact hf.base
 ·rw[hcnt,hf.bare,if_neg fun e=>hk (by rw[e];exact hf.base)]
theorem Qg {f:FsV} (hf:FsI f) {s:zR} (hs:zQ f s):s.ino≠1:=fun e =>
 Zn hf.bare _ (zi hs.has).2.1 _ (qy hs.there).2 e
theorem UQ {f:FsV} (hf:FsI f) {s:zR} (hs:zQ f s) (he:(zf s.ino f.xs).es = []):FsI (zF f s):=by
 have hi:=zQ.ino hf hs;have hd:=zi hs.has;have hx:=zi hi;have hr:=Qg hf hs;have hne:s.dir≠s.ino:=fun e=>by
  have:=(qy hs.there).2;rw[e,he]at this;cases this
 have hR1:zX (qp s.dir (zj s.name) f.xs):=z6 hf.rises;have hi1:zk s.ino (qp s.dir (zj s.name) f.xs)=true:=by rw[zS hs.has];exact hi
 have hg1:zf s.ino (qp s.dir (zj s.name) f.xs)=zf s.ino f.xs:=by rw[JG hs.has,if_neg hne]
 have hc1:∀ m,JI m (qp s.dir (zj s.name) f.xs)+(if s.ino=m then 1 else 0)=JI m f.xs:=fun m=>by
  have hc:=QI (m:=m) (F:=zj s.name) hf.rises hs.has;have hw:JM m (zf s.dir f.xs)=JM m (qo (zf s.dir f.xs) (zj s.name (zf s.dir f.xs).es))+if s.ino=m then 1 else 0:=X0 (m:=m) (i:=s.ino) (x:=zf s.dir f.xs) (hf.es (zf s.dir f.xs) hd.2.1) hs.there;omega
 have hlk:=hf.links (zf s.ino f.xs) hx.2.1;rw[hx.2.2]at hlk;have hci:=hc1 s.ino;rw[if_pos rfl]at hci;have hz:∀ m,JM m (zf s.ino f.xs)=0:=fun m=>by unfold JM;rw[he];rfl
 unfold zF;by_cases hl:(zf s.ino f.xs).links-1=0
 ·rw[if_pos hl];have hc0:JI s.ino (qp s.dir (zj s.name) f.xs)=0:=by omega
  have hcnt:∀ m,JI m (z8 s.ino (qp s.dir (zj s.name) f.xs))=JI m (qp s.dir (zj s.name) f.xs):=fun m=>by
   have:=zih (m:=m) hR1 hi1;rw[hg1,hz]at this;omega
  have hmem:∀ {z:zm},z∈z8 s.ino (qp s.dir (zj s.name) f.xs)->(z=qo (zf s.dir f.xs) (zj s.name (zf s.dir f.xs).es)∨(z∈f.xs/\z.ino≠s.dir))/\z.ino≠s.ino:=fun {z} hz=>by
   obtain ⟨hz,hzi⟩:=YU.1 hz;exact ⟨(qt hs.has).1 hz,hzi⟩
  have hin:∀ {z:zm},z∈z8 s.ino (qp s.dir (zj s.name) f.xs)->z∈qp s.dir (zj s.name) f.xs:=fun {z} hz=>(YU.1 hz).1;refine ⟨Hp hR1,fun x hx'=>?_,fun x hx'=>?_,fun x hx'=>?_,fun x hx' hk2=>?_,fun x hx' e hee=>?_,fun x hx'=>?_,?_,?_,?_⟩
  ·rcases hmem hx' with ⟨rfl | ⟨h,_⟩,_⟩
   ·exact hf.ino (zf s.dir f.xs) hd.2.1
   ·exact hf.ino _ h
  ·rcases hmem hx' with ⟨rfl | ⟨h,_⟩,_⟩
   ·exact hf.kind (zf s.dir f.xs) hd.2.1
   ·exact hf.kind _ h
  ·rcases hmem hx' with ⟨rfl | ⟨h,_⟩,_⟩
   ·exact JO (hf.es (zf s.dir f.xs) hd.2.1)
   ·exact hf.es _ h
  ·rcases hmem hx' with ⟨rfl | ⟨h,_⟩,_⟩
   ·exact absurd hs.kind hk2
   ·exact hf.file _ h hk2
  ·show zk e.ino (z8 _ _)=true;rw[XL,zS hs.has];have h1:e.ino≠s.ino:=Zn hc0 x (hin hx') e hee;rw[decide_eq_false h1];show zk e.ino f.xs=true;rcases hmem hx' with ⟨rfl | ⟨h,_⟩,_⟩
   ·exact hf.led (zf s.dir f.xs) hd.2.1 e (qR hee).1
   ·exact hf.led _ h e hee
  ·show x.links=((JI x.ino (z8 _ _):Nat):Int);rw[hcnt];obtain ⟨h1,h2⟩:=hmem hx';have h3:=hc1 x.ino;rw[if_neg fun e=>h2 e.symm]at h3;have h4:x.links=(JI x.ino f.xs:Int):=by
    rcases h1 with rfl | ⟨h,_⟩
    ·exact hf.links (zf s.dir f.xs) hd.2.1
    ·exact hf.links _ h
   omega
  ·show zk 1 (z8 _ _)=true;rw[XL,zS hs.has,hf.root,decide_eq_false fun e=>hr e.symm];rfl
  ·show (zf 1 (z8 _ _)).kind=2;rw[U1,if_neg fun e=>hr e.symm,JG hs.has];split
   ·exact hs.kind
   ·exact hf.base
  ·show JI 1 (z8 _ _)=0;rw[hcnt];have:=hc1 1;have:=hf.bare;omega
 ·rw[if_neg hl];have hmem:∀ {z:zm},z∈ql { zf s.ino f.xs with links:=(zf s.ino f.xs).links-1 } (qp s.dir (zj s.name) f.xs)->z = { zf s.ino f.xs with links:=(zf s.ino f.xs).links-1 }∨z=qo (zf s.dir f.xs) (zj s.name (zf s.dir f.xs).es)∨(z∈f.xs/\z.ino≠s.dir/\z.ino≠s.ino):=fun {z} hz=>by
   rcases qq.1 hz with rfl | ⟨hz,hzi⟩
   ·exact .inl rfl
   ·have hzi:z.ino≠(zf s.ino f.xs).ino:=hzi;rw[hx.2.2]at hzi;rcases (qt hs.has).1 hz with rfl | ⟨hz,hzd⟩
    ·exact .inr (.inl rfl)
    ·exact .inr (.inr ⟨hz,hzd,hzi⟩)
  have hhas:∀ m,zk m (ql { zf s.ino f.xs with links:=(zf s.ino f.xs).links-1 } (qp s.dir (zj s.name) f.xs))=zk m f.xs:=fun m=>by
   rw[qN,zS hs.has];show (decide ((zf s.ino f.xs).ino=m)||_)=_;rw[hx.2.2];by_cases h:s.ino=m
   ·rw[←h,hi];simp
   ·simp[h]
  have hcnt:∀ m,JI m (ql { zf s.ino f.xs with links:=(zf s.ino f.xs).links-1 } (qp s.dir (zj s.name) f.xs))=JI m (qp s.dir (zj s.name) f.xs):=fun m=>by
   have h:=UB (m:=m) (x:={ zf s.ino f.xs with links:=(zf s.ino f.xs).links-1 }) hR1 hi1 hx.2.2;rw[hg1]at h;have e:JM m { zf s.ino f.xs with links:=(zf s.ino f.xs).links-1 }=JM m (zf s.ino f.xs):=rfl;omega
  refine ⟨z6 hR1,fun x hx'=>?_,fun x hx'=>?_,fun x hx'=>?_,fun x hx' hk2=>?_,fun x hx' e hee=>?_,fun x hx'=>?_,by rw[hhas];exact hf.root,?_,?_⟩
  ·rcases hmem hx' with rfl | rfl | ⟨h,_⟩
   ·exact hf.ino (zf s.ino f.xs) hx.2.1
   ·exact hf.ino (zf s.dir f.xs) hd.2.1
   ·exact hf.ino _ h
  ·rcases hmem hx' with rfl | rfl | ⟨h,_⟩
   ·exact hf.kind (zf s.ino f.xs) hx.2.1
   ·exact hf.kind (zf s.dir f.xs) hd.2.1
   ·exact hf.kind _ h
  ·rcases hmem hx' with rfl | rfl | ⟨h,_⟩
   ·exact hf.es (zf s.ino f.xs) hx.2.1
   ·exact JO (hf.es (zf s.dir f.xs) hd.2.1)
   ·exact hf.es _ h
  ·rcases hmem hx' with rfl | rfl | ⟨h,_⟩
   ·exact he
   ·exact absurd hs.kind hk2
   ·exact hf.file _ h hk2
  ·rw[hhas];rcases hmem hx' with rfl | rfl | ⟨h,_⟩
   ·exact hf.led (zf s.ino f.xs) hx.2.1 e hee
   ·exact hf.led (zf s.dir f.xs) hd.2.1 e (qR hee).1
   ·exact hf.led _ h e hee
  ·rw[hcnt];rcases hmem hx' with rfl | rfl | ⟨h,_,hzi⟩
   ·show (zf s.ino f.xs).links-1=((JI (zf s.ino f.xs).ino (qp s.dir (zj s.name) f.xs):Nat):Int);rw[hx.2.2];omega
   ·have h3:=hc1 (zf s.dir f.xs).ino;have h4:=hf.links (zf s.dir f.xs) hd.2.1;rw[if_neg (by rw[hd.2.2];exact fun e=>hne e.symm)]at h3;show (zf s.dir f.xs).links=((JI (zf s.dir f.xs).ino (qp s.dir (zj s.name) f.xs):Nat):Int);omega
   ·have h3:=hc1 x.ino;rw[if_neg fun e=>hzi e.symm]at h3;have h4:=hf.links _ h;omega
  ·show (zf 1 (ql _ _)).kind=2;rw[qG,if_neg (show ¬(zf s.ino f.xs).ino=1 by rw[hx.2.2];exact hr),JG hs.has];split
   ·exact hs.kind
   ·exact hf.base
  ·rw[hcnt];have:=hc1 1;have:=hf.bare;omega
end
section
theorem ur {f:FsV} (hf:FsI f) {ys:List zm} (hR:zX ys) (hall:∀ z∈ys,∃ y∈f.xs,z.ino=y.ino/\z.kind=y.kind/\z.links=y.links/\Jo z.es/\(z.kind≠2->z.es = [])/\∀ e∈z.es,zk e.ino f.xs=true)
  (hhas:∀ m,zk m ys=zk m f.xs) (hcnt:∀ m,JI m ys=JI m f.xs):FsI { f with xs:=ys }:=by
 refine ⟨hR,fun x hx=>?_,fun x hx=>?_,fun x hx=>?_,fun x hx hk=>?_,fun x hx e he=>?_,fun x hx=>?_,by rw[hhas];exact hf.root,?_,by rw[hcnt];exact hf.bare⟩
 ·obtain ⟨y,hy,e1,_⟩:=hall x hx;rw[e1];exact hf.ino y hy
 ·obtain ⟨y,hy,_,e2,_⟩:=hall x hx;rw[e2];exact hf.kind y hy
 ·obtain ⟨y,hy,_,_,_,e4,_⟩:=hall x hx;exact e4
 ·obtain ⟨y,hy,_,_,_,_,e5,_⟩:=hall x hx;exact e5 hk
 ·obtain ⟨y,hy,_,_,_,_,_,e6⟩:=hall x hx;rw[hhas];exact e6 e he
 ·obtain ⟨y,hy,e1,_,e3,_⟩:=hall x hx;rw[hcnt,e3,e1];exact hf.links y hy
 ·have h1:zk 1 ys=true:=by rw[hhas];exact hf.root
  obtain ⟨y,hy,e1,e2,_⟩:=hall _ (zi h1).2.1;rw[(zi h1).2.2]at e1;have e7:=(zkP hf.rises).1 hy;rw[←e1,(zi hf.root).1]at e7;simp only[Option.some.injEq]at e7;show (zf 1 ys).kind=2;rw[e2,←e7];exact hf.base
theorem zlH {f:FsV} (hf:FsI f) {a b:zR} (ha:zQ f a) (hb:YY f b):FsI (YL f a b):=by
 have hda:=zi ha.has;have hdb:=zi hb.has;have hai:=zQ.ino hf ha;obtain ⟨g1,hg1⟩:∃ g1,qp a.dir (zj a.name) f.xs=g1:=⟨_,rfl⟩;obtain ⟨g2,hg2⟩:∃ g2,qp b.dir (zY b.name a.ino) g1=g2:=⟨_,rfl⟩;have hR1:zX g1:=by rw[←hg1];exact z6 hf.rises
 have hR2:zX g2:=by rw[←hg2];exact z6 hR1
 have hh1:∀ m,zk m g1=zk m f.xs:=fun m=>by rw[←hg1];exact zS ha.has
 have hb1:zk b.dir g1=true:=by rw[hh1];exact hb.has
 have hh2:∀ m,zk m g2=zk m f.xs:=fun m=>by rw[←hg2,zS hb1];exact hh1 m
 have hgb:zf b.dir g1=if a.dir=b.dir then qo (zf a.dir f.xs) (zj a.name (zf a.dir f.xs).es) else zf b.dir f.xs:=by rw[←hg1,JG ha.has]
 have hmem1:∀ {z:zm},z∈g1->z=qo (zf a.dir f.xs) (zj a.name (zf a.dir f.xs).es)∨(z∈f.xs/\z.ino≠a.dir):=fun {z} hz=>by rw[←hg1]at hz;exact (qt ha.has).1 hz
 have hmem2:∀ {z:zm},z∈g2->z=qo (zf b.dir g1) (zY b.name a.ino (zf b.dir g1).es)∨(z∈g1/\z.ino≠b.dir):=fun {z} hz=>by rw[←hg2]at hz;exact (qt hb1).1 hz
 have hal1:∀ z∈g1,∃ y∈f.xs,z.ino=y.ino/\z.kind=y.kind/\z.links=y.links/\Jo z.es/\(z.kind≠2->z.es = [])/\∀ e∈z.es,zk e.ino f.xs=true:=fun z hz=>by
  rcases hmem1 hz with rfl | ⟨h,_⟩
  ·exact ⟨_,hda.2.1,rfl,rfl,rfl,JO (hf.es _ hda.2.1),fun hk=>absurd ha.kind hk,fun e he=>hf.led _ hda.2.1 e (qR he).1⟩
  ·exact ⟨_,h,rfl,rfl,rfl,hf.es _ h,hf.file _ h,hf.led _ h⟩
 have hal2:∀ z∈g2,∃ y∈f.xs,z.ino=y.ino/\z.kind=y.kind/\z.links=y.links/\Jo z.es/\(z.kind≠2->z.es = [])/\∀ e∈z.es,zk e.ino f.xs=true:=fun z hz=>by
  rcases hmem2 hz with rfl | ⟨h,_⟩
  ·obtain ⟨y,hy,e1,e2,e3,e4,e5,e6⟩:=hal1 _ (zi hb1).2.1;refine ⟨y,hy,e1,e2,e3,ZX e4,fun hk=>?_,fun e he=>?_⟩
   ·have hk':(zf b.dir g1).kind≠2:=hk;have:(zf b.dir g1).kind=2:=by
     rw[hgb];split
     ·exact ha.kind
     ·exact hb.kind
    exact absurd this hk'
   ·rcases JS he with rfl | he
    ·exact hai
    ·exact e6 e he
  ·exact hal1 z h
 have hfree:Zu b.name (zf b.dir g1).es=false:=by
  rw[hgb];split
  ·rename_i hab;show Zu b.name (zj a.name (zf a.dir f.xs).es)=false;rw[Bool.eq_false_iff];intro h;have h1:=Y4 h;have h2:=(qR (qy h1).2).1;have h3:Zu b.name (zf a.dir f.xs).es=true:=by
    unfold Zu YG;exact List.any_eq_true.2 ⟨_,h2,by simp⟩
   have:=hb.free;rw[←hab,h3]at this;cases this
  ·exact hb.free
 have hc1:∀ m,JI m g1+(if a.ino=m then 1 else 0)=JI m f.xs:=fun m=>by
  have hc:=QI (m:=m) (F:=zj a.name) hf.rises ha.has;have hw:JM m (zf a.dir f.xs)=JM m (qo (zf a.dir f.xs) (zj a.name (zf a.dir f.xs).es))+if a.ino=m then 1 else 0:=X0 (m:=m) (i:=a.ino) (x:=zf a.dir f.xs) (hf.es _ hda.2.1) ha.there;rw[hg1]at hc;omega
 have hc2:∀ m,JI m g2=JI m f.xs:=fun m=>by
  have hc:=QI (m:=m) (F:=zY b.name a.ino) hR1 hb1;obtain ⟨_,_,_,_,_,e4,_⟩:=hal1 _ (zi hb1).2.1;have hw:JM m (qo (zf b.dir g1) (zY b.name a.ino (zf b.dir g1).es))=JM m (zf b.dir g1)+if a.ino=m then 1 else 0:=Zr (m:=m) (i:=a.ino) (x:=zf b.dir g1) e4 hfree;have:=hc1 m;rw[hg2]at hc;omega
 have key:FsI { f with xs:=g2 }:=ur hf hR2 hal2 hh2 hc2;unfold YL;rw[hg1,hg2];show FsI (if (zf a.ino g2).kind=2 then _ else _);split
 ·have hia:zk a.ino g2=true:=by rw[hh2];exact hai
  have hx:=zi hia;refine ur hf (z6 hR2) (fun z hz=>?_) (fun m=>?_) (fun m=>?_)
  ·rcases qq.1 hz with rfl | ⟨hz,_⟩
   ·exact hal2 (zf a.ino g2) hx.2.1
   ·exact hal2 z hz
  ·rw[qN];show (decide ((zf a.ino g2).ino=m)||_)=_;rw[hx.2.2,hh2];by_cases h:a.ino=m
   ·rw[←h,hai];simp
   ·simp[h]
  ·have h:=UB (m:=m) (x:={ zf a.ino g2 with parent:=b.dir }) hR2 hia hx.2.2;have e:JM m { zf a.ino g2 with parent:=b.dir }=JM m (zf a.ino g2):=rfl;have:=hc2 m;omega
 ·exact key
theorem zkx {f:FsV} (hf:FsI f):∀ (ns:List (List UInt8)) (s:zR),(s.ino≠0->zk s.ino f.xs=true)->(atW f.xs ns s).2=0->ns≠[] ->
  zk (atW f.xs ns s).1.dir f.xs=true/\(zf (atW f.xs ns s).1.dir f.xs).kind=2/\(atW f.xs ns s).1.ino=qh (atW f.xs ns s).1.name (zf (atW f.xs ns s).1.dir f.xs).es/\(atW f.xs ns s).1.name∈ns
 | [],s,_,_,h=>absurd rfl h
 | n :: r,s,hs,h0,_=>by
  unfold atW at h0 ⊢;by_cases h1:s.ino=0
  ·rw[if_pos h1]at h0;cases h0
  rw[if_neg h1]at h0 ⊢;by_cases h2:(zf s.ino f.xs).kind≠2
  ·rw[if_pos h2]at h0;cases h0
  rw[if_neg h2]at h0 ⊢;have h2:(zf s.ino f.xs).kind=2:=Classical.not_not.1 h2;have hg:=zi (hs h1);have hnx:qh n (zf s.ino f.xs).es≠0->zk (qh n (zf s.ino f.xs).es) f.xs=true:=fun hne=>by
   have hh:Zu n (zf s.ino f.xs).es=true:=by
    unfold Zu;rw[jB];cases hq:Jk zW.name n (zf s.ino f.xs).es with
    | some e=>rfl
    | none=>unfold qh at hne;rw[hq]at hne;exact absurd rfl hne
   exact hf.led _ hg.2.1 _ (qy (Y4 hh)).2
  cases r with
  | nil =>
   unfold atW;rw[hg.2.2];exact ⟨hs h1,h2,rfl,List.mem_cons_self⟩
  | cons m r =>
   obtain ⟨i1,i2,i3,i4⟩:=zkx hf (m :: r) ⟨(zf s.ino f.xs).ino,n,qh n (zf s.ino f.xs).es⟩ hnx h0 (by simp);exact ⟨i1,i2,i3,List.mem_cons_of_mem _ i4⟩
theorem xK {f:FsV} (hf:FsI f):∀ (ns:List (List UInt8)) (s:zR),(s.ino≠0->zk s.ino f.xs=true)->(atW f.xs ns s).1.ino≠0->zk (atW f.xs ns s).1.ino f.xs=true
 | [],s,hs,h=>hs h
 | n :: r,s,hs,h=>by
  unfold atW at h ⊢;by_cases h1:s.ino=0
  ·rw[if_pos h1]at h;exact absurd rfl h
  rw[if_neg h1]at h ⊢;by_cases h2:(zf s.ino f.xs).kind≠2
  ·rw[if_pos h2]at h;exact absurd rfl h
  rw[if_neg h2]at h ⊢;have hg:=zi (hs h1);refine xK hf r _ (fun hne=>?_) h;have hne:qh n (zf s.ino f.xs).es≠0:=hne;have hh:Zu n (zf s.ino f.xs).es=true:=by
   unfold Zu;rw[jB];cases hq:Jk zW.name n (zf s.ino f.xs).es with
   | some e=>rfl
   | none=>unfold qh at hne;rw[hq]at hne;exact absurd rfl hne
  exact hf.led _ hg.2.1 _ (qy (Y4 hh)).2
end
section
structure VT (w:qA):Prop where
 fs:FsI w.fs
 kept:qF j6 zP.slot w.kept
 pool:zX w.pool
 apart:∀ x∈w.pool,zk x.ino w.fs.xs=false/\x.ino<w.fs.next
theorem Uq {f:FsV} (hf:FsI f) {n:Int} (h:zk n f.xs=true):n≠0:=fun e=>by
 have:=(hf.ino _ (zi h).2.1).1;rw[(zi h).2.2]at this;omega
theorem G5 {f:FsV} (hf:FsI f) {d:Int} (hd:zk d f.xs=true) {n:List UInt8} (h:Zu n (zf d f.xs).es=true):zk (qh n (zf d f.xs).es) f.xs=true:=
 hf.led _ (zi hd).2.1 _ (qy (Y4 h)).2
theorem zh8 {f:FsV} (hf:FsI f) {p:List UInt8} (hp:qH p=true) (h:(atV f p).2=0) :
  zk (atV f p).1.dir f.xs=true/\(zf (atV f p).1.dir f.xs).kind=2/\(atV f p).1.ino=qh (atV f p).1.name (zf (atV f p).1.dir f.xs).es/\(atV f p).1.name∈zE p:=by
 unfold qH at hp;simp only[Bool.and_eq_true,Bool.not_eq_true',decide_eq_false_iff_not]at hp;unfold atV at h ⊢;rw[if_pos hp.1]at h ⊢;exact zkx hf (zE p) ⟨0,[],1⟩ (fun _=>hf.root) h hp.2
theorem jG {f:FsV} (hf:FsI f) {p:List UInt8} (hp:qH p=true) (h:(isV f p true).2.2=0):zQ f (isV f p true).1/\(isV f p true).2.1=zf (isV f p true).1.ino f.xs:=by
 unfold isV at h ⊢;simp only at h ⊢;by_cases h0:(atV f p).2≠0
 ·rw[if_pos h0]at h;exact absurd h h0
 rw[if_neg h0]at h;have h0:(atV f p).2=0:=Classical.not_not.1 h0;obtain ⟨a1,a2,a3,_⟩:=zh8 hf hp h0;refine ⟨⟨a1,a2,?_⟩,trivial⟩;have hh:zk (atV f p).1.ino f.xs=true:=by
  cases hq:zk (atV f p).1.ino f.xs with
  | true=>rfl
  | false=>rw[hq]at h;simp at h
 have he:Zu (atV f p).1.name (zf (atV f p).1.dir f.xs).es=true:=by
  unfold Zu;rw[jB];cases hq:Jk zW.name (atV f p).1.name (zf (atV f p).1.dir f.xs).es with
  | some e=>rfl
  | none =>
   unfold qh at a3;rw[hq]at a3;exact absurd a3 (Uq hf hh)
 rw[Y4 he,←a3]
theorem J9 {f:FsV} (hf:FsI f) {p:List UInt8} (hp:qH p=true) (h:(isV f p false).2.2=0):YY f (isV f p false).1:=by
 unfold isV at h ⊢;simp only at h ⊢;by_cases h0:(atV f p).2≠0
 ·rw[if_pos h0]at h;exact absurd h h0
 rw[if_neg h0]at h;have h0:(atV f p).2=0:=Classical.not_not.1 h0;obtain ⟨a1,a2,a3,_⟩:=zh8 hf hp h0;refine ⟨a1,a2,?_⟩;have hh:zk (atV f p).1.ino f.xs=false:=by
  cases hq:zk (atV f p).1.ino f.xs with
  | false=>rfl
  | true=>rw[hq]at h;simp at h
 rw[Bool.eq_false_iff];intro he;have:=G5 hf a1 he;rw[←a3,hh]at this;cases this
theorem YR {o:OpV} (h:NC o=true):qH o.a=true/\(zqE o.kind=true->qH o.b=true)/\1<=o.kind/\o.kind<=10:=by
 unfold NC at h;simp only[Bool.and_eq_true,decide_eq_true_eq]at h;obtain ⟨⟨⟨⟨⟨⟨h1,h2⟩,h3⟩,h4⟩,h5⟩,h6⟩,h7⟩:=h;exact ⟨h3,fun hb=>by rw[if_pos hb]at h5;exact h5,h1,h2⟩
theorem zlD {w:qA} (hw:VT w) {g:FsV} (hg:FsI g) (hn:w.fs.next<=g.next) (hh:∀ x∈w.pool,zk x.ino g.xs=false):VT { w with fs:=g }:=
 ⟨hg,hw.kept,hw.pool,fun x hx=>⟨hh x hx,by have:=(hw.apart x hx).2;show x.ino<g.next;omega⟩⟩
theorem Qb (f:FsV) (s:zR) (k:Int) (t:List UInt8):(zcG f s k t).1=f∨(zcG f s k t).1=zb9 f s k t:=by
 unfold zcG;by_cases h1:may s.name=true
 ·rw[if_pos h1];by_cases h2:Zx f 1 (if k=1 then (t.length:Int) else 0)=true
  ·rw[if_pos h2];exact .inr rfl
  ·rw[if_neg h2];exact .inl rfl
 ·rw[if_neg h1];exact .inl rfl
theorem x9 {w:qA} (hw:VT w) {p:List UInt8} (hp:qH p=true) {k:Int} (hk:k=1∨k=2∨k=3) (t:List UInt8):VT (Vq w p k t).1:=by
 unfold Vq;by_cases h:(isV w.fs p false).2.2≠0
 ·rw[if_pos h];exact hw
 rw[if_neg h];have hs:=J9 hw.fs hp (Classical.not_not.1 h);refine zlD hw (zpE hw.fs hs k hk t) ?_ ?_
 ·rcases Qb w.fs (isV w.fs p false).1 k t with e | e
  ·rw[e];exact Int.le_refl _
  ·rw[e];show w.fs.next<=w.fs.next+1;omega
 ·intro x hx;obtain ⟨a1,a2⟩:=hw.apart x hx;rcases Qb w.fs (isV w.fs p false).1 k t with e | e
  ·rw[e];exact a1
  ·rw[e];show zk x.ino (ql _ _)=false;rw[qN,zS hs.has,a1];show (decide (w.fs.next=x.ino)||false)=false;rw[decide_eq_false (by omega)];rfl
theorem U3 {f:FsV} (hf:FsI f) {p:List UInt8} (hp:qH p=true) (h:(jb f p).2=0):zk (jb f p).1.ino f.xs=true/\(jb f p).1.kind=1/\(jb f p).1=zf (jb f p).1.ino f.xs:=by
 unfold jb at h ⊢;simp only at h ⊢;by_cases h0:(isV f p true).2.2≠0
 ·rw[if_pos h0]at h;exact absurd h h0
 rw[if_neg h0]at h;obtain ⟨h1,h2⟩:=jG hf hp (Classical.not_not.1 h0);have hi:=zQ.ino hf h1;have hg:=zi hi;rw[h2]at h ⊢;rw[hg.2.2];refine ⟨hi,?_,rfl⟩;have hk:=hf.kind _ hg.2.1;by_cases h3:(zf (isV f p true).1.ino f.xs).kind=2
 ·rw[if_pos h3]at h;cases h
 rw[if_neg h3]at h;by_cases h4:(zf (isV f p true).1.ino f.xs).kind=3
 ·rw[if_pos h4]at h;cases h
 omega
theorem zf5 {k:zP} {ks:List zP} (h:qF j6 zP.slot ks) (hn:zah k.slot ks=false):qF j6 zP.slot (qC k ks):=
 Z0 h fun y hy e=>by
  unfold zah YG at hn;rw[List.any_eq_false]at hn;exact hn y hy (by simpa using e)
theorem Vd {f:FsV} {s:zR} (h:zk s.dir f.xs=true) (hi:zk s.ino f.xs=true) (m:Int):zk m (zF f s).xs=if (zf s.ino f.xs).links-1=0 then (!decide (m=s.ino)&&zk m f.xs) else zk m f.xs:=by
 unfold zF;split
 ·show zk m (z8 _ _)=_;rw[XL,zS h]
 ·show zk m (ql _ _)=_;rw[qN,zS h];show (decide ((zf s.ino f.xs).ino=m)||_)=_;rw[(zi hi).2.2];by_cases e:s.ino=m
  ·rw[←e,hi];simp
  ·simp[e]
theorem J1 (f:FsV) (s:zR):(zF f s).next=f.next:=by unfold zF;split<;>rfl
theorem zdg {w:qA} (hw:VT w) {n:Int} {s:zR} (hs:zQ w.fs s) (he:(zf s.ino w.fs.xs).es = []):VT (Xi w n s).1:=by
 unfold Xi;cases hn:zah n w.kept with
 | true=>rw[if_pos rfl];exact hw
 | false =>
  rw[if_neg (by simp)];have hi:=zQ.ino hw.fs hs;have hg:=zi hi;have hf:=UQ hw.fs hs he;refine ⟨hf,zf5 hw.kept hn,?_,fun x hx=>?_⟩
  ·show zX (if _ then _ else _);split
   ·exact z6 hw.pool
   ·exact hw.pool
  ·show zk x.ino (zF w.fs s).xs=false/\x.ino<(zF w.fs s).next;rw[Vd hs.has hi,J1];have hx:x∈(if (zf s.ino w.fs.xs).links=1 then ql { zf s.ino w.fs.xs with links:=0,parent:=0 } w.pool else w.pool):=hx;by_cases h1:(zf s.ino w.fs.xs).links=1
   ·rw[if_pos h1]at hx;rw[if_pos (by omega)];rcases qq.1 hx with rfl | ⟨hx,_⟩
    ·refine ⟨?_,?_⟩
     ·show (!decide ((zf s.ino w.fs.xs).ino=s.ino)&&_)=false;rw[hg.2.2];simp
     ·exact (hw.fs.ino _ hg.2.1).2
    ·obtain ⟨a1,a2⟩:=hw.apart x hx;rw[a1,Bool.and_false];exact ⟨rfl,a2⟩
   ·rw[if_neg h1]at hx;rw[if_neg (by omega)];exact hw.apart x hx
theorem zrw {w:qA} (hw:VT w) (o:OpV) (hk:o.kind<=7):VT (doV w o).1:=by
 unfold doV;cases hm:NC o with
 | false=>exact hw
 | true =>
  obtain ⟨p1,p2,k1,_⟩:=YR hm;rw[if_neg (by simp)];by_cases h1:o.kind=1
  ·rw[if_pos h1];exact x9 hw p1 (.inr (.inl rfl)) []
  rw[if_neg h1];by_cases h2:o.kind=2
  ·rw[if_pos h2];unfold Va;split
   ·exact hw
   ·exact x9 hw (p2 (by rw[h2];rfl)) (.inl rfl) _
  rw[if_neg h2];by_cases h3:o.kind=3
  ·rw[if_pos h3];have pb:=p2 (by rw[h3];rfl);unfold Ql;split
   ·exact hw
   ·split
    ·exact hw
    ·rename_i hfb;have hfb:=U3 hw.fs pb (Classical.not_not.1 hfb);split
     ·exact hw
     ·split
      ·exact hw
      ·rename_i hkd;split
       ·exact hw
       ·rename_i hda;have hkd:=Classical.not_not.1 hkd;have hda:=Classical.not_not.1 hda;unfold JF at hkd ⊢;cases hn:zah o.slot w.kept with
        | true=>rw[hn]at hkd;simp at hkd
        | false =>
         rw[if_neg (by simp)];unfold km at hda ⊢;by_cases hr:Zx w.fs 0 (((jb w.fs o.a).1.data.length:Int)-(zf (jb w.fs o.b).1.ino w.fs.xs).data.length)=true
         ·rw[if_pos hr];have hfi:=znq hw.fs hfb.1 (jb w.fs o.a).1.data;refine ⟨hfi,zf5 hw.kept hn,hw.pool,fun x hx=>⟨?_,(hw.apart x hx).2⟩⟩;show zk x.ino (ql _ _)=false;rw[qN,(hw.apart x hx).1];show (decide ((zf (jb w.fs o.b).1.ino w.fs.xs).ino=x.ino)||false)=false;rw[(zi hfb.1).2.2,Bool.or_false,decide_eq_false_iff_not];intro e;have:=(hw.apart x hx).1;rw[←e,hfb.1]at this;cases this
         ·rw[if_neg hr]at hda;cases hda
  rw[if_neg h3];by_cases h4:o.kind=4
  ·rw[if_pos h4];exact x9 hw p1 (.inr (.inr rfl)) _
  rw[if_neg h4];by_cases h5:o.kind=5
  ·rw[if_pos h5];have pb:=p2 (by rw[h5];rfl);unfold Z7;simp only;split
   ·exact hw
   ·rename_i ha;obtain ⟨t1,t2⟩:=jG hw.fs p1 (Classical.not_not.1 ha);split
    ·exact hw
    ·rename_i hkd;split
     ·exact hw
     ·rename_i hb;have hfree:=J9 hw.fs pb (Classical.not_not.1 hb);have hi:=zQ.ino hw.fs t1;rw[t2]at hkd;have e:(isV w.fs o.a true).2.1.ino=(isV w.fs o.a true).1.ino:=by rw[t2,(zi hi).2.2]
      rw[e];have hfi:=znl hw.fs hfree hi hkd;refine zlD hw hfi (Int.le_refl _) fun x hx=>?_;show zk x.ino (ql _ _)=false;rw[qN,zS hfree.has,(hw.apart x hx).1];show (decide ((zf (isV w.fs o.a true).1.ino w.fs.xs).ino=x.ino)||false)=false;rw[(zi hi).2.2,Bool.or_false,decide_eq_false_iff_not];intro e2;have:=(hw.apart x hx).1;rw[←e2,hi]at this;cases this
  rw[if_neg h5];by_cases h6:o.kind=6
  ·rw[if_pos h6];have pb:=p2 (by rw[h6];rfl);unfold JX;split
   ·exact hw
   ·rename_i ha;split
    ·exact hw
    ·rename_i hb;obtain ⟨t1,t2⟩:=jG hw.fs p1 (Classical.not_not.1 ha);have hfree:=J9 hw.fs pb (Classical.not_not.1 hb);have hmv:=zlH hw.fs t1 hfree;refine zlD hw hmv ?_ fun x hx=>?_
     ·unfold YL;simp only;split<;>exact Int.le_refl _
     ·have hi:=zQ.ino hw.fs t1;have hb1:zk (isV w.fs o.b false).1.dir (qp (isV w.fs o.a true).1.dir (zj (isV w.fs o.a true).1.name) w.fs.xs)=true:=by rw[zS t1.has];exact hfree.has
      have h2:∀ m,zk m (qp (isV w.fs o.b false).1.dir (zY (isV w.fs o.b false).1.name (isV w.fs o.a true).1.ino) (qp (isV w.fs o.a true).1.dir (zj (isV w.fs o.a true).1.name) w.fs.xs))=zk m w.fs.xs:=fun m=>by rw[zS hb1,zS t1.has]
      unfold YL;simp only;split
      ·show zk x.ino (ql _ _)=false;have hi2:=h2 (isV w.fs o.a true).1.ino;rw[hi]at hi2;rw[qN,h2,(hw.apart x hx).1];show (decide ((zf (isV w.fs o.a true).1.ino _).ino=x.ino)||false)=false;rw[(zi hi2).2.2,Bool.or_false,decide_eq_false_iff_not];intro e2;have:=(hw.apart x hx).1;rw[←e2,hi]at this;cases this
      ·show zk x.ino (qp _ _ _)=false;rw[h2];exact (hw.apart x hx).1
  rw[if_neg h6];unfold qM;simp only;split
  ·exact hw
  ·rename_i ha;split
   ·exact hw
   ·rename_i hes;obtain ⟨t1,t2⟩:=jG hw.fs p1 (Classical.not_not.1 ha);rw[t2]at hes;exact zdg hw t1 (Classical.not_not.1 hes)
end
section
def U9 (N:Nat) (x:zm):Prop:=x.es.length<=N/\x.data.length<=5000/\∀ e∈x.es,e.name.length<=300
structure xD (N:Nat) (w:qA):Prop where
 len:w.fs.xs.length<=N
 node:∀ x∈w.fs.xs,U9 N x
 klen:w.kept.length<=N
 kdata:∀ k∈w.kept,k.data.length<=5000
 plen:w.pool.length<=N
 pnode:∀ x∈w.pool,U9 N x
 next:w.fs.next<=1099511627776+N
 room:w.fs.maxI<=1073741824/\w.fs.maxB<=1073741824/\-1073741824<=w.fs.maxI/\-1073741824<=w.fs.maxB
theorem U9.up {N:Nat} {x:zm} (h:U9 N x):U9 (N+1) x:=⟨Nat.le_succ_of_le h.1,h.2⟩
theorem xD.up {N:Nat} {w:qA} (h:xD N w):xD (N+1) w:=
 ⟨Nat.le_succ_of_le h.len,fun x hx=>(h.node x hx).up,Nat.le_succ_of_le h.klen,h.kdata,Nat.le_succ_of_le h.plen,fun x hx=>(h.pnode x hx).up,by have:=h.next;omega,h.room⟩
theorem GP {n:List UInt8} (h:may n=true):n.length<=255:=by
 unfold may at h;simp only[Bool.and_eq_true,decide_eq_true_eq]at h;exact h.1.1.1.2
theorem zfN (n:List UInt8) (i:Int) (es:List zW):(zY n i es).length<=es.length+1:=by
 unfold zY;rw[V3];have:=Up (key:=zW.name) n es;omega
theorem UP {N:Nat} {x:zm} (h:U9 N x) {n:List UInt8} (hn:n.length<=300) (i:Int):U9 (N+1) (qo x (zY n i x.es)):=by
 refine ⟨?_,h.2.1,fun e he=>?_⟩
 ·have:=zfN n i x.es;have:=h.1;show (zY n i x.es).length<=N+1;omega
 ·rcases JS he with rfl | he
  ·exact hn
  ·exact h.2.2 e he
theorem VJ {N:Nat} {x:zm} (h:U9 N x) (n:List UInt8):U9 N (qo x (zj n x.es)):=by
 refine ⟨?_,h.2.1,fun e he=>h.2.2 e (qR he).1⟩;have:=Up (key:=zW.name) n x.es;have:=h.1;show (Y1 zW.name n x.es).length<=N;omega
theorem jM {N:Nat} {xs:List zm} (h:∀ x∈xs,U9 N x) {n:Int} (hh:zk n xs=true):U9 N (zf n xs):=h _ (zi hh).2.1
theorem Z6 {N:Nat} {xs:List zm} {x:zm} (h:∀ x∈xs,U9 N x) (hx:U9 N x):∀ z∈ql x xs,U9 N z:=fun z hz=>by
 rcases qq.1 hz with rfl | ⟨hz,_⟩
 ·exact hx
 ·exact h z hz
theorem Jv {x:zm} {xs:List zm} (hR:zX xs) (hh:zk x.ino xs=true):(ql x xs).length=xs.length:=by rw[←yi hR hh];simp
theorem jW {xs:List zm} {n:Int} {F:List zW->List zW} (hR:zX xs) (hh:zk n xs=true):(qp n F xs).length=xs.length:=by
 unfold qp;refine Jv hR ?_;show zk (zf n xs).ino xs=true;rw[(zi hh).2.2];exact hh
theorem zkF {f:FsV} (hf:FsI f) {p:List UInt8} (hp:qH p=true) (h:(atV f p).2=0):(atV f p).1.name.length<=300:=by
 have h1:=(zh8 hf hp h).2.2.2;unfold qH J5 at hp;simp only[Bool.and_eq_true]at hp;have:=GP (List.all_eq_true.1 hp.1.2 _ h1);omega
theorem ZT {f:FsV} {p:List UInt8} {b:Bool} (h:(isV f p b).2.2=0):(atV f p).2=0:=by
 unfold isV at h;simp only at h;by_cases h0:(atV f p).2≠0
 ·rw[if_pos h0]at h;exact h
 ·exact Classical.not_not.1 h0
theorem zm5 {N:Nat} {w:qA} (hw:VT w) (hb:xD N w) {p:List UInt8} (hp:qH p=true) {k:Int} {t:List UInt8} (ht:t.length<=5000):xD (N+1) (Vq w p k t).1:=by
 unfold Vq;by_cases h:(isV w.fs p false).2.2≠0
 ·rw[if_pos h];exact hb.up
 rw[if_neg h];have h:=Classical.not_not.1 h;have hs:=J9 hw.fs hp h;unfold zcG;by_cases h1:may (isV w.fs p false).1.name=true
 ·rw[if_pos h1];by_cases h2:Zx w.fs 1 (if k=1 then (t.length:Int) else 0)=true
  ·rw[if_pos h2];have hl:=GP h1;refine ⟨?_,?_,by have:=hb.klen;show w.kept.length<=N+1;omega,hb.kdata,by have:=hb.plen;show w.pool.length<=N+1;omega,fun x hx=>(hb.pnode x hx).up,?_,hb.room⟩
   ·show (ql _ _).length<=N+1;refine Nat.le_trans zft ?_;rw[jW hw.fs.rises hs.has];have:=hb.len;omega
   ·refine Z6 (fun z hz=>?_) ⟨Nat.zero_le _,ht,fun e he=>by cases he⟩;rcases (qt hs.has).1 hz with rfl | ⟨hz,_⟩
    ·exact UP (jM hb.node hs.has) (by omega) _
    ·exact (hb.node z hz).up
   ·show w.fs.next+1<=_;have:=hb.next;omega
  ·rw[if_neg h2];exact hb.up
 ·rw[if_neg h1];exact hb.up
theorem fsB {N:Nat} {w:qA} (hb:xD N w) {g:FsV} (h1:g.xs.length<=N+1) (h2:∀ x∈g.xs,U9 (N+1) x) (h3:g.next=w.fs.next) (h4:g.maxI=w.fs.maxI/\g.maxB=w.fs.maxB):xD (N+1) { w with fs:=g }:=
 ⟨h1,h2,Nat.le_succ_of_le hb.klen,hb.kdata,Nat.le_succ_of_le hb.plen,fun x hx=>(hb.pnode x hx).up,by show g.next<=_;rw[h3];have:=hb.next;omega,by show g.maxI<=_/\g.maxB<=_/\_<=g.maxI/\_<=g.maxB;rw[h4.1,h4.2];exact hb.room⟩
theorem NW (k:zP) (ks:List zP):(qC k ks).length=ks.length+1:=V3 k ks
theorem zlG {N:Nat} {f:FsV} (hf:FsI f) (h1:f.xs.length<=N) (h2:∀ x∈f.xs,U9 N x) {s:zR} (hs:zQ f s):(zF f s).xs.length<=N/\(∀ x∈(zF f s).xs,U9 N x)/\(zF f s).next=f.next/\(zF f s).maxI=f.maxI/\(zF f s).maxB=f.maxB:=by
 have hi:=zQ.ino hf hs;have hd:∀ z∈qp s.dir (zj s.name) f.xs,U9 N z:=fun z hz=>by
  rcases (qt hs.has).1 hz with rfl | ⟨hz,_⟩
  ·exact VJ (jM h2 hs.has) _
  ·exact h2 z hz
 have hl:=jW (F:=zj s.name) hf.rises hs.has;unfold zF;split
 ·refine ⟨?_,fun x hx=>hd x (YU.1 hx).1,rfl,rfl,rfl⟩;show (z8 _ _).length<=N;exact Nat.le_trans Q5 (by rw[hl];exact h1)
 ·refine ⟨?_,Z6 hd (jM h2 hi),rfl,rfl,rfl⟩;show (ql _ _).length<=N;rw[Jv (show zX (qp s.dir (zj s.name) f.xs) from z6 hf.rises) ?_,hl]
  ·exact h1
  ·show zk (zf s.ino f.xs).ino (qp _ _ _)=true;rw[(zi hi).2.2,zS hs.has];exact hi
theorem doB {N:Nat} {w:qA} (hw:VT w) (hb:xD N w) (o:OpV) (hd:o.d.length<=5000) (hk:o.kind<=7):xD (N+1) (doV w o).1:=by
 unfold doV;cases hm:NC o with
 | false=>exact hb.up
 | true =>
  obtain ⟨p1,p2,k1,_⟩:=YR hm;rw[if_neg (by simp)];by_cases h1:o.kind=1
  ·rw[if_pos h1];exact zm5 hw hb p1 (by simp)
  rw[if_neg h1];by_cases h2:o.kind=2
  ·rw[if_pos h2];unfold Va;split
   ·exact hb.up
   ·rename_i hfa;have hfa:=U3 hw.fs p1 (Classical.not_not.1 hfa);refine zm5 hw hb (p2 (by rw[h2];rfl)) ?_;rw[hfa.2.2];exact (jM hb.node hfa.1).2.1
  rw[if_neg h2];by_cases h3:o.kind=3
  ·rw[if_pos h3];have pb:=p2 (by rw[h3];rfl);unfold Ql;split
   ·exact hb.up
   ·rename_i hfa;have hfa:=U3 hw.fs p1 (Classical.not_not.1 hfa);split
    ·exact hb.up
    ·rename_i hfb;have hfb:=U3 hw.fs pb (Classical.not_not.1 hfb);split
     ·exact hb.up
     ·split
      ·exact hb.up
      ·rename_i hkd;split
       ·exact hb.up
       ·rename_i hda;have hkd:=Classical.not_not.1 hkd;have hda:=Classical.not_not.1 hda;unfold JF at hkd ⊢;cases hn:zah o.slot w.kept with
        | true=>rw[hn]at hkd;simp at hkd
        | false =>
         rw[if_neg (by simp)];unfold km at hda ⊢;by_cases hr:Zx w.fs 0 (((jb w.fs o.a).1.data.length:Int)-(zf (jb w.fs o.b).1.ino w.fs.xs).data.length)=true
         ·rw[if_pos hr];have hg:=zi hfb.1;refine ⟨?_,?_,?_,fun k hk=>?_,Nat.le_succ_of_le hb.plen,fun x hx=>(hb.pnode x hx).up,by have:=hb.next;show w.fs.next<=_;omega,hb.room⟩
          ·show (ql _ _).length<=N+1;rw[Jv hw.fs.rises (by show zk (zf _ _).ino _=true;rw[hg.2.2];exact hfb.1)];exact Nat.le_succ_of_le hb.len
          ·refine Z6 (fun z hz=>(hb.node z hz).up) ?_;have h7:=(jM hb.node hfb.1).up;refine ⟨h7.1,?_,h7.2.2⟩;show (jb w.fs o.a).1.data.length<=5000;rw[hfa.2.2];exact (jM hb.node hfa.1).2.1
          ·show (qC _ _).length<=N+1;rw[NW];have:=hb.klen;omega
          ·rcases Qj.1 hk with rfl | hk
           ·exact (jM hb.node hfb.1).2.1
           ·exact hb.kdata k hk
         ·rw[if_neg hr]at hda;cases hda
  rw[if_neg h3];by_cases h4:o.kind=4
  ·rw[if_pos h4];exact zm5 hw hb p1 hd
  rw[if_neg h4];by_cases h5:o.kind=5
  ·rw[if_pos h5];have pb:=p2 (by rw[h5];rfl);unfold Z7;simp only;split
   ·exact hb.up
   ·rename_i ha;obtain ⟨t1,t2⟩:=jG hw.fs p1 (Classical.not_not.1 ha);split
    ·exact hb.up
    ·split
     ·exact hb.up
     ·rename_i hb2;have hb2:=Classical.not_not.1 hb2;have hfree:=J9 hw.fs pb hb2;have hi:=zQ.ino hw.fs t1;have e:(isV w.fs o.a true).2.1.ino=(isV w.fs o.a true).1.ino:=by rw[t2,(zi hi).2.2]
      rw[e];have hln:=zkF hw.fs pb (ZT hb2);refine fsB hb ?_ ?_ rfl ⟨rfl,rfl⟩
      ·show (ql _ _).length<=N+1;rw[Jv (show zX (qp (isV w.fs o.b false).1.dir (zY (isV w.fs o.b false).1.name (isV w.fs o.a true).1.ino) w.fs.xs) from z6 hw.fs.rises) (by show zk (zf _ _).ino _=true;rw[(zi hi).2.2,zS hfree.has];exact hi),jW hw.fs.rises hfree.has];exact Nat.le_succ_of_le hb.len
      ·refine Z6 (fun z hz=>?_) (jM hb.node hi).up;rcases (qt hfree.has).1 hz with rfl | ⟨hz,_⟩
       ·exact UP (jM hb.node hfree.has) hln _
       ·exact (hb.node z hz).up
  rw[if_neg h5];by_cases h6:o.kind=6
  ·rw[if_pos h6];have pb:=p2 (by rw[h6];rfl);unfold JX;split
   ·exact hb.up
   ·rename_i ha;split
    ·exact hb.up
    ·rename_i hb2;have hb2:=Classical.not_not.1 hb2;obtain ⟨t1,t2⟩:=jG hw.fs p1 (Classical.not_not.1 ha);have hfree:=J9 hw.fs pb hb2;have hi:=zQ.ino hw.fs t1;have hln:=zkF hw.fs pb (ZT hb2);obtain ⟨g1,hg1⟩:∃ g1,qp (isV w.fs o.a true).1.dir (zj (isV w.fs o.a true).1.name) w.fs.xs=g1:=⟨_,rfl⟩;obtain ⟨g2,hg2⟩:∃ g2,qp (isV w.fs o.b false).1.dir (zY (isV w.fs o.b false).1.name (isV w.fs o.a true).1.ino) g1=g2:=⟨_,rfl⟩;have hR1:zX g1:=by rw[←hg1];exact z6 hw.fs.rises
     have hb1:zk (isV w.fs o.b false).1.dir g1=true:=by rw[←hg1,zS t1.has];exact hfree.has
     have hn1:∀ z∈g1,U9 N z:=fun z hz=>by
      rw[←hg1]at hz;rcases (qt t1.has).1 hz with rfl | ⟨hz,_⟩
      ·exact VJ (jM hb.node t1.has) _
      ·exact hb.node z hz
     have hn2:∀ z∈g2,U9 (N+1) z:=fun z hz=>by
      rw[←hg2]at hz;rcases (qt hb1).1 hz with rfl | ⟨hz,_⟩
      ·exact UP (jM hn1 hb1) hln _
      ·exact (hn1 z hz).up
     have hl2:g2.length=w.fs.xs.length:=by rw[←hg2,jW hR1 hb1,←hg1,jW hw.fs.rises t1.has]
     have hi2:zk (isV w.fs o.a true).1.ino g2=true:=by rw[←hg2,zS hb1,←hg1,zS t1.has];exact hi
     have hR2:zX g2:=by rw[←hg2];exact z6 hR1
     unfold YL;rw[hg1,hg2];simp only;split
     ·refine fsB hb ?_ (Z6 hn2 (jM hn2 hi2)) rfl ⟨rfl,rfl⟩;show (ql _ _).length<=N+1;rw[Jv hR2 (by show zk (zf _ _).ino _=true;rw[(zi hi2).2.2];exact hi2),hl2];exact Nat.le_succ_of_le hb.len
     ·refine fsB hb ?_ hn2 rfl ⟨rfl,rfl⟩;show g2.length<=N+1;rw[hl2];exact Nat.le_succ_of_le hb.len
  rw[if_neg h6];unfold qM;simp only;split
  ·exact hb.up
  ·rename_i ha;split
   ·exact hb.up
   ·obtain ⟨t1,t2⟩:=jG hw.fs p1 (Classical.not_not.1 ha);have hi:=zQ.ino hw.fs t1;unfold Xi;split
    ·exact hb.up
    ·obtain ⟨u1,u2,u3,u4,u5⟩:=zlG hw.fs hb.len hb.node t1;refine ⟨Nat.le_succ_of_le u1,fun x hx=>(u2 x hx).up,?_,fun k hk=>?_,?_,fun x hx=>?_,?_,?_⟩
     ·show (qC _ _).length<=N+1;rw[NW];have:=hb.klen;omega
     ·rcases Qj.1 hk with rfl | hk
      ·exact Nat.zero_le _
      ·exact hb.kdata k hk
     ·show (if _ then _ else _:List zm).length<=N+1;split
      ·exact Nat.le_trans zft (by have:=hb.plen;omega)
      ·exact Nat.le_succ_of_le hb.plen
     ·have hx:x∈(if (zf (isV w.fs o.a true).1.ino w.fs.xs).links=1 then ql { zf (isV w.fs o.a true).1.ino w.fs.xs with links:=0,parent:=0 } w.pool else w.pool):=hx;split at hx
      ·exact Z6 (x:={ zf (isV w.fs o.a true).1.ino w.fs.xs with links:=0,parent:=0 }) (fun z hz=>(hb.pnode z hz).up) (show U9 (N+1) _ from (jM hb.node hi).up) x hx
      ·exact (hb.pnode x hx).up
     ·show (zF _ _).next<=_;rw[u3];have:=hb.next;omega
     ·show (zF _ _).maxI<=_/\(zF _ _).maxB<=_/\_<=(zF _ _).maxI/\_<=(zF _ _).maxB;rw[u4,u5];exact hb.room
end
section
open CA CB
open Go.RowKit
section
variable {G:zp}
end
end
section
open CA CB
open Go.RowKit
abbrev QS (s:zR):List C:=[.sc (.int .i64 s.dir),.str s.name,.sc (.int .i64 s.ino)]
theorem FsS.es {f:FsV} (h:FsS f) {n:Int} (hh:zk n f.xs=true):(zf n f.xs).es.length<=10000:=(h.node _ (zi hh).2.1).1
theorem zdS {xs:List (List UInt8)} {k:Nat} (h:k<xs.length):(zM xs)[k]?=some [.str xs[k]]:=by simp[List.getElem?_map,List.getElem?_eq_getElem h]
theorem Gg (f:FsV) (hf:FsI f) (hs:FsS f) (p:List UInt8) (hp:p.length<=1000000):Fun Tryz.prog G0 257 [.agg (fsC f),.str p] (.tup [.agg (QS (atV f p).1),.sc (.int .i64 (atV f p).2)]) 0:=by
 have hpl:=M1 p (by omega);have hlen:=hs.len;have hnl:(zE p).length<=1000000:=by have:=js p;omega
 cases hpp:J5 p with
 | false =>
  have e:atV f p=(jE,9):=by unfold atV;rw[hpp];rfl
  unfold Xw at hpl;rw[hpp]at hpl;refine fon Tryz.func257 ?_;dsimp only[Tryz.f257];push_cast -dsimp;refine cl (hpl) ?_;push_cast -dsimp;exact dn (by push_cast -dsimp [ze,zd,CLe,zg,e,jE])
 | true =>
  have e:atV f p=atW f.xs (zE p) ⟨0,[],1⟩:=by unfold atV;rw[hpp];rfl
  unfold Xw at hpl;rw[hpp,if_pos rfl]at hpl;generalize zE p=ns at hpl hnl e;have hsl:(zM ns).length=ns.length:=List.length_map ..;refine fon Tryz.func257 ?_;dsimp only[Tryz.f257];push_cast -dsimp;refine cl (hpl) ?_;push_cast -dsimp;refine loop (fun x:Nat×zR=>⟨[(1,.str p),(2,.ptr 0 0),(4,.ptr 1 0),(8,.ptr 2 0),(24,.own 0 9 1 (zM ns)),(25,.sc (.int .i64 (ns.length:Nat))),(26,.sc (.int .i64 x.1))],[fsC f,[.sc (.int .i64 0),.str [],.sc (.int .i64 0)],QS x.2],1,0⟩)
   (fun x=>x.1<=ns.length/\atW f.xs ns ⟨0,[],1⟩=atW f.xs (ns.drop x.1) x.2/\(x.2.ino≠0->zk x.2.ino f.xs=true)) (fun x=>ns.length-x.1) (0,⟨0,[],1⟩) ⟨Nat.zero_le _,rfl,fun _=>hf.root⟩ ?_ ?_
  ·exact wks [.inl 0] (by push_cast -dsimp [ze,zd,CLe,zg,hsl])
  rintro ⟨k,s⟩ ⟨hk,hat,hin⟩;simp only at hk hat hin ⊢;by_cases hlt:k<ns.length
  ·have gs:=zdS hlt;have hdr:ns.drop k=ns[k] :: ns.drop (k+1):=List.drop_eq_getElem_cons hlt;obtain ⟨nm,hnm⟩:∃ nm,ns[k]=nm:=⟨_,rfl⟩;rw[hnm]at gs hdr;have hg:=qY (G:=G0) f s.ino (by omega) hf.rises;cases hh:zk s.ino f.xs with
   | false =>
    have h0:s.ino=0:=Classical.byContradiction fun hne=>by rw[hin hne]at hh;cases hh
    have hr:atV f p=(jE,1):=by rw[e,hat,hdr];unfold atW;rw[if_pos h0]
    rw[hh]at hg;push_cast -dsimp [hlt,gs]
    repeat refine an ?_
    refine cl (hg) ?_;push_cast -dsimp;exact dn (by push_cast -dsimp [ze,zd,CLe,zg,hr,jE])
   | true =>
    have hn0:s.ino≠0:=Uq hf hh;have hgg:=zi hh;rw[hh]at hg;by_cases hk2:(zf s.ino f.xs).kind=2
    ·have hfd:=NG (G:=G0) (zf s.ino f.xs).es nm (by have:=hs.es hh;omega) (hf.es _ hgg.2.1);have hnx:atW f.xs ns ⟨0,[],1⟩=atW f.xs (ns.drop (k+1)) ⟨(zf s.ino f.xs).ino,nm,qh nm (zf s.ino f.xs).es⟩:=by
      rw[hat,hdr]
      conv=>lhs;unfold atW
      rw[if_neg hn0,if_neg (by simp[hk2])]
     have hin2:qh nm (zf s.ino f.xs).es≠0->zk (qh nm (zf s.ino f.xs).es) f.xs=true:=fun hne=>by
      refine G5 hf hh ?_;unfold Zu;rw[jB];cases hq:Jk zW.name nm (zf s.ino f.xs).es with
      | some e=>rfl
      | none=>unfold qh at hne;rw[hq]at hne;exact absurd rfl hne
     push_cast -dsimp [hlt,gs]
     repeat refine an ?_
     refine cl (hg) ?_;push_cast -dsimp [hk2];refine cl (hfd) ?_;push_cast -dsimp
     repeat refine an ?_
     exact ⟨(k+1,⟨(zf s.ino f.xs).ino,nm,qh nm (zf s.ino f.xs).es⟩),⟨hlt,hnx,hin2⟩,by simp only;omega,wks [.inl 0]⟩
    ·have hr:atV f p=(jE,3):=by rw[e,hat,hdr];unfold atW;rw[if_neg hn0,if_pos hk2]
     push_cast -dsimp [hlt,gs]
     repeat refine an ?_
     refine cl (hg) ?_;push_cast -dsimp [hk2];exact dn (by push_cast -dsimp [ze,zd,CLe,zg,hr,jE])
  ·have hr:atV f p=(s,0):=by rw[e,hat,List.drop_of_length_le (by omega)];unfold atW;rfl
   push_cast -dsimp [hlt];exact dn (by push_cast -dsimp [ze,zd,CLe,zg,hr])
end
section
open CA CB
open Go.RowKit
abbrev zru (f:FsV):Prop:=0<=f.next/\f.next<=4000000000000000000
theorem vl {f:FsV} (hf:FsI f):f.xs≠[]:=fun h=>by have:=hf.root;rw[h]at this;cases this
theorem Zq {f:FsV} (hf:FsI f) {n:Int} (hh:zk n f.xs=true):Jo (zf n f.xs).es:=hf.es _ (zi hh).2.1
theorem Fun.argsLe {P:Program} {G:zp} {f:FuncId} {args args':List C} {r:C} {n:Nat} (h:Fun P G f args r n) (ha:∀ R vs,zu R zH args' vs->zu R zH args vs):Fun P G f args' r n:=
 ⟨h.1,fun R vs hg hv=>h.2 R vs hg (ha R vs hv)⟩
theorem zhB {R:Env} {L:Loc} {k:Nat} {v:Value} (h:Rep R L (.sc (.slice none 0 0)) v):Rep R L (.sl k []) v:=by
 rw[zo]at h;subst h;unfold Rep;exact ⟨none,0,rfl,Nat.le_refl _,Nat.zero_le _,.inl rfl⟩
end
section
open CA CB
open Go.RowKit
theorem zfm {g:zm->Nat} {n:Nat}:∀ {xs:List zm},(∀ x∈xs,g x<=n)->Nl g xs<=xs.length*n
 | [],_=>by simp[Nl]
 | x :: r,h=>by
  have ih:=zfm (g:=g) (n:=n) (xs:=r) fun y hy=>h y (List.mem_cons_of_mem _ hy);have hx:=h x List.mem_cons_self;unfold Nl at ih ⊢;simp only[List.map_cons,List.sum_cons,List.length_cons];rw[Nat.succ_mul];omega
theorem zhU {f:FsV} (hf:FsI f) (hs:FsS f) {n:Int} (hh:zk n f.xs=true):0<=(zf n f.xs).links/\(zf n f.xs).links<=100000000:=by
 have h1:=hf.links _ (zi hh).2.1;have h2:=zfm (g:=JM (zf n f.xs).ino) (n:=10000) (xs:=f.xs) fun x hx=>Nat.le_trans (List.length_filter_le _ _) (hs.node x hx).1;have h3:=hs.len;have h4:f.xs.length*10000<=10000*10000:=Nat.mul_le_mul_right _ h3;unfold JI at h1;omega
theorem zaJ (f:FsV) (hf:FsI f) (hs:FsS f) (s:zR) (hsp:zQ f s) (hne:s.dir≠s.ino):Fun Tryz.prog G0 247 [.agg (fsC f),.agg (QS s)] (.agg (fsC (zF f s))) 0:=by
 have hi:=zQ.ino hf hsp;have hlen:=hs.len;have hg:=qY (G:=G0) f s.dir (by omega) hf.rises;rw[hsp.has]at hg;have hes:=hs.es hsp.has;have hhe:YG zW.name s.name (zf s.dir f.xs).es=true:=by rw[jB,hsp.there];rfl
 have hw:=VQ (G:=G0) (zf s.dir f.xs).es s.name (by omega) (Zq hf hsp.has) hhe;have hd1:=UV (G:=G0) f (qo (zf s.dir f.xs) (zj s.name (zf s.dir f.xs).es)) (by omega) hf.rises;have hdl:(qp s.dir (zj s.name) f.xs).length=f.xs.length:=jW hf.rises hsp.has;have hR1:zX (qp s.dir (zj s.name) f.xs):=z6 hf.rises;have hg2:=qY (G:=G0) ⟨f.maxI,f.maxB,f.next,qp s.dir (zj s.name) f.xs⟩ s.ino (by simp only;omega) hR1;simp only at hg2;rw[zS hsp.has,hi,JG hsp.has,if_neg hne]at hg2;have hl:=zhU hf hs hi;have hxi:=(zi hi).2.2;have hd2:=UV (G:=G0) ⟨f.maxI,f.maxB,f.next,qp s.dir (zj s.name) f.xs⟩ { zf s.ino f.xs with links:=(zf s.ino f.xs).links-1 } (by simp only;omega) hR1;have hd3:=zj2 (G:=G0) ⟨f.maxI,f.maxB,f.next,qp s.dir (zj s.name) f.xs⟩ s.ino (by simp only;omega) hR1 (by intro h;have h0:f.xs = []:=List.length_eq_zero_iff.1 (by rw[←hdl];exact congrArg List.length h);exact vl hf h0);have e0:zF f s=if (zf s.ino f.xs).links-1=0 then ⟨f.maxI,f.maxB,f.next,z8 s.ino (qp s.dir (zj s.name) f.xs)⟩ else ⟨f.maxI,f.maxB,f.next,ql { zf s.ino f.xs with links:=(zf s.ino f.xs).links-1 } (qp s.dir (zj s.name) f.xs)⟩:=rfl;unfold qp at hg2 hd2 hd3 e0;by_cases hz:(zf s.ino f.xs).links-1=0
 ·rw[if_pos hz]at e0;have hz':=eq_true hz;rw[←hxi]at hd3;refine fon Tryz.func247 ?_;dsimp only[Tryz.f247];push_cast -dsimp;refine cl (hg) ?_;push_cast -dsimp;refine cl (hw) ?_;push_cast -dsimp;refine cl (hd1) ?_;push_cast -dsimp;refine cl (hg2) ?_;push_cast -dsimp [hz']
  repeat refine an ?_
  refine cl (hd3) ?_;push_cast -dsimp;exact dn (by push_cast -dsimp [ze,zd,CLe,zg,e0,hxi])
 ·rw[if_neg hz]at e0;have hz':=eq_false hz;refine fon Tryz.func247 ?_;dsimp only[Tryz.f247];push_cast -dsimp;refine cl (hg) ?_;push_cast -dsimp;refine cl (hw) ?_;push_cast -dsimp;refine cl (hd1) ?_;push_cast -dsimp;refine cl (hg2) ?_;push_cast -dsimp [hz']
  repeat refine an ?_
  refine cl (hd2) ?_;push_cast -dsimp;exact dn (by push_cast -dsimp [ze,zd,CLe,zg,e0])
end
section
open CA CB
open Go.RowKit
theorem zhD (f:FsV) (hf:FsI f) (hs:FsS f) (a b:zR) (ha:zQ f a) (hb:YY f b) (hb0:b.ino=0):Fun Tryz.prog G0 245 [.agg (fsC f),.agg (QS a),.agg (QS b)] (.agg (fsC (YL f a b))) 0:=by
 have hai:=zQ.ino hf ha;have hlen:=hs.len;have hhe:YG zW.name a.name (zf a.dir f.xs).es=true:=by rw[jB,ha.there];rfl
 have hga:=qY (G:=G0) f a.dir (by omega) hf.rises;rw[ha.has]at hga;have hwa:=VQ (G:=G0) (zf a.dir f.xs).es a.name (by have:=hs.es ha.has;omega) (Zq hf ha.has) hhe;have hda:=UV (G:=G0) f (qo (zf a.dir f.xs) (zj a.name (zf a.dir f.xs).es)) (by omega) hf.rises;obtain ⟨g1,hg1⟩:∃ g1,qp a.dir (zj a.name) f.xs=g1:=⟨_,rfl⟩;obtain ⟨g2,hg2⟩:∃ g2,qp b.dir (zY b.name a.ino) g1=g2:=⟨_,rfl⟩;have hR1:zX g1:=by rw[←hg1];exact z6 hf.rises
 have hR2:zX g2:=by rw[←hg2];exact z6 hR1
 have hl1:g1.length=f.xs.length:=by rw[←hg1];exact jW hf.rises ha.has
 have hb1:zk b.dir g1=true:=by rw[←hg1,zS ha.has];exact hb.has
 have hl2:g2.length=f.xs.length:=by rw[←hg2,jW hR1 hb1,hl1]
 have hi2:zk a.ino g2=true:=by rw[←hg2,zS hb1,←hg1,zS ha.has];exact hai
 have hgb:=qY (G:=G0) ⟨f.maxI,f.maxB,f.next,g1⟩ b.dir (by simp only;omega) hR1;simp only at hgb;rw[hb1]at hgb;have hres:Jo (zf b.dir g1).es/\(zf b.dir g1).es.length<=10000:=by
  rw[←hg1,JG ha.has];split
  ·refine ⟨JO (Zq hf ha.has),?_⟩;show (Y1 zW.name _ _).length<=10000;have:=Up (key:=zW.name) a.name (zf a.dir f.xs).es;have:=hs.es ha.has;omega
  ·exact ⟨Zq hf hb.has,hs.es hb.has⟩
 have hwb:=zgJ (G:=G0) (zf b.dir g1).es b.name a.ino (by have:=hres.2;omega) hres.1;have hdb:=UV (G:=G0) ⟨f.maxI,f.maxB,f.next,g1⟩ (qo (zf b.dir g1) (zY b.name a.ino (zf b.dir g1).es)) (by simp only;omega) hR1;have hgx:=qY (G:=G0) ⟨f.maxI,f.maxB,f.next,g2⟩ a.ino (by simp only;omega) hR2;simp only at hgx;rw[hi2]at hgx;have hxi:=(zi hi2).2.2;have e0:YL f a b=if (zf a.ino g2).kind=2 then ⟨f.maxI,f.maxB,f.next,ql { zf a.ino g2 with parent:=b.dir } g2⟩ else ⟨f.maxI,f.maxB,f.next,g2⟩:=by unfold YL;rw[hg1,hg2]
 have hdx:=fun x:zm=>UV (G:=G0) ⟨f.maxI,f.maxB,f.next,g2⟩ x (by simp only;omega) hR2;have hda':Fun Tryz.prog G0 271 [.agg (fsC f),.agg (JU (qo (zf a.dir f.xs) (zj a.name (zf a.dir f.xs).es)))] (.agg [.sc (.int .i64 f.maxI),.sc (.int .i64 f.maxB),.sc (.int .i64 f.next),.own 0 64 6 (zq g1)]) 1:=by rw[←hg1];exact hda
 have hdb':Fun Tryz.prog G0 271 [.agg (fsC ⟨f.maxI,f.maxB,f.next,g1⟩),.agg (JU (qo (zf b.dir g1) (zY b.name a.ino (zf b.dir g1).es)))] (.agg [.sc (.int .i64 f.maxI),.sc (.int .i64 f.maxB),.sc (.int .i64 f.next),.own 0 64 6 (zq g2)]) 1:=by rw[←hg2];exact hdb
 have hb0':=eq_true hb0;by_cases hk:(zf a.ino g2).kind=2
 ·rw[if_pos hk]at e0;have hk':=eq_true hk;have hd:=hdx { zf a.ino g2 with parent:=b.dir };refine fon Tryz.func245 ?_;dsimp only[Tryz.f245];push_cast -dsimp [hb0'];refine cl (hga) ?_;push_cast -dsimp;refine cl (hwa) ?_;push_cast -dsimp;refine cl (hda') ?_;push_cast -dsimp;refine cl (hgb) ?_;push_cast -dsimp;refine cl (hwb) ?_;push_cast -dsimp;refine cl (hdb') ?_;push_cast -dsimp;refine cl (hgx) ?_;push_cast -dsimp [hk'];refine cl (hd) ?_;push_cast -dsimp;exact dn (by push_cast -dsimp [ze,zd,CLe,zg,e0])
 ·rw[if_neg hk]at e0;have hk':=eq_false hk;have hsm:ql (zf a.ino g2) g2=g2:=MY hR2 (by rw[hxi];exact (zi hi2).1);have hd:=hdx (zf a.ino g2);rw[hsm]at hd;refine fon Tryz.func245 ?_;dsimp only[Tryz.f245];push_cast -dsimp [hb0'];refine cl (hga) ?_;push_cast -dsimp;refine cl (hwa) ?_;push_cast -dsimp;refine cl (hda') ?_;push_cast -dsimp;refine cl (hgb) ?_;push_cast -dsimp;refine cl (hwb) ?_;push_cast -dsimp;refine cl (hdb') ?_;push_cast -dsimp;refine cl (hgx) ?_;push_cast -dsimp [hk'];refine cl (hd) ?_;push_cast -dsimp;exact dn (by push_cast -dsimp [ze,zd,CLe,zg,e0])
end
section
open Go.RowKit
section
variable {G:zp}
theorem Hk (rows:List (List C)) (hk:∀ r∈rows,r.length=4) (hs:jd rows) (hl:rows.length<=100000) :
  Yr Tryz.prog G 280 [.sl 4 rows] [] 0 (zdy 4 rows):=by
 refine Yr.bySlice (fun h=>?_) (fun h a cap hr=>?_)
 ·refine foX (fun i=>if i=1000000+25 then [true,true] else []) Tryz.func280 ?_;dsimp only[Tryz.f280];push_cast -dsimp;refine ⟨h,Zz UA XC rfl rfl (by decide) rfl (qm hk) rfl (Nat.le_refl _) (Nat.le_refl _) (by omega) (by omega) (fun hc=>absurd hc ?_) (fun _ c hc hm=>?_)⟩
  ·have:=List.length_pos_iff.2 h;omega
  ·push_cast -dsimp;rw[Nat.zero_add]at hc;refine ⟨_,_,_,⟨⟨rfl,.inl ⟨h,c,hc,hm,rfl,rfl⟩⟩,Nat.zero_le _⟩,[],rfl,rfl,?_,by push_cast -dsimp [ze,zd,CLe,zg]⟩;push_cast -dsimp [ze,zd,CLe,zg];exact zO (zD hs)
 ·cases a with
  | none =>
   refine foX (fun i=>if i=1000000+25 then [true,true] else []) Tryz.func280 ?_;dsimp only[Tryz.f280];push_cast -dsimp [hr,Option.isNone_none];exact ⟨_,_,_,⟨⟨rfl,.inr ⟨h,.inl ⟨rfl,rfl⟩⟩⟩,Nat.zero_le _⟩,[],rfl,rfl,by push_cast -dsimp [ze,zd,CLe,zg],by push_cast -dsimp [ze,zd,CLe,zg]⟩
  | some a =>
   refine foX (fun i=>if i=1000000+25 then [true,true] else []) Tryz.func280 ?_;dsimp only[Tryz.f280];push_cast -dsimp [hr,Option.isNone_some];have hx:C.xs? 4 [[]] (C.sc (.slice (some a) 0 cap))=some (0,[]):=by simp[C.xs?,hr]
   refine Zz UA XC hx rfl (by decide) rfl rfl rfl (Nat.le_refl _) (Nat.le_refl _) (by omega) (by omega) (fun _=>?_) (fun hc=>absurd hc (by omega));push_cast -dsimp;exact ⟨_,_,_,⟨⟨rfl,.inr ⟨h,.inr ⟨rfl,rfl⟩⟩⟩,Nat.zero_le _⟩,[],rfl,rfl,by (push_cast -dsimp [ze,zd,CLe,zg];simp[spl,zg]),by push_cast -dsimp [ze,zd,CLe,zg]⟩
theorem V8 (rows:List (List C)) (x:List C) (i c e:Nat) (hk:∀ r∈rows,r.length=4) (hx:x.length=4) (hs:jd rows) (hsx:(x.all C.stayB)=true) (hl:rows.length<=100000) (hi:i<=rows.length) (hc:rows.length<=c) (hcm:c<=9223372036854775807) :
  Yr Tryz.prog G 279 [.bs 0 0 4 rows.length c,.sc (.int .i64 i),.own 0 e 4 [x]] [qr 4 rows c] 1 (zqu 4 (c*4) (rows.take i++x :: rows.drop i)):=by
 refine foX (fun j=>if j=1000000+25 then [true,true] else if j=11 then [false,false,false,false,false,false,false,false,true] else if j=15 then [false,false,false,false,false,false,false,false,true] else []) Tryz.func279 ?_;dsimp only[Tryz.f279];push_cast -dsimp;have hlen:(rows.take i++x :: rows.drop i).length=rows.length+1:=by simp;omega
 have hki:∀ r∈rows.take i++x :: rows.drop i,r.length=4:=fun r hr=>by
  rcases List.mem_append.1 hr with hr | hr
  ·exact hk r (List.mem_of_mem_take hr)
  ·rcases List.mem_cons.1 hr with rfl | hr
   ·exact hx
   ·exact hk r (List.mem_of_mem_drop hr)
 have hsi:jd (rows.take i++x :: rows.drop i):=fun r hr=>by
  rcases List.mem_append.1 hr with hr | hr
  ·exact hs r (List.mem_of_mem_take hr)
  ·rcases List.mem_cons.1 hr with rfl | hr
   ·exact hsx
   ·exact hs r (List.mem_of_mem_drop hr)
 have hbl:=Jt hk hc;have hfl:=qm hk;have hxl:[x].flatten.length=1*4:=by simp[hx]
 have hpre:(qr 4 rows c).take rows.flatten.length=rows.flatten:=by unfold qr;rw[List.take_left]
 refine ⟨hc,⟨by omega,hi⟩,br (fun h=>?_) (fun h=>?_)⟩
 ·push_cast -dsimp;refine Zz UA XC rfl rfl (by decide) rfl hxl rfl (by rw[hbl];omega) hc (by simp;omega) (by simp;omega) (fun h1=>?_) (fun h1 c' h2 h3=>?_)
  ·push_cast -dsimp;have hi':i=rows.length:=of_decide_eq_true h;refine ⟨_,_,_,⟨⟨rfl,c,by rw[hlen];exact h1,hcm,.inl ⟨rfl,rfl⟩⟩,Nat.le_refl _⟩,[],rfl,rfl,?_,by push_cast -dsimp [ze,zd,CLe,zg,hlen]⟩;push_cast -dsimp [ze,zd,CLe,zg];have h6:rows.length*4+4<=c*4:=by have:rows.length+1<=c:=h1;omega
   refine Jp hki hsi (by rw[hlen];exact h1) (by rw[QP (by rw[hbl,hx];exact h6),hbl]) ?_;rw[hlen,hi',List.take_length,List.drop_length];unfold spl;rw[←hfl,hpre,List.take_left' (by simp[hx,hfl];omega)];simp
  ·push_cast -dsimp;have hi':i=rows.length:=of_decide_eq_true h;have h2':rows.length+1<=c':=h2;refine ⟨_,_,_,⟨⟨rfl,c',by rw[hlen];exact h2,h3,.inr ⟨rfl,rfl⟩⟩,Nat.le_of_ble_eq_true rfl⟩,[],rfl,rfl,?_,by push_cast -dsimp [ze,zd,CLe,zg,hlen]⟩;push_cast -dsimp [ze,zd,CLe,zg];refine ⟨Xm hbl,Jp hki hsi (by rw[hlen];exact h2) (by simp[hx,hbl];omega) ?_⟩;rw[hlen,hi',List.take_length,List.drop_length,←hfl,hpre,List.take_left' (by simp[hx,hfl];omega)];simp
 ·have hne:i≠rows.length:=of_decide_eq_false h;push_cast -dsimp;refine ⟨⟨by omega,by omega⟩,br (fun h1=>?_) (fun h1=>?_)⟩
  ·have h1':(c:Int)<(rows.length:Int)+1:=of_decide_eq_true h1;push_cast -dsimp
   repeat refine an ?_
   refine zly UA znu XC rfl (by decide) rfl rfl (by rw[hbl];omega) (by omega) (by omega) (by omega) (by omega) (by omega) (fun c' B h2 h3 hBl hBt=>?_);have e1:((rows.length:Int)+1-(i:Int)).toNat=rows.length+1-i:=by omega
   rw[e1]at h2 ⊢;have e2:i+(rows.length+1-i)=rows.length+1:=by omega
   rw[e2]at h2 ⊢;push_cast -dsimp
   repeat refine an ?_
   refine Xp UA XC rfl rfl hxl (by rw[hBl];omega) (fun B1 hB1 hl1=>?_);rw[hBl]at hl1;push_cast -dsimp
   repeat refine an ?_
   have hbp:=Xk (c:=c) hk hi;refine Xp UA XC (kw rfl (by rw[hbl];omega)) rfl (by rw[hbp,List.length_drop,hfl];omega) (by rw[hl1];omega) (fun B2 hB2 hl2=>?_);rw[hl1]at hl2;have hX:[x].flatten.take (min [x].length (rows.length+1-i)*4)=x:=by
    rw[List.length_singleton,Nat.min_eq_left (by omega),List.take_of_length_le (by omega)];simp
   rw[hX]at hB1;rw[hbp,show min (rows.length-i) (rows.length-i)*4=(rows.length-i)*4 by omega,List.take_of_length_le (by rw[List.length_drop,hfl];omega),hB1]at hB2;push_cast -dsimp;refine ⟨_,_,_,⟨⟨rfl,c',by rw[hlen];exact h2,h3,.inr ⟨rfl,rfl⟩⟩,Nat.le_of_ble_eq_true rfl⟩,[],rfl,rfl,?_,by push_cast -dsimp [ze,zd,CLe,zg,hlen]⟩;push_cast -dsimp [ze,zd,CLe,zg];refine ⟨Xm hbl,Jp hki hsi (by rw[hlen];exact h2) hl2 ?_⟩;rw[hlen,←X6 hk,hB2];have hg:=GW (cs:=B) (L:=rows.flatten) (X:=x) (p:=i*4) (q:=(i+1)*4) (by omega) (by omega) (by
    rw[hBt,List.drop_zero];unfold qr;rw[List.take_append_of_le_length (by omega)]) (by omega)
   rw[hfl,hx]at hg;rw[←hg];congr 1;omega
  ·have h1':¬(c:Int)<(rows.length:Int)+1:=of_decide_eq_false h1;push_cast -dsimp
   repeat refine an ?_
   refine zla (yq (P:=Tryz.prog) (tR:=4) Tryz.func297 (by kernel_rfl) (by kernel_rfl) (by kernel_rfl) (by kernel_rfl) UA XC rfl (List.ne_nil_of_length_pos (by rw[hbl];omega)) (by simp) (by omega)) ?_;push_cast -dsimp
   repeat refine an ?_
   have hbp:=Xk (c:=c) hk hi;refine Xp UA XC (kw rfl (by rw[hbl];omega)) rfl (by simp[hbl];omega) (by rw[hbl];omega) (fun B1 hB1 hl1=>?_);rw[hbl]at hl1;rw[List.take_take,Nat.min_eq_left (by omega),show min (rows.length+1-i) (rows.length-i)*4=(rows.length-i)*4 by omega,hbp]at hB1;push_cast -dsimp
   repeat refine an ?_
   refine Xp UA XC rfl rfl hxl (by rw[hl1];omega) (fun B2 hB2 hl2=>?_);rw[hl1]at hl2;have hX:[x].flatten.take (min [x].length (rows.length+1-i)*4)=x:=by
    rw[List.length_singleton,Nat.min_eq_left (by omega),List.take_of_length_le (by omega)];simp
   rw[hX,hB1]at hB2;push_cast -dsimp;have hcc:rows.length+1<=c:=by omega
   refine ⟨_,_,_,⟨⟨rfl,c,by rw[hlen];exact hcc,hcm,.inl ⟨rfl,rfl⟩⟩,Nat.le_of_ble_eq_true rfl⟩,[],rfl,rfl,?_,by push_cast -dsimp [ze,zd,CLe,zg,hlen]⟩;push_cast -dsimp [ze,zd,CLe,zg];refine Jp hki hsi (by rw[hlen];exact hcc) hl2 ?_;rw[hlen,←X6 hk,hB2];have hg:=UI (cs:=qr 4 rows c) (L:=rows.flatten) (X:=x) (p:=i*4) (q:=(i+1)*4) (by omega) (by omega) hpre (by omega);rw[hfl,hx]at hg;rw[←hg];congr 1;omega
theorem uY {e:Nat} (x:List C) (hx:x.length=4) (hsx:(x.all C.stayB)=true) :
  Yr Tryz.prog G 279 [.sc (.slice none 0 0),.sc (.int .i64 0),.own 0 e 4 [x]] [] 1 (fun r bx' n=>n=0/\∃ c,1<=c/\c<=9223372036854775807/\r = .bs 0 0 4 1 c/\bx' = [qr 4 [x] c]):=by
 refine foX (fun j=>if j=1000000+25 then [true,true] else if j=11 then [false,false,false,false,false,false,false,false,true] else if j=15 then [false,false,false,false,false,false,false,false,true] else []) Tryz.func279 ?_;dsimp only[Tryz.f279];push_cast -dsimp;refine GS UA XC rfl rfl (by decide) rfl (by simp[hx]) (by simp) (by simp) (by simp) (fun c h1 h2=>?_);push_cast -dsimp;refine ⟨_,_,_,⟨⟨rfl,c,h1,h2,rfl,rfl⟩,Nat.zero_le _⟩,[],rfl,rfl,?_,by push_cast -dsimp [ze,zd,CLe,zg]⟩;push_cast -dsimp [ze,zd,CLe,zg];have:=zO (src:=[]) (n:=1) (zD (k:=4) (c:=c) (rows:=[x]) fun r hr=>by
  rw[List.mem_singleton.1 hr];exact hsx)
 unfold qr at this ⊢;simpa using this
end
end
section
open CA CB
open Go.RowKit
abbrev Js (k:zP):List C:=[.sc (.int .i64 k.slot),.sc (.int .i64 k.ino),.sc (.bool k.content),.str k.data]
abbrev zG (ks:List zP):List (List C):=ks.map Js
theorem jT (ks:List zP) (i:Nat) (h:i<ks.length):(zG ks)[i]?=some (Js ks[i]):=by simp[List.getElem?_map,List.getElem?_eq_getElem h]
abbrev HB (w:qA):List C:=[.sc (.int .i64 w.fs.maxI),.sc (.int .i64 w.fs.maxB),.sc (.int .i64 w.fs.next),.sl 6 (zq w.fs.xs),.sl 4 (zG w.kept),.sl 6 (zq w.pool)]
abbrev Qv (w:qA):C:=.agg (HB w)
theorem zeF (a b:Int):Ug a b<0↔j6.lt a b=true:=by
 show Ug a b<0↔decide (a<b)=true;unfold Ug;rw[decide_eq_true_eq];split
 ·simp;assumption
 ·split<;>omega
theorem zeC (a b:Int):Ug a b=0↔a=b:=by
 unfold Ug;split
 ·constructor
  ·intro h;cases h
  ·intro h;omega
 ·split
  ·constructor
   ·intro h;cases h
   ·intro h;omega
  ·constructor
   ·intro _;omega
   ·intro _;rfl
section
variable {G:zp}
theorem ziw (k:zP):Fun Tryz.prog G 274 [.agg (Js k)] (.sc (.int .i64 k.slot)) 0:=by
 refine fon Tryz.func274 ?_;dsimp only[Tryz.f274];push_cast -dsimp;exact dn
theorem u6 (k:zP) (n:Int):Fun Tryz.prog G 294 [.agg (Js k),.sc (.int .i64 n),.row [.clo (.func 274) [] []]] (.sc (.int .i64 (Ug k.slot n))) 0:=by
 refine fon Tryz.func294 ?_;dsimp only[Tryz.f294];push_cast -dsimp;refine cl (ziw k) ?_;push_cast -dsimp;refine cl (yY k.slot n) ?_;push_cast -dsimp;exact dn
theorem My (ks:List zP) (n:Int) (hl:ks.length<=100000) (hR:qF j6 zP.slot ks) :
  Fun Tryz.prog G 293 [.sl 4 (zG ks),.sc (.int .i64 n),.clo (.func 294) [] [.row [.clo (.func 274) [] []]]] (.tup [.sc (.int .i64 (qk j6 zP.slot n ks:Nat)),.sc (.bool (YG zP.slot n ks))]) 0:=by
 refine fon Tryz.func293 ?_;dsimp only[Tryz.f293];push_cast -dsimp;refine loop (fun p:Nat×Nat=>⟨[(0,.sl 4 (zG ks)),(1,.sc (.int .i64 n)),(2,.clo (.func 294) [] [.row [.clo (.func 274) [] []]]),(8,.sc (.int .i64 (ks.length:Nat))),(9,.sc (.int .i64 p.1)),(10,.sc (.int .i64 p.2))],[],0,0⟩)
  (fun p=>p.1<=p.2/\p.2<=ks.length/\(∀ t (h:t<ks.length),t<p.1->(j6).lt (zP.slot ks[t]) n=true)/\∀ t (h:t<ks.length),p.2<=t->(j6).lt (zP.slot ks[t]) n=false) (fun p=>p.2-p.1) (0,ks.length) ⟨Nat.zero_le _,Nat.le_refl _,fun t _ h=>by (simp at h),fun t h h'=>by (dsimp only at h';omega)⟩ ?_ ?_
 ·exact wk (by push_cast -dsimp [ze,zd,CLe,zg,List.length_map])
 ·rintro ⟨i,j⟩ ⟨h1,h2,h3,h4⟩;dsimp only at h1 h2 h3 h4 ⊢;by_cases h:i<j
  ·obtain ⟨m,hm⟩:∃ m,m=(i+j) / 2:=⟨_,rfl⟩;have hmi:((i:Int)+(j:Int)) / 2=(m:Int):=by omega
   have hml:m<ks.length:=by omega
   have hat:=jT ks m hml;have hlt:=(zeF ks[m].slot n);push_cast -dsimp [h,hmi,hat]
   repeat refine an ?_
   refine cl ((u6 ks[m] n)) ?_;push_cast -dsimp;cases hc:(j6).lt (zP.slot ks[m]) n with
   | true =>
    have hcv:(Ug ks[m].slot n<0)=True:=eq_true (hlt.mpr hc);push_cast -dsimp [hcv]
    repeat refine an ?_
    refine ⟨(m+1,j),⟨by omega,h2,fun t ht hlt2=>?_,h4⟩,by dsimp only;omega,wk⟩;dsimp only at hlt2;rcases Nat.lt_or_ge t m with q | q
    ·exact (j6).tr ((List.pairwise_iff_getElem.1 hR) t m ht hml q) hc
    ·have:t=m:=by omega
     subst this;exact hc
   | false =>
    have hcv:(Ug ks[m].slot n<0)=False:=eq_false (fun e=>by have h7:(j6).lt (zP.slot ks[m]) n=true:=hlt.mp e;rw[hc]at h7;cases h7);push_cast -dsimp [hcv]
    repeat refine an ?_
    refine ⟨(i,m),⟨by omega,by omega,h3,fun t ht hge=>?_⟩,by dsimp only;omega,wk⟩;dsimp only at hge;rcases Nat.lt_or_ge m t with q | q
    ·cases h9:(j6).lt (zP.slot ks[t]) n with
     | false=>rfl
     | true=>have:=(j6).tr ((List.pairwise_iff_getElem.1 hR) m t hml ht q) h9;rw[hc]at this;cases this
    ·have:t=m:=by omega
     subst this;exact hc
  ·have hij:i=j:=by omega
   subst hij;have hrk:=ZC (o:=j6) (key:=zP.slot) n ks i h2 h3 h4;push_cast -dsimp [h];refine br (fun hx=>?_) (fun hx=>?_)
   ·have hx:i<ks.length:=by simpa using hx
    have hat:=jT ks i hx;have hh:=yb n hR hrk hx;push_cast -dsimp [hx,hat]
    repeat refine an ?_
    refine cl ((u6 ks[i] n)) ?_;push_cast -dsimp;have hcv:decide (Ug ks[i].slot n=0)=YG zP.slot n ks:=by
     rw[hh];exact decide_eq_decide.2 (zeC ks[i].slot n)
    push_cast -dsimp [hcv];exact dn (by push_cast -dsimp [ze,zd,CLe,zg,hrk])
   ·have hx:¬i<ks.length:=by simpa using hx
    have hh:=H6 n hR (by omega);push_cast -dsimp [hx];exact dn (by push_cast -dsimp [ze,zd,CLe,zg,hrk,hh])
theorem x4 (ks:List zP) (n:Int) (hl:ks.length<=100000) (hR:qF j6 zP.slot ks):Fun Tryz.prog G 273 [.sl 4 (zG ks),.sc (.int .i64 n),.clo (.func 274) [] []] (.tup [.sc (.int .i64 (qk j6 zP.slot n ks:Nat)),.sc (.bool (YG zP.slot n ks))]) 0:=by
 refine fon Tryz.func273 ?_;dsimp only[Tryz.f273];push_cast -dsimp;refine znI [.sl 4 (zG ks),.sc (.int .i64 n),.clo (.func 294) [] [.row [.clo (.func 274) [] []]]] (My ks n hl hR) rfl ?_ ?_
 ·simp[Xv,X1,C.frz,C.frzL]
 push_cast -dsimp;exact dn
def zdE (n:Int) (ks:List zP):zP:=(Jk zP.slot n ks).getD zmU
theorem zdq (w:qA) (n:Int) (hl:w.kept.length<=100000) (hR:qF j6 zP.slot w.kept):Fun Tryz.prog G 246 [Qv w,.sc (.int .i64 n)] (.tup [.agg (Js (zdE n w.kept)),.sc (.bool (zah n w.kept))]) 0:=by
 obtain ⟨_,_,h3,h4⟩:=V2 n hR;have h:=x4 (G:=G) w.kept n hl hR;cases hh:YG zP.slot n w.kept with
 | false =>
  have hf:zdE n w.kept=zmU:=by unfold zdE;rw[(h4 hh).1];rfl
  have he:zah n w.kept=false:=hh;rw[hh]at h;refine fon Tryz.func246 ?_;dsimp only[Tryz.f246];push_cast -dsimp;refine cl (h) ?_;push_cast -dsimp;exact dn (by push_cast -dsimp [ze,zd,CLe,zg,hf,he,zmU])
 | true =>
  obtain ⟨hlt,_,g2,_⟩:=h3 hh;have hf:zdE n w.kept=w.kept[qk j6 zP.slot n w.kept]:=by unfold zdE;rw[g2];rfl
  have he:zah n w.kept=true:=hh;have hat:=jT w.kept _ hlt;rw[hh]at h;refine fon Tryz.func246 ?_;dsimp only[Tryz.f246];push_cast -dsimp;refine cl (h) ?_;push_cast -dsimp [hat]
  repeat refine an ?_
  exact dn (by push_cast -dsimp [ze,zd,CLe,zg,hf,he])
end
end
section
open Go.RowKit Go.ChangeMaps Go.ChangeShapes Go.WideShapes Go.Deep Go.Joins
section
variable {H:Type} {enc:TypeId×Value->H} {P:Program} {W:World}
theorem jr.two {t:TypeId} {f1 f2:Field} {k1 k2:Nat} {Q1 Q2:List C->Prop} (hs:P.underlying t=some (.struct #[f1,f2])) (h1:jr enc P W f1.type k1 Q1) (h2:jr enc P W f2.type k2 Q2)
  (e1:f1.offset=0) (e2:P.cellsOf f1.type=k1) (e3:f2.offset=k1) (e4:P.cellsOf f2.type=k2) (e5:P.cellsOf t=k1+k2):jr enc P W t (k1+k2) fun row=>∃ a b,row=a++b/\Q1 a/\Q2 b:=fun fuel cs x hx=>by
 obtain ⟨ys,n',hn',hy,hlen,hyl,hf⟩:=DataW.trod_struct hs hx;rw[e5]at hlen;have g1:=hf 0 f1 rfl;have g2:=hf 1 f2 rfl;have hy2:ys.length=2:=by simpa using hyl
 rw[e1,e2,List.drop_zero,List.getElem?_eq_getElem (by omega)]at g1;rw[e3,e4,List.getElem?_eq_getElem (by omega)]at g2;obtain ⟨a,qa,la,la',ra⟩:=h1 _ _ _ g1;obtain ⟨b,qb,lb,lb',rb⟩:=h2 _ _ _ g2;refine ⟨a++b,⟨a,b,rfl,qa,qb⟩,by rw[List.length_append,la,lb],hlen,fun j c v h3 h4=>?_⟩;rcases Nat.lt_or_ge j k1 with hj | hj
 ·rw[List.getElem?_append_left (by omega)]at h3;exact ra j c v h3 (by rw[List.getElem?_take_of_lt hj];exact h4)
 ·rw[List.getElem?_append_right (by omega),la]at h3;have hjl:=(List.getElem?_eq_some_iff.1 h3).1;refine rb (j-k1) c v h3 ?_;rw[List.getElem?_take_of_lt (by omega),List.getElem?_drop,show k1+(j-k1)=j by omega];exact h4
theorem zic:jr enc Tryz.prog W 105 4 fun row=>∃ o:zP,row=Js o/\o.data.length<=maxLen:=fun fuel cs x hx=>by
 obtain ⟨row,⟨hl,hq⟩,h1,h2,h3⟩:=jr.struct (W:=W) (enc:=enc) (Qs:=fun j c=>match j with | 0=>∃ n,c = .sc (.int .i64 n)/\(Lit.int .i64 n).wf=true | 1=>∃ n,c = .sc (.int .i64 n)/\(Lit.int .i64 n).wf=true | 2=>∃ b,c = .sc (.bool b) | 3=>∃ l:List UInt8,c = .str l/\l.length<=maxLen | _=>True) Tryz.underlying105 (by kernel_rfl) (by kernel_rfl) (fun j f hj=>by
  match j,hj with
  | 0,hj=>cases hj;exact Opn.int Tryz.underlying3
  | 1,hj=>cases hj;exact Opn.int Tryz.underlying3
  | 2,hj=>cases hj;exact Opn.bool Tryz.underlying4
  | 3,hj=>cases hj;exact Opn.str Tryz.underlying9
  | j+4,hj=>simp at hj) fuel cs x hx
 match row,h1,hq,h3 with
 | [c0,c1,c2,c3],_,hq,h3 =>
  obtain ⟨a,rfl,_⟩:=hq 0 c0 rfl;obtain ⟨b,rfl,_⟩:=hq 1 c1 rfl;obtain ⟨c,rfl⟩:=hq 2 c2 rfl;obtain ⟨d,rfl,hd⟩:=hq 3 c3 rfl;exact ⟨_,⟨⟨a,b,c,d⟩,rfl,hd⟩,rfl,h2,h3⟩
theorem zdH:Opn enc Tryz.prog W 25 fun c=>∃ xs:List zP,c = .sl 4 (zG xs)/\xs.length<=maxLen/\∀ x∈xs,x.data.length<=maxLen:=fun fuel cs x hx=>by
 obtain ⟨v,c,rfl,⟨rows,rfl,hl,hr⟩,h1,h2⟩:=Opn.slice (W:=W) (enc:=enc) Tryz.underlying25 (show Tryz.prog.cellsOf 105=4 by kernel_rfl) (by decide) zic fuel cs x hx;obtain ⟨xs,rfl,hq⟩:=H3 hr;exact ⟨v,_,rfl,⟨xs,rfl,by simpa using hl,hq⟩,h1,h2⟩
theorem zeu:jr enc Tryz.prog W 27 2 fun row=>∃ (ks:List zP) (pool:List zm),row = [.sl 4 (zG ks),.sl 6 (zq pool)]/\ks.length<=maxLen/\pool.length<=maxLen:=fun fuel cs x hx=>by
 obtain ⟨row,⟨hl,hq⟩,h1,h2,h3⟩:=jr.struct (W:=W) (enc:=enc) (Qs:=fun j c=>match j with | 0=>∃ xs:List zP,c = .sl 4 (zG xs)/\xs.length<=maxLen/\∀ x∈xs,x.data.length<=maxLen | 1=>∃ xs:List zm,c = .sl 6 (zq xs)/\xs.length<=maxLen/\∀ x∈xs,zga x | _=>True) Tryz.underlying27 (by kernel_rfl) (by kernel_rfl) (fun j f hj=>by
  match j,hj with
  | 0,hj=>cases hj;exact zdH
  | 1,hj=>cases hj;exact vZ
  | j+2,hj=>simp at hj) fuel cs x hx
 match row,h1,hq,h3 with
 | [c0,c1],_,hq,h3 =>
  obtain ⟨a,rfl,ha,_⟩:=hq 0 c0 rfl;obtain ⟨b,rfl,hb,_⟩:=hq 1 c1 rfl;exact ⟨_,⟨a,b,rfl,ha,hb⟩,rfl,h2,h3⟩
theorem zf0:jr enc Tryz.prog W 29 6 fun row=>∃ w:qA,row=HB w/\w.fs.xs.length<=maxLen:=fun fuel cs x hx=>by
 obtain ⟨row,⟨a,b,rfl,⟨f,rfl,hf,_⟩,⟨ks,pool,rfl,_⟩⟩,h1,h2,h3⟩:=jr.two (W:=W) (enc:=enc) Tryz.underlying29 zoX zeu rfl (by kernel_rfl) rfl (by kernel_rfl) (by kernel_rfl) fuel cs x hx;exact ⟨_,⟨⟨f,ks,pool⟩,rfl,hf⟩,h1,h2,h3⟩
end
end
section
open CA CB
open Go.RowKit
section
variable {G:zp}
theorem zV {ks:List zP}:∀ r∈zG ks,r.length=4:=fun r hr=>by
 obtain ⟨x,_,rfl⟩:=List.mem_map.1 hr;rfl
theorem zr {ks:List zP}:jd (zG ks):=fun r hr=>by
 obtain ⟨x,_,rfl⟩:=List.mem_map.1 hr;rfl
theorem zcS (w:qA) (k:zP) (hl:w.kept.length<=90000) (hR:qF j6 zP.slot w.kept) (hn:zah k.slot w.kept=false):Fun Tryz.prog G 252 [Qv w,.agg (Js k)] (Qv { w with kept:=qC k w.kept }) 0:=by
 obtain ⟨_,_,h3,h4⟩:=V2 (o:=j6) k.slot hR;have hll:(zG w.kept).length=w.kept.length:=List.length_map ..;have hat:=x4 (G:=G) w.kept k.slot (by omega) hR;have hrl:=Q3 (o:=j6) (key:=zP.slot) k.slot w.kept;have hn':YG zP.slot k.slot w.kept=false:=hn;rw[hn']at hat;have hw:qC k w.kept=w.kept.take (qk j6 zP.slot k.slot w.kept)++k :: w.kept.drop (qk j6 zP.slot k.slot w.kept):=(h4 hn').2.2 k rfl;have hset:zG (qC k w.kept)=(zG w.kept).take (qk j6 zP.slot k.slot w.kept)++Js k :: (zG w.kept).drop (qk j6 zP.slot k.slot w.kept):=by rw[hw];simp
 have hsl:(zG (qC k w.kept)).length=(zG w.kept).length+1:=by rw[hset];simp;omega
 refine foF (fun i=>if i=2 then QT [(0,.pure),(1,.pure),(2,.pure),(4,.pure),(5,.pure),(6,.pure),(3,.flt [3,4,5]),(7,.bar),(8,.pure),(9,.pure),(10,.bar)] else []) Tryz.func252 ?_;dsimp only[Tryz.f252];push_cast -dsimp;refine cl (hat) ?_;push_cast -dsimp;refine zlK [] (Hk (zG w.kept) zV zr (by omega)) (by decide) (by simp) (by push_cast -dsimp) (by push_cast -dsimp) (fun r bx' m hp=>?_);obtain ⟨rfl,⟨hne,c,h1,h2,rfl,rfl⟩ | ⟨he,⟨rfl,rfl⟩ | ⟨rfl,rfl⟩⟩⟩:=hp
 ·have hbl:=Jt zV h1;have hre:∀ fp fo,C.reL fp fo (qr 4 (zG w.kept) c)=qr 4 (zG w.kept) c:=fun fp fo=>zB (zD zr);have hpos:=List.length_pos_iff.2 hne;have hre2:∀ fp fo c,C.reL fp fo (qr 4 (zG (qC k w.kept)) c)=qr 4 (zG (qC k w.kept)) c:=fun fp fo c=>zB (zD zr);push_cast -dsimp [hre];refine jo [4] [0] (V8 (e:=105) (zG w.kept) (Js k) (qk j6 zP.slot k.slot w.kept) c zV rfl zr rfl (by omega) (by omega) h1 h2) rfl (by decide) (by decide) (by simp) (by push_cast -dsimp) (by push_cast -dsimp [hre]) (fun r bx' m hp=>?_);rw[←hset]at hp;obtain ⟨rfl,c',g1,g2,⟨rfl,rfl⟩ | ⟨rfl,rfl⟩⟩:=hp
  ·push_cast -dsimp [hre2,hre];exact ⟨[(4,105,4,zG (qC k w.kept),c')],[],zx rfl (by omega) g1 g2 zV zr,rfl,rfl,by push_cast -dsimp [ze,zd,CLe,zg]⟩
  ·have hra:∀ fp fo,C.reL fp fo (List.replicate (c*4) .any)=List.replicate (c*4) .any:=fun fp fo=>zB (by simp[List.all_replicate,C.stayB]);push_cast -dsimp [hre2,hre,hra];exact ⟨[(5,105,4,zG (qC k w.kept),c')],[],zx rfl (by omega) g1 g2 zV zr,rfl,rfl,by push_cast -dsimp [ze,zd,CLe,zg]⟩
 ·have he:w.kept = []:=by simpa using he
  have hr0:qk j6 zP.slot k.slot w.kept=0:=by rw[he];rfl
  have hs1:qC k w.kept = [k]:=by rw[he];rfl
  push_cast -dsimp [hr0];refine jo [] [0] (uY (e:=105) (Js k) rfl rfl) rfl (by decide) (by decide) (by simp) (by push_cast -dsimp) (by push_cast -dsimp) (fun r bx' m hp=>?_);obtain ⟨rfl,c,g1,g2,rfl,rfl⟩:=hp;have hre:∀ fp fo,C.reL fp fo (qr 4 [Js k] c)=qr 4 [Js k] c:=fun fp fo=>zB (zD (zr (ks:=[k])));push_cast -dsimp [hre];exact ⟨[(3,105,4,zG [k],c)],[],zx rfl (by omega) g1 g2 zV zr,rfl,rfl,by push_cast -dsimp [ze,zd,CLe,zg,hs1]⟩
 ·have he:w.kept = []:=by simpa using he
  have hr0:qk j6 zP.slot k.slot w.kept=0:=by rw[he];rfl
  have hs1:qC k w.kept = [k]:=by rw[he];rfl
  push_cast -dsimp [hr0];refine jo [3] [0] (V8 (e:=105) [] (Js k) 0 0 (fun r hr=>by cases hr) rfl (fun r hr=>by cases hr) rfl (by simp) (by simp) (by simp) (by simp)) rfl (by decide) (by decide) (by simp) (by push_cast -dsimp) (by push_cast -dsimp [qr]) (fun r bx' m hp=>?_);obtain ⟨rfl,c,g1,g2,hp⟩:=hp;have hre:∀ fp fo,C.reL fp fo (qr 4 [Js k] c)=qr 4 [Js k] c:=fun fp fo=>zB (zD (zr (ks:=[k])));rcases hp with ⟨rfl,rfl⟩ | ⟨rfl,rfl⟩
  ·push_cast -dsimp [hre];exact ⟨[(3,105,4,zG [k],c)],[],zx rfl (Nat.lt_of_lt_of_le (Nat.zero_lt_succ _) g1) g1 g2 zV zr,rfl,rfl,by push_cast -dsimp [ze,zd,CLe,zg,hs1]⟩
  ·push_cast -dsimp [hre];exact ⟨[(4,105,4,zG [k],c)],[],zx rfl (Nat.lt_of_lt_of_le (Nat.zero_lt_succ _) g1) g1 g2 zV zr,rfl,rfl,by push_cast -dsimp [ze,zd,CLe,zg,hs1]⟩
theorem Ma (f:FsV) (hf:FsI f) (hs:FsS f) (p:List UInt8) (hp:p.length<=1000000):Fun Tryz.prog G0 243 [.agg (fsC f),.str p] (.tup [.agg (QS (isV f p true).1),.agg (JU (isV f p true).2.1),.sc (.int .i64 (isV f p true).2.2)]) 0:=by
 have h1:=Gg f hf hs p hp;have h2:=qY (G:=G0) f (atV f p).1.ino (by have:=hs.len;omega) hf.rises;have e1:(isV f p true).1=(atV f p).1:=rfl;have e2:(isV f p true).2.1=zf (atV f p).1.ino f.xs:=rfl;by_cases h0:(atV f p).2=0
 ·have h0':=eq_true h0;cases hz:zk (atV f p).1.ino f.xs with
  | true =>
   have e3:(isV f p true).2.2=0:=by unfold isV;simp[h0,hz]
   rw[hz]at h2;refine fof (fun i=>if i=4 then QT [(0,.pure),(1,.pure),(2,.pure),(3,.flt [1,2]),(4,.flt [2]),(5,.pure)] else if i=6 then QT [(0,.pure),(1,.pure),(2,.flt [1]),(3,.flt []),(4,.pure)] else if i=7 then QT [(0,.pure),(1,.pure),(2,.flt [1]),(3,.flt []),(4,.pure)] else []) Tryz.func243 ?_;dsimp only[Tryz.f243];push_cast -dsimp;refine cl (h1) ?_;push_cast -dsimp;refine cl (h2) ?_;push_cast -dsimp [h0'];exact dn (by push_cast -dsimp [ze,zd,CLe,zg,e1,e2,e3])
  | false =>
   have e3:(isV f p true).2.2=1:=by unfold isV;simp[h0,hz]
   rw[hz]at h2;refine fof (fun i=>if i=4 then QT [(0,.pure),(1,.pure),(2,.pure),(3,.flt [1,2]),(4,.flt [2]),(5,.pure)] else if i=6 then QT [(0,.pure),(1,.pure),(2,.flt [1]),(3,.flt []),(4,.pure)] else if i=7 then QT [(0,.pure),(1,.pure),(2,.flt [1]),(3,.flt []),(4,.pure)] else []) Tryz.func243 ?_;dsimp only[Tryz.f243];push_cast -dsimp;refine cl (h1) ?_;push_cast -dsimp;refine cl (h2) ?_;push_cast -dsimp [h0'];exact dn (by push_cast -dsimp [ze,zd,CLe,zg,e1,e2,e3])
 ·have h0':=eq_false h0;have e3:(isV f p true).2.2=(atV f p).2:=by unfold isV;simp[h0]
  refine fof (fun i=>if i=4 then QT [(0,.pure),(1,.pure),(2,.pure),(3,.flt [1,2]),(4,.flt [2]),(5,.pure)] else if i=6 then QT [(0,.pure),(1,.pure),(2,.flt [1]),(3,.flt []),(4,.pure)] else if i=7 then QT [(0,.pure),(1,.pure),(2,.flt [1]),(3,.flt []),(4,.pure)] else []) Tryz.func243 ?_;dsimp only[Tryz.f243];push_cast -dsimp;refine cl (h1) ?_;push_cast -dsimp;refine cl (h2) ?_;push_cast -dsimp [h0',ite_self];exact dn (by push_cast -dsimp [ze,zd,CLe,zg,e1,e2,e3])
end
end
section
open CA CB
open Go.RowKit
section
variable {G:zp}
theorem zgT (k:zm):Fun Tryz.prog G 249 [.agg (JU k)] (.sc (.int .i64 k.ino)) 0:=by
 refine fon Tryz.func249 ?_;dsimp only[Tryz.f249];push_cast -dsimp;exact dn
theorem uz (k:zm) (n:Int):Fun Tryz.prog G 276 [.agg (JU k),.sc (.int .i64 n),.row [.clo (.func 249) [] []]] (.sc (.int .i64 (Ug k.ino n))) 0:=by
 refine fon Tryz.func276 ?_;dsimp only[Tryz.f276];push_cast -dsimp;refine cl (zgT k) ?_;push_cast -dsimp;refine cl (yY k.ino n) ?_;push_cast -dsimp;exact dn
theorem Mz (ks:List zm) (n:Int) (hl:ks.length<=100000) (hR:qF j6 zm.ino ks) :
  Fun Tryz.prog G 180 [.sl 6 (zq ks),.sc (.int .i64 n),.clo (.func 276) [] [.row [.clo (.func 249) [] []]]] (.tup [.sc (.int .i64 (qk j6 zm.ino n ks:Nat)),.sc (.bool (YG zm.ino n ks))]) 0:=by
 refine fon Tryz.func180 ?_;dsimp only[Tryz.f180];push_cast -dsimp;refine loop (fun p:Nat×Nat=>⟨[(0,.sl 6 (zq ks)),(1,.sc (.int .i64 n)),(2,.clo (.func 276) [] [.row [.clo (.func 249) [] []]]),(8,.sc (.int .i64 (ks.length:Nat))),(9,.sc (.int .i64 p.1)),(10,.sc (.int .i64 p.2))],[],0,0⟩)
  (fun p=>p.1<=p.2/\p.2<=ks.length/\(∀ t (h:t<ks.length),t<p.1->(j6).lt (zm.ino ks[t]) n=true)/\∀ t (h:t<ks.length),p.2<=t->(j6).lt (zm.ino ks[t]) n=false) (fun p=>p.2-p.1) (0,ks.length) ⟨Nat.zero_le _,Nat.le_refl _,fun t _ h=>by (simp at h),fun t h h'=>by (dsimp only at h';omega)⟩ ?_ ?_
 ·exact wk (by push_cast -dsimp [ze,zd,CLe,zg,List.length_map])
 ·rintro ⟨i,j⟩ ⟨h1,h2,h3,h4⟩;dsimp only at h1 h2 h3 h4 ⊢;by_cases h:i<j
  ·obtain ⟨m,hm⟩:∃ m,m=(i+j) / 2:=⟨_,rfl⟩;have hmi:((i:Int)+(j:Int)) / 2=(m:Int):=by omega
   have hml:m<ks.length:=by omega
   have hat:=qU ks m hml;have hlt:=(zeF ks[m].ino n);push_cast -dsimp [h,hmi,hat]
   repeat refine an ?_
   refine cl ((uz ks[m] n)) ?_;push_cast -dsimp;cases hc:(j6).lt (zm.ino ks[m]) n with
   | true =>
    have hcv:(Ug ks[m].ino n<0)=True:=eq_true (hlt.mpr hc);push_cast -dsimp [hcv]
    repeat refine an ?_
    refine ⟨(m+1,j),⟨by omega,h2,fun t ht hlt2=>?_,h4⟩,by dsimp only;omega,wk⟩;dsimp only at hlt2;rcases Nat.lt_or_ge t m with q | q
    ·exact (j6).tr ((List.pairwise_iff_getElem.1 hR) t m ht hml q) hc
    ·have:t=m:=by omega
     subst this;exact hc
   | false =>
    have hcv:(Ug ks[m].ino n<0)=False:=eq_false (fun e=>by have h7:(j6).lt (zm.ino ks[m]) n=true:=hlt.mp e;rw[hc]at h7;cases h7);push_cast -dsimp [hcv]
    repeat refine an ?_
    refine ⟨(i,m),⟨by omega,by omega,h3,fun t ht hge=>?_⟩,by dsimp only;omega,wk⟩;dsimp only at hge;rcases Nat.lt_or_ge m t with q | q
    ·cases h9:(j6).lt (zm.ino ks[t]) n with
     | false=>rfl
     | true=>have:=(j6).tr ((List.pairwise_iff_getElem.1 hR) m t hml ht q) h9;rw[hc]at this;cases this
    ·have:t=m:=by omega
     subst this;exact hc
  ·have hij:i=j:=by omega
   subst hij;have hrk:=ZC (o:=j6) (key:=zm.ino) n ks i h2 h3 h4;push_cast -dsimp [h];refine br (fun hx=>?_) (fun hx=>?_)
   ·have hx:i<ks.length:=by simpa using hx
    have hat:=qU ks i hx;have hh:=yb n hR hrk hx;push_cast -dsimp [hx,hat]
    repeat refine an ?_
    refine cl ((uz ks[i] n)) ?_;push_cast -dsimp;have hcv:decide (Ug ks[i].ino n=0)=YG zm.ino n ks:=by
     rw[hh];exact decide_eq_decide.2 (zeC ks[i].ino n)
    push_cast -dsimp [hcv];exact dn (by push_cast -dsimp [ze,zd,CLe,zg,hrk])
   ·have hx:¬i<ks.length:=by simpa using hx
    have hh:=H6 n hR (by omega);push_cast -dsimp [hx];exact dn (by push_cast -dsimp [ze,zd,CLe,zg,hrk,hh])
theorem zmW (ks:List zm) (n:Int) (hl:ks.length<=100000) (hR:qF j6 zm.ino ks):Fun Tryz.prog G 248 [.sl 6 (zq ks),.sc (.int .i64 n),.clo (.func 249) [] []] (.tup [.sc (.int .i64 (qk j6 zm.ino n ks:Nat)),.sc (.bool (YG zm.ino n ks))]) 0:=by
 refine fon Tryz.func248 ?_;dsimp only[Tryz.f248];push_cast -dsimp;refine znI [.sl 6 (zq ks),.sc (.int .i64 n),.clo (.func 276) [] [.row [.clo (.func 249) [] []]]] (Mz ks n hl hR) rfl ?_ ?_
 ·simp[Xv,X1,C.frz,C.frzL]
 push_cast -dsimp;exact dn
end
end
section
open CA CB
open Go.RowKit
section
variable {G:zp}
abbrev zqq (w:qA) (kc pc:C):C:=.agg [.sc (.int .i64 w.fs.maxI),.sc (.int .i64 w.fs.maxB),.sc (.int .i64 w.fs.next),.sl 6 (zq w.fs.xs),kc,pc]
def zq5 (w:qA) (k:zP) (B:List C) (pn pc:Nat) (r:C) (bx':List (List C)) (m:Nat):Prop:=
 m=0/\∃ (c':Nat) (Ls:List (List C)),(Ls = []∨(∃ X,Ls = [X]/\(X.all C.stayB)=true)∨∃ X Y,Ls = [X,Y]/\(X.all C.stayB)=true/\(Y.all C.stayB)=true)/\(zG (qC k w.kept)).length<=c'/\c'<=9223372036854775807/\r=zqq w (.bs (4+Ls.length) 0 4 (zG (qC k w.kept)).length c') (.bs 0 0 6 pn pc) /\
  bx'=B :: [.any,.any,.any,.any,.any,.any] :: [.any,.any,.any,.any] :: [.any,.any,.any,.any,.any,.any] :: (Ls++[qr 4 (zG (qC k w.kept)) c'])
theorem ky (w:qA) (k:zP) (B:List C) (pn pc:Nat) (hB:(B.all C.stayB)=true) (hl:w.kept.length<=90000) (hR:qF j6 zP.slot w.kept) (hn:zah k.slot w.kept=false):Yr Tryz.prog G 252 [zqq w (.sl 4 (zG w.kept)) (.bs 0 0 6 pn pc),.agg (Js k)] [B] 0 (zq5 w k B pn pc):=by
 obtain ⟨_,_,h3,h4⟩:=V2 (o:=j6) k.slot hR;have hll:(zG w.kept).length=w.kept.length:=List.length_map ..;have hat:=x4 (G:=G) w.kept k.slot (by omega) hR;have hrl:=Q3 (o:=j6) (key:=zP.slot) k.slot w.kept;have hn':YG zP.slot k.slot w.kept=false:=hn;rw[hn']at hat;have hw:qC k w.kept=w.kept.take (qk j6 zP.slot k.slot w.kept)++k :: w.kept.drop (qk j6 zP.slot k.slot w.kept):=(h4 hn').2.2 k rfl;have hset:zG (qC k w.kept)=(zG w.kept).take (qk j6 zP.slot k.slot w.kept)++Js k :: (zG w.kept).drop (qk j6 zP.slot k.slot w.kept):=by rw[hw];simp
 have hsl:(zG (qC k w.kept)).length=(zG w.kept).length+1:=by rw[hset];simp;omega
 refine foX (fun i=>if i=2 then QT [(0,.pure),(1,.pure),(2,.pure),(4,.pure),(5,.pure),(6,.pure),(3,.flt [3,4,5]),(7,.bar),(8,.pure),(9,.pure),(10,.bar)] else []) Tryz.func252 ?_;dsimp only[Tryz.f252];have hBr:∀ fp fo,C.reL fp fo B=B:=fun fp fo=>zB hB;push_cast -dsimp;refine cl (hat) ?_;push_cast -dsimp;refine zlK [] (Hk (zG w.kept) zV zr (by omega)) (by decide) (by simp) (by push_cast -dsimp) (by push_cast -dsimp) (fun r bx' m hp=>?_);obtain ⟨rfl,⟨hne,c,h1,h2,rfl,rfl⟩ | ⟨he,⟨rfl,rfl⟩ | ⟨rfl,rfl⟩⟩⟩:=hp
 ·have hbl:=Jt zV h1;have hre:∀ fp fo,C.reL fp fo (qr 4 (zG w.kept) c)=qr 4 (zG w.kept) c:=fun fp fo=>zB (zD zr);have hpos:=List.length_pos_iff.2 hne;have hre2:∀ fp fo c,C.reL fp fo (qr 4 (zG (qC k w.kept)) c)=qr 4 (zG (qC k w.kept)) c:=fun fp fo c=>zB (zD zr);push_cast -dsimp [hre,hBr];refine jo [5] [0] (V8 (e:=105) (zG w.kept) (Js k) (qk j6 zP.slot k.slot w.kept) c zV rfl zr rfl (by omega) (by omega) h1 h2) rfl (by decide) (by decide) (by simp) (by push_cast -dsimp [hBr]) (by push_cast -dsimp [hre,hBr]) (fun r bx' m hp=>?_);rw[←hset]at hp;obtain ⟨rfl,c',g1,g2,⟨rfl,rfl⟩ | ⟨rfl,rfl⟩⟩:=hp
  ·push_cast -dsimp [hre2,hre,hBr];refine ⟨_,_,0,⟨⟨rfl,c',[[]],.inr (.inl ⟨[],rfl,rfl⟩),g1,g2,rfl,rfl⟩,by simp⟩,[],rfl,rfl,?_,by push_cast -dsimp [ze,zd,CLe,zg]⟩;push_cast -dsimp [ze,zd,CLe,zg];exact ⟨zO hB,zO (zD zr)⟩
  ·have hra:∀ fp fo,C.reL fp fo (List.replicate (c*4) .any)=List.replicate (c*4) .any:=fun fp fo=>zB (by simp[List.all_replicate,C.stayB]);push_cast -dsimp [hre2,hre,hra,hBr];refine ⟨_,_,0,⟨⟨rfl,c',[[],List.replicate (c*4) .any],.inr (.inr ⟨[],_,rfl,rfl,by simp[List.all_replicate,C.stayB]⟩),g1,g2,rfl,rfl⟩,by simp⟩,[],rfl,rfl,?_,by push_cast -dsimp [ze,zd,CLe,zg]⟩;push_cast -dsimp [ze,zd,CLe,zg];exact ⟨zO hB,zO (by simp[List.all_replicate,C.stayB]),zO (zD zr)⟩
 ·have he:w.kept = []:=by simpa using he
  have hr0:qk j6 zP.slot k.slot w.kept=0:=by rw[he];rfl
  have hs1:qC k w.kept = [k]:=by rw[he];rfl
  push_cast -dsimp [hr0];refine jo [] [0] (uY (e:=105) (Js k) rfl rfl) rfl (by decide) (by decide) (by simp) (by push_cast -dsimp) (by push_cast -dsimp) (fun r bx' m hp=>?_);obtain ⟨rfl,c,g1,g2,rfl,rfl⟩:=hp;have hre:∀ fp fo,C.reL fp fo (qr 4 [Js k] c)=qr 4 [Js k] c:=fun fp fo=>zB (zD (zr (ks:=[k])));push_cast -dsimp [hre,hBr];refine ⟨zqq w (.bs 4 0 4 1 c) (.bs 0 0 6 pn pc),B :: [.any,.any,.any,.any,.any,.any] :: [.any,.any,.any,.any] :: [.any,.any,.any,.any,.any,.any] :: ([]++[qr 4 [Js k] c]),0,⟨⟨rfl,c,[],.inl rfl,by rw[hs1];exact g1,g2,by rw[hs1];rfl,by rw[hs1];rfl⟩,by simp⟩,[],rfl,rfl,?_,by push_cast -dsimp [ze,zd,CLe,zg]⟩;push_cast -dsimp [ze,zd,CLe,zg];exact ⟨zO hB,zO (zD (zr (ks:=[k])))⟩
 ·have he:w.kept = []:=by simpa using he
  have hr0:qk j6 zP.slot k.slot w.kept=0:=by rw[he];rfl
  have hs1:qC k w.kept = [k]:=by rw[he];rfl
  push_cast -dsimp [hr0];refine jo [4] [0] (V8 (e:=105) [] (Js k) 0 0 (fun r hr=>by cases hr) rfl (fun r hr=>by cases hr) rfl (by simp) (by simp) (by simp) (by simp)) rfl (by decide) (by decide) (by simp) (by push_cast -dsimp) (by push_cast -dsimp [qr]) (fun r bx' m hp=>?_);obtain ⟨rfl,c,g1,g2,hp⟩:=hp;have hre:∀ fp fo,C.reL fp fo (qr 4 [Js k] c)=qr 4 [Js k] c:=fun fp fo=>zB (zD (zr (ks:=[k])));rcases hp with ⟨rfl,rfl⟩ | ⟨rfl,rfl⟩
  ·push_cast -dsimp [hre,hBr];refine ⟨zqq w (.bs 4 0 4 1 c) (.bs 0 0 6 pn pc),B :: [.any,.any,.any,.any,.any,.any] :: [.any,.any,.any,.any] :: [.any,.any,.any,.any,.any,.any] :: ([]++[qr 4 [Js k] c]),0,⟨⟨rfl,c,[],.inl rfl,by rw[hs1];exact g1,g2,by rw[hs1];rfl,by rw[hs1];rfl⟩,by simp⟩,[],rfl,rfl,?_,by push_cast -dsimp [ze,zd,CLe,zg]⟩;push_cast -dsimp [ze,zd,CLe,zg];exact ⟨zO hB,zO (zD (zr (ks:=[k])))⟩
  ·push_cast -dsimp [hre,hBr];refine ⟨zqq w (.bs 5 0 4 1 c) (.bs 0 0 6 pn pc),B :: [.any,.any,.any,.any,.any,.any] :: [.any,.any,.any,.any] :: [.any,.any,.any,.any,.any,.any] :: ([[]]++[qr 4 [Js k] c]),0,⟨⟨rfl,c,[[]],.inr (.inl ⟨[],rfl,rfl⟩),by rw[hs1];exact g1,g2,by rw[hs1];rfl,by rw[hs1];rfl⟩,by simp⟩,[],rfl,rfl,?_,by push_cast -dsimp [ze,zd,CLe,zg]⟩;push_cast -dsimp [ze,zd,CLe,zg];exact ⟨zO hB,zO (zD (zr (ks:=[k])))⟩
end
end
section
open CA CB
open Go.RowKit
theorem jl {bx:List (List C)} {a b:Nat×TypeId×Nat×List (List C)×Nat} (h1:zb4 [a] bx) (h2:zb4 [b] bx) (hne:a.1≠b.1):zb4 [a,b] bx:=⟨by simp[hne],fun x hx=>by
 rcases List.mem_cons.1 hx with rfl | hx
 ·exact h1.2 _ List.mem_cons_self
 ·exact h2.2 _ hx⟩
theorem zbm {f:FsV} (hf:FsI f) {s:zR} (hs:zQ f s):(zF f s).xs.length<=f.xs.length:=by
 have hi:=zQ.ino hf hs;have hl:=jW (F:=zj s.name) hf.rises hs.has;unfold zF;split
 ·show (z8 _ _).length<=_;exact Nat.le_trans Q5 (by rw[hl];exact Nat.le_refl _)
 ·show (ql _ _).length<=_;rw[Jv (show zX (qp s.dir (zj s.name) f.xs) from z6 hf.rises) ?_,hl]
  ·exact Nat.le_refl _
  ·show zk (zf s.ino f.xs).ino (qp _ _ _)=true;rw[(zi hi).2.2,zS hs.has];exact hi
theorem zkh {xs:List zm} (h:zX xs):qF j6 zm.ino xs:=List.Pairwise.imp (fun {a b} h=>by show decide (a.ino<b.ino)=true;exact decide_eq_true h) h
theorem zkE (x:zm):∀ xs:List zm,Zg x xs=VY j6 zm.ino x xs
 | []=>rfl
 | y :: r=>by
  unfold Zg VY;rw[zkE x r];have e:j6.lt x.ino y.ino=decide (x.ino<y.ino):=rfl;rw[e];by_cases h:x.ino<y.ino
  ·rw[if_pos h,if_pos (decide_eq_true h)]
  ·rw[if_neg h,if_neg (by simpa using h)]
theorem zmp {x:zm} {xs:List zm} (hR:zX xs) (h:∀ y∈xs,y.ino≠x.ino):ql x xs=xs.take (qk j6 zm.ino x.ino xs)++x :: xs.drop (qk j6 zm.ino x.ino xs):=by
 have h1:z8 x.ino xs=xs:=List.filter_eq_self.2 fun y hy=>by simpa using h y hy
 have h2:YG zm.ino x.ino xs=false:=by
  unfold YG;rw[List.any_eq_false];intro y hy;simpa using h y hy
 obtain ⟨_,_,_,h4⟩:=V2 (o:=j6) x.ino (zkh hR);unfold ql;rw[h1,zkE];exact (h4 h2).2.2 x rfl
theorem zjI (w:qA) (hw:VT w) (hs:FsS w.fs) (hk:w.kept.length<=90000) (hp:w.pool.length<=90000) (n:Int) (s:zR) (hsp:zQ w.fs s) (he:(zf s.ino w.fs.xs).es = []):Fun Tryz.prog G0 216 [Qv w,.sc (.int .i64 n),.agg (QS s)] (.tup [Qv (Xi w n s).1,.sc (.int .i64 (Xi w n s).2)]) 0:=by
 have hf:=hw.fs;have hlen:=hs.len;have hino:=hsp.ino hf;have h1:=zdq (G:=G0) w n (by omega) hw.kept;cases hh:zah n w.kept with
 | true =>
  have e:Xi w n s=(w,13):=by unfold Xi;rw[hh];rfl
  rw[hh]at h1;refine fof (fun i=>if i=10 then QT [(0,.pure),(1,.pure),(2,.pure),(4,.pure),(5,.pure),(6,.pure),(3,.flt [3,4,5]),(7,.bar),(8,.pure),(9,.pure),(10,.bar)] else []) Tryz.func216 ?_;dsimp only[Tryz.f216];push_cast -dsimp;refine cl (h1) ?_;push_cast -dsimp;exact dn (by push_cast -dsimp [ze,zd,CLe,zg,e])
 | false =>
  rw[hh]at h1;have hg:=qY (G:=G0) w.fs s.ino (by omega) hf.rises;rw[hino]at hg;have hne:s.dir≠s.ino:=fun e=>by
   have:=hsp.there;rw[e,he]at this;cases this
  have hu:=zaJ w.fs hf hs s hsp hne;have hul:=zbm hf hsp;have hg2:=qY (G:=G0) (zF w.fs s) s.ino (by omega) (UQ hf hsp he).rises;rw[Vd hsp.has hino]at hg2;by_cases hz:(zf s.ino w.fs.xs).links=1
  ·rw[if_pos (show (zf s.ino w.fs.xs).links-1=0 by omega)]at hg2;simp only[decide_true,Bool.not_true,Bool.false_and]at hg2;have hxi:=(zi hino).2.2;have hno:∀ y∈w.pool,y.ino≠s.ino:=fun y hy e=>by
    have:=(hw.apart y hy).1;rw[e,hino]at this;cases this
   have hnk:YG zm.ino s.ino w.pool=false:=by
    unfold YG;rw[List.any_eq_false];intro y hy;simpa using hno y hy
   have e:Xi w n s=(⟨zF w.fs s,qC ⟨n,s.ino,false,[]⟩ w.kept,ql { zf s.ino w.fs.xs with links:=0,parent:=0 } w.pool⟩,0):=by unfold Xi;rw[hh,if_pos hz];rfl
   have hset:=zmp (x:={ zf s.ino w.fs.xs with links:=0,parent:=0 }) hw.pool (fun y hy=>by rw[show ({ zf s.ino w.fs.xs with links:=0,parent:=0 }:zm).ino=(zf s.ino w.fs.xs).ino from rfl,hxi];exact hno y hy);rw[show ({ zf s.ino w.fs.xs with links:=0,parent:=0 }:zm).ino=s.ino from hxi]at hset;have hat:=zmW (G:=G0) w.pool s.ino (by omega) (zkh hw.pool);rw[hnk]at hat;have hll:(zq w.pool).length=w.pool.length:=List.length_map ..;have hrl:=Q3 (o:=j6) (key:=zm.ino) s.ino w.pool;generalize qk j6 zm.ino s.ino w.pool=r at *;generalize hpl:ql { zf s.ino w.fs.xs with links:=0,parent:=0 } w.pool=pl at *;have hpc:zq pl=(zq w.pool).take r++[.sc (.int .i64 s.ino),.sc (.int .i64 (zf s.ino w.fs.xs).kind),.sc (.int .i64 0),.str (zf s.ino w.fs.xs).data,.sc (.int .i64 0),.sl 2 (zL (zf s.ino w.fs.xs).es)] :: (zq w.pool).drop r:=by rw[hset];simp[hxi]
   have hpl1:(zq pl).length=(zq w.pool).length+1:=by rw[hpc];simp;omega
   have hre2:∀ fp fo c,C.reL fp fo (qr 6 (zq pl) c)=qr 6 (zq pl) c:=fun fp fo c=>zB (zD zw);have hre4:∀ fp fo c,C.reL fp fo (qr 4 (zG (qC ⟨n,s.ino,false,[]⟩ w.kept)) c)=qr 4 (zG (qC ⟨n,s.ino,false,[]⟩ w.kept)) c:=fun fp fo c=>zB (zD zr);have hkp:0<(zG (qC ⟨n,s.ino,false,[]⟩ w.kept)).length:=by rw[List.length_map,qC,V3];omega
   refine foF (fun i=>if i=10 then QT [(0,.pure),(1,.pure),(2,.pure),(4,.pure),(5,.pure),(6,.pure),(3,.flt [3,4,5]),(7,.bar),(8,.pure),(9,.pure),(10,.bar)] else []) Tryz.func216 ?_;dsimp only[Tryz.f216];push_cast -dsimp;refine cl (h1) ?_;push_cast -dsimp;refine cl (hg) ?_;push_cast -dsimp;refine cl (hu) ?_;push_cast -dsimp;refine cl (hg2) ?_;push_cast -dsimp;rw[hxi];refine cl (hat) ?_;push_cast -dsimp;refine zlK [] (Vj (zq w.pool) zU zw (by omega)) (by decide) (by simp) (by push_cast -dsimp) (by push_cast -dsimp) (fun r0 bx' m hp=>?_);obtain ⟨rfl,⟨hne',c,c1,c2,rfl,rfl⟩ | ⟨hnil,⟨rfl,rfl⟩ | ⟨rfl,rfl⟩⟩⟩:=hp
   ·have hbl:=Jt zU c1;have hre:∀ fp fo,C.reL fp fo (qr 6 (zq w.pool) c)=qr 6 (zq w.pool) c:=fun fp fo=>zB (zD zw);push_cast -dsimp [hre];refine jo [7] [0] (V4 (e:=64) (zq w.pool) [.sc (.int .i64 s.ino),.sc (.int .i64 (zf s.ino w.fs.xs).kind),.sc (.int .i64 0),.str (zf s.ino w.fs.xs).data,.sc (.int .i64 0),.sl 2 (zL (zf s.ino w.fs.xs).es)] r c zU rfl zw rfl (by omega) (by omega) c1 c2) rfl (by decide) (by decide) (by simp) (by push_cast -dsimp) (by push_cast -dsimp [hre]) (fun r1 bx' m hp=>?_);rw[←hpc]at hp;obtain ⟨rfl,c',g1,g2,⟨rfl,rfl⟩ | ⟨rfl,rfl⟩⟩:=hp
    ·push_cast -dsimp [hre2,hre];refine jo [7] [] (ky (G:=G0) { w with fs:=zF w.fs s } ⟨n,s.ino,false,[]⟩ (qr 6 (zq pl) c') (zq pl).length c' (zD zw) hk hw.kept hh) rfl (by decide) (by decide) (by simp) (by push_cast -dsimp) (by push_cast -dsimp [hre2]) (fun r2 bx' m hp=>?_);obtain ⟨rfl,c3,Ls,hLs,k1,k2,rfl,rfl⟩:=hp;rcases hLs with rfl | ⟨X,rfl,hX⟩ | ⟨X,Y,rfl,hX,hY⟩
     ·push_cast -dsimp [hre2,hre4];exact ⟨[(11,105,4,zG (qC ⟨n,s.ino,false,[]⟩ w.kept),c3),(7,64,6,zq pl,c')],[],jl (zx rfl (Nat.lt_of_lt_of_le hkp k1) k1 k2 zV zr) (zx rfl (by omega) g1 g2 zU zw) (show (11:Nat)≠7 by decide),rfl,rfl,by push_cast -dsimp [ze,zd,CLe,zg,e,false_and,if_false]⟩
     ·have hXr:∀ fp fo,C.reL fp fo X=X:=fun fp fo=>zB hX;push_cast -dsimp [hre2,hre4,hXr];exact ⟨[(12,105,4,zG (qC ⟨n,s.ino,false,[]⟩ w.kept),c3),(7,64,6,zq pl,c')],[],jl (zx rfl (Nat.lt_of_lt_of_le hkp k1) k1 k2 zV zr) (zx rfl (by omega) g1 g2 zU zw) (show (12:Nat)≠7 by decide),rfl,rfl,by push_cast -dsimp [ze,zd,CLe,zg,e,false_and,if_false]⟩
     ·have hXr:∀ fp fo,C.reL fp fo X=X:=fun fp fo=>zB hX;have hYr:∀ fp fo,C.reL fp fo Y=Y:=fun fp fo=>zB hY;push_cast -dsimp [hre2,hre4,hXr,hYr];exact ⟨[(13,105,4,zG (qC ⟨n,s.ino,false,[]⟩ w.kept),c3),(7,64,6,zq pl,c')],[],jl (zx rfl (Nat.lt_of_lt_of_le hkp k1) k1 k2 zV zr) (zx rfl (by omega) g1 g2 zU zw) (show (13:Nat)≠7 by decide),rfl,rfl,by push_cast -dsimp [ze,zd,CLe,zg,e,false_and,if_false]⟩
    ·have hra:∀ fp fo,C.reL fp fo (List.replicate (c*6) .any)=List.replicate (c*6) .any:=fun fp fo=>zB (by simp[List.all_replicate,C.stayB]);push_cast -dsimp [hre2,hre,hra];refine jo [8] [] (ky (G:=G0) { w with fs:=zF w.fs s } ⟨n,s.ino,false,[]⟩ (qr 6 (zq pl) c') (zq pl).length c' (zD zw) hk hw.kept hh) rfl (by decide) (by decide) (by simp) (by push_cast -dsimp) (by push_cast -dsimp [hre2,hra]) (fun r2 bx' m hp=>?_);obtain ⟨rfl,c3,Ls,hLs,k1,k2,rfl,rfl⟩:=hp;rcases hLs with rfl | ⟨X,rfl,hX⟩ | ⟨X,Y,rfl,hX,hY⟩
     ·push_cast -dsimp [hre2,hre4,hra];exact ⟨[(12,105,4,zG (qC ⟨n,s.ino,false,[]⟩ w.kept),c3),(8,64,6,zq pl,c')],[],jl (zx rfl (Nat.lt_of_lt_of_le hkp k1) k1 k2 zV zr) (zx rfl (by omega) g1 g2 zU zw) (show (12:Nat)≠8 by decide),rfl,rfl,by push_cast -dsimp [ze,zd,CLe,zg,e,false_and,if_false]⟩
     ·have hXr:∀ fp fo,C.reL fp fo X=X:=fun fp fo=>zB hX;push_cast -dsimp [hre2,hre4,hra,hXr];exact ⟨[(13,105,4,zG (qC ⟨n,s.ino,false,[]⟩ w.kept),c3),(8,64,6,zq pl,c')],[],jl (zx rfl (Nat.lt_of_lt_of_le hkp k1) k1 k2 zV zr) (zx rfl (by omega) g1 g2 zU zw) (show (13:Nat)≠8 by decide),rfl,rfl,by push_cast -dsimp [ze,zd,CLe,zg,e,false_and,if_false]⟩
     ·have hXr:∀ fp fo,C.reL fp fo X=X:=fun fp fo=>zB hX;have hYr:∀ fp fo,C.reL fp fo Y=Y:=fun fp fo=>zB hY;push_cast -dsimp [hre2,hre4,hra,hXr,hYr];exact ⟨[(14,105,4,zG (qC ⟨n,s.ino,false,[]⟩ w.kept),c3),(8,64,6,zq pl,c')],[],jl (zx rfl (Nat.lt_of_lt_of_le hkp k1) k1 k2 zV zr) (zx rfl (by omega) g1 g2 zU zw) (show (14:Nat)≠8 by decide),rfl,rfl,by push_cast -dsimp [ze,zd,CLe,zg,e,false_and,if_false]⟩
   ·have hpe:w.pool = []:=by simpa using hnil
    have hr0:r=0:=by rw[hpe]at hrl;exact Nat.le_zero.1 hrl
    subst hr0;have hq:zq pl = [[.sc (.int .i64 s.ino),.sc (.int .i64 (zf s.ino w.fs.xs).kind),.sc (.int .i64 0),.str (zf s.ino w.fs.xs).data,.sc (.int .i64 0),.sl 2 (zL (zf s.ino w.fs.xs).es)]]:=by rw[hpc,hpe];rfl
    push_cast -dsimp;refine jo [] [0] (uT (e:=64) [.sc (.int .i64 s.ino),.sc (.int .i64 (zf s.ino w.fs.xs).kind),.sc (.int .i64 0),.str (zf s.ino w.fs.xs).data,.sc (.int .i64 0),.sl 2 (zL (zf s.ino w.fs.xs).es)] rfl rfl) rfl (by decide) (by decide) (by simp) (by push_cast -dsimp) (by push_cast -dsimp) (fun r1 bx' m hp=>?_);have hp:m=0/\∃ c,(zq pl).length<=c/\c<=9223372036854775807/\r1 = .bs 0 0 6 (zq pl).length c/\bx' = [qr 6 (zq pl) c]:=by rw[hq];exact hp
    obtain ⟨rfl,c',g1,g2,rfl,rfl⟩:=hp;push_cast -dsimp [hre2];refine jo [6] [] (ky (G:=G0) { w with fs:=zF w.fs s } ⟨n,s.ino,false,[]⟩ (qr 6 (zq pl) c') (zq pl).length c' (zD zw) hk hw.kept hh) rfl (by decide) (by decide) (by simp) (by push_cast -dsimp) (by push_cast -dsimp [hre2]) (fun r2 bx' m hp=>?_);obtain ⟨rfl,c3,Ls,hLs,k1,k2,rfl,rfl⟩:=hp;rcases hLs with rfl | ⟨X,rfl,hX⟩ | ⟨X,Y,rfl,hX,hY⟩
    ·push_cast -dsimp [hre2,hre4];exact ⟨[(10,105,4,zG (qC ⟨n,s.ino,false,[]⟩ w.kept),c3),(6,64,6,zq pl,c')],[],jl (zx rfl (Nat.lt_of_lt_of_le hkp k1) k1 k2 zV zr) (zx rfl (by omega) g1 g2 zU zw) (show (10:Nat)≠6 by decide),rfl,rfl,by push_cast -dsimp [ze,zd,CLe,zg,e,false_and,if_false]⟩
    ·have hXr:∀ fp fo,C.reL fp fo X=X:=fun fp fo=>zB hX;push_cast -dsimp [hre2,hre4,hXr];exact ⟨[(11,105,4,zG (qC ⟨n,s.ino,false,[]⟩ w.kept),c3),(6,64,6,zq pl,c')],[],jl (zx rfl (Nat.lt_of_lt_of_le hkp k1) k1 k2 zV zr) (zx rfl (by omega) g1 g2 zU zw) (show (11:Nat)≠6 by decide),rfl,rfl,by push_cast -dsimp [ze,zd,CLe,zg,e,false_and,if_false]⟩
    ·have hXr:∀ fp fo,C.reL fp fo X=X:=fun fp fo=>zB hX;have hYr:∀ fp fo,C.reL fp fo Y=Y:=fun fp fo=>zB hY;push_cast -dsimp [hre2,hre4,hXr,hYr];exact ⟨[(12,105,4,zG (qC ⟨n,s.ino,false,[]⟩ w.kept),c3),(6,64,6,zq pl,c')],[],jl (zx rfl (Nat.lt_of_lt_of_le hkp k1) k1 k2 zV zr) (zx rfl (by omega) g1 g2 zU zw) (show (12:Nat)≠6 by decide),rfl,rfl,by push_cast -dsimp [ze,zd,CLe,zg,e,false_and,if_false]⟩
   ·have hpe:w.pool = []:=by simpa using hnil
    have hr0:r=0:=by rw[hpe]at hrl;exact Nat.le_zero.1 hrl
    subst hr0;have hq:zq pl = [[.sc (.int .i64 s.ino),.sc (.int .i64 (zf s.ino w.fs.xs).kind),.sc (.int .i64 0),.str (zf s.ino w.fs.xs).data,.sc (.int .i64 0),.sl 2 (zL (zf s.ino w.fs.xs).es)]]:=by rw[hpc,hpe];rfl
    push_cast -dsimp;refine jo [6] [0] (V4 (e:=64) [] [.sc (.int .i64 s.ino),.sc (.int .i64 (zf s.ino w.fs.xs).kind),.sc (.int .i64 0),.str (zf s.ino w.fs.xs).data,.sc (.int .i64 0),.sl 2 (zL (zf s.ino w.fs.xs).es)] 0 0 (fun r hr=>by cases hr) rfl (fun r hr=>by cases hr) rfl (by simp) (by simp) (by simp) (by simp)) rfl (by decide) (by decide) (by simp) (by push_cast -dsimp) (by push_cast -dsimp [qr]) (fun r1 bx' m hp=>?_);have hp:zqu 6 (0*6) (zq pl) r1 bx' m:=by rw[hq];exact hp
    obtain ⟨rfl,c',g1,g2,⟨rfl,rfl⟩ | ⟨rfl,rfl⟩⟩:=hp
    ·push_cast -dsimp [hre2];refine jo [6] [] (ky (G:=G0) { w with fs:=zF w.fs s } ⟨n,s.ino,false,[]⟩ (qr 6 (zq pl) c') (zq pl).length c' (zD zw) hk hw.kept hh) rfl (by decide) (by decide) (by simp) (by push_cast -dsimp) (by push_cast -dsimp [hre2]) (fun r2 bx' m hp=>?_);obtain ⟨rfl,c3,Ls,hLs,k1,k2,rfl,rfl⟩:=hp;rcases hLs with rfl | ⟨X,rfl,hX⟩ | ⟨X,Y,rfl,hX,hY⟩
     ·push_cast -dsimp [hre2,hre4];exact ⟨[(10,105,4,zG (qC ⟨n,s.ino,false,[]⟩ w.kept),c3),(6,64,6,zq pl,c')],[],jl (zx rfl (Nat.lt_of_lt_of_le hkp k1) k1 k2 zV zr) (zx rfl (by omega) g1 g2 zU zw) (show (10:Nat)≠6 by decide),rfl,rfl,by push_cast -dsimp [ze,zd,CLe,zg,e,false_and,if_false]⟩
     ·have hXr:∀ fp fo,C.reL fp fo X=X:=fun fp fo=>zB hX;push_cast -dsimp [hre2,hre4,hXr];exact ⟨[(11,105,4,zG (qC ⟨n,s.ino,false,[]⟩ w.kept),c3),(6,64,6,zq pl,c')],[],jl (zx rfl (Nat.lt_of_lt_of_le hkp k1) k1 k2 zV zr) (zx rfl (by omega) g1 g2 zU zw) (show (11:Nat)≠6 by decide),rfl,rfl,by push_cast -dsimp [ze,zd,CLe,zg,e,false_and,if_false]⟩
     ·have hXr:∀ fp fo,C.reL fp fo X=X:=fun fp fo=>zB hX;have hYr:∀ fp fo,C.reL fp fo Y=Y:=fun fp fo=>zB hY;push_cast -dsimp [hre2,hre4,hXr,hYr];exact ⟨[(12,105,4,zG (qC ⟨n,s.ino,false,[]⟩ w.kept),c3),(6,64,6,zq pl,c')],[],jl (zx rfl (Nat.lt_of_lt_of_le hkp k1) k1 k2 zV zr) (zx rfl (by omega) g1 g2 zU zw) (show (12:Nat)≠6 by decide),rfl,rfl,by push_cast -dsimp [ze,zd,CLe,zg,e,false_and,if_false]⟩
    ·push_cast -dsimp [hre2];refine jo [7] [] (ky (G:=G0) { w with fs:=zF w.fs s } ⟨n,s.ino,false,[]⟩ (qr 6 (zq pl) c') (zq pl).length c' (zD zw) hk hw.kept hh) rfl (by decide) (by decide) (by simp) (by push_cast -dsimp) (by push_cast -dsimp [hre2]) (fun r2 bx' m hp=>?_);obtain ⟨rfl,c3,Ls,hLs,k1,k2,rfl,rfl⟩:=hp;rcases hLs with rfl | ⟨X,rfl,hX⟩ | ⟨X,Y,rfl,hX,hY⟩
     ·push_cast -dsimp [hre2,hre4];exact ⟨[(11,105,4,zG (qC ⟨n,s.ino,false,[]⟩ w.kept),c3),(7,64,6,zq pl,c')],[],jl (zx rfl (Nat.lt_of_lt_of_le hkp k1) k1 k2 zV zr) (zx rfl (by omega) g1 g2 zU zw) (show (11:Nat)≠7 by decide),rfl,rfl,by push_cast -dsimp [ze,zd,CLe,zg,e,false_and,if_false]⟩
     ·have hXr:∀ fp fo,C.reL fp fo X=X:=fun fp fo=>zB hX;push_cast -dsimp [hre2,hre4,hXr];exact ⟨[(12,105,4,zG (qC ⟨n,s.ino,false,[]⟩ w.kept),c3),(7,64,6,zq pl,c')],[],jl (zx rfl (Nat.lt_of_lt_of_le hkp k1) k1 k2 zV zr) (zx rfl (by omega) g1 g2 zU zw) (show (12:Nat)≠7 by decide),rfl,rfl,by push_cast -dsimp [ze,zd,CLe,zg,e,false_and,if_false]⟩
     ·have hXr:∀ fp fo,C.reL fp fo X=X:=fun fp fo=>zB hX;have hYr:∀ fp fo,C.reL fp fo Y=Y:=fun fp fo=>zB hY;push_cast -dsimp [hre2,hre4,hXr,hYr];exact ⟨[(13,105,4,zG (qC ⟨n,s.ino,false,[]⟩ w.kept),c3),(7,64,6,zq pl,c')],[],jl (zx rfl (Nat.lt_of_lt_of_le hkp k1) k1 k2 zV zr) (zx rfl (by omega) g1 g2 zU zw) (show (13:Nat)≠7 by decide),rfl,rfl,by push_cast -dsimp [ze,zd,CLe,zg,e,false_and,if_false]⟩
  ·have hz2:¬(zf s.ino w.fs.xs).links-1=0:=by omega
   rw[if_neg hz2,hino]at hg2;have e:Xi w n s=({ w with fs:=zF w.fs s,kept:=qC ⟨n,s.ino,false,[]⟩ w.kept },0):=by unfold Xi;rw[hh,if_neg hz];rfl
   have hwi:=zcS (G:=G0) { w with fs:=zF w.fs s } ⟨n,s.ino,false,[]⟩ hk hw.kept hh;refine fof (fun i=>if i=10 then QT [(0,.pure),(1,.pure),(2,.pure),(4,.pure),(5,.pure),(6,.pure),(3,.flt [3,4,5]),(7,.bar),(8,.pure),(9,.pure),(10,.bar)] else []) Tryz.func216 ?_;dsimp only[Tryz.f216];push_cast -dsimp;refine cl (h1) ?_;push_cast -dsimp;refine cl (hg) ?_;push_cast -dsimp;refine cl (hu) ?_;push_cast -dsimp;refine cl (hg2) ?_;push_cast -dsimp;refine cl (hwi) ?_;push_cast -dsimp;exact dn (by push_cast -dsimp [ze,zd,CLe,zg,e])
end
section
open CA CB
open Go.RowKit
end
section
open CA CB
open Go.RowKit
theorem zp4 {f:FsV} (hf:FsI f) (p:List UInt8):(atV f p).1.ino≠0->zk (atV f p).1.ino f.xs=true:=by
 unfold atV;split
 ·exact xK hf (zE p) ⟨0,[],1⟩ fun _=>hf.root
 ·intro h;exact absurd rfl h
theorem zfq {f:FsV} (hf:FsI f) (p:List UInt8):zk (atV f p).1.ino f.xs = !decide ((atV f p).1.ino=0):=by
 by_cases h:(atV f p).1.ino=0
 ·rw[decide_eq_true h];cases hh:zk (atV f p).1.ino f.xs with
  | false=>rfl
  | true=>exact absurd h (Uq hf hh)
 ·rw[zp4 hf p h,decide_eq_false h];rfl
theorem ziv (f:FsV) (hf:FsI f) (hs:FsS f) (p:List UInt8) (hp:p.length<=1000000):Fun Tryz.prog G0 238 [.agg (fsC f),.str p] (.tup [.agg (QS (isV f p false).1),.sc (.int .i64 (isV f p false).2.2)]) 0:=by
 have h1:=Gg f hf hs p hp;have hi:=zfq hf p;have e1:(isV f p false).1=(atV f p).1:=rfl;by_cases h0:(atV f p).2=0
 ·have h0':=eq_true h0;by_cases hz:(atV f p).1.ino=0
  ·have hz':=eq_true hz;rw[decide_eq_true hz]at hi;have e3:(isV f p false).2.2=0:=by unfold isV;simp[h0,hi]
   refine fon Tryz.func238 ?_;dsimp only[Tryz.f238];push_cast -dsimp;refine cl (h1) ?_;push_cast -dsimp [h0',hz'];exact dn (by push_cast -dsimp [ze,zd,CLe,zg,e1,e3])
  ·have hz':=eq_false hz;rw[decide_eq_false hz]at hi;have e3:(isV f p false).2.2=2:=by unfold isV;simp[h0,hi]
   refine fon Tryz.func238 ?_;dsimp only[Tryz.f238];push_cast -dsimp;refine cl (h1) ?_;push_cast -dsimp [h0',hz'];exact dn (by push_cast -dsimp [ze,zd,CLe,zg,e1,e3])
 ·have h0':=eq_false h0;have e3:(isV f p false).2.2=(atV f p).2:=by unfold isV;simp[h0]
  refine fon Tryz.func238 ?_;dsimp only[Tryz.f238];push_cast -dsimp;refine cl (h1) ?_;push_cast -dsimp [h0'];exact dn (by push_cast -dsimp [ze,zd,CLe,zg,e1,e3])
structure zj7 (w:qA):Prop where
 fs:FsS w.fs
 next:zru w.fs
 kept:w.kept.length<=10000
 pool:w.pool.length<=10000
end
section
open CA CB
open Go.RowKit
theorem zcN {f:FsV} (hf:FsI f) {p:List UInt8} (h:(isV f p false).2.2=0):(isV f p false).1.ino=0:=by
 have hz:=ZT h;have hi:=zfq hf p;unfold isV at h ⊢;simp only[hz]at h ⊢;by_cases h0:(atV f p).1.ino=0
 ·exact h0
 ·rw[decide_eq_false h0]at hi;rw[hi]at h;simp at h
theorem zc0 (w:qA) (hw:VT w) (hs:zj7 w) (o:OpV) (ho:zar o) (pa:qH o.a=true) (pb:qH o.b=true):Fun Tryz.prog G0 212 [Qv w,.agg (opL o)] (.tup [Qv (JX w o).1,.sc (.int .i64 (JX w o).2)]) 0:=by
 have h1:=Ma w.fs hw.fs hs.fs o.a ho.1;have h2:=ziv w.fs hw.fs hs.fs o.b ho.2.1;unfold opL;by_cases h0:(isV w.fs o.a true).2.2=0
 ·have h0':=eq_true h0;obtain ⟨t1,t2⟩:=jG hw.fs pa h0;by_cases hb:(isV w.fs o.b false).2.2=0
  ·have hb':=eq_true hb;have hfree:=J9 hw.fs pb hb;have hn:=zhD w.fs hw.fs hs.fs (isV w.fs o.a true).1 (isV w.fs o.b false).1 t1 hfree (zcN hw.fs hb);have e:JX w o=({ w with fs:=YL w.fs (isV w.fs o.a true).1 (isV w.fs o.b false).1 },0):=by unfold JX;simp[h0,hb]
   refine fon Tryz.func212 ?_;dsimp only[Tryz.f212];push_cast -dsimp;refine cl (h1) ?_;push_cast -dsimp [h0'];refine cl (h2) ?_;push_cast -dsimp [hb'];refine cl (hn) ?_;push_cast -dsimp;exact dn (by push_cast -dsimp [ze,zd,CLe,zg,e,hb])
  ·have hb':=eq_false hb;have e:JX w o=(w,(isV w.fs o.b false).2.2):=by unfold JX;simp[h0,hb]
   refine fon Tryz.func212 ?_;dsimp only[Tryz.f212];push_cast -dsimp;refine cl (h1) ?_;push_cast -dsimp [h0'];refine cl (h2) ?_;push_cast -dsimp [hb'];exact dn (by push_cast -dsimp [ze,zd,CLe,zg,e])
 ·have h0':=eq_false h0;have e:JX w o=(w,(isV w.fs o.a true).2.2):=by unfold JX;simp[h0]
  refine fon Tryz.func212 ?_;dsimp only[Tryz.f212];push_cast -dsimp;refine cl (h1) ?_;push_cast -dsimp [h0'];exact dn (by push_cast -dsimp [ze,zd,CLe,zg,e])
end
section
open CA CB
open Go.RowKit
theorem zb2 (w:qA) (hw:VT w) (hs:zj7 w) (o:OpV) (s:zR) (hsp:zQ w.fs s) (he:(zf s.ino w.fs.xs).es = []):Nj Tryz.prog G0 215 [.agg (QS s),.ptr 0 0,.ptr 1 0] [HB w,opL o] 0 (.tup [Qv (Xi w o.slot s).1,.sc (.int .i64 (Xi w o.slot s).2)]) [HB w,opL o] 0:=by
 have h:=zjI w hw hs.fs (by have:=hs.kept;omega) (by have:=hs.pool;omega) o.slot s hsp he;unfold opL;refine foB (fun _=>[]) Tryz.func215 ?_;dsimp only[Tryz.f215];push_cast -dsimp;refine cl (h) ?_;push_cast -dsimp;exact ⟨[],rfl,rfl,by push_cast -dsimp [ze,zd,CLe,zg],by push_cast -dsimp [ze,zd,CLe,zg]⟩
theorem zh9 (w:qA) (hw:VT w) (hs:zj7 w) (o:OpV) (ho:zar o) (pa:qH o.a=true):Nj Tryz.prog G0 214 [Qv w,.str o.a,.clo (.func 215) [] [.ptr 0 0,.ptr 1 0]] [HB w,opL o] 0 (.tup [Qv (qM w o).1,.sc (.int .i64 (qM w o).2)]) [HB w,opL o] 0:=by
 have h1:=Ma w.fs hw.fs hs.fs o.a ho.1;by_cases h0:(isV w.fs o.a true).2.2=0
 ·have h0':=eq_true h0;obtain ⟨t1,t2⟩:=jG hw.fs pa h0;by_cases hes:(isV w.fs o.a true).2.1.es = []
  ·have hel:(0<(zL (isV w.fs o.a true).2.1.es).length)=False:=eq_false (by rw[hes];simp);have he:(zf (isV w.fs o.a true).1.ino w.fs.xs).es = []:=by rw[←t2];exact hes
   have hd:=zb2 w hw hs o (isV w.fs o.a true).1 t1 he;have e:qM w o=Xi w o.slot (isV w.fs o.a true).1:=by unfold qM;simp[h0,hes]
   unfold opL at hd ⊢;refine foB (fun _=>[]) Tryz.func214 ?_;dsimp only[Tryz.f214];push_cast -dsimp;refine cl (h1) ?_;push_cast -dsimp [h0',hel];refine Vn [0,1] [] hd rfl (by decide) (by decide) (by simp) (by push_cast -dsimp) (by push_cast -dsimp) ?_;push_cast -dsimp;exact ⟨[],rfl,rfl,by push_cast -dsimp [ze,zd,CLe,zg],by push_cast -dsimp [ze,zd,CLe,zg,e]⟩
  ·have hel:(0<(zL (isV w.fs o.a true).2.1.es).length)=True:=eq_true (by rw[List.length_map];exact List.length_pos_iff.2 hes);have e:qM w o=(w,5):=by unfold qM;simp[h0,hes]
   unfold opL;refine foB (fun _=>[]) Tryz.func214 ?_;dsimp only[Tryz.f214];push_cast -dsimp;refine cl (h1) ?_;push_cast -dsimp [h0',hel];exact ⟨[],rfl,rfl,by push_cast -dsimp [ze,zd,CLe,zg],by push_cast -dsimp [ze,zd,CLe,zg,e]⟩
 ·have h0':=eq_false h0;have e:qM w o=(w,(isV w.fs o.a true).2.2):=by unfold qM;simp[h0]
  unfold opL;refine foB (fun _=>[]) Tryz.func214 ?_;dsimp only[Tryz.f214];push_cast -dsimp;refine cl (h1) ?_;push_cast -dsimp [h0'];exact ⟨[],rfl,rfl,by push_cast -dsimp [ze,zd,CLe,zg],by push_cast -dsimp [ze,zd,CLe,zg,e]⟩
theorem zfz (w:qA) (hw:VT w) (hs:zj7 w) (o:OpV) (ho:zar o) (pa:qH o.a=true):Fun Tryz.prog G0 213 [Qv w,.agg (opL o)] (.tup [Qv (qM w o).1,.sc (.int .i64 (qM w o).2)]) 0:=by
 have h:=zh9 w hw hs o ho pa;unfold opL at h ⊢;refine fon Tryz.func213 ?_;dsimp only[Tryz.f213];push_cast -dsimp;refine Vn [0,1] [] h rfl (by decide) (by decide) (by simp) (by push_cast -dsimp) (by push_cast -dsimp) ?_;push_cast -dsimp;exact dn
end
section
open Go.RowKit
section
variable {G:zp}
abbrev zqm:List C:=[.clo (.func 206) [] [],.clo (.func 208) [] [],.clo (.func 209) [] [],.clo (.func 210) [] [],.clo (.func 211) [] [],.clo (.func 212) [] [],.clo (.func 213) [] [],.clo (.func 217) [] [],.clo (.func 220) [] [],.clo (.func 221) [] []]
theorem xd:Fun Tryz.prog G 171 [] (.mo 0 231 (.int .i64 [1,2,3,4,5,6,7,8,9,10]) zqm) 1:=by
 refine fon Tryz.func171 ?_;dsimp only[Tryz.f171];push_cast -dsimp [kP,kx,Option.map_none,List.nil_append,List.cons_append,reduceIte,Int.reduceEq];exact ⟨[.inl 0],rfl,rfl,by push_cast -dsimp [ze,zd,CLe,zg]⟩
end
end
section
open CA CB
open Go.RowKit
theorem Fun.g0 {P:Program} {G':zp} {f:FuncId} {args:List C} {r:C} {n:Nat} (h:Fun P G0 f args r n):Fun P G' f args r n:=⟨h.1,fun R vs hg hv=>h.2 R vs (xE R) hv⟩
end
section
open Go.RowKit
section
variable {G:zp}
theorem VB (o:OpV):Fun Tryz.prog G 128 [.agg (opL o)] (.sc (.bool (decide (o.kind=3∨o.kind=7)))) 0:=by
 unfold opL;by_cases h:o.kind=3
 ·have h':=eq_true h;refine fon Tryz.func128 ?_;dsimp only[Tryz.f128];push_cast -dsimp [h'];exact dn (by push_cast -dsimp [ze,zd,CLe,zg,h',true_or,decide_true])
 ·have h':=eq_false h;refine fon Tryz.func128 ?_;dsimp only[Tryz.f128];push_cast -dsimp [h'];exact dn (by push_cast -dsimp [ze,zd,CLe,zg,h',false_or])
end
end
section
open Go.RowKit
abbrev zrF (d:qd):List C:=[.sc (.int .i64 d.w.fs.maxI),.sc (.int .i64 d.w.fs.maxB),.sc (.int .i64 d.w.fs.next),.sl 6 (zq d.w.fs.xs),.sl 4 (zG d.w.kept),.sl 6 (zq d.w.pool),.sl 5 (d.ops.map opL),.sl 1 (zM d.diags),.sc (.int .i64 d.status),.sc (.int .i64 d.slot)]
abbrev kG (d:qd):C:=.agg (zrF d)
section
variable {G:zp}
end
end
section
open CA CB
open Go.RowKit
section
variable {G:zp}
end
end
section
open CA CB
open Go.RowKit
theorem zjs {f:C} {x:zm} (hx:x.es = []) (R:Env) (vs:List Value) (h:zu R zH [f,.agg [.sc (.int .i64 x.ino),.sc (.int .i64 x.kind),.sc (.int .i64 x.links),.str x.data,.sc (.int .i64 x.parent),.sc (.slice none 0 0)]] vs):zu R zH [f,.agg (JU x)] vs:=by
 obtain ⟨v1,us1,rfl,h1,h⟩:=zh.1 h;obtain ⟨v2,us2,rfl,h2,h⟩:=zh.1 h;refine zh.2 ⟨_,_,rfl,h1,zh.2 ⟨_,_,rfl,?_,h⟩⟩;obtain ⟨ws,rfl,hw⟩:=j8.1 h2;obtain ⟨w1,t1,e1,g1,hw⟩:=zh.1 hw;obtain ⟨w2,t2,e2,g2,hw⟩:=zh.1 hw;obtain ⟨w3,t3,e3,g3,hw⟩:=zh.1 hw;obtain ⟨w4,t4,e4,g4,hw⟩:=zh.1 hw;obtain ⟨w5,t5,e5,g5,hw⟩:=zh.1 hw;obtain ⟨w6,t6,e6,g6,hw⟩:=zh.1 hw;refine j8.2 ⟨ws,rfl,?_⟩;have g6':Rep R zH (.sl 2 (zL x.es)) w6:=by rw[hx];exact zhB g6
 rw[e1,e2,e3,e4,e5,e6];exact zh.2 ⟨_,_,rfl,g1,zh.2 ⟨_,_,rfl,g2,zh.2 ⟨_,_,rfl,g3,zh.2 ⟨_,_,rfl,g4,zh.2 ⟨_,_,rfl,g5,zh.2 ⟨_,_,rfl,g6',hw⟩⟩⟩⟩⟩⟩
theorem Gw {G:zp} (f:FsV) (x:zm) (hx:x.es = []) (hl:f.xs.length<=90000) :
  Fun Tryz.prog G 58 [.agg (fsC f),.agg [.sc (.int .i64 x.ino),.sc (.int .i64 x.kind),.sc (.int .i64 x.links),.str x.data,.sc (.int .i64 x.parent),.sc (.slice none 0 0)]] (.agg [.sc (.int .i64 f.maxI),.sc (.int .i64 f.maxB),.sc (.int .i64 f.next),.own 0 64 6 (zq (ql x f.xs))]) 1:=
 (uA f x hl).argsLe (zjs hx)
end
section
open CA CB
open Go.RowKit
theorem UR {ks:List zP} {i:Nat} (h:i<ks.length):j7 (ks.take (i+1))=ks[i].slot:=by
 have q:(ks.take (i+1)).getLast?=some ks[i]:=by
  rw[List.getLast?_eq_getElem?,show (ks.take (i+1)).length-1=i by rw[List.length_take];omega,List.getElem?_take_of_lt (by omega),List.getElem?_eq_getElem h]
 unfold j7;rw[q]
section
variable {G:zp}
theorem Uw (w:qA):Fun Tryz.prog G 106 [Qv w] (.agg [.sc (.int .i64 0),.sc (.int .i64 0),.sc (.int .i64 0),.sl 6 (zq w.pool)]) 0:=by
 refine fon Tryz.func106 ?_;dsimp only[Tryz.f106];push_cast -dsimp;exact dn
theorem Uv (w:qA) (hk:w.kept.length<=100000) (hR:qF j6 zP.slot w.kept) (hp:∀ k∈w.kept,1<=k.slot):Fun Tryz.prog G 35 [Qv w] (.sc (.int .i64 (j7 w.kept))) 0:=by
 obtain ⟨f,ks,pool⟩:=w;have hk:ks.length<=100000:=hk;have hll:(zG ks).length=ks.length:=List.length_map ..;show Fun Tryz.prog G 35 [Qv ⟨f,ks,pool⟩] (.sc (.int .i64 (j7 ks))) 0;have h0:j7 []=0:=rfl;refine fon Tryz.func35 ?_;dsimp only[Tryz.f35];push_cast -dsimp;refine loop (fun i:Nat=>⟨[(1,.ptr 0 0),(3,.sc (.int .i64 (j7 (ks.take i)))),(4,.sc (.int .i64 i))],[HB ⟨f,ks,pool⟩],0,0⟩) (fun i=>i<=ks.length) (fun i=>ks.length-i) 0 (Nat.zero_le _) ?_ ?_
 ·exact wk (by push_cast -dsimp [ze,zd,CLe,zg,List.take_zero,h0])
 ·intro i hi;by_cases h:i<ks.length
  ·have g1:=jT ks i h;have e1:j7 (ks.take (i+1))=ks[i].slot:=UR h;have e2:(if ks[i].slot>j7 (ks.take i) then ks[i].slot else j7 (ks.take i))=ks[i].slot:=by
    suffices hle:j7 (ks.take i)<=ks[i].slot by split<;>omega
    rcases Nat.eq_zero_or_pos i with rfl | hpos
    ·have:=hp _ (List.getElem_mem h);show (0:Int)<=_;omega
    ·obtain ⟨j,rfl⟩:∃ j,i=j+1:=⟨i-1,by omega⟩;have hj:j<ks.length:=by omega
     rw[UR hj];have:=(List.pairwise_iff_getElem.1 hR) j (j+1) hj h (by omega);have:ks[j].slot<ks[j+1].slot:=of_decide_eq_true this;omega
   push_cast -dsimp [hll,h,g1]
   repeat refine an ?_
   exact ⟨i+1,h,by omega,wk (by push_cast -dsimp [ze,zd,CLe,zg,e1,e2])⟩
  ·rw[List.take_of_length_le (by omega)];push_cast -dsimp [hll,h];exact dn
end
end
section
open CA CB
open Go.RowKit
end
section
open CA CB
open Go.RowKit
def zr5 (n:Int):List C:=[.sc (.int .i64 n)]
abbrev zrL (l:List Int):List (List C):=l.map zr5
theorem y4 (l:List Int):(zrL l).length=l.length:=List.length_map _
theorem zev (l:List Int) (n:Int):zrL l++[[.sc (.int .i64 n)]]=zrL (l++[n]):=by simp[zr5]
attribute [push_cast] y4 zev
abbrev zgN (l:List OpV):List (List C):=l.map opL
theorem vt (l:List OpV):(zgN l).length=l.length:=List.length_map _
theorem zfR (l:List OpV) (k:Nat) (h:k<l.length):(zgN l)[k]?=some (opL (l[k]'h)):=by rw[List.getElem?_map,List.getElem?_eq_getElem h];rfl
theorem zfn (l:List OpV) (k:Nat):(zgN l).take k=zgN (l.take k):=List.map_take.symm
theorem zeg (l:List OpV) (k:Nat):(zgN l).drop k=zgN (l.drop k):=List.map_drop.symm
attribute [push_cast] vt zfn zeg
end
section
open Go.RowKit
def zj3 (l:List OpV):List Int:=(l.filter fun o=>Nh o.kind).map (·.slot)
end
section
open Go.RowKit
def zkc (o p:OpV):Bool:=decide (o.kind=p.kind)&&decide (o.slot=p.slot)&&decide (o.a=p.a)&&decide (o.b=p.b)&&decide (o.d=p.d)
def Jq:List OpV->List OpV->Bool
 | [],[]=>true
 | o :: r,p :: s=>zkc o p&&Jq r s
 | _,_=>false
theorem J6:∀ l m:List OpV,Jq l m=true↔l.length=m.length/\∀ (j:Nat) (h:j<l.length) (h':j<m.length),zkc (l[j]'h) (m[j]'h')=true
 | [],[]=>by simp[Jq]
 | [],p :: s=>by simp[Jq]
 | o :: r,[]=>by simp[Jq]
 | o :: r,p :: s=>by
  have ih:=J6 r s;simp only[Jq,Bool.and_eq_true,ih,List.length_cons];constructor
  ·rintro ⟨h1,h2,h3⟩;refine ⟨by omega,fun j hj hj'=>?_⟩;cases j with
   | zero=>exact h1
   | succ j=>exact h3 j (by omega) (by omega)
  ·rintro ⟨h1,h2⟩;exact ⟨h2 0 (by omega) (by omega),by omega,fun j hj hj'=>h2 (j+1) (by omega) (by omega)⟩
end
section
open CA CB
open Go.RowKit
end
section
open CA CB
open Go.RowKit
end
section
open CA CB
open Go.RowKit
def Jl (f:FsV):Prop:=1<=f.maxI/\f.maxI<=1073741824/\0<=f.maxB/\f.maxB<=1073741824/\f.next<=1099511627776/\(∀ x∈f.xs,1<=x.ino/\x.ino<f.next)/\zX f.xs/\zk 1 f.xs=true/\(zf 1 f.xs).kind=2
instance (f:FsV):Decidable (Jl f):=by unfold Jl;infer_instance
def Yl (f:FsV):Prop:=∀ x∈f.xs,∀ e∈x.es,zk e.ino f.xs=true
instance (f:FsV):Decidable (Yl f):=by unfold Yl;infer_instance
def kV (f:FsV):Prop:=(f.xs.length:Int)<=f.maxI/\(qe f.xs:Int)<=f.maxB
instance (f:FsV):Decidable (kV f):=by unfold kV;infer_instance
theorem qi {α:Type} {l:List α} {i:Nat} (h:i<l.length) {P:α->Prop} (h1:∀ x∈l.take i,P x) (h2:P l[i]):∀ x∈l.take (i+1),P x:=fun x hx=>by
 rw[List.take_add_one,List.getElem?_eq_getElem h]at hx;rcases List.mem_append.1 hx with hx | hx
 ·exact h1 x hx
 ·simp at hx;subst hx;exact h2
section
variable {G:zp}
theorem xv (f:FsV) (hl:f.xs.length<=100000):Fun Tryz.prog G 153 [.agg (fsC f)] (.sc (.bool (decide (Jl f)))) 0:=by
 have hll:(zq f.xs).length=f.xs.length:=List.length_map ..;refine fon Tryz.func153 ?_;dsimp only[Tryz.f153];by_cases e0:f.maxI<1
 case pos =>
  have hn:¬Jl f:=fun h=>by have:=h.1;omega
  push_cast -dsimp [e0];exact dn (by push_cast -dsimp [ze,zd,CLe,zg,hn])
 by_cases e1:1073741824<f.maxI
 case pos =>
  have hn:¬Jl f:=fun h=>by have:=h.2.1;omega
  push_cast -dsimp [e0,e1];exact dn (by push_cast -dsimp [ze,zd,CLe,zg,hn])
 by_cases e2:f.maxB<0
 case pos =>
  have hn:¬Jl f:=fun h=>by have:=h.2.2.1;omega
  push_cast -dsimp [e0,e1,e2];exact dn (by push_cast -dsimp [ze,zd,CLe,zg,hn])
 by_cases e3:1073741824<f.maxB
 case pos =>
  have hn:¬Jl f:=fun h=>by have:=h.2.2.2.1;omega
  push_cast -dsimp [e0,e1,e2,e3];exact dn (by push_cast -dsimp [ze,zd,CLe,zg,hn])
 by_cases e4:1099511627776<f.next
 case pos =>
  have hn:¬Jl f:=fun h=>by have:=h.2.2.2.2.1;omega
  push_cast -dsimp [e0,e1,e2,e3,e4];exact dn (by push_cast -dsimp [ze,zd,CLe,zg,hn])
 push_cast -dsimp [e0,e1,e2,e3,e4];refine loop (fun i:Nat=>⟨[(1,.ptr 0 0),(3,.sc (.int .i64 i))],[fsC f],0,0⟩) (fun i=>i<=f.xs.length/\∀ x∈f.xs.take i,1<=x.ino/\x.ino<f.next) (fun i=>f.xs.length-i) 0 ⟨Nat.zero_le _,fun x hx=>by simp at hx⟩ ?_ ?_
 ·exact wk
 ·rintro i ⟨h1,h2⟩;by_cases h:i<f.xs.length
  ·have g1:=qU f.xs i h;by_cases c1:f.xs[i].ino<1
   ·have hn:¬Jl f:=fun h'=>by have:=h'.2.2.2.2.2.1 _ (List.getElem_mem h);omega
    push_cast -dsimp [hll,h,g1,c1]
    repeat refine an ?_
    exact dn (by push_cast -dsimp [ze,zd,CLe,zg,hn])
   ·by_cases c2:f.next<=f.xs[i].ino
    ·have hn:¬Jl f:=fun h'=>by have:=h'.2.2.2.2.2.1 _ (List.getElem_mem h);omega
     push_cast -dsimp [hll,h,g1,c1,c2]
     repeat refine an ?_
     exact dn (by push_cast -dsimp [ze,zd,CLe,zg,hn])
    ·push_cast -dsimp [hll,h,g1,c1,c2]
     repeat refine an ?_
     exact ⟨i+1,⟨h,qi h h2 (by omega)⟩,by omega,wk⟩
  ·rw[List.take_of_length_le (by omega)]at h2;have hf:Jl f↔zX f.xs/\zk 1 f.xs=true/\(zf 1 f.xs).kind=2:=⟨fun h=>h.2.2.2.2.2.2,fun h=>⟨by omega,by omega,by omega,by omega,by omega,h2,h⟩⟩;push_cast -dsimp [hll,h];refine cl (Qn f 1 hl) ?_;push_cast -dsimp;by_cases c1:zX f.xs
   ·cases c2:zk 1 f.xs with
    | true =>
     refine cl (Ue f hl) ?_;push_cast -dsimp [decide_eq_true c1,c2];exact dn (by push_cast -dsimp [ze,zd,CLe,zg,hf,c1,c2])
    | false =>
     have hn:¬Jl f:=fun h=>by have:=(hf.1 h).2.1;rw[c2]at this;cases this
     refine cl (Ue f hl) ?_;push_cast -dsimp [decide_eq_true c1,c2];exact dn (by push_cast -dsimp [ze,zd,CLe,zg,hn])
   ·have hn:¬Jl f:=fun h=>c1 (hf.1 h).1;refine cl (Ue f hl) ?_;push_cast -dsimp [decide_eq_false c1];exact dn (by push_cast -dsimp [ze,zd,CLe,zg,hn])
theorem NI (f:FsV) (hf:FsS f):Fun Tryz.prog G 155 [.agg (fsC f)] (.sc (.bool (decide (Yl f)))) 0:=by
 have hll:(zq f.xs).length=f.xs.length:=List.length_map ..;have h40:=hf.len;refine fof (fun i=>if i=7 then jS 15 16 else []) Tryz.func155 ?_;dsimp only[Tryz.f155];push_cast -dsimp;refine loop (fun i:Nat=>⟨[(1,.ptr 0 0),(3,.sc (.int .i64 i))],[fsC f],0,0⟩) (fun i=>i<=f.xs.length/\∀ x∈f.xs.take i,∀ e∈x.es,zk e.ino f.xs=true) (fun i=>f.xs.length-i) 0 ⟨Nat.zero_le _,fun x hx=>by simp at hx⟩ ?_ ?_
 ·exact wk
 ·rintro i ⟨h1,h2⟩;by_cases h:i<f.xs.length
  ·have g1:=qU f.xs i h;have he:=(hf.node _ (List.getElem_mem h)).1;have hle:(zL f.xs[i].es).length=f.xs[i].es.length:=List.length_map ..;push_cast -dsimp [hll,h];refine loop (fun k:Nat=>⟨[(1,.ptr 0 0),(3,.sc (.int .i64 i)),(4,.sc (.int .i64 k))],[fsC f],0,0⟩) (fun k=>k<=f.xs[i].es.length/\∀ e∈f.xs[i].es.take k,zk e.ino f.xs=true) (fun k=>f.xs[i].es.length-k) 0 ⟨Nat.zero_le _,fun x hx=>by simp at hx⟩ ?_ ?_
   ·exact wk
   ·rintro k ⟨h3,h4⟩;by_cases hk:k<f.xs[i].es.length
    ·have g2:=JH f.xs[i].es k hk;push_cast -dsimp [g1,hle,hk,g2]
     repeat refine an ?_
     refine cl (Qn f f.xs[i].es[k].ino (by omega)) ?_;push_cast -dsimp;cases hh:zk f.xs[i].es[k].ino f.xs with
     | true =>
      push_cast -dsimp [hh]
      repeat refine an ?_
      exact ⟨k+1,⟨hk,qi hk h4 hh⟩,by omega,wk⟩
     | false =>
      have hn:¬Yl f:=fun h'=>by have:=h' _ (List.getElem_mem h) _ (List.getElem_mem hk);rw[hh]at this;cases this
      push_cast -dsimp [hh];exact dn (by push_cast -dsimp [ze,zd,CLe,zg,hn])
    ·rw[List.take_of_length_le (by omega)]at h4;push_cast -dsimp [g1,hle,hk]
     repeat refine an ?_
     exact ⟨i+1,⟨h,qi h h2 h4⟩,by omega,wk⟩
  ·rw[List.take_of_length_le (by omega)]at h2;have hn:Yl f:=h2;push_cast -dsimp [hll,h];exact dn (by push_cast -dsimp [ze,zd,CLe,zg,hn])
theorem uL (f:FsV) (hf:FsS f) (hb:qe f.xs<=100000000):Fun Tryz.prog G 143 [.agg (fsC f),.sc (.int .i64 0),.sc (.int .i64 0)] (.sc (.bool (decide (kV f)))) 0:=by
 have hll:(zq f.xs).length=f.xs.length:=List.length_map ..;have h40:=hf.len;refine fon Tryz.func143 ?_;dsimp only[Tryz.f143];by_cases c1:f.maxI<f.xs.length
 ·have hn:¬kV f:=fun h=>by have:=h.1;omega
  push_cast -dsimp [hll,c1]
  repeat refine an ?_
  exact dn (by push_cast -dsimp [ze,zd,CLe,zg,hn])
 ·have hn:kV f↔(qe f.xs:Int)<=f.maxB:=⟨fun h=>h.2,fun h=>⟨by omega,h⟩⟩;push_cast -dsimp [hll,c1]
  repeat refine an ?_
  refine cl (zdo f hf) ?_;push_cast -dsimp
  repeat refine an ?_
  exact dn (by push_cast -dsimp [ze,zd,CLe,zg,hn])
end
end
section
open Go.RowKit
abbrev Z2 (x:zm) (es:List zW):List (Int×Int):=es.map fun e=>(e.ino,x.ino)
def qg (xs:List zm):List (Int×Int):=xs.flatMap fun x=>Z2 x x.es
def QV (n:Int) (l:List (Int×Int)):Nat:=(l.filter fun p=>p.1==n).length
def V1 (n:Int) (l:List (Int×Int)):Int:=(((l.filter fun p=>p.1==n).getLast?).map (·.2)).getD 0
theorem zli {n:Int} {l:List (Int×Int)} {p:Int×Int}:QV n (l++[p])=QV n l+if p.1=n then 1 else 0:=by
 unfold QV;rw[List.filter_append,List.length_append];by_cases h:p.1=n<;>simp[h]
theorem zhf {n:Int} {l:List (Int×Int)} {p:Int×Int}:V1 n (l++[p])=if p.1=n then p.2 else V1 n l:=by
 unfold V1;rw[List.filter_append];by_cases h:p.1=n<;>simp[h]
theorem zb7 {xs:List zm} {i:Nat} (h:i<xs.length):qg (xs.take (i+1))=qg (xs.take i)++Z2 xs[i] xs[i].es:=by
 unfold qg;rw[List.take_add_one,List.getElem?_eq_getElem h,List.flatMap_append];simp
theorem zcs {x:zm} {es:List zW} {k:Nat} (h:k<es.length):Z2 x (es.take (k+1))=Z2 x (es.take k)++[(es[k].ino,x.ino)]:=by
 rw[List.take_add_one,List.getElem?_eq_getElem h,Option.toList_some];exact List.map_append
theorem zdP {xs:List zm} (hf:∀ x∈xs,x.es.length<=10000):(qg xs).length<=xs.length*10000:=by
 induction xs with
 | nil=>exact Nat.le_refl _
 | cons x r ih =>
  have h1:=hf x List.mem_cons_self;have h2:=ih fun y hy=>hf y (List.mem_cons_of_mem _ hy);unfold qg at h2 ⊢;rw[List.flatMap_cons,List.length_append,List.length_map,List.length_cons];omega
theorem zpU {n:Int} {l:List (Int×Int)}:QV n l<=l.length:=List.length_filter_le _ _
def ZS (xs:List zm) (x:zm):Prop:=x.links=QV x.ino (qg xs)/\if x.ino=1 then QV x.ino (qg xs)=0/\x.parent=1 else 1<=QV x.ino (qg xs)/\(x.kind=2->QV x.ino (qg xs)=1/\x.parent=V1 x.ino (qg xs))
instance (xs:List zm) (x:zm):Decidable (ZS xs x):=by unfold ZS;infer_instance
def Yx (f:FsV):Prop:=∀ x∈f.xs,ZS f.xs x
instance (f:FsV):Decidable (Yx f):=by unfold Yx;infer_instance
section
variable {G:zp}
theorem zbS (f:FsV) (n:Int) (hf:FsS f):Fun Tryz.prog G 189 [.agg (fsC f),.sc (.int .i64 n)] (.tup [.sc (.int .i64 (QV n (qg f.xs):Nat)),.sc (.int .i64 (V1 n (qg f.xs)))]) 0:=by
 have hll:(zq f.xs).length=f.xs.length:=List.length_map ..;have h40:=hf.len;have hc0:QV n (qg [])=0:=rfl;have hl0:V1 n (qg [])=0:=rfl;refine fon Tryz.func189 ?_;dsimp only[Tryz.f189];push_cast -dsimp;refine loop (fun i:Nat=>⟨[(1,.sc (.int .i64 n)),(2,.ptr 0 0),(6,.sc (.int .i64 (QV n (qg (f.xs.take i)):Nat))),(7,.sc (.int .i64 (V1 n (qg (f.xs.take i))))),(8,.sc (.int .i64 i))],[fsC f],0,0⟩) (fun i=>i<=f.xs.length) (fun i=>f.xs.length-i) 0 (Nat.zero_le _) ?_ ?_
 ·exact wk (by push_cast -dsimp [ze,zd,CLe,zg,List.take_zero,hc0,hl0])
 ·intro i h1;by_cases h:i<f.xs.length
  ·have g1:=qU f.xs i h;have hle:(zL f.xs[i].es).length=f.xs[i].es.length:=List.length_map ..;have hpl:(qg (f.xs.take i)).length<=i*10000:=by
    have:=zdP (xs:=f.xs.take i) fun x hx=>(hf.node x (List.mem_of_mem_take hx)).1;rw[List.length_take]at this;exact Nat.le_trans this (Nat.mul_le_mul_right _ (Nat.min_le_left _ _))
   have h40e:=(hf.node _ (List.getElem_mem h)).1;push_cast -dsimp [hll,h];refine loop (fun k:Nat=>⟨[(1,.sc (.int .i64 n)),(2,.ptr 0 0),(6,.sc (.int .i64 (QV n (qg (f.xs.take i)++Z2 f.xs[i] (f.xs[i].es.take k)):Nat))),(7,.sc (.int .i64 (V1 n (qg (f.xs.take i)++Z2 f.xs[i] (f.xs[i].es.take k))))),(8,.sc (.int .i64 i)),(9,.sc (.int .i64 k))],[fsC f],0,0⟩) (fun k=>k<=f.xs[i].es.length) (fun k=>f.xs[i].es.length-k) 0 (Nat.zero_le _) ?_ ?_
   ·exact wk (by push_cast -dsimp [ze,zd,CLe,zg,List.take_zero,List.append_nil])
   ·intro k hk0;by_cases hk:k<f.xs[i].es.length
    ·have g2:=JH f.xs[i].es k hk;have ht:=zcs (x:=f.xs[i]) hk;have hcl:=zpU (n:=n) (l:=qg (f.xs.take i)++Z2 f.xs[i] (f.xs[i].es.take k));rw[List.length_append,List.length_map,List.length_take]at hcl;have hca:=zli (n:=n) (l:=qg (f.xs.take i)++Z2 f.xs[i] (f.xs[i].es.take k)) (p:=(f.xs[i].es[k].ino,f.xs[i].ino));have hla:=zhf (n:=n) (l:=qg (f.xs.take i)++Z2 f.xs[i] (f.xs[i].es.take k)) (p:=(f.xs[i].es[k].ino,f.xs[i].ino));rw[List.append_assoc,←ht]at hca hla;by_cases hc:f.xs[i].es[k].ino=n
     ·rw[if_pos hc]at hca hla;push_cast -dsimp [g1,hle,hk,g2,hc]
      repeat refine an ?_
      exact ⟨k+1,hk,by omega,wk (by push_cast -dsimp [ze,zd,CLe,zg,hca,hla])⟩
     ·rw[if_neg hc]at hca hla;push_cast -dsimp [g1,hle,hk,g2,hc]
      repeat refine an ?_
      exact ⟨k+1,hk,by omega,wk (by push_cast -dsimp [ze,zd,CLe,zg,hca,hla])⟩
    ·have hkk:f.xs[i].es.take k=f.xs[i].es:=List.take_of_length_le (by omega);rw[hkk];have ht:=zb7 h;push_cast -dsimp [g1,hle,hk]
     repeat refine an ?_
     exact ⟨i+1,h,by omega,wk (by push_cast -dsimp [ze,zd,CLe,zg,ht])⟩
  ·rw[List.take_of_length_le (by omega)];push_cast -dsimp [hll,h];exact dn
end
end
section
open CA CB
open Go.RowKit
section
variable {G:zp}
theorem HR (f:FsV) (hf:FsS f):Fun Tryz.prog G 156 [.agg (fsC f)] (.sc (.bool (decide (Yx f)))) 0:=by
 have hll:(zq f.xs).length=f.xs.length:=List.length_map ..;have h40:=hf.len;refine fon Tryz.func156 ?_;dsimp only[Tryz.f156];push_cast -dsimp;refine loop (fun i:Nat=>⟨[(1,.ptr 0 0),(3,.sc (.int .i64 i))],[fsC f],0,0⟩) (fun i=>i<=f.xs.length/\∀ x∈f.xs.take i,ZS f.xs x) (fun i=>f.xs.length-i) 0 ⟨Nat.zero_le _,fun x hx=>by simp at hx⟩ ?_ ?_
 ·exact wk
 ·rintro i ⟨h1,h2⟩;by_cases h:i<f.xs.length
  ·have g1:=qU f.xs i h;have hbad:¬ZS f.xs f.xs[i]->¬Yx f:=fun hn h'=>hn (h' _ (List.getElem_mem h));have hdef:ZS f.xs f.xs[i]↔f.xs[i].links=QV f.xs[i].ino (qg f.xs)/\if f.xs[i].ino=1 then QV f.xs[i].ino (qg f.xs)=0/\f.xs[i].parent=1 else 1<=QV f.xs[i].ino (qg f.xs)/\(f.xs[i].kind=2->QV f.xs[i].ino (qg f.xs)=1/\f.xs[i].parent=V1 f.xs[i].ino (qg f.xs)):=Iff.rfl;push_cast -dsimp [hll,h,g1]
   repeat refine an ?_
   refine cl (zbS f f.xs[i].ino hf) ?_;push_cast -dsimp;generalize QV f.xs[i].ino (qg f.xs)=c at hdef;generalize V1 f.xs[i].ino (qg f.xs)=d at hdef;by_cases c1:f.xs[i].links=(c:Int)
   case neg =>
    have hn:=hbad fun h=>c1 (hdef.1 h).1;push_cast -dsimp [c1];exact dn (by push_cast -dsimp [ze,zd,CLe,zg,hn])
   by_cases c2:f.xs[i].ino=1
   ·rw[if_pos c2]at hdef;by_cases c3:(c:Int)=0
    ·by_cases c4:f.xs[i].parent=1
     ·push_cast -dsimp [c1,c2,c3,c4]
      repeat refine an ?_
      exact ⟨i+1,⟨h,qi h h2 (hdef.2 ⟨c1,by omega,c4⟩)⟩,by omega,wk⟩
     ·have hn:=hbad fun h=>c4 (hdef.1 h).2.2;push_cast -dsimp [c1,c2,c3,c4];exact dn (by push_cast -dsimp [ze,zd,CLe,zg,hn])
    ·have hn:=hbad fun h=>by have:=(hdef.1 h).2.1;omega
     push_cast -dsimp [c1,c2,c3];exact dn (by push_cast -dsimp [ze,zd,CLe,zg,hn])
   ·rw[if_neg c2]at hdef;by_cases c3:(c:Int)<1
    ·have hn:=hbad fun h=>by have:=(hdef.1 h).2.1;omega
     push_cast -dsimp [c1,c2,c3];exact dn (by push_cast -dsimp [ze,zd,CLe,zg,hn])
    by_cases c4:f.xs[i].kind=2
    ·by_cases c5:(c:Int)=1
     ·by_cases c6:f.xs[i].parent=d
      ·push_cast -dsimp [c1,c2,c3,c4,c5,c6]
       repeat refine an ?_
       exact ⟨i+1,⟨h,qi h h2 (hdef.2 ⟨c1,by omega,fun _=>⟨by omega,c6⟩⟩)⟩,by omega,wk⟩
      ·have hn:=hbad fun h=>c6 ((hdef.1 h).2.2 c4).2;push_cast -dsimp [c1,c2,c3,c4,c5,c6];exact dn (by push_cast -dsimp [ze,zd,CLe,zg,hn])
     ·have hn:=hbad fun h=>by have:=((hdef.1 h).2.2 c4).1;omega
      push_cast -dsimp [c1,c2,c3,c4,c5];exact dn (by push_cast -dsimp [ze,zd,CLe,zg,hn])
    ·push_cast -dsimp [c1,c2,c3,c4]
     repeat refine an ?_
     exact ⟨i+1,⟨h,qi h h2 (hdef.2 ⟨c1,by omega,fun h=>absurd h c4⟩)⟩,by omega,wk⟩
  ·rw[List.take_of_length_le (by omega)]at h2;have hn:Yx f:=h2;push_cast -dsimp [hll,h];exact dn (by push_cast -dsimp [ze,zd,CLe,zg,hn])
end
end
section
open CA CB
open Go.RowKit
abbrev zcl (S:List Int):List (List C):=S.map fun n=>[C.sc (.int .i64 n)]
def Yo (S:List Int) (n:Int):List Int:=if n∈S then S else S++[n]
def kH (S:List Int) (es:List zW):List Int:=es.foldl (fun s e=>Yo s e.ino) S
def QQ (xs:List zm):Nat->Nat->List Int->List Int
 | 0,_,S=>S
 | m+1,i,S=>match S[i]? with
  | some n=>QQ xs m (i+1) (kH S (zf n xs).es)
  | none=>S
def QC (f:FsV):Prop:=(QQ f.xs (f.xs.length+1) 0 [1]).length=f.xs.length
instance (f:FsV):Decidable (QC f):=by unfold QC;infer_instance
theorem Uj:∀ {S T:List Int},S.Nodup->(∀ n∈S,n∈T)->S.length<=T.length
 | [],T,_,_=>Nat.zero_le _
 | a :: r,T,hn,hs=>by
  have ha:=hs a List.mem_cons_self;obtain ⟨h1,h2⟩:=List.nodup_cons.1 hn;have:=Uj (S:=r) (T:=T.erase a) h2 fun n hr=>(List.mem_erase_of_ne (fun e=>h1 (by rw[←e];exact hr))).2 (hs n (List.mem_cons_of_mem _ hr));rw[List.length_erase_of_mem ha]at this;have hpos:=List.length_pos_iff.2 (List.ne_nil_of_mem ha);rw[List.length_cons];omega
theorem Gq {n:Int} {xs:List zm}:zk n xs=true↔n∈xs.map (·.ino):=by
 unfold zk;rw[List.any_eq_true,List.mem_map];simp
theorem Q8 {S:List Int} {xs:List zm} (hn:S.Nodup) (hs:∀ n∈S,zk n xs=true):S.length<=xs.length:=by
 have:=Uj (T:=xs.map (·.ino)) hn fun n h=>Gq.1 (hs n h);rwa [List.length_map]at this
theorem N2 {S:List Int} {n:Int} (h:S.Nodup):(Yo S n).Nodup:=by
 unfold Yo;split
 ·exact h
 ·rw[List.nodup_append];refine ⟨h,by simp,fun a ha b hb e=>?_⟩;simp at hb;subst hb;subst e;contradiction
theorem Ho {S:List Int} {n m:Int}:m∈Yo S n↔m∈S∨m=n:=by
 unfold Yo;split
 ·constructor
  ·exact .inl
  ·rintro (h | h)
   ·exact h
   ·rw[h];assumption
 ·simp
theorem ji {n:Int} {xs:List zm} (h:zk n xs=true):zf n xs∈xs/\(zf n xs).ino=n:=by
 unfold zk at h;unfold zf YZ;cases hq:xs.find? fun x=>x.ino==n with
 | none =>
  rw[List.find?_eq_none]at hq;obtain ⟨x,hx,he⟩:=List.any_eq_true.1 h;exact absurd he (hq x hx)
 | some y =>
  exact ⟨List.mem_of_find?_eq_some hq,by simpa using List.find?_some hq⟩
theorem zcX {S:List Int} {es:List zW} {k:Nat} (h:k<es.length):kH S (es.take (k+1))=Yo (kH S (es.take k)) es[k].ino:=by
 unfold kH;rw[List.take_add_one,List.getElem?_eq_getElem h,List.foldl_append]
 rfl
theorem zhA (es:List zW):∀ (S:List Int),S <+: kH S es:=by
 induction es with
 | nil=>exact fun S=>List.prefix_refl S
 | cons e r ih =>
  intro S;refine List.IsPrefix.trans ?_ (ih (Yo S e.ino));unfold Yo;split
  ·exact List.prefix_refl S
  ·exact List.prefix_append S _
theorem zi8 (S:List Int) (es:List zW):S.length<=(kH S es).length:=(zhA es S).length_le
structure Yp (xs:List zm) (S:List Int):Prop where
 nodup:S.Nodup
 has:∀ n∈S,zk n xs=true
theorem Yp.len {xs:List zm} {S:List Int} (h:Yp xs S):S.length<=xs.length:=Q8 h.nodup h.has
theorem Yp.one {xs:List zm} {S:List Int} {n:Int} (h:Yp xs S) (hn:zk n xs=true):Yp xs (Yo S n):=⟨N2 h.nodup,fun m hm=>by
 rcases Ho.1 hm with hm | rfl
 ·exact h.has m hm
 ·exact hn⟩
theorem zfc {S:List Int} {n:Int} {j:Nat} (h:j<S.length):((S.take (j+1)).any fun m=>decide (m=n))=(((S.take j).any fun m=>decide (m=n))||decide (S[j]=n)):=by
 rw[List.take_add_one,List.getElem?_eq_getElem h,List.any_append];simp
theorem zmN {S:List Int} {n:Int}:(S.any fun m=>decide (m=n))=decide (n∈S):=by
 rw[Bool.eq_iff_iff,List.any_eq_true,decide_eq_true_iff];constructor
 ·rintro ⟨m,hm,h⟩;exact (of_decide_eq_true h)▸hm
 ·exact fun h=>⟨n,h,decide_eq_true rfl⟩
theorem uW (S:List Int) (i:Nat) (h:i<S.length):(zcl S)[i]?=some [.sc (.int .i64 S[i])]:=by simp[List.getElem?_map,List.getElem?_eq_getElem h]
section
variable {G:zp}
theorem Mv (f:FsV) (hf:FsS f) (h3:Yl f) (h1:zk 1 f.xs=true):Fun Tryz.prog G 157 [.agg (fsC f)] (.sc (.bool (decide (QC f)))) 0:=by
 have hll:(zq f.xs).length=f.xs.length:=List.length_map ..;have h40:=hf.len;refine fof (fun i=>if i=5 then jS 9 10 else []) Tryz.func157 ?_;dsimp only[Tryz.f157];push_cast -dsimp;refine loop (fun p:Nat×List Int=>⟨[(1,.ptr 0 0),(3,.own 0 3 1 (zcl p.2)),(4,.sc (.int .i64 p.1))],[fsC f],1,0⟩) (fun p=>p.1<=p.2.length/\Yp f.xs p.2/\QQ f.xs (f.xs.length+1-p.1) p.1 p.2=QQ f.xs (f.xs.length+1) 0 [1]) (fun p=>f.xs.length+1-p.1) (0,[1]) ⟨Nat.zero_le _,⟨by simp,fun n hn=>by simp at hn;subst hn;exact h1⟩,rfl⟩ ?_ ?_
 ·exact wks [.inl 0]
 ·rintro ⟨i,S⟩ ⟨k1,k2,k3⟩;dsimp only at k1 k2 k3 ⊢;have hSl:=k2.len;have hli:(zcl S).length=S.length:=List.length_map ..;by_cases h:i<S.length
  ·have g0:=uW S i h;obtain ⟨hm,hino⟩:=ji (k2.has S[i] (List.getElem_mem h));push_cast -dsimp [hli,h,g0]
   repeat refine an ?_
   refine cl (Qn f S[i] (by omega)) ?_;push_cast -dsimp;rw[show f.xs.length+1-i=(f.xs.length+1-(i+1))+1 by omega,QQ,List.getElem?_eq_getElem h]at k3;dsimp only at k3;generalize zf S[i] f.xs=x at hm hino k3;have hx40:=(hf.node x hm).1;have hle:(zL x.es).length=x.es.length:=List.length_map ..;refine loop (fun k:Nat=>⟨[(1,.ptr 0 0),(3,.own 0 3 1 (zcl (kH S (x.es.take k)))),(4,.sc (.int .i64 i)),(5,.ptr 1 0),(7,.sc (.int .i64 k))],[fsC f,JU x],1,0⟩) (fun k=>k<=x.es.length/\Yp f.xs (kH S (x.es.take k))) (fun k=>x.es.length-k) 0 ⟨Nat.zero_le _,k2⟩ ?_ ?_
   ·exact wks [.inl 0] (by push_cast -dsimp [ze,zd,CLe,zg,List.take_zero,kH,List.foldl_nil])
   ·rintro k ⟨hk0,k4⟩;by_cases hk:k<x.es.length
    ·have g2:=JH x.es k hk;have hT:=k4.len;have ht:=zcX (S:=S) hk;have hhas:zk x.es[k].ino f.xs=true:=h3 x hm _ (List.getElem_mem hk);have k5:=k4.one hhas;rw[←ht]at k5;generalize hT1:kH S (x.es.take (k+1))=T1 at ht k5;generalize kH S (x.es.take k)=T at k4 hT ht;have hlT:(zcl T).length=T.length:=List.length_map ..;generalize hn:x.es[k].ino=n at g2 ht;push_cast -dsimp [hle,hk];refine loop (fun j:Nat=>⟨[(1,.ptr 0 0),(3,.own 0 3 1 (zcl T)),(4,.sc (.int .i64 i)),(5,.ptr 1 0),(7,.sc (.int .i64 k)),(8,.sc (.bool ((T.take j).any fun m=>decide (m=n)))),(9,.sc (.int .i64 j))],[fsC f,JU x],1,0⟩) (fun j=>j<=T.length) (fun j=>T.length-j) 0 (Nat.zero_le _) ?_ ?_
     ·exact wks [.inl 0] (by push_cast -dsimp [ze,zd,CLe,zg,List.take_zero,List.any_nil])
     ·intro j hj0;by_cases hj:j<T.length
      ·have g3:=uW T j hj;have ha:=zfc (n:=n) hj;by_cases hq:((T.take j).any fun m=>decide (m=n))=true
       ·rw[hq,Bool.true_or]at ha;push_cast -dsimp [hlT,hj,hq]
        repeat refine an ?_
        exact ⟨j+1,hj,by omega,wks [.inl 0] (by push_cast -dsimp [ze,zd,CLe,zg,ha])⟩
       ·have hq:=Bool.eq_false_iff.2 hq;rw[hq,Bool.false_or]at ha;push_cast -dsimp [hlT,hj,hq,g3,g2,hn]
        repeat refine an ?_
        exact ⟨j+1,hj,by omega,wks [.inl 0] (by push_cast -dsimp [ze,zd,CLe,zg,ha])⟩
      ·have hTj:(T.take j)=T:=List.take_of_length_le (by omega);have hany:=zmN (S:=T) (n:=n);unfold Yo at ht;by_cases hin:n∈T
       ·rw[if_pos hin]at ht;rw[decide_eq_true hin]at hany;push_cast -dsimp [hlT,hj,hTj,hany]
        repeat refine an ?_
        exact ⟨k+1,⟨hk,by rw[hT1];exact k5⟩,by omega,wks [.inl 0] (by push_cast -dsimp [ze,zd,CLe,zg,hT1,ht])⟩
       ·rw[if_neg hin]at ht;rw[decide_eq_false hin]at hany;push_cast -dsimp [hlT,hj,hTj,hany,g2,hn]
        repeat refine an ?_
        exact ⟨k+1,⟨hk,by rw[hT1];exact k5⟩,by omega,wks [.inl 0] (by push_cast -dsimp [ze,zd,CLe,zg,hT1,ht,List.map_append])⟩
    ·have hkk:x.es.take k=x.es:=List.take_of_length_le (by omega);rw[hkk]at k4;have hge:i+1<=(kH S x.es).length:=Nat.le_trans h (zi8 S x.es);push_cast -dsimp [hle,hk,hkk]
     repeat refine an ?_
     exact ⟨(i+1,kH S x.es),⟨hge,k4,k3⟩,by dsimp only;omega,wks [.inl 0]⟩
  ·push_cast -dsimp [hli,h];have hfin:QQ f.xs (f.xs.length+1-i) i S=S:=by
    rw[show f.xs.length+1-i=(f.xs.length-i)+1 by omega,QQ,List.getElem?_eq_none (by omega)]
   rw[hfin]at k3;have hn:QC f↔S.length=f.xs.length:=by unfold QC;rw[←k3]
   exact dn (by push_cast -dsimp [ze,zd,CLe,zg,hn,hll])
end
end
section
open CA CB
open Go.RowKit
def YM (es:List zW):Prop:=∀ i (h:i<es.length),may es[i].name=true/\1<=es[i].ino/\(0<i->Op.bytesLess es[i-1].name es[i].name=true)
instance (es:List zW):Decidable (YM es):=by unfold YM;infer_instance
def YB (x:zm):Prop:=(x.kind=1∨x.kind=2∨x.kind=3)/\(x.kind≠2->x.es = []/\x.parent=0)/\(x.kind=2->x.data = []/\YM x.es)/\(x.kind=3->1<=x.data.length/\x.data.length<=4095/\∀ b∈x.data,b≠0)
instance (x:zm):Decidable (YB x):=by unfold YB;infer_instance
def YE (f:FsV):Prop:=∀ x∈f.xs,YB x
instance (f:FsV):Decidable (YE f):=by unfold YE;infer_instance
def Jm (f:FsV):Int:=if Jl f then if YE f then if Yl f then if Yx f then if QC f then if kV f then 0 else 6 else 5 else 4 else 3 else 2 else 1
def okV (f:FsV):Prop:=kW f.xs/\Jm f=0
instance (f:FsV):Decidable (okV f):=by unfold okV;infer_instance
theorem zeW (es:List zW) (hl:es.length<=100000) (hn:∀ e∈es,e.name.length<=1000000):Fun Tryz.prog G0 188 [.sl 2 (zL es)] (qP (decide (YM es))) 0:=by
 have hle:(zL es).length=es.length:=List.length_map ..;refine fon Tryz.func188 ?_;dsimp only[Tryz.f188];push_cast -dsimp;refine loop (fun i:Nat=>⟨[(0,.sl 2 (zL es)),(3,.sc (.int .i64 i))],[],0,0⟩) (fun i=>i<=es.length/\∀ j (h:j<es.length),j<i->may es[j].name=true/\1<=es[j].ino/\(0<j->Op.bytesLess es[j-1].name es[j].name=true)) (fun i=>es.length-i) 0 ⟨Nat.zero_le _,fun j h h'=>absurd h' (Nat.not_lt_zero _)⟩ ?_ ?_
 ·exact wk
 ·rintro i ⟨h1,h2⟩;by_cases h:i<es.length
  ·have g1:=JH es i h;have hm:=Hz es[i].name (by have:=hn _ (List.getElem_mem h);omega);push_cast -dsimp [hle,h,g1]
   repeat refine an ?_
   cases c1:may es[i].name with
   | false =>
    have hno:¬YM es:=fun hr=>by have:=(hr i h).1;rw[c1]at this;cases this
    refine cl (hm) ?_;push_cast -dsimp [c1];exact dn (by push_cast -dsimp [ze,zd,CLe,zg,hno])
   | true =>
    by_cases c2:es[i].ino<1
    ·have hno:¬YM es:=fun hr=>by have:=(hr i h).2.1;omega
     refine cl (hm) ?_;push_cast -dsimp [c1,g1,c2]
     repeat refine an ?_
     exact dn (by push_cast -dsimp [ze,zd,CLe,zg,hno])
    ·have step:(0<i->Op.bytesLess es[i-1].name es[i].name=true)->∀ j (h:j<es.length),j<i+1->may es[j].name=true/\1<=es[j].ino/\(0<j->Op.bytesLess es[j-1].name es[j].name=true):=fun hb j hj hlt=>by
      rcases Nat.lt_or_ge j i with q | q
      ·exact h2 j hj q
      ·have:j=i:=by omega
       subst this;exact ⟨c1,by omega,hb⟩
     by_cases c3:0<i
     ·have g2:=JH es (i-1) (by omega);have e1:(i:Int)-1=((i-1:Nat):Int):=by omega
      cases c4:Op.bytesLess es[i-1].name es[i].name with
      | true =>
       refine cl (hm) ?_;push_cast -dsimp [c1,g1,c2]
       repeat refine an ?_
       push_cast -dsimp [c3,e1,g2,g1,c4]
       repeat refine an ?_
       exact ⟨i+1,⟨h,step fun _=>c4⟩,by omega,wk⟩
      | false =>
       have hno:¬YM es:=fun hr=>by have:=(hr i h).2.2 c3;rw[c4]at this;cases this
       refine cl (hm) ?_;push_cast -dsimp [c1,g1,c2]
       repeat refine an ?_
       push_cast -dsimp [c3,e1,g2,g1,c4]
       repeat refine an ?_
       exact dn (by push_cast -dsimp [ze,zd,CLe,zg,hno])
     ·refine cl (hm) ?_;push_cast -dsimp [c1,g1,c2]
      repeat refine an ?_
      push_cast -dsimp [c3]
      repeat refine an ?_
      exact ⟨i+1,⟨h,step fun h=>absurd h c3⟩,by omega,wk⟩
  ·have hr:YM es:=fun j hj=>h2 j hj (by omega);push_cast -dsimp [hle,h];exact dn (by push_cast -dsimp [ze,zd,CLe,zg,hr])
end
section
open CA CB
open Go.RowKit
theorem Hu (f:FsV) (hf:FsS f):Fun Tryz.prog G0 154 [.agg (fsC f)] (qP (decide (YE f))) 0:=by
 have hll:(zq f.xs).length=f.xs.length:=List.length_map ..;have h40:=hf.len;refine fon Tryz.func154 ?_;dsimp only[Tryz.f154];push_cast -dsimp;refine loop (fun i:Nat=>⟨[(1,.ptr 0 0),(3,.sc (.int .i64 i))],[fsC f],0,0⟩) (fun i=>i<=f.xs.length/\∀ x∈f.xs.take i,YB x) (fun i=>f.xs.length-i) 0 ⟨Nat.zero_le _,fun x hx=>by simp at hx⟩ ?_ ?_
 ·exact wk
 ·rintro i ⟨h1,h2⟩;by_cases h:i<f.xs.length
  case neg =>
   rw[List.take_of_length_le (by omega)]at h2;have hn:YE f:=h2;push_cast -dsimp [hll,h];exact dn (by push_cast -dsimp [ze,zd,CLe,zg,hn])
  have g1:=qU f.xs i h;have hbad:¬YB f.xs[i]->¬YE f:=fun hn h'=>hn (h' _ (List.getElem_mem h));have hs:=hf.node _ (List.getElem_mem h);have step:YB f.xs[i]->∀ x∈f.xs.take (i+1),YB x:=fun hq=>qi h h2 hq;push_cast -dsimp [hll,h,g1]
  repeat refine an ?_
  generalize f.xs[i]=x at g1 hbad hs step;have hle:(zL x.es).length=x.es.length:=List.length_map ..;have hent:x.es.length<=10000:=hs.1;by_cases k2:x.kind=2
  ·by_cases d0:x.data = []
   ·have hr:=zeW x.es (by omega) fun e he=>by have:=hs.2.2 e he;omega
    cases c1:decide (YM x.es) with
    | false =>
     have hn:=hbad fun hq=>of_decide_eq_false c1 (hq.2.2.1 k2).2;push_cast -dsimp [k2,d0];refine cl (hr) ?_;push_cast -dsimp [c1];exact dn (by push_cast -dsimp [ze,zd,CLe,zg,hn])
    | true =>
     have hq:YB x:=⟨.inr (.inl k2),fun h=>absurd k2 h,fun _=>⟨d0,of_decide_eq_true c1⟩,fun h=>by omega⟩;push_cast -dsimp [k2,d0];refine cl (hr) ?_;push_cast -dsimp [c1,k2];refine loop (fun j:Nat=>⟨[(1,.ptr 0 0),(3,.sc (.int .i64 i)),(4,.ptr 1 0),(5,.sc (.int .i64 j))],[fsC f,JU x],0,0⟩) (fun j=>j=0) (fun j=>0) 0 rfl ?_ ?_
     ·exact wk (by push_cast -dsimp [ze,zd,CLe,zg,k2,d0]) (by push_cast -dsimp [ze,zd,CLe,zg,k2,d0])
     ·rintro j rfl;push_cast -dsimp [d0]
      repeat refine an ?_
      exact ⟨i+1,⟨h,step hq⟩,by omega,wk⟩
   ·have hn:=hbad fun hq=>d0 (hq.2.2.1 k2).1;push_cast -dsimp [k2,d0];exact dn (by push_cast -dsimp [ze,zd,CLe,zg,hn])
  by_cases e0:x.es = []
  case neg =>
   have hn:=hbad fun hq=>e0 (hq.2.1 k2).1;have hpos:0<(x.es.length:Int):=by have:=List.length_pos_iff.2 e0;omega
   by_cases k1:x.kind=1
   ·push_cast -dsimp [k1,hle,hpos];exact dn (by push_cast -dsimp [ze,zd,CLe,zg,hn])
   ·by_cases k3:x.kind=3
    ·push_cast -dsimp [k1,k2,k3,hle,hpos];exact dn (by push_cast -dsimp [ze,zd,CLe,zg,hn])
    ·have hn:=hbad fun hq=>by rcases hq.1 with q | q | q<;>contradiction
     push_cast -dsimp [k1,k2,k3];exact dn (by push_cast -dsimp [ze,zd,CLe,zg,hn])
  have hl0:x.es.length=0:=by rw[e0];rfl
  by_cases p0:x.parent=0
  case neg =>
   have hn:=hbad fun hq=>p0 (hq.2.1 k2).2;by_cases k1:x.kind=1
   ·push_cast -dsimp [k1,hle,hl0,p0];exact dn (by push_cast -dsimp [ze,zd,CLe,zg,hn])
   ·by_cases k3:x.kind=3
    ·push_cast -dsimp [k1,k2,k3,hle,hl0,p0];exact dn (by push_cast -dsimp [ze,zd,CLe,zg,hn])
    ·have hn:=hbad fun hq=>by rcases hq.1 with q | q | q<;>contradiction
     push_cast -dsimp [k1,k2,k3];exact dn (by push_cast -dsimp [ze,zd,CLe,zg,hn])
  by_cases k1:x.kind=1
  ·have hq:YB x:=⟨.inl k1,fun _=>⟨e0,p0⟩,fun h=>absurd h k2,fun h=>by omega⟩;push_cast -dsimp [k1,hle,hl0,p0];refine loop (fun j:Nat=>⟨[(1,.ptr 0 0),(3,.sc (.int .i64 i)),(4,.ptr 1 0),(5,.sc (.int .i64 j))],[fsC f,JU x],0,0⟩) (fun j=>j=0) (fun j=>0) 0 rfl ?_ ?_
   ·exact wk (by push_cast -dsimp [ze,zd,CLe,zg,k1,p0]) (by push_cast -dsimp [ze,zd,CLe,zg,k1,p0])
   ·rintro j rfl;by_cases hd:(0:Int)<x.data.length
    ·push_cast -dsimp [hd,k1]
     repeat refine an ?_
     exact ⟨i+1,⟨h,step hq⟩,by omega,wk⟩
    ·push_cast -dsimp [hd,k1]
     repeat refine an ?_
     exact ⟨i+1,⟨h,step hq⟩,by omega,wk⟩
  by_cases k3:x.kind=3
  case neg =>
   have hn:=hbad fun hq=>by rcases hq.1 with q | q | q<;>contradiction
   push_cast -dsimp [k1,k2,k3];exact dn (by push_cast -dsimp [ze,zd,CLe,zg,hn])
  by_cases l1:(x.data.length:Int)<1
  ·have hn:=hbad fun hq=>by have:=(hq.2.2.2 k3).1;omega
   push_cast -dsimp [k1,k2,k3,hle,hl0,p0,l1];exact dn (by push_cast -dsimp [ze,zd,CLe,zg,hn])
  by_cases l2:4095<(x.data.length:Int)
  ·have hn:=hbad fun hq=>by have:=(hq.2.2.2 k3).2.1;omega
   push_cast -dsimp [k1,k2,k3,hle,hl0,p0,l1,l2];exact dn (by push_cast -dsimp [ze,zd,CLe,zg,hn])
  push_cast -dsimp [k1,k2,k3,hle,hl0,p0,l1,l2];refine loop (fun j:Nat=>⟨[(1,.ptr 0 0),(3,.sc (.int .i64 i)),(4,.ptr 1 0),(5,.sc (.int .i64 j))],[fsC f,JU x],0,0⟩) (fun j=>j<=x.data.length/\∀ b∈x.data.take j,b≠0) (fun j=>x.data.length-j) 0 ⟨Nat.zero_le _,fun b hb=>by simp at hb⟩ ?_ ?_
  ·exact wk (by push_cast -dsimp [ze,zd,CLe,zg,k3,p0]) (by push_cast -dsimp [ze,zd,CLe,zg,k3,p0])
  ·rintro j ⟨j1,j2⟩;by_cases hj:j<x.data.length
   ·have hb:x.data[j]?=some x.data[j]:=List.getElem?_eq_getElem hj;by_cases z:(x.data[j].toNat:Int)=0
    ·have hn:=hbad fun hq=>(hq.2.2.2 k3).2.2 _ (List.getElem_mem hj) (UInt8.toNat_inj.1 (by simpa using z));push_cast -dsimp [hj,k3,hb,z]
     repeat refine an ?_
     exact dn (by push_cast -dsimp [ze,zd,CLe,zg,hn])
    ·push_cast -dsimp [hj,k3,hb,z]
     repeat refine an ?_
     exact ⟨j+1,⟨hj,qi hj j2 fun hz=>z (by rw[hz];rfl)⟩,by omega,wk⟩
   ·rw[List.take_of_length_le (by omega)]at j2;have hq:YB x:=⟨.inr (.inr k3),fun _=>⟨e0,p0⟩,fun h=>absurd h k2,fun _=>⟨by omega,by omega,j2⟩⟩;push_cast -dsimp [hj,k3]
    repeat refine an ?_
    exact ⟨i+1,⟨h,step hq⟩,by omega,wk⟩
theorem zfX (f:FsV) (hf:FsS f):Fun Tryz.prog G0 107 [.agg (fsC f)] (.sc (.int .i64 (Jm f))) 0:=by
 have h40:=hf.len;have hb:qe f.xs<=100000000:=by have:=hf.bytes;omega
 refine fon Tryz.func107 ?_;dsimp only[Tryz.f107];push_cast -dsimp;by_cases c1:Jl f
 case neg =>
  refine cl (xv f (by omega)) ?_;push_cast -dsimp [decide_eq_false c1];exact dn (by push_cast -dsimp [ze,zd,CLe,zg,Jm,c1])
 refine cl (xv f (by omega)) ?_;push_cast -dsimp [decide_eq_true c1];by_cases c2:YE f
 case neg =>
  refine cl (Hu f hf) ?_;push_cast -dsimp [decide_eq_false c2];exact dn (by push_cast -dsimp [ze,zd,CLe,zg,Jm,c1,c2])
 refine cl (Hu f hf) ?_;push_cast -dsimp [decide_eq_true c2];by_cases c3:Yl f
 case neg =>
  refine cl (NI f hf) ?_;push_cast -dsimp [decide_eq_false c3];exact dn (by push_cast -dsimp [ze,zd,CLe,zg,Jm,c1,c2,c3])
 refine cl (NI f hf) ?_;push_cast -dsimp [decide_eq_true c3];by_cases c4:Yx f
 case neg =>
  refine cl (HR f hf) ?_;push_cast -dsimp [decide_eq_false c4];exact dn (by push_cast -dsimp [ze,zd,CLe,zg,Jm,c1,c2,c3,c4])
 refine cl (HR f hf) ?_;push_cast -dsimp [decide_eq_true c4];by_cases c5:QC f
 case neg =>
  refine cl (Mv f hf c3 c1.2.2.2.2.2.2.2.1) ?_;push_cast -dsimp [decide_eq_false c5];exact dn (by push_cast -dsimp [ze,zd,CLe,zg,Jm,c1,c2,c3,c4,c5])
 refine cl (Mv f hf c3 c1.2.2.2.2.2.2.2.1) ?_;push_cast -dsimp [decide_eq_true c5];by_cases c6:kV f
 case neg =>
  refine cl (uL f hf hb) ?_;push_cast -dsimp [decide_eq_false c6];exact dn (by push_cast -dsimp [ze,zd,CLe,zg,Jm,c1,c2,c3,c4,c5,c6])
 refine cl (uL f hf hb) ?_;push_cast -dsimp [decide_eq_true c6];exact dn (by push_cast -dsimp [ze,zd,CLe,zg,Jm,c1,c2,c3,c4,c5,c6])
end
section
open CA CB
open Go.RowKit
def jz (x:zm) (k:zP):Bool:=decide (k.ino=x.ino)&&!k.content
def qw (w:qA) (x:zm):Prop:=zk x.ino w.fs.xs=false/\1<=x.ino/\x.ino<w.fs.next/\x.links=0/\x.parent=0/\x.es = []/\(x.kind=1∨x.kind=2∨x.kind=3)/\(x.kind=2->x.data = [])/\(x.kind=3->1<=x.data.length/\x.data.length<=4095/\∀ b∈x.data,b≠0)/\w.kept.any (jz x)=true
instance (w:qA) (x:zm):Decidable (qw w x):=by unfold qw;infer_instance
theorem zqA {α:Type} {P:α->Bool} {l:List α} {k:Nat} (h:k<l.length):(l.take (k+1)).any P=((l.take k).any P||P l[k]):=by
 rw[List.take_add_one,List.getElem?_eq_getElem h,List.any_append];simp
theorem zbo (w:qA) (x:zm) (hl:w.fs.xs.length<=100000) (hk:w.kept.length<=100000) (he:x.es.length<=100000) (hd:x.data.length<=100000):Fun Tryz.prog G0 109 [Qv w,.agg (JU x)] (qP (decide (qw w x))) 0:=by
 have hg:=Qn (G:=G0) w.fs x.ino hl;have hkl:(zG w.kept).length=w.kept.length:=List.length_map ..;have hle:(zL x.es).length=x.es.length:=List.length_map ..;by_cases c1:zk x.ino w.fs.xs=true
 ·have hn:¬qw w x:=fun h=>by have:=h.1;rw[c1]at this;cases this
  rw[c1]at hg;refine fon Tryz.func109 ?_;dsimp only[Tryz.f109];push_cast -dsimp;refine cl (hg) ?_;push_cast -dsimp;exact dn (by push_cast -dsimp [ze,zd,CLe,zg,hn])
 have c1:=Bool.eq_false_iff.2 c1;rw[c1]at hg;by_cases c2:x.ino<1
 case pos =>
  have hn:¬qw w x:=fun h=>by have:=h.2.1;omega
  refine fon Tryz.func109 ?_;dsimp only[Tryz.f109];push_cast -dsimp;refine cl (hg) ?_;push_cast -dsimp [hle,c2];exact dn (by push_cast -dsimp [ze,zd,CLe,zg,hn])
 by_cases c3:w.fs.next<=x.ino
 case pos =>
  have hn:¬qw w x:=fun h=>by have:=h.2.2.1;omega
  refine fon Tryz.func109 ?_;dsimp only[Tryz.f109];push_cast -dsimp;refine cl (hg) ?_;push_cast -dsimp [hle,c2,c3];exact dn (by push_cast -dsimp [ze,zd,CLe,zg,hn])
 by_cases c4:x.links=0
 case neg =>
  have hn:¬qw w x:=fun h=>c4 h.2.2.2.1;refine fon Tryz.func109 ?_;dsimp only[Tryz.f109];push_cast -dsimp;refine cl (hg) ?_;push_cast -dsimp [hle,c2,c3,c4];exact dn (by push_cast -dsimp [ze,zd,CLe,zg,hn])
 by_cases c5:x.parent=0
 case neg =>
  have hn:¬qw w x:=fun h=>c5 h.2.2.2.2.1;refine fon Tryz.func109 ?_;dsimp only[Tryz.f109];push_cast -dsimp;refine cl (hg) ?_;push_cast -dsimp [hle,c2,c3,c4,c5];exact dn (by push_cast -dsimp [ze,zd,CLe,zg,hn])
 by_cases c6:(x.es.length:Int)=0
 case neg =>
  have hn:¬qw w x:=fun h=>c6 (by rw[h.2.2.2.2.2.1];rfl);refine fon Tryz.func109 ?_;dsimp only[Tryz.f109];push_cast -dsimp;refine cl (hg) ?_;push_cast -dsimp [hle,c2,c3,c4,c5,c6];exact dn (by push_cast -dsimp [ze,zd,CLe,zg,hn])
 by_cases c7:x.kind<1
 case pos =>
  have hn:¬qw w x:=fun h=>by have:=h.2.2.2.2.2.2.1;omega
  refine fon Tryz.func109 ?_;dsimp only[Tryz.f109];push_cast -dsimp;refine cl (hg) ?_;push_cast -dsimp [hle,c2,c3,c4,c5,c6,c7];exact dn (by push_cast -dsimp [ze,zd,CLe,zg,hn])
 by_cases c8:3<x.kind
 case pos =>
  have hn:¬qw w x:=fun h=>by have:=h.2.2.2.2.2.2.1;omega
  refine fon Tryz.func109 ?_;dsimp only[Tryz.f109];push_cast -dsimp;refine cl (hg) ?_;push_cast -dsimp [hle,c2,c3,c4,c5,c6,c7,c8];exact dn (by push_cast -dsimp [ze,zd,CLe,zg,hn])
 have hes:x.es = []:=List.eq_nil_of_length_eq_zero (by omega);have hkd:x.kind=1∨x.kind=2∨x.kind=3:=by omega
 have key:(x.kind=2->x.data = [])->(x.kind=3->1<=x.data.length/\x.data.length<=4095/\∀ b∈x.data,b≠0)->decide (qw w x)=w.kept.any (jz x):=fun q1 q2=>by
  cases hn:w.kept.any (jz x) with
  | true=>exact decide_eq_true ⟨c1,by omega,by omega,c4,c5,hes,hkd,q1,q2,hn⟩
  | false=>exact decide_eq_false fun h=>by have:=h.2.2.2.2.2.2.2.2.2;rw[hn]at this;cases this
 by_cases k2:x.kind=2
 ·by_cases d0:x.data = []
  ·have hdl:((0:Int)<x.data.length)=False:=eq_false (by rw[d0];simp);refine fon Tryz.func109 ?_;dsimp only[Tryz.f109];push_cast -dsimp;refine cl (hg) ?_;push_cast -dsimp [hle,c2,c3,c4,c5,c6,c7,c8,k2,d0,hdl];refine loop (fun j:Nat=>⟨[(2,.ptr 0 0),(3,.ptr 1 0),(7,.sc (.int .i64 j))],[HB w,JU x],0,0⟩) (fun j=>j=0) (fun j=>0) 0 rfl ?_ ?_
   ·exact wk (h5:=by push_cast -dsimp [ze,zd,CLe,zg,k2,d0,c4,c5])
   ·rintro j rfl;push_cast -dsimp [hdl,d0];refine loop (fun i:Nat=>⟨[(2,.ptr 0 0),(3,.ptr 1 0),(8,.sc (.bool ((w.kept.take i).any (jz x)))),(9,.sc (.int .i64 i))],[HB w,JU x],0,0⟩) (fun i=>i<=w.kept.length) (fun i=>w.kept.length-i) 0 (Nat.zero_le _) ?_ ?_
    ·exact wk (by push_cast -dsimp [ze,zd,CLe,zg,List.take_zero,List.any_nil])
    ·intro i hi;by_cases h:i<w.kept.length
     ·have g:=jT w.kept i h;have ha:=zqA (P:=jz x) h;have hp:jz x w.kept[i]=(decide (w.kept[i].ino=x.ino)&&!w.kept[i].content):=rfl;by_cases hn:((w.kept.take i).any (jz x))=true
      ·rw[hn,Bool.true_or]at ha;push_cast -dsimp [hkl,h,hn]
       repeat refine an ?_
       exact ⟨i+1,h,by omega,wk (by push_cast -dsimp [ze,zd,CLe,zg,ha])⟩
      ·have hn:=Bool.eq_false_iff.2 hn;rw[hn,Bool.false_or,hp]at ha;by_cases he:w.kept[i].ino=x.ino
       ·rw[decide_eq_true he,Bool.true_and]at ha;push_cast -dsimp [hkl,h,hn,g,he]
        repeat refine an ?_
        exact ⟨i+1,h,by omega,wk (by push_cast -dsimp [ze,zd,CLe,zg,ha])⟩
       ·rw[decide_eq_false he,Bool.false_and]at ha;push_cast -dsimp [hkl,h,hn,g,he]
        repeat refine an ?_
        exact ⟨i+1,h,by omega,wk (by push_cast -dsimp [ze,zd,CLe,zg,ha])⟩
     ·rw[List.take_of_length_le (by omega)];have hd:decide (qw w x)=w.kept.any (jz x):=key (fun _=>d0) (fun h=>by omega);push_cast -dsimp [hkl,h];exact dn (by push_cast -dsimp [ze,zd,CLe,zg,hd])
  ·have hn:¬qw w x:=fun h=>d0 (h.2.2.2.2.2.2.2.1 k2);refine fon Tryz.func109 ?_;dsimp only[Tryz.f109];push_cast -dsimp;refine cl (hg) ?_;push_cast -dsimp [hle,c2,c3,c4,c5,c6,c7,c8,k2,d0];exact dn (by push_cast -dsimp [ze,zd,CLe,zg,hn])
 by_cases k3:x.kind=3
 ·by_cases l1:(x.data.length:Int)<1
  ·have hn:¬qw w x:=fun h=>by have:=(h.2.2.2.2.2.2.2.2.1 k3).1;omega
   refine fon Tryz.func109 ?_;dsimp only[Tryz.f109];push_cast -dsimp;refine cl (hg) ?_;push_cast -dsimp [hle,c2,c3,c4,c5,c6,c7,c8,k2,k3,l1];exact dn (by push_cast -dsimp [ze,zd,CLe,zg,hn])
  by_cases l2:4095<(x.data.length:Int)
  ·have hn:¬qw w x:=fun h=>by have:=(h.2.2.2.2.2.2.2.2.1 k3).2.1;omega
   refine fon Tryz.func109 ?_;dsimp only[Tryz.f109];push_cast -dsimp;refine cl (hg) ?_;push_cast -dsimp [hle,c2,c3,c4,c5,c6,c7,c8,k2,k3,l1,l2];exact dn (by push_cast -dsimp [ze,zd,CLe,zg,hn])
  refine fon Tryz.func109 ?_;dsimp only[Tryz.f109];push_cast -dsimp;refine cl (hg) ?_;push_cast -dsimp [hle,c2,c3,c4,c5,c6,c7,c8,k2,k3,l1,l2];refine loop (fun j:Nat=>⟨[(2,.ptr 0 0),(3,.ptr 1 0),(7,.sc (.int .i64 j))],[HB w,JU x],0,0⟩) (fun j=>j<=x.data.length/\∀ b∈x.data.take j,b≠0) (fun j=>x.data.length-j) 0 ⟨Nat.zero_le _,fun b hb=>by simp at hb⟩ ?_ ?_
  ·exact wk (h5:=by push_cast -dsimp [ze,zd,CLe,zg,k3,c4,c5])
  ·rintro j ⟨j1,j2⟩;by_cases hj:j<x.data.length
   ·have hb:x.data[j]?=some x.data[j]:=List.getElem?_eq_getElem hj;by_cases z:(x.data[j].toNat:Int)=0
    ·have hn:¬qw w x:=fun h=>(h.2.2.2.2.2.2.2.2.1 k3).2.2 _ (List.getElem_mem hj) (UInt8.toNat_inj.1 (by simpa using z));push_cast -dsimp [hj,k3,hb,z]
     repeat refine an ?_
     exact dn (by push_cast -dsimp [ze,zd,CLe,zg,hn])
    ·push_cast -dsimp [hj,k3,hb,z]
     repeat refine an ?_
     exact ⟨j+1,⟨hj,qi hj j2 fun hz=>z (by rw[hz];rfl)⟩,by omega,wk⟩
   ·rw[List.take_of_length_le (by omega)]at j2;push_cast -dsimp [hj,k3];refine loop (fun i:Nat=>⟨[(2,.ptr 0 0),(3,.ptr 1 0),(8,.sc (.bool ((w.kept.take i).any (jz x)))),(9,.sc (.int .i64 i))],[HB w,JU x],0,0⟩) (fun i=>i<=w.kept.length) (fun i=>w.kept.length-i) 0 (Nat.zero_le _) ?_ ?_
    ·exact wk (by push_cast -dsimp [ze,zd,CLe,zg,List.take_zero,List.any_nil])
    ·intro i hi;by_cases h:i<w.kept.length
     ·have g:=jT w.kept i h;have ha:=zqA (P:=jz x) h;have hp:jz x w.kept[i]=(decide (w.kept[i].ino=x.ino)&&!w.kept[i].content):=rfl;by_cases hn:((w.kept.take i).any (jz x))=true
      ·rw[hn,Bool.true_or]at ha;push_cast -dsimp [hkl,h,hn]
       repeat refine an ?_
       exact ⟨i+1,h,by omega,wk (by push_cast -dsimp [ze,zd,CLe,zg,ha])⟩
      ·have hn:=Bool.eq_false_iff.2 hn;rw[hn,Bool.false_or,hp]at ha;by_cases he:w.kept[i].ino=x.ino
       ·rw[decide_eq_true he,Bool.true_and]at ha;push_cast -dsimp [hkl,h,hn,g,he]
        repeat refine an ?_
        exact ⟨i+1,h,by omega,wk (by push_cast -dsimp [ze,zd,CLe,zg,ha])⟩
       ·rw[decide_eq_false he,Bool.false_and]at ha;push_cast -dsimp [hkl,h,hn,g,he]
        repeat refine an ?_
        exact ⟨i+1,h,by omega,wk (by push_cast -dsimp [ze,zd,CLe,zg,ha])⟩
     ·rw[List.take_of_length_le (by omega)];have hd:decide (qw w x)=w.kept.any (jz x):=key (fun h=>absurd h k2) (fun _=>⟨by omega,by omega,j2⟩);push_cast -dsimp [hkl,h];exact dn (by push_cast -dsimp [ze,zd,CLe,zg,hd])
 ·have k1:x.kind=1:=by omega
  refine fon Tryz.func109 ?_;dsimp only[Tryz.f109];push_cast -dsimp;refine cl (hg) ?_;push_cast -dsimp [hle,c2,c3,c4,c5,c6,c7,c8,k2,k3];refine loop (fun j:Nat=>⟨[(2,.ptr 0 0),(3,.ptr 1 0),(7,.sc (.int .i64 j))],[HB w,JU x],0,0⟩) (fun j=>j=0) (fun j=>0) 0 rfl ?_ ?_
  ·exact wk (h5:=by push_cast -dsimp [ze,zd,CLe,zg,c4,c5])
  ·rintro j rfl;by_cases hd0:(0:Int)<x.data.length
   ·push_cast -dsimp [hd0,k3];refine loop (fun i:Nat=>⟨[(2,.ptr 0 0),(3,.ptr 1 0),(8,.sc (.bool ((w.kept.take i).any (jz x)))),(9,.sc (.int .i64 i))],[HB w,JU x],0,0⟩) (fun i=>i<=w.kept.length) (fun i=>w.kept.length-i) 0 (Nat.zero_le _) ?_ ?_
    ·exact wk (by push_cast -dsimp [ze,zd,CLe,zg,List.take_zero,List.any_nil])
    ·intro i hi;by_cases h:i<w.kept.length
     ·have g:=jT w.kept i h;have ha:=zqA (P:=jz x) h;have hp:jz x w.kept[i]=(decide (w.kept[i].ino=x.ino)&&!w.kept[i].content):=rfl;by_cases hn:((w.kept.take i).any (jz x))=true
      ·rw[hn,Bool.true_or]at ha;push_cast -dsimp [hkl,h,hn]
       repeat refine an ?_
       exact ⟨i+1,h,by omega,wk (by push_cast -dsimp [ze,zd,CLe,zg,ha])⟩
      ·have hn:=Bool.eq_false_iff.2 hn;rw[hn,Bool.false_or,hp]at ha;by_cases he:w.kept[i].ino=x.ino
       ·rw[decide_eq_true he,Bool.true_and]at ha;push_cast -dsimp [hkl,h,hn,g,he]
        repeat refine an ?_
        exact ⟨i+1,h,by omega,wk (by push_cast -dsimp [ze,zd,CLe,zg,ha])⟩
       ·rw[decide_eq_false he,Bool.false_and]at ha;push_cast -dsimp [hkl,h,hn,g,he]
        repeat refine an ?_
        exact ⟨i+1,h,by omega,wk (by push_cast -dsimp [ze,zd,CLe,zg,ha])⟩
     ·rw[List.take_of_length_le (by omega)];have hd:decide (qw w x)=w.kept.any (jz x):=key (fun h=>absurd h k2) (fun h=>absurd h k3);push_cast -dsimp [hkl,h];exact dn (by push_cast -dsimp [ze,zd,CLe,zg,hd])
   ·push_cast -dsimp [hd0,k3];refine loop (fun i:Nat=>⟨[(2,.ptr 0 0),(3,.ptr 1 0),(8,.sc (.bool ((w.kept.take i).any (jz x)))),(9,.sc (.int .i64 i))],[HB w,JU x],0,0⟩) (fun i=>i<=w.kept.length) (fun i=>w.kept.length-i) 0 (Nat.zero_le _) ?_ ?_
    ·exact wk (by push_cast -dsimp [ze,zd,CLe,zg,List.take_zero,List.any_nil])
    ·intro i hi;by_cases h:i<w.kept.length
     ·have g:=jT w.kept i h;have ha:=zqA (P:=jz x) h;have hp:jz x w.kept[i]=(decide (w.kept[i].ino=x.ino)&&!w.kept[i].content):=rfl;by_cases hn:((w.kept.take i).any (jz x))=true
      ·rw[hn,Bool.true_or]at ha;push_cast -dsimp [hkl,h,hn]
       repeat refine an ?_
       exact ⟨i+1,h,by omega,wk (by push_cast -dsimp [ze,zd,CLe,zg,ha])⟩
      ·have hn:=Bool.eq_false_iff.2 hn;rw[hn,Bool.false_or,hp]at ha;by_cases he:w.kept[i].ino=x.ino
       ·rw[decide_eq_true he,Bool.true_and]at ha;push_cast -dsimp [hkl,h,hn,g,he]
        repeat refine an ?_
        exact ⟨i+1,h,by omega,wk (by push_cast -dsimp [ze,zd,CLe,zg,ha])⟩
       ·rw[decide_eq_false he,Bool.false_and]at ha;push_cast -dsimp [hkl,h,hn,g,he]
        repeat refine an ?_
        exact ⟨i+1,h,by omega,wk (by push_cast -dsimp [ze,zd,CLe,zg,ha])⟩
     ·rw[List.take_of_length_le (by omega)];have hd:decide (qw w x)=w.kept.any (jz x):=key (fun h=>absurd h k2) (fun h=>absurd h k3);push_cast -dsimp [hkl,h];exact dn (by push_cast -dsimp [ze,zd,CLe,zg,hd])
end
section
open CA CB
open Go.RowKit
def zgP (w:qA):Prop:=(∀ k∈w.kept,k.data.length<=5000)/\kW w.fs.xs/\kW w.pool/\w.kept.length<=40
instance (w:qA):Decidable (zgP w):=by unfold zgP;infer_instance
def Xu (w:qA) (k:zP):Prop:=k.slot<=1073741824/\(zk k.ino w.fs.xs=true∨zk k.ino w.pool=true)/\(k.content=true->(if zk k.ino w.pool=true then zf k.ino w.pool else zf k.ino w.fs.xs).kind=1)/\(k.content=false->k.data = [])
instance (w:qA) (k:zP):Decidable (Xu w k):=by unfold Xu;infer_instance
def XI (ks:List zP):Prop:=qF j6 zP.slot ks/\∀ k∈ks,1<=k.slot
instance (ks:List zP):Decidable (XI ks):=by unfold XI qF;infer_instance
def Xq (w:qA):Prop:=Jm w.fs=0/\zX w.pool/\(∀ x∈w.pool,qw w x)/\XI w.kept/\∀ k∈w.kept,Xu w k
instance (w:qA):Decidable (Xq w):=by unfold Xq;infer_instance
def okW (w:qA):Prop:=zgP w/\Xq w
instance (w:qA):Decidable (okW w):=by unfold okW;infer_instance
theorem Un {ks:List zP} (h:XI ks):0<=j7 ks/\∀ k∈ks,k.slot<=j7 ks:=by
 rcases List.eq_nil_or_concat ks with rfl | ⟨l,b,rfl⟩
 ·exact ⟨Int.le_refl 0,fun k hk=>by cases hk⟩
 ·rw[List.concat_eq_append]at h ⊢;have hl:j7 (l++[b])=b.slot:=by unfold j7;rw[List.getLast?_append];rfl
  rw[hl];have hb:=h.2 b (by simp);refine ⟨by omega,fun k hk=>?_⟩;rcases List.mem_append.1 hk with hk | hk
  ·have:=(List.pairwise_append.1 h.1).2.2 k hk b (by simp);have:k.slot<b.slot:=of_decide_eq_true this;omega
  ·rw[List.mem_singleton.1 hk];exact Int.le_refl _
theorem Uk {ks:List zP} {k:zP}:XI (ks++[k])↔XI ks/\j7 ks<k.slot:=by
 constructor
 ·rintro ⟨h1,h2⟩;have h0:XI ks:=⟨(List.pairwise_append.1 h1).1,fun x hx=>h2 x (List.mem_append_left _ hx)⟩;refine ⟨h0,?_⟩;rcases List.eq_nil_or_concat ks with rfl | ⟨l,b,rfl⟩
  ·have:=h2 k (by simp);show (0:Int)<k.slot;omega
  ·rw[List.concat_eq_append]at h1 ⊢;have hl:j7 (l++[b])=b.slot:=by unfold j7;rw[List.getLast?_append];rfl
   rw[hl];exact of_decide_eq_true ((List.pairwise_append.1 h1).2.2 b (by simp) k (by simp))
 ·rintro ⟨h,hk⟩;obtain ⟨q1,q2⟩:=Un h;refine ⟨List.pairwise_append.2 ⟨h.1,List.pairwise_singleton _ _,fun a ha b hb=>?_⟩,fun x hx=>?_⟩
  ·rw[List.mem_singleton.1 hb];have:=q2 a ha;exact decide_eq_true (show a.slot<k.slot by omega)
  ·rcases List.mem_append.1 hx with hx | hx
   ·exact h.2 x hx
   ·rw[List.mem_singleton.1 hx];omega
theorem Hv (w:qA):Fun Tryz.prog G0 61 [Qv w] (qP (decide (zgP w))) 0:=by
 have hkl:(zG w.kept).length=w.kept.length:=List.length_map ..;have hf:=uU (G:=G0) w.fs;have hq:=Uw (G:=G0) w;have hp:=uU (G:=G0) ⟨0,0,0,w.pool⟩;simp only at hp;have fin:(∀ k∈w.kept.take 100,k.data.length<=5000)->(zgP w↔kW w.fs.xs/\kW w.pool/\w.kept.length<=40):=fun h=>by
  refine ⟨fun q=>q.2,fun q=>⟨?_,q⟩⟩;rw[List.take_of_length_le (by have:=q.2.2;omega)]at h;exact h
 refine fon Tryz.func61 ?_;dsimp only[Tryz.f61];push_cast -dsimp;refine loop (fun i:Nat=>⟨[(1,.ptr 0 0),(3,.sc (.int .i64 i))],[HB w],0,0⟩) (fun i=>i<=w.kept.length/\i<=100/\∀ k∈w.kept.take i,k.data.length<=5000) (fun i=>w.kept.length-i) 0 ⟨Nat.zero_le _,Nat.zero_le _,fun x hx=>by simp at hx⟩ ?_ ?_
 ·exact wk
 ·rintro i ⟨h1,h2,h3⟩;have last:(∀ k∈w.kept.take 100,k.data.length<=5000)->decide (zgP w)=(decide (kW w.fs.xs)&&(decide (kW w.pool)&&decide (w.kept.length<=40))):=fun h=>by
   have:=fin h;by_cases a:kW w.fs.xs<;>by_cases b:kW w.pool<;>by_cases c:w.kept.length<=40<;>simp[this,a,b,c]
  by_cases h:i<w.kept.length
  ·by_cases h100:i<100
   ·have g:=jT w.kept i h;have h100':((i:Int)<100)=True:=eq_true (by omega);by_cases hd:5000<(w.kept[i].data.length:Int)
    ·have hn:¬zgP w:=fun q=>by have:=q.1 _ (List.getElem_mem h);omega
     push_cast -dsimp [hkl,h,h100',g,hd]
     repeat refine an ?_
     exact dn (by push_cast -dsimp [ze,zd,CLe,zg,hn])
    ·push_cast -dsimp [hkl,h,h100',g,hd]
     repeat refine an ?_
     exact ⟨i+1,⟨h,h100,qi h h3 (by omega)⟩,by omega,wk⟩
   ·have h100':((i:Int)<100)=False:=eq_false (by omega);have e:i=100:=by omega
    have hl:=last (by rw[←e];exact h3);have h40:((w.kept.length:Int)<=40)=False:=eq_false (by omega);rw[decide_eq_false (show ¬w.kept.length<=40 by omega)]at hl;rw[hl];by_cases a:kW w.fs.xs
    ·by_cases b:kW w.pool
     ·push_cast -dsimp [hkl,h,h100'];refine cl (hf) ?_;push_cast -dsimp [decide_eq_true a];refine cl (hq) ?_;push_cast -dsimp;refine cl (hp) ?_;push_cast -dsimp [decide_eq_true b,hkl,h40];exact dn (by push_cast -dsimp [ze,zd,CLe,zg,a,b,Bool.false_and])
     ·push_cast -dsimp [hkl,h,h100'];refine cl (hf) ?_;push_cast -dsimp [decide_eq_true a];refine cl (hq) ?_;push_cast -dsimp;refine cl (hp) ?_;push_cast -dsimp [decide_eq_false b];exact dn (by push_cast -dsimp [ze,zd,CLe,zg,a,b,Bool.false_and])
    ·push_cast -dsimp [hkl,h,h100'];refine cl (hf) ?_;push_cast -dsimp [decide_eq_false a];exact dn (by push_cast -dsimp [ze,zd,CLe,zg,a,Bool.false_and])
  ·rw[List.take_of_length_le (by omega)]at h3;have hl:=last fun k hk=>h3 k (List.mem_of_mem_take hk);rw[hl];by_cases a:kW w.fs.xs
   ·by_cases b:kW w.pool
    ·by_cases c:w.kept.length<=40
     ·have h40:((w.kept.length:Int)<=40)=True:=eq_true (by omega);push_cast -dsimp [hkl,h];refine cl (hf) ?_;push_cast -dsimp [decide_eq_true a];refine cl (hq) ?_;push_cast -dsimp;refine cl (hp) ?_;push_cast -dsimp [decide_eq_true b,hkl,h40];exact dn (by push_cast -dsimp [ze,zd,CLe,zg,a,b,c,Bool.false_and])
     ·have h40:((w.kept.length:Int)<=40)=False:=eq_false (by omega);push_cast -dsimp [hkl,h];refine cl (hf) ?_;push_cast -dsimp [decide_eq_true a];refine cl (hq) ?_;push_cast -dsimp;refine cl (hp) ?_;push_cast -dsimp [decide_eq_true b,hkl,h40];exact dn (by push_cast -dsimp [ze,zd,CLe,zg,a,b,c,Bool.false_and])
    ·push_cast -dsimp [hkl,h];refine cl (hf) ?_;push_cast -dsimp [decide_eq_true a];refine cl (hq) ?_;push_cast -dsimp;refine cl (hp) ?_;push_cast -dsimp [decide_eq_false b];exact dn (by push_cast -dsimp [ze,zd,CLe,zg,a,b,Bool.false_and])
   ·push_cast -dsimp [hkl,h];refine cl (hf) ?_;push_cast -dsimp [decide_eq_false a];exact dn (by push_cast -dsimp [ze,zd,CLe,zg,a,Bool.false_and])
structure zr2 (w:qA):Prop where
 fs:FsS w.fs
 kept:w.kept.length<=10000
 pool:FsS ⟨0,0,0,w.pool⟩
theorem y7 (w:qA) (hw:zr2 w):Fun Tryz.prog G0 62 [Qv w] (qP (decide (Xq w))) 0:=by
 have hfl:=hw.fs.len;have hkk:=hw.kept;have hpp:w.pool.length<=10000:=hw.pool.len;have hkl:(zG w.kept).length=w.kept.length:=List.length_map ..;have hpl:(zq w.pool).length=w.pool.length:=List.length_map ..;have hch:=zfX w.fs hw.fs;have hq:=Uw (G:=G0) w;have hri:=Ue (G:=G0) ⟨0,0,0,w.pool⟩ (by simp only;omega);by_cases c1:Jm w.fs=0
 case neg =>
  have hn:¬Xq w:=fun h=>c1 h.1;refine fof (fun i=>if i=14 then jS 8 9 else []) Tryz.func62 ?_;dsimp only[Tryz.f62];push_cast -dsimp;refine cl (hch) ?_;push_cast -dsimp [c1];exact dn (by push_cast -dsimp [ze,zd,CLe,zg,hn])
 by_cases c2:zX w.pool
 case neg =>
  have hn:¬Xq w:=fun h=>c2 h.2.1;rw[decide_eq_false c2]at hri;refine fof (fun i=>if i=14 then jS 8 9 else []) Tryz.func62 ?_;dsimp only[Tryz.f62];push_cast -dsimp;refine cl (hch) ?_;push_cast -dsimp [c1];refine cl (hq) ?_;push_cast -dsimp;refine cl (hri) ?_;push_cast -dsimp;exact dn (by push_cast -dsimp [ze,zd,CLe,zg,hn])
 rw[decide_eq_true c2]at hri;refine fof (fun i=>if i=14 then jS 8 9 else []) Tryz.func62 ?_;dsimp only[Tryz.f62];push_cast -dsimp;refine cl (hch) ?_;push_cast -dsimp [c1];refine cl (hq) ?_;push_cast -dsimp;refine cl (hri) ?_;push_cast -dsimp;refine loop (fun i:Nat=>⟨[(1,.ptr 0 0),(3,.sc (.int .i64 i))],[HB w],0,0⟩) (fun i=>i<=w.pool.length/\∀ x∈w.pool.take i,qw w x) (fun i=>w.pool.length-i) 0 ⟨Nat.zero_le _,fun x hx=>by simp at hx⟩ ?_ ?_
 ·exact wk
 rintro i ⟨h1,h2⟩;by_cases h:i<w.pool.length
 ·have g:=qU w.pool i h;have hn:=hw.pool.node _ (List.getElem_mem h);have hpo:=zbo w w.pool[i] (by omega) (by omega) (by omega) (by omega);by_cases c3:qw w w.pool[i]
  ·rw[decide_eq_true c3]at hpo;push_cast -dsimp [hpl,h,g]
   repeat refine an ?_
   refine cl (hpo) ?_;push_cast -dsimp
   repeat refine an ?_
   exact ⟨i+1,⟨h,qi h h2 c3⟩,by omega,wk⟩
  ·rw[decide_eq_false c3]at hpo;have hn:¬Xq w:=fun q=>c3 (q.2.2.1 _ (List.getElem_mem h));push_cast -dsimp [hpl,h,g]
   repeat refine an ?_
   refine cl (hpo) ?_;push_cast -dsimp;exact dn (by push_cast -dsimp [ze,zd,CLe,zg,hn])
 rw[List.take_of_length_le (by omega)]at h2;have hs0:XI []:=⟨List.Pairwise.nil,fun k hk=>by cases hk⟩;have hl0:j7 []=0:=rfl;push_cast -dsimp [hpl,h];clear hri hq hch;refine loop (fun i:Nat=>⟨[(1,.ptr 0 0),(4,.sc (.int .i64 (j7 (w.kept.take i)))),(5,.sc (.int .i64 i))],[HB w],0,0⟩) (fun i=>i<=w.kept.length/\XI (w.kept.take i)/\∀ k∈w.kept.take i,Xu w k) (fun i=>w.kept.length-i) 0 ⟨Nat.zero_le _,by rw[List.take_zero];exact hs0,fun x hx=>by simp at hx⟩ ?_ ?_
 ·exact wk (by push_cast -dsimp [ze,zd,CLe,zg,List.take_zero,hl0])
 rintro i ⟨i1,i2,i3⟩;by_cases hi:i<w.kept.length
 case neg =>
  rw[List.take_of_length_le (by omega)]at i2 i3;have hn:Xq w:=⟨c1,c2,h2,i2,i3⟩;push_cast -dsimp [hkl,hi];exact dn (by push_cast -dsimp [ze,zd,CLe,zg,hn])
 have g:=jT w.kept i hi;have hlt:=UR hi;have hst:w.kept.take (i+1)=w.kept.take i++[w.kept[i]]:=by rw[List.take_add_one,List.getElem?_eq_getElem hi];rfl
 have hbad1:¬j7 (w.kept.take i)<w.kept[i].slot->¬Xq w:=fun hn q=>hn (Uk.1 (by
  rw[←hst];exact ⟨q.2.2.2.1.1.sublist (List.take_sublist _ _),fun k hk=>q.2.2.2.1.2 k (List.mem_of_mem_take hk)⟩)).2
 have hbad2:¬Xu w w.kept[i]->¬Xq w:=fun hn q=>hn (q.2.2.2.2 _ (List.getElem_mem hi));have hgood:j7 (w.kept.take i)<w.kept[i].slot->XI (w.kept.take (i+1)):=fun q=>by rw[hst];exact Uk.2 ⟨i2,q⟩
 have hgood2:Xu w w.kept[i]->∀ k∈w.kept.take (i+1),Xu w k:=fun q=>qi hi i3 q;have hg1:=Qn (G:=G0) w.fs w.kept[i].ino (by omega);have hq:=Uw (G:=G0) w;have hg2:=Qn (G:=G0) ⟨0,0,0,w.pool⟩ w.kept[i].ino (by simp only;omega);simp only at hg2;generalize w.kept[i]=k at g hlt hbad1 hbad2 hgood hgood2 hg1 hg2;generalize j7 (w.kept.take i)=la at hbad1 hgood;clear hst i2 i3;by_cases d1:k.slot<=la
 ·have hn:=hbad1 (by omega);push_cast -dsimp [hkl,hi,g]
  repeat refine an ?_
  refine cl (hg1) ?_;push_cast -dsimp;refine cl (hq) ?_;push_cast -dsimp;refine cl (hg2) ?_;push_cast -dsimp [d1];exact dn (by push_cast -dsimp [ze,zd,CLe,zg,hn])
 have hgd:=hgood (by omega);by_cases d2:1073741824<k.slot
 ·have hn:=hbad2 fun q=>by have:=q.1;omega
  push_cast -dsimp [hkl,hi,g]
  repeat refine an ?_
  refine cl (hg1) ?_;push_cast -dsimp;refine cl (hq) ?_;push_cast -dsimp;refine cl (hg2) ?_;push_cast -dsimp [d1,d2];exact dn (by push_cast -dsimp [ze,zd,CLe,zg,hn])
 cases e2:zk k.ino w.pool with
 | true =>
  rw[e2]at hg2;by_cases d4:k.content=true
  ·by_cases d5:(zf k.ino w.pool).kind=1
   ·have hok:Xu w k:=⟨by omega,.inr e2,fun _=>by rw[if_pos e2];exact d5,fun q=>by rw[d4]at q;cases q⟩;cases e1:zk k.ino w.fs.xs <;>
    ·rw[e1]at hg1;push_cast -dsimp [hkl,hi,g]
     repeat refine an ?_
     refine cl (hg1) ?_;push_cast -dsimp;refine cl (hq) ?_;push_cast -dsimp;refine cl (hg2) ?_;push_cast -dsimp [d1,d2,d4,d5]
     repeat refine an ?_
     exact ⟨i+1,⟨hi,hgd,hgood2 hok⟩,by omega,wk (by push_cast -dsimp [ze,zd,CLe,zg,hlt])⟩
   ·have hn:=hbad2 fun q=>d5 (by have:=q.2.2.1 d4;rwa [if_pos e2]at this);cases e1:zk k.ino w.fs.xs <;>
    ·rw[e1]at hg1;push_cast -dsimp [hkl,hi,g]
     repeat refine an ?_
     refine cl (hg1) ?_;push_cast -dsimp;refine cl (hq) ?_;push_cast -dsimp;refine cl (hg2) ?_;push_cast -dsimp [d1,d2,d4,d5];exact dn (by push_cast -dsimp [ze,zd,CLe,zg,hn])
  ·have d4:=Bool.eq_false_iff.2 d4;by_cases d6:k.data = []
   ·have hok:Xu w k:=⟨by omega,.inr e2,fun q=>(by rw[d4]at q;cases q),fun _=>d6⟩;cases e1:zk k.ino w.fs.xs <;>
    ·rw[e1]at hg1;push_cast -dsimp [hkl,hi,g]
     repeat refine an ?_
     refine cl (hg1) ?_;push_cast -dsimp;refine cl (hq) ?_;push_cast -dsimp;refine cl (hg2) ?_;push_cast -dsimp [d1,d2,d4,d6]
     repeat refine an ?_
     exact ⟨i+1,⟨hi,hgd,hgood2 hok⟩,by omega,wk (by push_cast -dsimp [ze,zd,CLe,zg,hlt])⟩
   ·have hn:=hbad2 fun q=>d6 (q.2.2.2 d4);cases e1:zk k.ino w.fs.xs <;>
    ·rw[e1]at hg1;push_cast -dsimp [hkl,hi,g]
     repeat refine an ?_
     refine cl (hg1) ?_;push_cast -dsimp;refine cl (hq) ?_;push_cast -dsimp;refine cl (hg2) ?_;push_cast -dsimp [d1,d2,d4,d6];exact dn (by push_cast -dsimp [ze,zd,CLe,zg,hn])
 | false =>
  rw[e2]at hg2;cases e1:zk k.ino w.fs.xs with
  | false =>
   rw[e1]at hg1;have hn:=hbad2 fun q=>by
    rcases q.2.1 with q | q
    ·rw[e1]at q;cases q
    ·rw[e2]at q;cases q
   push_cast -dsimp [hkl,hi,g]
   repeat refine an ?_
   refine cl (hg1) ?_;push_cast -dsimp;refine cl (hq) ?_;push_cast -dsimp;refine cl (hg2) ?_;push_cast -dsimp [d1,d2];exact dn (by push_cast -dsimp [ze,zd,CLe,zg,hn])
  | true =>
   rw[e1]at hg1;have e2':¬zk k.ino w.pool=true:=by rw[e2];decide
   by_cases d4:k.content=true
   ·by_cases d5:(zf k.ino w.fs.xs).kind=1
    ·have hok:Xu w k:=⟨by omega,.inl e1,fun _=>by rw[if_neg e2'];exact d5,fun q=>by rw[d4]at q;cases q⟩;push_cast -dsimp [hkl,hi,g]
     repeat refine an ?_
     refine cl (hg1) ?_;push_cast -dsimp;refine cl (hq) ?_;push_cast -dsimp;refine cl (hg2) ?_;push_cast -dsimp [d1,d2,d4,d5]
     repeat refine an ?_
     exact ⟨i+1,⟨hi,hgd,hgood2 hok⟩,by omega,wk (by push_cast -dsimp [ze,zd,CLe,zg,hlt])⟩
    ·have hn:=hbad2 fun q=>d5 (by have:=q.2.2.1 d4;rwa [if_neg e2']at this);push_cast -dsimp [hkl,hi,g]
     repeat refine an ?_
     refine cl (hg1) ?_;push_cast -dsimp;refine cl (hq) ?_;push_cast -dsimp;refine cl (hg2) ?_;push_cast -dsimp [d1,d2,d4,d5];exact dn (by push_cast -dsimp [ze,zd,CLe,zg,hn])
   ·have d4:=Bool.eq_false_iff.2 d4;by_cases d6:k.data = []
    ·have hok:Xu w k:=⟨by omega,.inl e1,fun q=>(by rw[d4]at q;cases q),fun _=>d6⟩;push_cast -dsimp [hkl,hi,g]
     repeat refine an ?_
     refine cl (hg1) ?_;push_cast -dsimp;refine cl (hq) ?_;push_cast -dsimp;refine cl (hg2) ?_;push_cast -dsimp [d1,d2,d4,d6]
     repeat refine an ?_
     exact ⟨i+1,⟨hi,hgd,hgood2 hok⟩,by omega,wk (by push_cast -dsimp [ze,zd,CLe,zg,hlt])⟩
    ·have hn:=hbad2 fun q=>d6 (q.2.2.2 d4);push_cast -dsimp [hkl,hi,g]
     repeat refine an ?_
     refine cl (hg1) ?_;push_cast -dsimp;refine cl (hq) ?_;push_cast -dsimp;refine cl (hg2) ?_;push_cast -dsimp [d1,d2,d4,d6];exact dn (by push_cast -dsimp [ze,zd,CLe,zg,hn])
theorem zgP.m {w:qA} (h:zgP w):zr2 w:=⟨h.2.1.fs,by have:=h.2.2.2;omega,kW.fs (f:=⟨0,0,0,w.pool⟩) h.2.2.1⟩
theorem zfi (w:qA):Fun Tryz.prog G0 34 [Qv w] (qP (decide (okW w))) 0:=by
 by_cases c:zgP w
 ·have h1:=Hv w;have h2:=y7 w c.m;rw[decide_eq_true c]at h1;have e:decide (okW w)=decide (Xq w):=by by_cases r:Xq w<;>simp[okW,c,r]
  refine fon Tryz.func34 ?_;dsimp only[Tryz.f34];push_cast -dsimp;refine cl (h1) ?_;push_cast -dsimp;refine cl (h2) ?_;push_cast -dsimp;exact dn (by push_cast -dsimp [ze,zd,CLe,zg,e])
 ·have h1:=Hv w;rw[decide_eq_false c]at h1;have e:¬okW w:=fun h=>c h.1;refine fon Tryz.func34 ?_;dsimp only[Tryz.f34];push_cast -dsimp;refine cl (h1) ?_;push_cast -dsimp;exact dn (by push_cast -dsimp [ze,zd,CLe,zg,e])
end
section
open Go.RowKit
section
variable {G:zp}
theorem zfa (n:Nat) (hn:n<=200000) (h0:0<n):Yr Tryz.prog G 172 [.sc (.slice none 0 0),.sc (.int .i64 n)] [] 0 (fun r bx' m=>m=0/\∃ (c:Nat) (B:List C),n<=c/\c<=9223372036854775807/\B.length=c*5/\(B.all C.stayB)=true/\r = .bs 0 0 5 0 c/\bx' = [B]):=by
 have hp:((n:Int)<0)=False:=eq_false (by omega);have hq:((0:Int)<(n:Int))=True:=eq_true (by omega);refine foX (fun i=>if i=1000000+37 then [true,true] else []) Tryz.func172 ?_;dsimp only[Tryz.f172];push_cast -dsimp [hp,hq];refine ⟨⟨by omega,by omega⟩,zfb zir znu zhv rfl (by decide) rfl (by omega) (by omega) (by omega) (fun c h1 h2=>?_)⟩;push_cast -dsimp;have hm:(n:Int).toNat=n:=by omega
 rw[hm]at h1;have h2:c<=9223372036854775807:=h2;refine ⟨by omega,by omega,_,[(List.replicate n [C.sc (.int .i64 0),C.sc (.int .i64 0),C.str [],C.str [],C.str []]).flatten++List.replicate ((c-n)*5) C.any],0,⟨⟨rfl,c,_,h1,h2,?_,?_,rfl,rfl⟩,Nat.zero_le _⟩,[],rfl,rfl,?_,by push_cast -dsimp [ze,zd,CLe,zg]⟩
 ·simp[hm];omega
 ·simp[List.all_append,List.all_replicate,C.stayB]
 ·push_cast -dsimp [ze,zd,CLe,zg];exact zO (by simp[List.all_append,List.all_replicate,C.stayB])
theorem zaZ:Fun Tryz.prog G 116 [.sc (.slice none 0 0),.sc (.int .i64 0)] (.sc (.slice none 0 0)) 0:=by
 refine fon Tryz.func116 ?_;dsimp only[Tryz.f116];push_cast -dsimp;exact dn
theorem zdR (n:Nat) (hn:n<=200000) (h0:0<n):Yr Tryz.prog G 116 [.sc (.slice none 0 0),.sc (.int .i64 n)] [] 0 (fun r bx' m=>m=0/\∃ (c:Nat) (B:List C),n<=c/\c<=9223372036854775807/\B.length=c*1/\(B.all C.stayB)=true/\r = .bs 0 0 1 0 c/\bx' = [B]):=by
 have hp:((n:Int)<0)=False:=eq_false (by omega);have hq:((0:Int)<(n:Int))=True:=eq_true (by omega);refine foX (fun i=>if i=1000000+30 then [true,true] else []) Tryz.func116 ?_;dsimp only[Tryz.f116];push_cast -dsimp [hp,hq];refine ⟨⟨by omega,by omega⟩,zfb zjy znu zqy rfl (by decide) rfl (by omega) (by omega) (by omega) (fun c h1 h2=>?_)⟩;push_cast -dsimp;have hm:(n:Int).toNat=n:=by omega
 rw[hm]at h1;have h2:c<=9223372036854775807:=h2;refine ⟨by omega,by omega,_,[(List.replicate n [C.str []]).flatten++List.replicate ((c-n)*1) C.any],0,⟨⟨rfl,c,_,h1,h2,?_,?_,rfl,rfl⟩,Nat.zero_le _⟩,[],rfl,rfl,?_,by push_cast -dsimp [ze,zd,CLe,zg]⟩
 ·simp[hm];omega
 ·simp[List.all_append,List.all_replicate,C.stayB]
 ·push_cast -dsimp [ze,zd,CLe,zg];exact zO (by simp[List.all_append,List.all_replicate,C.stayB])
end
end
section
open CA CB
open Go.RowKit
def szN (a b:Nat):Nat->Nat
 | 0=>0
 | 1=>a
 | _=>a+b
def zol {α:Type} (a b:List α):Nat->List α
 | 0=>[]
 | 1=>a
 | _=>a++b
structure Gm (k c:Nat) (a b:List (List C)) (j:Nat) (X:List C):Prop where
 len:X.length=c*k
 stay:(X.all C.stayB)=true
 cells:X.take (szN a.length b.length j*k)=(zol a b j).flatten
theorem Gm.step {k c:Nat} {a b r:List (List C)} {j:Nat} {X:List C} (h:Gm k c a b j X) (hr:zol a b (j+1)=zol a b j++r) (hn:szN a.length b.length (j+1)=szN a.length b.length j+r.length) (hk:∀ x∈r,x.length=k) (hs:jd r) (hc:szN a.length b.length (j+1)<=c) :
  Gm k c a b (j+1) (spl X (szN a.length b.length j*k) r.flatten):=by
 have hf:=qm hk;obtain ⟨h1,h2,h3⟩:=h;have hle:(szN a.length b.length j+r.length)*k<=c*k:=Nat.mul_le_mul_right k (by omega);rw[Nat.add_mul]at hle;refine ⟨by rw[QP (by omega)];exact h1,?_,?_⟩
 ·unfold spl;rw[List.all_append,List.all_append,Bool.and_eq_true,Bool.and_eq_true];rw[List.all_eq_true]at h2;exact ⟨⟨List.all_eq_true.2 fun x hx=>h2 x (List.mem_of_mem_take hx),Qo hs⟩,List.all_eq_true.2 fun x hx=>h2 x (List.mem_of_mem_drop hx)⟩
 ·unfold spl;rw[hn,Nat.add_mul,hr,List.flatten_append,←h3,List.append_assoc,List.take_append];have e1:(X.take (szN a.length b.length j*k)).length=szN a.length b.length j*k:=by rw[List.length_take];omega
  rw[e1,List.take_of_length_le (by omega),Nat.add_sub_cancel_left,List.take_append,←hf,List.take_of_length_le (Nat.le_refl _)];simp
structure zpZ (k c:Nat) (rows:List (List C)) (B:List C):Prop where
 fit:rows.length<=c
 max:c<=9223372036854775807
 len:B.length=c*k
 stay:(B.all C.stayB)=true
 cells:B.take (rows.length*k)=rows.flatten
theorem zpZ.ok {k c e i:Nat} {rows:List (List C)} {B:List C} {bx:List (List C)} (h:zpZ k c rows B) (hb:bx[i]?=some B) (h0:0<rows.length) (hk:∀ r∈rows,r.length=k):zb4 [(i,e,k,rows,c)] bx:=
 un hb (Nat.lt_of_lt_of_le h0 h.fit) h.fit h.max h.len hk h.stay h.cells
section
variable {G:zp}
theorem MV (a b:List (List C)) (ka:∀ r∈a,r.length=5) (kb:∀ r∈b,r.length=5) (sa:jd a) (sb:jd b) (la:a.length<=90000) (lb:b.length<=90000) (h0:0<a.length+b.length) :
  Yr Tryz.prog G 130 [.sl 1 [[.sl 5 a],[.sl 5 b]]] [] 0 (fun r bx n=>n=0/\∃ c B,zpZ 5 c (a++b) B/\r = .bs 0 0 5 (a++b).length c/\bx = [B]):=by
 refine foX (fun i=>if i=1000000+37 then [true,true] else []) Tryz.func130 ?_;dsimp only[Tryz.f130];push_cast -dsimp;refine loop (fun j:Nat=>⟨[(0,.sl 1 [[.sl 5 a],[.sl 5 b]]),(2,.sc (.slice none 0 0)),(3,.sc (.int .i64 (szN a.length b.length j:Nat))),(9,.sl 1 [[.sl 5 a],[.sl 5 b]]),(10,.sc (.int .i64 2)),(11,.sc (.int .i64 j))],[],0,0⟩) (fun j=>j<=2) (fun j=>2-j) 0 (by decide) ?_ ?_
 ·exact wk (by push_cast -dsimp [ze,zd,CLe,zg,szN])
 intro j hj;obtain rfl | rfl | rfl:j=0∨j=1∨j=2:=by omega
 ·have hn:(((a.length:Int))<0)=False:=eq_false (by omega);push_cast -dsimp [szN,hn];exact ⟨⟨by omega,by omega⟩,1,by decide,by decide,wk (by push_cast -dsimp [ze,zd,CLe,zg,szN])⟩
 ·have hn:(((a.length:Int)+(b.length:Int))<0)=False:=eq_false (by omega);push_cast -dsimp [szN,hn];exact ⟨⟨by omega,by omega⟩,2,by decide,by decide,wk (by push_cast -dsimp [ze,zd,CLe,zg,szN])⟩
 ·push_cast -dsimp [szN];refine jo [] [] (zfa (G:=G) (a.length+b.length) (by omega) (by omega)) rfl (by decide) (by decide) (by simp) (by push_cast -dsimp) (by push_cast -dsimp) (fun r bx' m hp=>?_);obtain ⟨rfl,c,B,h1,h2,h3,h4,rfl,rfl⟩:=hp;have hre:∀ fp fo,C.reL fp fo B=B:=fun fp fo=>zB h4;push_cast -dsimp [hre];refine loop (fun p:Nat×List C=>⟨[(0,.sl 1 [[.sl 5 a],[.sl 5 b]]),(6,.bs 0 0 5 (szN a.length b.length p.1) c),(25,.sl 1 [[.sl 5 a],[.sl 5 b]]),(26,.sc (.int .i64 2)),(27,.sc (.int .i64 p.1))],[p.2],0,0⟩) (fun p=>p.1<=2/\Gm 5 c a b p.1 p.2) (fun p=>2-p.1) (0,B) ⟨Nat.zero_le _,h3,h4,by simp[szN,zol]⟩ ?_ ?_
  ·exact Jz.mk [] rfl rfl (Nat.zero_le _) rfl (by push_cast -dsimp [ze,zd,CLe,zg,szN]) (by (push_cast -dsimp [ze,zd,CLe,zg];exact zO h4))
  rintro ⟨j,X⟩ ⟨hj,hX⟩;have hj:j<=2:=hj;obtain rfl | rfl | rfl:j=0∨j=1∨j=2:=by omega
  ·have hs:=hX.step (r:=a) rfl (by simp[szN]) ka sa (by simp[szN];omega);push_cast -dsimp [szN];refine Zz zir zhv rfl rfl (by decide) rfl (qm ka) rfl (by rw[hX.len];omega) (Nat.zero_le _) (by omega) (by omega) (fun hc=>?_) (fun hc=>absurd hc (by omega));push_cast -dsimp;have hs:Gm 5 c a b 1 (spl X 0 a.flatten):=by simpa [szN] using hs
   exact ⟨(1,spl X 0 a.flatten),⟨Nat.le_succ 1,hs⟩,by (simp only;omega),Jz.mk [] rfl rfl (Nat.zero_le _) rfl (by push_cast -dsimp [ze,zd,CLe,zg,szN]) (by (push_cast -dsimp [ze,zd,CLe,zg];exact zO hs.stay))⟩
  ·have hs:=hX.step (r:=b) rfl (by simp[szN]) kb sb (by simp[szN];omega);push_cast -dsimp [szN];refine Zz zir zhv rfl rfl (by decide) rfl (qm kb) rfl (by rw[hX.len];omega) (by omega) (by omega) (by omega) (fun hc=>?_) (fun hc=>absurd hc (by omega));push_cast -dsimp;have hs:Gm 5 c a b 2 (spl X (a.length*5) b.flatten):=by simpa [szN] using hs
   exact ⟨(2,spl X (a.length*5) b.flatten),⟨Nat.le_refl 2,hs⟩,by (simp only;omega),Jz.mk [] rfl rfl (Nat.zero_le _) rfl (by push_cast -dsimp [ze,zd,CLe,zg,szN]) (by (push_cast -dsimp [ze,zd,CLe,zg];exact zO hs.stay))⟩
  ·push_cast -dsimp [szN];exact ⟨_,[X],0,⟨⟨rfl,c,X,⟨by rw[List.length_append];omega,h2,hX.len,hX.stay,by rw[List.length_append];exact hX.cells⟩,rfl,rfl⟩,Nat.zero_le _⟩,[],rfl,rfl,by (push_cast -dsimp [ze,zd,CLe,zg];exact zO hX.stay),by push_cast -dsimp [ze,zd,CLe,zg,List.length_append]⟩
theorem NB (a b:List (List C)) (ka:∀ r∈a,r.length=1) (kb:∀ r∈b,r.length=1) (sa:jd a) (sb:jd b) (la:a.length<=90000) (lb:b.length<=90000) (h0:0<a.length+b.length) :
  Yr Tryz.prog G 70 [.sl 1 [[.sl 1 a],[.sl 1 b]]] [] 0 (fun r bx n=>n=0/\∃ c B,zpZ 1 c (a++b) B/\r = .bs 0 0 1 (a++b).length c/\bx = [B]):=by
 refine foX (fun i=>if i=1000000+30 then [true,true] else []) Tryz.func70 ?_;dsimp only[Tryz.f70];push_cast -dsimp;refine loop (fun j:Nat=>⟨[(0,.sl 1 [[.sl 1 a],[.sl 1 b]]),(2,.sc (.slice none 0 0)),(3,.sc (.int .i64 (szN a.length b.length j:Nat))),(9,.sl 1 [[.sl 1 a],[.sl 1 b]]),(10,.sc (.int .i64 2)),(11,.sc (.int .i64 j))],[],0,0⟩) (fun j=>j<=2) (fun j=>2-j) 0 (by decide) ?_ ?_
 ·exact wk (by push_cast -dsimp [ze,zd,CLe,zg,szN])
 intro j hj;obtain rfl | rfl | rfl:j=0∨j=1∨j=2:=by omega
 ·have hn:(((a.length:Int))<0)=False:=eq_false (by omega);push_cast -dsimp [szN,hn];exact ⟨⟨by omega,by omega⟩,1,by decide,by decide,wk (by push_cast -dsimp [ze,zd,CLe,zg,szN])⟩
 ·have hn:(((a.length:Int)+(b.length:Int))<0)=False:=eq_false (by omega);push_cast -dsimp [szN,hn];exact ⟨⟨by omega,by omega⟩,2,by decide,by decide,wk (by push_cast -dsimp [ze,zd,CLe,zg,szN])⟩
 ·push_cast -dsimp [szN];refine jo [] [] (zdR (G:=G) (a.length+b.length) (by omega) (by omega)) rfl (by decide) (by decide) (by simp) (by push_cast -dsimp) (by push_cast -dsimp) (fun r bx' m hp=>?_);obtain ⟨rfl,c,B,h1,h2,h3,h4,rfl,rfl⟩:=hp;have hre:∀ fp fo,C.reL fp fo B=B:=fun fp fo=>zB h4;push_cast -dsimp [hre];refine loop (fun p:Nat×List C=>⟨[(0,.sl 1 [[.sl 1 a],[.sl 1 b]]),(6,.bs 0 0 1 (szN a.length b.length p.1) c),(25,.sl 1 [[.sl 1 a],[.sl 1 b]]),(26,.sc (.int .i64 2)),(27,.sc (.int .i64 p.1))],[p.2],0,0⟩) (fun p=>p.1<=2/\Gm 1 c a b p.1 p.2) (fun p=>2-p.1) (0,B) ⟨Nat.zero_le _,h3,h4,by simp[szN,zol]⟩ ?_ ?_
  ·exact Jz.mk [] rfl rfl (Nat.zero_le _) rfl (by push_cast -dsimp [ze,zd,CLe,zg,szN]) (by (push_cast -dsimp [ze,zd,CLe,zg];exact zO h4))
  rintro ⟨j,X⟩ ⟨hj,hX⟩;have hj:j<=2:=hj;obtain rfl | rfl | rfl:j=0∨j=1∨j=2:=by omega
  ·have hs:=hX.step (r:=a) rfl (by simp[szN]) ka sa (by simp[szN];omega);push_cast -dsimp [szN];refine Zz zjy zqy rfl rfl (by decide) rfl (qm ka) rfl (by rw[hX.len];omega) (Nat.zero_le _) (by omega) (by omega) (fun hc=>?_) (fun hc=>absurd hc (by omega));push_cast -dsimp;have hs:Gm 1 c a b 1 (spl X 0 a.flatten):=by simpa [szN] using hs
   exact ⟨(1,spl X 0 a.flatten),⟨Nat.le_succ 1,hs⟩,by (simp only;omega),Jz.mk [] rfl rfl (Nat.zero_le _) rfl (by push_cast -dsimp [ze,zd,CLe,zg,szN]) (by (push_cast -dsimp [ze,zd,CLe,zg];exact zO hs.stay))⟩
  ·have hs:=hX.step (r:=b) rfl (by simp[szN]) kb sb (by simp[szN];omega);push_cast -dsimp [szN];refine Zz zjy zqy rfl rfl (by decide) rfl (qm kb) rfl (by rw[hX.len];omega) (by omega) (by omega) (by omega) (fun hc=>?_) (fun hc=>absurd hc (by omega));push_cast -dsimp;have hs:Gm 1 c a b 2 (spl X (a.length) b.flatten):=by simpa [szN] using hs
   exact ⟨(2,spl X (a.length) b.flatten),⟨Nat.le_refl 2,hs⟩,by (simp only;omega),Jz.mk [] rfl rfl (Nat.zero_le _) rfl (by push_cast -dsimp [ze,zd,CLe,zg,szN]) (by (push_cast -dsimp [ze,zd,CLe,zg];exact zO hs.stay))⟩
  ·push_cast -dsimp [szN];exact ⟨_,[X],0,⟨⟨rfl,c,X,⟨by rw[List.length_append];omega,h2,hX.len,hX.stay,by rw[List.length_append];exact hX.cells⟩,rfl,rfl⟩,Nat.zero_le _⟩,[],rfl,rfl,by (push_cast -dsimp [ze,zd,CLe,zg];exact zO hX.stay),by push_cast -dsimp [ze,zd,CLe,zg,List.length_append]⟩
theorem M9:Fun Tryz.prog G 70 [.sl 1 [[.sl 1 []],[.sl 1 []]]] (.sl 1 []) 0:=by
 refine fon Tryz.func70 ?_;dsimp only[Tryz.f70];push_cast -dsimp;refine loop (fun j:Nat=>⟨[(0,.sl 1 [[.sl 1 []],[.sl 1 []]]),(2,.sc (.slice none 0 0)),(3,.sc (.int .i64 0)),(9,.sl 1 [[.sl 1 []],[.sl 1 []]]),(10,.sc (.int .i64 2)),(11,.sc (.int .i64 j))],[],0,0⟩) (fun j=>j<=2) (fun j=>2-j) 0 (by decide) ?_ ?_
 ·exact wk
 intro j hj;obtain rfl | rfl | rfl:j=0∨j=1∨j=2:=by omega
 ·push_cast -dsimp;exact ⟨1,by decide,by decide,wk⟩
 ·push_cast -dsimp;exact ⟨2,by decide,by decide,wk⟩
 ·push_cast -dsimp;refine cl (zaZ) ?_;push_cast -dsimp;refine loop (fun j:Nat=>⟨[(0,.sl 1 [[.sl 1 []],[.sl 1 []]]),(6,.own 0 9 1 []),(25,.sl 1 [[.sl 1 []],[.sl 1 []]]),(26,.sc (.int .i64 2)),(27,.sc (.int .i64 j))],[],1,0⟩) (fun j=>j<=2) (fun j=>2-j) 0 (by decide) ?_ ?_
  ·exact wks [.inr (9,1)]
  intro j hj;obtain rfl | rfl | rfl:j=0∨j=1∨j=2:=by omega
  ·push_cast -dsimp;exact ⟨1,by decide,by decide,wks [.inl 0]⟩
  ·push_cast -dsimp;exact ⟨2,by decide,by decide,wks [.inl 0]⟩
  ·push_cast -dsimp;exact dn
end
end
end Go.Proofs.YtnpdbhbmakdklaaGreatDoor.Vcg
section
namespace Go.Proofs.YtnpdbhbmakdklaaGreatDoor.Kit
open Go.RowKit
theorem HG {a b:ByteArray} (h:a=b):Ending.returned (.string a) = .returned (.string b):=by rw[h]
def toL (s:ByteArray):List UInt8:=s.data.toList
def ofL (l:List UInt8):ByteArray:=⟨l.toArray⟩
@[simp] theorem zeB (l:List UInt8):toL (ofL l)=l:=by simp[toL,ofL]
@[simp] theorem zqR (s:ByteArray):ofL (toL s)=s:=by cases s;simp[toL,ofL]
theorem Hy (a b:List UInt8):ofL a++ofL b=ofL (a++b):=ByteArray.mk_append_mk a b
theorem H9 (s:ByteArray):(toL s).length=s.size:=Array.length_toList
theorem Zo (l:List UInt8):(ofL l).size=l.length:=by rw[←H9,zeB]
def join (sep:ByteArray) (xs:List ByteArray):ByteArray:=⟨(Lib.join (xs.map (·.data.toList)) sep.data.toList).toArray⟩
theorem join_one (sep x:ByteArray):join sep [x]=x:=by
 cases x;simp[join,Lib.join_one]
end Go.Proofs.YtnpdbhbmakdklaaGreatDoor.Kit
end
section
namespace Go.Proofs.YtnpdbhbmakdklaaGreatDoor.Kit
open Go.RowKit
def byteCells (l:List UInt8):Array Value:=(l.map fun c=>Value.int .u8 (c.toNat:Int)).toArray
theorem kB (w:World) (l:List UInt8) (T:TypeId) (fr:Nat×Nat) (n:Nat) (hn:n=w.heap.size):Lib.Bytes (w.alloc (.cells (byteCells l) T fr)) n 0 (ofL l):=by
 intro i h;subst hn;have h1:(w.alloc (.cells (byteCells l) T fr)).heap[w.heap.size]?=some (.cells (byteCells l) T fr):=by
  show (w.heap.push _)[w.heap.size]?=_;rw[Array.getElem?_push,if_pos rfl]
 simp only[World.cell?,h1];show (byteCells l)[0+i]?=_;have h2:i<l.length:=by rw[Zo]at h;exact h
 rw[Nat.zero_add,byteCells,List.getElem?_toArray,List.getElem?_map,List.getElem?_eq_getElem h2]
 rfl
theorem Gs {P:Program} (w:World) (l:List UInt8) (src e dst:TypeId) (hs:P.underlying src=some (.slice e)) (he:P.underlying e=some (.int .u8)) (hd:P.underlying dst=some .string) (cs:Array Value) (hcs:cs=byteCells l) (fr:Nat×Nat) (m cap n:Nat) (hm:m=w.heap.size) (hn:n=l.length) :
  (convert src dst (.slice (some ⟨m,0,none⟩) n cap)).run P (w.alloc (.cells cs e fr)) = .ok (.string (ofL l)) (w.alloc (.cells cs e fr)):=by
 subst hcs hm hn;have:=Lib.run_convert_whole (P:=P) (w.alloc (.cells (byteCells l) e fr)) src e dst hs he hd w.heap.size 0 (ofL l) (kB w l e fr _ rfl) cap;rw[Zo]at this;exact this
end Go.Proofs.YtnpdbhbmakdklaaGreatDoor.Kit
end
section
namespace Go.Proofs.YtnpdbhbmakdklaaGreatDoor
open Go.RowKit
namespace QuoteWalk
open Kit QuotePlain
theorem N1 {c:UInt8} (h:good c=false):¬(32:Int)<=(c.toNat:Int)∨((32:Int)<=(c.toNat:Int)/\¬(c.toNat:Int)<=126)∨((32:Int)<=(c.toNat:Int)/\(c.toNat:Int)<=126/\((c.toNat:Int) != 34)=false) ∨
  ((32:Int)<=(c.toNat:Int)/\(c.toNat:Int)<=126/\((c.toNat:Int) != 34)=true/\((c.toNat:Int) != 92)=false):=by
 simp only[good,decide_eq_false_iff_not]at h;simp only[bne_iff_ne,ne_eq,bne_eq_false_iff_eq];omega
theorem Ha {c:UInt8} (h:good c=true):(32:Int)<=(c.toNat:Int)/\(c.toNat:Int)<=126/\((c.toNat:Int) != 34)=true/\((c.toNat:Int) != 92)=true:=by
 simp only[good,decide_eq_true_eq]at h;refine ⟨by omega,by omega,?_,?_⟩<;>(simp only[bne_iff_ne,ne_eq];omega)
theorem yg (c:UInt8) (w:World) :
  Calls Tryz.prog 198 #[.int .u8 c.toNat] w fun e w'=>e = .returned (.bool (good c))/\w=w':=by
 have hc:=c.toNat_lt;cases hg:good c with
 | true =>
  obtain ⟨g1,g2,g3,g4⟩:=Ha hg;clear hg
  go_enter Tryz.func198,Tryz.ntmps198
  go_wp2
  go_ret
  exact ⟨rfl,rfl⟩
 | false =>
  rcases N1 hg with h | ⟨h0,h⟩ | ⟨h0,h1,h2⟩ | ⟨h0,h1,h2,h3⟩
  all_goals clear hg
  ·go_enter Tryz.func198,Tryz.ntmps198
   go_wp2
   go_ret
   exact ⟨rfl,rfl⟩
  ·go_enter Tryz.func198,Tryz.ntmps198
   go_wp2
   go_ret
   exact ⟨rfl,rfl⟩
  ·go_enter Tryz.func198,Tryz.ntmps198
   go_wp2
   go_ret
   exact ⟨rfl,rfl⟩
  ·go_enter Tryz.func198,Tryz.ntmps198
   go_wp2
   go_ret
   exact ⟨rfl,rfl⟩
theorem MJ (c:UInt8) (w:World) (hg:good c=true) :
  Calls Tryz.prog 110 #[.int .u8 c.toNat] w fun e w'=>e = .returned (.string (ofL (qb c)))/\Below w.heap.size w w':=by
 have hc:=c.toNat_lt;have hq:=Lib.hid (show qb c = [c] by rw[qb,if_pos hg]);obtain ⟨g1,g2,g3,g4⟩:=Ha hg;have hcv:=Gs (P:=Tryz.prog) w [c] 174 5 9 Tryz.underlying174 Tryz.underlying5 Tryz.underlying9 #[.int .u8 c.toNat] rfl (0,0) w.heap.size 1 1 rfl rfl;clear hg
 go_enter Tryz.func110,Tryz.ntmps110
 go_wp2
 go_ret
 exact ⟨by rw[hq.out];rfl,(Below.refl _ _).alloc (Nat.le_refl _) _⟩
theorem zr8 (n:Nat) (h:n<16) (w:World):(Instr.index 9 (.string ⟨#[48,49,50,51,52,53,54,55,56,57,97,98,99,100,101,102]⟩) (.int .u8 (n:Int))).run Tryz.prog w = .ok (.int .u8 ((H0 n).toNat:Int)) w:=by
 rcases (by omega:n=0∨n=1∨n=2∨n=3∨n=4∨n=5∨n=6∨n=7∨n=8∨n=9∨n=10∨n=11∨n=12∨n=13∨n=14∨n=15) with rfl | rfl | rfl | rfl | rfl | rfl | rfl | rfl | rfl | rfl | rfl | rfl | rfl | rfl | rfl | rfl
 all_goals kernel_rfl
theorem zkp (c:UInt8) (w:World):(Instr.index 9 (.string ⟨#[48,49,50,51,52,53,54,55,56,57,97,98,99,100,101,102]⟩) (.int .u8 ((c.toNat:Int) / 16))).run Tryz.prog w = .ok (.int .u8 ((H0 (c.toNat / 16)).toNat:Int)) w:=
 zr8 (c.toNat / 16) (by have:=c.toNat_lt;omega) w
theorem zkd (c:UInt8) (w:World):(Instr.index 9 (.string ⟨#[48,49,50,51,52,53,54,55,56,57,97,98,99,100,101,102]⟩) (.int .u8 ((c.toNat:Int) % 16))).run Tryz.prog w = .ok (.int .u8 ((H0 (c.toNat % 16)).toNat:Int)) w:=
 zr8 (c.toNat % 16) (by omega) w
theorem zm4 (c:UInt8):IntKind.u8.wrap ((c.toNat:Int) / 16)=(c.toNat:Int) / 16:=by
 have:=c.toNat_lt;exact IntWalk.u8_in _ (by omega)
theorem zng (c:UInt8):IntKind.u8.wrap ((c.toNat:Int) % 16)=(c.toNat:Int) % 16:=by
 have:=c.toNat_lt;exact IntWalk.u8_in _ (by omega)
theorem zmy (c:UInt8):(c.toNat:Int).tmod 16=(c.toNat:Int) % 16:=Int.tmod_eq_emod_of_nonneg (by omega)
theorem yp (c:UInt8) (w:World) (hg:good c=false) :
  Calls Tryz.prog 110 #[.int .u8 c.toNat] w fun e w'=>e = .returned (.string (ofL (qb c)))/\Below w.heap.size w w':=by
 have hc:=c.toNat_lt;have hq:=Lib.hid (show qb c = [92,120,H0 (c.toNat / 16),H0 (c.toNat % 16)] by rw[qb,hg];rfl);have hb:=N1 hg;have x1:=zkp c;have x2:=zkd c;have y1:=zm4 c;have y2:=zng c;have y3:=zmy c;have hcv:=fun w2:World=>Gs (P:=Tryz.prog) w2 [92,120,H0 (c.toNat / 16),H0 (c.toNat % 16)] 174 5 9 Tryz.underlying174 Tryz.underlying5 Tryz.underlying9 #[.int .u8 92,.int .u8 120,.int .u8 (H0 (c.toNat / 16)).toNat,.int .u8 (H0 (c.toNat % 16)).toNat] rfl (0,0) w2.heap.size 4 4 rfl rfl;clear hg;rcases hb with h | ⟨h0,h⟩ | ⟨h0,h1,h2⟩ | ⟨h0,h1,h2,h3⟩
 ·go_enter Tryz.func110,Tryz.ntmps110
  go_wp2
  go_still_tail 6,(by kernel_rfl)
  change wpList _ _ _ _ _ w.drew;obtain ⟨w2,hw2,hsz⟩:∃ w2:World,Below w.heap.size w w2/\w2=w.drew:=⟨_,(Below.refl _ _).drew,rfl⟩;rw[←hsz];clear hsz
  go_wp2
  go_ret
  exact ⟨by rw[hq.out];rfl,hw2.alloc hw2.size _⟩
 ·go_enter Tryz.func110,Tryz.ntmps110
  go_wp2
  go_still_tail 6,(by kernel_rfl)
  change wpList _ _ _ _ _ w.drew;obtain ⟨w2,hw2,hsz⟩:∃ w2:World,Below w.heap.size w w2/\w2=w.drew:=⟨_,(Below.refl _ _).drew,rfl⟩;rw[←hsz];clear hsz
  go_wp2
  go_ret
  exact ⟨by rw[hq.out];rfl,hw2.alloc hw2.size _⟩
 ·go_enter Tryz.func110,Tryz.ntmps110
  go_wp2
  go_still_tail 6,(by kernel_rfl)
  change wpList _ _ _ _ _ w.drew;obtain ⟨w2,hw2,hsz⟩:∃ w2:World,Below w.heap.size w w2/\w2=w.drew:=⟨_,(Below.refl _ _).drew,rfl⟩;rw[←hsz];clear hsz
  go_wp2
  go_ret
  exact ⟨by rw[hq.out];rfl,hw2.alloc hw2.size _⟩
 ·go_enter Tryz.func110,Tryz.ntmps110
  go_wp2
  go_still_tail 6,(by kernel_rfl)
  change wpList _ _ _ _ _ w.drew;obtain ⟨w2,hw2,hsz⟩:∃ w2:World,Below w.heap.size w w2/\w2=w.drew:=⟨_,(Below.refl _ _).drew,rfl⟩;rw[←hsz];clear hsz
  go_wp2
  go_ret
  exact ⟨by rw[hq.out];rfl,hw2.alloc hw2.size _⟩
theorem MF (c:UInt8) (w:World) :
  Calls Tryz.prog 110 #[.int .u8 c.toNat] w fun e w'=>e = .returned (.string (ofL (qb c)))/\Below w.heap.size w w':=by
 cases h:good c with
 | true=>exact MJ c w h
 | false=>exact yp c w h
end QuoteWalk
end Go.Proofs.YtnpdbhbmakdklaaGreatDoor
end
