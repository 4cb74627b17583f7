/- What the proof of MvsStays leans on, part 5: Builder QuoteWalk2 Diag1 Spl Diag2 Diag3 Diag4 Dra3 Ref19b Ref19c Rf11 Ref8 Wlk1 Wlk2 Tree1 Mak0 Tree2 Tree3 Tree4 Tree5 Tree6 Tree7 Dra4 Mak1 Mak2 Mak3 OpenD Rgt0 Rgt1 Rgt2 Rgt3 Rgt4 Rgt5 Rgt6 PthL Rms0 Do7 Sk0 Slc2 Sk2 SekP SekL Dat Gro Pla Mvp Do6 Sek1 Sek2 Sek3 Rea Tol Plw Plx Mvw Mvx. No condition beyond what each theorem states. -/
import Derived.Test.YtnpdbhbmakdklaaGreatDoorMvsStaysKd
import Derived.Shelf.Strings.Builder1
import Derived.Shelf.Strings.BuilderF
import Derived.Test.YtnpdbhbmakdklaaGreatDoorProg
import Derived.Shelf.Strings.SlTrimAscii
import Derived.Sort.Walk0
import Derived.Lib.IndexLaws
set_option linter.unusedVariables false
set_option linter.unusedSimpArgs false
set_option linter.unusedSectionVars false
set_option maxRecDepth 100000
set_option maxHeartbeats 4000000
section
namespace Go.Proofs
open Go.Shelf
def Tryz.zlays166_ren:Go.Shelf.Ren:=⟨fun | 166=>166 | 240=>199 | 276=>232 | n=>n,fun | 0=>0 | 3=>3 | 4=>4 | 9=>9 | 20=>20 | 37=>174 | 70=>218 | 72=>220 | 75=>223 | 164=>281 | 80=>226 | 5=>5 | n=>n,fun | n=>n⟩
theorem Tryz.zlays166:Go.Proofs.Lays.n166 Tryz.prog Tryz.zlays166_ren:={
 mixed:=by kernel_rfl
 f166:=Tryz.func166.trans (congrArg some (by kernel_rfl))
 f240:=Tryz.func199.trans (congrArg some (by kernel_rfl))
 f276:=Tryz.func232.trans (congrArg some (by kernel_rfl))
 t0:=Tryz.underlying0
 a0:=Tryz.isAgg0
 z0:=Tryz.sizeOf0
 v0:=Tryz.zeroValue0
 t3:=Tryz.underlying3
 a3:=Tryz.isAgg3
 z3:=Tryz.sizeOf3
 v3:=Tryz.zeroValue3
 t4:=Tryz.underlying4
 a4:=Tryz.isAgg4
 z4:=Tryz.sizeOf4
 v4:=Tryz.zeroValue4
 t9:=Tryz.underlying9
 a9:=Tryz.isAgg9
 z9:=Tryz.sizeOf9
 v9:=Tryz.zeroValue9
 t20:=Tryz.underlying20
 a20:=Tryz.isAgg20
 z20:=Tryz.sizeOf20
 v20:=Tryz.zeroValue20
 t37:=Tryz.underlying174
 a37:=Tryz.isAgg174
 z37:=Tryz.sizeOf174
 v37:=Tryz.zeroValue174
 t70:=Tryz.underlying218
 a70:=Tryz.isAgg218
 z70:=Tryz.sizeOf218
 v70:=Tryz.zeroValue218
 t72:=Tryz.underlying220
 a72:=Tryz.isAgg220
 z72:=Tryz.sizeOf220
 v72:=Tryz.zeroValue220
 t75:=Tryz.underlying223
 a75:=Tryz.isAgg223
 z75:=Tryz.sizeOf223
 v75:=Tryz.zeroValue223
 t164:=Tryz.underlying281
 a164:=Tryz.isAgg281
 z164:=Tryz.sizeOf281
 v164:=Tryz.zeroValue281 }
theorem Tryz.zBuilder_Extra_166:Builder.Extra Tryz.prog Tryz.zlays166_ren:={
 sizeBuilder:=by kernel_rfl
 liesBuilder:=by kernel_rfl
 t5:=Tryz.underlying5
 a5:=Tryz.isAgg5
 z5:=Tryz.sizeOf5
 v5:=Tryz.zeroValue5
 infoByte:=by kernel_rfl
 cellsByte:=by kernel_rfl
 sizeByte:=by kernel_rfl
 neB5:=by decide }
def Tryz.zlays167_ren:Go.Shelf.Ren:=⟨fun | 167=>197 | 240=>199 | 276=>232 | n=>n,fun | 0=>0 | 4=>4 | 5=>5 | 9=>9 | 20=>20 | 37=>174 | 70=>218 | 72=>220 | 75=>223 | 164=>281 | 80=>226 | n=>n,fun | n=>n⟩
theorem Tryz.zlays167:Go.Proofs.Lays.n167 Tryz.prog Tryz.zlays167_ren:={
 mixed:=by kernel_rfl
 f167:=Tryz.func197.trans (congrArg some (by kernel_rfl))
 f240:=Tryz.func199.trans (congrArg some (by kernel_rfl))
 f276:=Tryz.func232.trans (congrArg some (by kernel_rfl))
 t0:=Tryz.underlying0
 a0:=Tryz.isAgg0
 z0:=Tryz.sizeOf0
 v0:=Tryz.zeroValue0
 t4:=Tryz.underlying4
 a4:=Tryz.isAgg4
 z4:=Tryz.sizeOf4
 v4:=Tryz.zeroValue4
 t5:=Tryz.underlying5
 a5:=Tryz.isAgg5
 z5:=Tryz.sizeOf5
 v5:=Tryz.zeroValue5
 t9:=Tryz.underlying9
 a9:=Tryz.isAgg9
 z9:=Tryz.sizeOf9
 v9:=Tryz.zeroValue9
 t20:=Tryz.underlying20
 a20:=Tryz.isAgg20
 z20:=Tryz.sizeOf20
 v20:=Tryz.zeroValue20
 t37:=Tryz.underlying174
 a37:=Tryz.isAgg174
 z37:=Tryz.sizeOf174
 v37:=Tryz.zeroValue174
 t70:=Tryz.underlying218
 a70:=Tryz.isAgg218
 z70:=Tryz.sizeOf218
 v70:=Tryz.zeroValue218
 t72:=Tryz.underlying220
 a72:=Tryz.isAgg220
 z72:=Tryz.sizeOf220
 v72:=Tryz.zeroValue220
 t75:=Tryz.underlying223
 a75:=Tryz.isAgg223
 z75:=Tryz.sizeOf223
 v75:=Tryz.zeroValue223
 t164:=Tryz.underlying281
 a164:=Tryz.isAgg281
 z164:=Tryz.sizeOf281
 v164:=Tryz.zeroValue281 }
theorem Tryz.zBuilder_Extra_167:Builder.Extra Tryz.prog Tryz.zlays167_ren:={
 sizeBuilder:=by kernel_rfl
 liesBuilder:=by kernel_rfl
 t5:=Tryz.underlying5
 a5:=Tryz.isAgg5
 z5:=Tryz.sizeOf5
 v5:=Tryz.zeroValue5
 infoByte:=by kernel_rfl
 cellsByte:=by kernel_rfl
 sizeByte:=by kernel_rfl
 neB5:=by decide }
open Go.RowKit in
theorem Tryz.zBuilder_WriteByte (B b:Nat) (bs:List Value) (c:Int) (w:World) (h:Lib.IsBuilder 220 5 B b bs w) (hlen:bs.length+1<=140737488355328) (hBw:B<=w.heap.size) :
  Calls Tryz.prog 197 #[.pointer (some ⟨b,0,none⟩),.int .u8 c] w fun e w'=>e = .returned .nilIface/\(Lib.BuilderAt 220 5 B b (.pointer (some ⟨b,0,none⟩)) (bs++[.int .u8 c]) w'/\Below B w w'):=Any.Builder_WriteByte Tryz.zlays167 Tryz.zBuilder_Extra_167 B b bs c w h hlen hBw
open Go.RowKit in
theorem Tryz.zBuilder_WriteString (B b:Nat) (bs:List Value) (s:ByteArray) (w:World) (h:Lib.IsBuilder 220 5 B b bs w) (hlen:bs.length+s.size<=140737488355328) (hBw:B<=w.heap.size) :
  Calls Tryz.prog 166 #[.pointer (some ⟨b,0,none⟩),.string s] w fun e w'=>e = .returned (.tuple #[.int .i64 s.size,.nilIface])/\(Lib.BuilderAt 220 5 B b (.pointer (some ⟨b,0,none⟩)) (bs++Lib.strCells s) w'/\Below B w w'):=Any.Builder_WriteString Tryz.zlays166 Tryz.zBuilder_Extra_166 B b bs s w h hlen hBw
end Go.Proofs
end
section
namespace Go.Proofs.YtnpdbhbmakdklaaGreatDoor
open Go.RowKit
namespace QuoteWalk
open Kit QuotePlain
def pre (s:ByteArray) (k:Nat):Bs:=34 :: mid ((toL s).take k)
theorem uD (s:ByteArray):pre s 0 = [34]:=by simp[pre,mid]
theorem uv (s:ByteArray) (k:Nat) (h:k<s.size) {c:UInt8} (hc:s[k]=c):pre s (k+1)=pre s k++qb c:=by
 have h':k<(toL s).length:=by rw[H9];exact h
 have:(toL s)[k]=c:=hc;rw[pre,pre,List.take_succ_eq_append_getElem h',this,mid,mid,List.flatMap_append];simp
theorem zfV (s:ByteArray) (k:Nat) (h:s.size<=k):pre s k++[34]=quoteL (toL s):=by
 rw[pre,List.take_of_length_le (by rw[H9];exact h)];rfl
theorem zkD (c:UInt8):(qb c).length<=4:=by unfold qb;split<;>simp
theorem mid_len (l:Bs):(mid l).length<=4*l.length:=by
 induction l with
 | nil=>simp[mid]
 | cons c l ih =>
  have:=zkD c;simp only[mid,List.flatMap_cons,List.length_append,List.length_cons]at ih ⊢;omega
theorem zcM (s:ByteArray) (k:Nat):(pre s k).length<=1+4*k:=by
 have h1:=mid_len ((toL s).take k);have h2:((toL s).take k).length<=k:=List.length_take_le _ _;simp only[pre,List.length_cons];omega
theorem refQuote_walk (s:ByteArray) (w:World) (hs:s.size<=1099511627776) :
  Calls Tryz.prog 63 #[.string s] w fun e w'=>e = .returned (.string (ofL (quoteL (toL s))))/\Below w.heap.size w w':=by
 go_enter Tryz.func63,Tryz.ntmps63
 go_wp2
 go_loopw [3,4] (fun o i wr=>∃ k:Nat,k<=s.size/\i = .int .i64 k/\o = .string (ofL (pre s k))/\Below w.heap.size w wr) (fun _ i _=>s.size-(intOf i).toNat)
 case atStart=>exact ⟨0,by omega,rfl,by rw[uD];rfl,Below.refl _ _⟩
 case round =>
  obtain ⟨k,hk,rfl,rfl,hB⟩:=hrel;have hpl:=zcM s k;have hps:(ofL (pre s k)).size<=1+4*k:=by rw[Zo];exact hpl
  by_cases hlt:k<s.size
  ·obtain ⟨c,hc⟩:∃ c,s[k]=c:=⟨_,rfl⟩;have hsn:=Lib.hid (uv s k hlt hc);have hql:=zkD c;have hqs:(ofL (qb c)).size<=4:=by rw[Zo];exact hql
   generalize hp:ofL (pre s k)=p at *;have hp':=Lib.hid hp;clear hp
   go_wp2_with fail
   refine (MF c _).mono ?_;rintro e w1 ⟨rfl,hb1⟩;generalize hq:ofL (qb c)=q at *;have hq':=Lib.hid hq;clear hq
   go_wp2
   go_roundw
   case rel=>exact ⟨k+1,by omega,by go_num,by rw[hsn.out,←Hy,hp'.out,hq'.out],hB.trans (hb1.mono hB.size)⟩
   case measure=>simp[intOf];omega
  ·have hfin:=Lib.hid (zfV s k (by omega));generalize hp:ofL (pre s k)=p at *;have hp':=Lib.hid hp;clear hp
   go_wp2
   go_ret
   exact ⟨HG (by rw[←hp'.out,←hfin.out,←Hy];rfl),hB⟩
def Bld (B:Nat) (l:Bs) (w:World):Prop:=Lib.BuilderAt 220 5 B B (.pointer (some ⟨B,0,none⟩)) (Lib.byteCells l) w
theorem Bld.alloc {B:Nat} {l:Bs} {w:World} (h:Bld B l w) (o:Obj):Bld B l (w.alloc o):=by
 obtain ⟨h1,v,h2,h3,h4⟩:=h;refine ⟨h1,v,?_,h3.alloc o,h4⟩;rw[Lib.alloc_old _ _ _ (Array.getElem?_eq_some_iff.1 h2).1];exact h2
theorem Bld.drew {B:Nat} {l:Bs} {w:World} (h:Bld B l w):Bld B l w.drew:=h
theorem NE (B:Nat) (l:Bs) (c:UInt8) (w:World) (h:Bld B l w) (hl:l.length<140737488355328) (hB:B<=w.heap.size) :
  Calls Tryz.prog 197 #[.pointer (some ⟨B,0,none⟩),.int .u8 (c.toNat:Int)] w fun e w'=>e = .returned .nilIface/\Bld B (l++[c]) w'/\Below B w w':=by
 refine (Tryz.zBuilder_WriteByte B B (Lib.byteCells l) c.toNat w (.inr h) (by rw[Lib.byteCells_length];omega) hB).mono ?_;rintro e w' ⟨h1,h2,h3⟩;exact ⟨h1,by rw[Bld,Lib.byteCells_append];exact h2,h3⟩
theorem zbG (w:World) (c:UInt8) :
  Calls Tryz.prog 197 #[.pointer (some ⟨w.heap.size,0,none⟩),.int .u8 (c.toNat:Int)] (w.alloc (.cells #[.pointer none,.slice none 0 0] 220 (0,0))) fun e w'=>e = .returned .nilIface/\Bld w.heap.size [c] w'/\Below w.heap.size w w':=by
 refine (Tryz.zBuilder_WriteByte w.heap.size w.heap.size [] c.toNat _ (Lib.fresh_isBuilder _ _ w) (by decide) (by simp)).mono ?_;rintro e w' ⟨h1,h2,h3⟩;exact ⟨h1,h2,((Below.refl _ _).alloc (Nat.le_refl _) _).trans h3⟩
theorem x6 (B:Nat) (l:Bs) (x:ByteArray) (w:World) (h:Bld B l w) (hl:l.length+x.size<=140737488355328) (hB:B<=w.heap.size) :
  Calls Tryz.prog 166 #[.pointer (some ⟨B,0,none⟩),.string x] w fun e w'=>e = .returned (.tuple #[.int .i64 x.size,.nilIface])/\Bld B (l++toL x) w'/\Below B w w':=by
 refine (Tryz.zBuilder_WriteString B B (Lib.byteCells l) x w (.inr h) (by rw[Lib.byteCells_length];omega) hB).mono ?_;rintro e w' ⟨h1,h2,h3⟩;exact ⟨h1,by rw[Bld,Lib.byteCells_append];exact h2,h3⟩
theorem zfB (B:Nat) (l:Bs) (w:World) (h:Bld B l w) (hB:B<=w.heap.size) :
  Calls Tryz.prog 167 #[.pointer (some ⟨B,0,none⟩)] w fun e w'=>e = .returned (.string (ofL l))/\Below B w w':=
 Tryz.Builder_String_any B B l w (.inr h) hB
theorem zov (c:UInt8):bits BinOp.and IntKind.u8 (c.toNat:Int) 15=(c.toNat:Int) % 16:=by
 have:=zc8 (p:=fun c=>decide (bits BinOp.and IntKind.u8 (c.toNat:Int) 15=(c.toNat:Int) % 16)) (by decide +kernel) c;exact of_decide_eq_true this
theorem quote_walk (s:ByteArray) (w:World) (hs:s.size<=1099511627776) :
  Calls Tryz.prog 163 #[.string s] w fun e w'=>e = .returned (.string (ofL (quoteL (toL s))))/\Below w.heap.size w w':=by
 go_enter Tryz.func163,Tryz.ntmps163
 go_wp2_with fail
 refine (zbG w 34).mono ?_;rintro e w1 ⟨rfl,hI1,hB1⟩
 go_wp2_with fail
 go_loopw [9] (fun i wr=>∃ k:Nat,k<=s.size/\i = .int .i64 k/\Bld w.heap.size (pre s k) wr/\Below w.heap.size w wr) (fun i _=>s.size-(intOf i).toNat)
 case atStart=>exact ⟨0,by omega,rfl,by rw[uD];exact hI1,hB1⟩
 case round =>
  obtain ⟨k,hk,rfl,hI,hB⟩:=hrel;clear hI1 hB1;have hpl:=zcM s k;by_cases hlt:k<s.size
  ·obtain ⟨c,hc⟩:∃ c,s[k]=c:=⟨_,rfl⟩;have hsn:=Lib.hid (uv s k hlt hc)
   go_wp2_with fail
   refine (yg c _).mono ?_;rintro e w' ⟨rfl,rfl⟩;cases hg:good c with
   | true =>
    have hq:=Lib.hid (show qb c = [c] by rw[qb,if_pos hg]);clear hg
    go_wp2_with fail
    refine (NE w.heap.size (pre s k) c _ hI (by omega) hB.size).mono ?_;rintro e w2 ⟨rfl,hI2,hb2⟩
    go_wp2
    go_roundw
    case rel=>exact ⟨k+1,by omega,by go_num,by rw[hsn.out,hq.out];exact hI2,hB.trans hb2⟩
    case measure=>simp[intOf];omega
   | false =>
    have hq:=Lib.hid (show qb c = [92,120,H0 (c.toNat / 16),H0 (c.toNat % 16)] by rw[qb,hg];rfl);clear hg;have x1:=zkp c;have x2:=zkd c;have x3:=zov c;have hcv:=fun w2:World=>Gs (P:=Tryz.prog) w2 [92,120,H0 (c.toNat / 16),H0 (c.toNat % 16)] 174 5 9 Tryz.underlying174 Tryz.underlying5 Tryz.underlying9 #[.int .u8 92,.int .u8 120,.int .u8 (H0 (c.toNat / 16)).toNat,.int .u8 (H0 (c.toNat % 16)).toNat] rfl (0,0) w2.heap.size 4 4 rfl rfl
    go_wp2_with fail
    go_still_tail 6,(by kernel_rfl)
    change wpList _ _ _ _ _ wr.drew;obtain ⟨w2,hw2,hI2,hsz⟩:∃ w2:World,Below w.heap.size w w2/\Bld w.heap.size (pre s k) w2/\w2=wr.drew:=⟨_,hB.drew,hI.drew,rfl⟩;rw[←hsz];clear hsz hI hB
    go_wp2_with fail
    refine (x6 w.heap.size (pre s k) (ofL [92,120,H0 (c.toNat / 16),H0 (c.toNat % 16)]) _ (hI2.alloc _) (by rw[Zo];show _+4<=_;omega) (by have:=hw2.size;simp;omega)).mono ?_;rintro e w3 ⟨rfl,hI3,hb3⟩;rw[zeB]at hI3;have hB3:=(hw2.alloc hw2.size _).trans hb3;clear hb3 hcv x1 x2 x3 hI2
    go_wp2
    go_roundw
    case rel=>exact ⟨k+1,by omega,by go_num,by rw[hsn.out,hq.out];exact hI3,hB3⟩
    case measure=>simp[intOf];omega
  ·have hfin:=Lib.hid (zfV s k (by omega))
   go_wp2_with fail
   refine (NE w.heap.size (pre s k) 34 _ hI (by omega) hB.size).mono ?_;rintro e w2 ⟨rfl,hI2,hb2⟩
   go_wp2_with fail
   refine (zfB w.heap.size _ _ hI2 (hB.trans hb2).size).mono ?_;rintro e w3 ⟨rfl,hb3⟩
   go_wp2
   go_ret
   exact ⟨HG (by rw[hfin.out]),(hB.trans hb2).trans hb3⟩
end QuoteWalk
end Go.Proofs.YtnpdbhbmakdklaaGreatDoor
end
namespace Go.Proofs.YtnpdbhbmakdklaaGreatDoor.Vcg
section
open Go.RowKit
def phr:List (List UInt8):=[[],[99,97,110,110,111,116,32,99,114,101,97,116,101,32,100,105,114,101,99,116,111,114,121,32,65,58,32,69],[99,97,110,110,111,116,32,114,101,109,111,118,101,32,65,58,32,69],[114,101,102,117,115,105,110,103,32,116,111,32,114,101,109,111,118,101,32,34,46,34,32,111,114,32,34,46,46,34,32,100,105,114,101,99,116,111,114,121,58,32,115,107,105,112,112,105,110,103,32,65],[105,116,32,105,115,32,100,97,110,103,101,114,111,117,115,32,116,111,32,111,112,101,114,97,116,101,32,114,101,99,117,114,115,105,118,101,108,121,32,111,110,32,65],[102,97,105,108,101,100,32,116,111,32,97,99,99,101,115,115,32,65,58,32,69],[65,58,32,104,97,114,100,32,108,105,110,107,32,110,111,116,32,97,108,108,111,119,101,100,32,102,111,114,32,100,105,114,101,99,116,111,114,121],[102,97,105,108,101,100,32,116,111,32,99,114,101,97,116,101,32,104,97,114,100,32,108,105,110,107,32,66,58,32,69],[102,97,105,108,101,100,32,116,111,32,99,114,101,97,116,101,32,115,121,109,98,111,108,105,99,32,108,105,110,107,32,66,58,32,69],[65,32,97,110,100,32,66,32,97,114,101,32,116,104,101,32,115,97,109,101,32,102,105,108,101],[116,97,114,103,101,116,32,65,32,105,115,32,110,111,116,32,97,32,100,105,114,101,99,116,111,114,121],[99,97,110,110,111,116,32,115,116,97,116,32,65,58,32,69],[99,97,110,110,111,116,32,111,118,101,114,119,114,105,116,101,32,110,111,110,45,100,105,114,101,99,116,111,114,121,32,66,32,119,105,116,104,32,100,105,114,101,99,116,111,114,121,32,65],[99,97,110,110,111,116,32,111,118,101,114,119,114,105,116,101,32,100,105,114,101,99,116,111,114,121,32,66,32,119,105,116,104,32,110,111,110,45,100,105,114,101,99,116,111,114,121,32,65],[99,97,110,110,111,116,32,109,111,118,101,32,65,32,116,111,32,97,32,115,117,98,100,105,114,101,99,116,111,114,121,32,111,102,32,105,116,115,101,108,102,44,32,66],[99,97,110,110,111,116,32,109,111,118,101,32,65,32,116,111,32,66,58,32,69],[45,114,32,110,111,116,32,115,112,101,99,105,102,105,101,100,59,32,111,109,105,116,116,105,110,103,32,100,105,114,101,99,116,111,114,121,32,65],[99,97,110,110,111,116,32,99,114,101,97,116,101,32,114,101,103,117,108,97,114,32,102,105,108,101,32,66,58,32,69],[99,97,110,110,111,116,32,99,114,101,97,116,101,32,115,121,109,98,111,108,105,99,32,108,105,110,107,32,66,58,32,69],[99,97,110,110,111,116,32,99,111,112,121,32,97,32,100,105,114,101,99,116,111,114,121,44,32,65,44,32,105,110,116,111,32,105,116,115,101,108,102,44,32,66],[110,111,116,32,119,114,105,116,105,110,103,32,116,104,114,111,117,103,104,32,100,97,110,103,108,105,110,103,32,115,121,109,108,105,110,107,32,66],[101,114,114,111,114,32,119,114,105,116,105,110,103,32,66,58,32,69],[99,97,110,110,111,116,32,99,114,101,97,116,101,32,100,105,114,101,99,116,111,114,121,32,66,58,32,69]]
def zsd:List (List UInt8):=[[83,117,99,99,101,115,115],[78,111,32,115,117,99,104,32,102,105,108,101,32,111,114,32,100,105,114,101,99,116,111,114,121],[70,105,108,101,32,101,120,105,115,116,115],[78,111,116,32,97,32,100,105,114,101,99,116,111,114,121],[73,115,32,97,32,100,105,114,101,99,116,111,114,121],[68,105,114,101,99,116,111,114,121,32,110,111,116,32,101,109,112,116,121],[84,111,111,32,109,97,110,121,32,108,101,118,101,108,115,32,111,102,32,115,121,109,98,111,108,105,99,32,108,105,110,107,115],[70,105,108,101,32,110,97,109,101,32,116,111,111,32,108,111,110,103],[78,111,32,115,112,97,99,101,32,108,101,102,116,32,111,110,32,100,101,118,105,99,101],[73,110,118,97,108,105,100,32,97,114,103,117,109,101,110,116],[68,101,118,105,99,101,32,111,114,32,114,101,115,111,117,114,99,101,32,98,117,115,121],[79,112,101,114,97,116,105,111,110,32,110,111,116,32,112,101,114,109,105,116,116,101,100],[77,97,108,102,111,114,109,101,100,32,116,101,120,116],[78,111,116,32,105,110,32,116,104,101,32,115,116,97,115,104]]
def zn9:List Value:=[.string ⟨#[]⟩,.string ⟨#[]⟩,.int .i64 0,.string ⟨#[109,107,100,105,114]⟩,.string ⟨#[112]⟩,.int .i64 1,.string ⟨#[114,109]⟩,.string ⟨#[82,100,102,114]⟩,.int .i64 1,.string ⟨#[108,110]⟩,.string ⟨#[84,102,110,115]⟩,.int .i64 1,.string ⟨#[109,118]⟩,.string ⟨#[84,102,110]⟩,.int .i64 2,.string ⟨#[99,112]⟩,.string ⟨#[80,82,84,102,110,114]⟩,.int .i64 2]
def G2:zp:=fun g=>if g=1 then some (phr.map C.str) else if g=0 then some (zn9.map zA) else if g=2 then some (zsd.map C.str) else none
theorem zqi:G2 1=some [.str [],.str [99,97,110,110,111,116,32,99,114,101,97,116,101,32,100,105,114,101,99,116,111,114,121,32,65,58,32,69],.str [99,97,110,110,111,116,32,114,101,109,111,118,101,32,65,58,32,69],.str [114,101,102,117,115,105,110,103,32,116,111,32,114,101,109,111,118,101,32,34,46,34,32,111,114,32,34,46,46,34,32,100,105,114,101,99,116,111,114,121,58,32,115,107,105,112,112,105,110,103,32,65],.str [105,116,32,105,115,32,100,97,110,103,101,114,111,117,115,32,116,111,32,111,112,101,114,97,116,101,32,114,101,99,117,114,115,105,118,101,108,121,32,111,110,32,65],.str [102,97,105,108,101,100,32,116,111,32,97,99,99,101,115,115,32,65,58,32,69],.str [65,58,32,104,97,114,100,32,108,105,110,107,32,110,111,116,32,97,108,108,111,119,101,100,32,102,111,114,32,100,105,114,101,99,116,111,114,121],.str [102,97,105,108,101,100,32,116,111,32,99,114,101,97,116,101,32,104,97,114,100,32,108,105,110,107,32,66,58,32,69],.str [102,97,105,108,101,100,32,116,111,32,99,114,101,97,116,101,32,115,121,109,98,111,108,105,99,32,108,105,110,107,32,66,58,32,69],.str [65,32,97,110,100,32,66,32,97,114,101,32,116,104,101,32,115,97,109,101,32,102,105,108,101],.str [116,97,114,103,101,116,32,65,32,105,115,32,110,111,116,32,97,32,100,105,114,101,99,116,111,114,121],.str [99,97,110,110,111,116,32,115,116,97,116,32,65,58,32,69],.str [99,97,110,110,111,116,32,111,118,101,114,119,114,105,116,101,32,110,111,110,45,100,105,114,101,99,116,111,114,121,32,66,32,119,105,116,104,32,100,105,114,101,99,116,111,114,121,32,65],.str [99,97,110,110,111,116,32,111,118,101,114,119,114,105,116,101,32,100,105,114,101,99,116,111,114,121,32,66,32,119,105,116,104,32,110,111,110,45,100,105,114,101,99,116,111,114,121,32,65],.str [99,97,110,110,111,116,32,109,111,118,101,32,65,32,116,111,32,97,32,115,117,98,100,105,114,101,99,116,111,114,121,32,111,102,32,105,116,115,101,108,102,44,32,66],.str [99,97,110,110,111,116,32,109,111,118,101,32,65,32,116,111,32,66,58,32,69],.str [45,114,32,110,111,116,32,115,112,101,99,105,102,105,101,100,59,32,111,109,105,116,116,105,110,103,32,100,105,114,101,99,116,111,114,121,32,65],.str [99,97,110,110,111,116,32,99,114,101,97,116,101,32,114,101,103,117,108,97,114,32,102,105,108,101,32,66,58,32,69],.str [99,97,110,110,111,116,32,99,114,101,97,116,101,32,115,121,109,98,111,108,105,99,32,108,105,110,107,32,66,58,32,69],.str [99,97,110,110,111,116,32,99,111,112,121,32,97,32,100,105,114,101,99,116,111,114,121,44,32,65,44,32,105,110,116,111,32,105,116,115,101,108,102,44,32,66],.str [110,111,116,32,119,114,105,116,105,110,103,32,116,104,114,111,117,103,104,32,100,97,110,103,108,105,110,103,32,115,121,109,108,105,110,107,32,66],.str [101,114,114,111,114,32,119,114,105,116,105,110,103,32,66,58,32,69],.str [99,97,110,110,111,116,32,99,114,101,97,116,101,32,100,105,114,101,99,116,111,114,121,32,66,58,32,69]]:=rfl
theorem ziH:G2 0=some [.str [],.str [],.sc (.int .i64 0),.str [109,107,100,105,114],.str [112],.sc (.int .i64 1),.str [114,109],.str [82,100,102,114],.sc (.int .i64 1),.str [108,110],.str [84,102,110,115],.sc (.int .i64 1),.str [109,118],.str [84,102,110],.sc (.int .i64 2),.str [99,112],.str [80,82,84,102,110,114],.sc (.int .i64 2)]:=rfl
theorem zk3:G2 2=some [.str [83,117,99,99,101,115,115],.str [78,111,32,115,117,99,104,32,102,105,108,101,32,111,114,32,100,105,114,101,99,116,111,114,121],.str [70,105,108,101,32,101,120,105,115,116,115],.str [78,111,116,32,97,32,100,105,114,101,99,116,111,114,121],.str [73,115,32,97,32,100,105,114,101,99,116,111,114,121],.str [68,105,114,101,99,116,111,114,121,32,110,111,116,32,101,109,112,116,121],.str [84,111,111,32,109,97,110,121,32,108,101,118,101,108,115,32,111,102,32,115,121,109,98,111,108,105,99,32,108,105,110,107,115],.str [70,105,108,101,32,110,97,109,101,32,116,111,111,32,108,111,110,103],.str [78,111,32,115,112,97,99,101,32,108,101,102,116,32,111,110,32,100,101,118,105,99,101],.str [73,110,118,97,108,105,100,32,97,114,103,117,109,101,110,116],.str [68,101,118,105,99,101,32,111,114,32,114,101,115,111,117,114,99,101,32,98,117,115,121],.str [79,112,101,114,97,116,105,111,110,32,110,111,116,32,112,101,114,109,105,116,116,101,100],.str [77,97,108,102,111,114,109,101,100,32,116,101,120,116],.str [78,111,116,32,105,110,32,116,104,101,32,115,116,97,115,104]]:=rfl
attribute [push_cast] zqi ziH zk3
def jN (k:Int):List UInt8:=if k=1 then [109,107,100,105,114] else if k=2 then [114,109] else if k=3 then [108,110] else if k=4 then [109,118] else if k=5 then [99,112] else []
def qT (k:Int):List UInt8:=if k=1 then [99,97,110,110,111,116,32,99,114,101,97,116,101,32,100,105,114,101,99,116,111,114,121,32,65,58,32,69] else if k=2 then [99,97,110,110,111,116,32,114,101,109,111,118,101,32,65,58,32,69] else if k=3 then [114,101,102,117,115,105,110,103,32,116,111,32,114,101,109,111,118,101,32,34,46,34,32,111,114,32,34,46,46,34,32,100,105,114,101,99,116,111,114,121,58,32,115,107,105,112,112,105,110,103,32,65] else if k=4 then [105,116,32,105,115,32,100,97,110,103,101,114,111,117,115,32,116,111,32,111,112,101,114,97,116,101,32,114,101,99,117,114,115,105,118,101,108,121,32,111,110,32,65] else if k=5 then [102,97,105,108,101,100,32,116,111,32,97,99,99,101,115,115,32,65,58,32,69] else if k=6 then [65,58,32,104,97,114,100,32,108,105,110,107,32,110,111,116,32,97,108,108,111,119,101,100,32,102,111,114,32,100,105,114,101,99,116,111,114,121] else if k=7 then [102,97,105,108,101,100,32,116,111,32,99,114,101,97,116,101,32,104,97,114,100,32,108,105,110,107,32,66,58,32,69] else if k=8 then [102,97,105,108,101,100,32,116,111,32,99,114,101,97,116,101,32,115,121,109,98,111,108,105,99,32,108,105,110,107,32,66,58,32,69] else if k=9 then [65,32,97,110,100,32,66,32,97,114,101,32,116,104,101,32,115,97,109,101,32,102,105,108,101] else if k=10 then [116,97,114,103,101,116,32,65,32,105,115,32,110,111,116,32,97,32,100,105,114,101,99,116,111,114,121] else if k=11 then [99,97,110,110,111,116,32,115,116,97,116,32,65,58,32,69] else if k=12 then [99,97,110,110,111,116,32,111,118,101,114,119,114,105,116,101,32,110,111,110,45,100,105,114,101,99,116,111,114,121,32,66,32,119,105,116,104,32,100,105,114,101,99,116,111,114,121,32,65] else if k=13 then [99,97,110,110,111,116,32,111,118,101,114,119,114,105,116,101,32,100,105,114,101,99,116,111,114,121,32,66,32,119,105,116,104,32,110,111,110,45,100,105,114,101,99,116,111,114,121,32,65] else if k=14 then [99,97,110,110,111,116,32,109,111,118,101,32,65,32,116,111,32,97,32,115,117,98,100,105,114,101,99,116,111,114,121,32,111,102,32,105,116,115,101,108,102,44,32,66] else if k=15 then [99,97,110,110,111,116,32,109,111,118,101,32,65,32,116,111,32,66,58,32,69] else if k=16 then [45,114,32,110,111,116,32,115,112,101,99,105,102,105,101,100,59,32,111,109,105,116,116,105,110,103,32,100,105,114,101,99,116,111,114,121,32,65] else if k=17 then [99,97,110,110,111,116,32,99,114,101,97,116,101,32,114,101,103,117,108,97,114,32,102,105,108,101,32,66,58,32,69] else if k=18 then [99,97,110,110,111,116,32,99,114,101,97,116,101,32,115,121,109,98,111,108,105,99,32,108,105,110,107,32,66,58,32,69] else if k=19 then [99,97,110,110,111,116,32,99,111,112,121,32,97,32,100,105,114,101,99,116,111,114,121,44,32,65,44,32,105,110,116,111,32,105,116,115,101,108,102,44,32,66] else if k=20 then [110,111,116,32,119,114,105,116,105,110,103,32,116,104,114,111,117,103,104,32,100,97,110,103,108,105,110,103,32,115,121,109,108,105,110,107,32,66] else if k=21 then [101,114,114,111,114,32,119,114,105,116,105,110,103,32,66,58,32,69] else if k=22 then [99,97,110,110,111,116,32,99,114,101,97,116,101,32,100,105,114,101,99,116,111,114,121,32,66,58,32,69] else []
def vF (k:Int):List UInt8:=if k=0 then [83,117,99,99,101,115,115] else if k=1 then [78,111,32,115,117,99,104,32,102,105,108,101,32,111,114,32,100,105,114,101,99,116,111,114,121] else if k=2 then [70,105,108,101,32,101,120,105,115,116,115] else if k=3 then [78,111,116,32,97,32,100,105,114,101,99,116,111,114,121] else if k=4 then [73,115,32,97,32,100,105,114,101,99,116,111,114,121] else if k=5 then [68,105,114,101,99,116,111,114,121,32,110,111,116,32,101,109,112,116,121] else if k=6 then [84,111,111,32,109,97,110,121,32,108,101,118,101,108,115,32,111,102,32,115,121,109,98,111,108,105,99,32,108,105,110,107,115] else if k=7 then [70,105,108,101,32,110,97,109,101,32,116,111,111,32,108,111,110,103] else if k=8 then [78,111,32,115,112,97,99,101,32,108,101,102,116,32,111,110,32,100,101,118,105,99,101] else if k=9 then [73,110,118,97,108,105,100,32,97,114,103,117,109,101,110,116] else if k=10 then [68,101,118,105,99,101,32,111,114,32,114,101,115,111,117,114,99,101,32,98,117,115,121] else if k=11 then [79,112,101,114,97,116,105,111,110,32,110,111,116,32,112,101,114,109,105,116,116,101,100] else if k=12 then [77,97,108,102,111,114,109,101,100,32,116,101,120,116] else if k=13 then [78,111,116,32,105,110,32,116,104,101,32,115,116,97,115,104] else [85,110,107,110,111,119,110,32,101,114,114,111,114]
theorem Mm (k:Int):Fun Tryz.prog G2 117 [.sc (.int .i64 k)] (.str (jN k)) 0:=by
 by_cases h1:1<=k
 ·by_cases h2:k<=5
  ·have hc:k=1∨k=2∨k=3∨k=4∨k=5:=by omega
   clear h1 h2;rcases hc with rfl | rfl | rfl | rfl | rfl
   all_goals
    refine fon Tryz.func117 ?_;dsimp only[Tryz.f117];push_cast -dsimp;exact ⟨[],rfl,rfl,by simp only[jN];push_cast -dsimp [ze,zd,CLe,zg]<;>rfl⟩
  ·have n1:¬k=1:=(by omega);have n2:¬k=2:=(by omega);have n3:¬k=3:=(by omega);have n4:¬k=4:=(by omega);have n5:¬k=5:=(by omega);have f1:¬k<1:=(by omega);have f2:6<=k:=(by omega);have f3:5<k:=(by omega);refine fon Tryz.func117 ?_;dsimp only[Tryz.f117];push_cast -dsimp [f1,f2,f3,n1,n2,n3,n4,n5];exact ⟨[],rfl,rfl,by push_cast -dsimp [ze,zd,CLe,zg]<;>simp[jN,n1,n2,n3,n4,n5]⟩
 ·have n1:¬k=1:=(by omega);have n2:¬k=2:=(by omega);have n3:¬k=3:=(by omega);have n4:¬k=4:=(by omega);have n5:¬k=5:=(by omega);have f1:k<1:=by omega
  refine fon Tryz.func117 ?_;dsimp only[Tryz.f117];push_cast -dsimp [f1,n1,n2,n3,n4,n5];exact ⟨[],rfl,rfl,by push_cast -dsimp [ze,zd,CLe,zg]<;>simp[jN,n1,n2,n3,n4,n5]⟩
theorem MZ (k:Int):Fun Tryz.prog G0 38 [.sc (.int .i64 k)] (.str (jN k)) 0:=by
 by_cases h1:1<=k
 ·by_cases h2:k<=5
  ·have hc:k=1∨k=2∨k=3∨k=4∨k=5:=by omega
   clear h1 h2;rcases hc with rfl | rfl | rfl | rfl | rfl
   all_goals
    refine fon Tryz.func38 ?_;dsimp only[Tryz.f38];push_cast -dsimp;exact ⟨[],rfl,rfl,by simp only[jN];push_cast -dsimp [ze,zd,CLe,zg]<;>rfl⟩
  ·have n1:¬k=1:=(by omega);have n2:¬k=2:=(by omega);have n3:¬k=3:=(by omega);have n4:¬k=4:=(by omega);have n5:¬k=5:=(by omega);have f1:¬k<1:=(by omega);have f2:6<=k:=(by omega);have f3:5<k:=(by omega);refine fon Tryz.func38 ?_;dsimp only[Tryz.f38];push_cast -dsimp [f1,f2,f3,n1,n2,n3,n4,n5];exact ⟨[],rfl,rfl,by push_cast -dsimp [ze,zd,CLe,zg]<;>simp[jN,n1,n2,n3,n4,n5]⟩
 ·have n1:¬k=1:=(by omega);have n2:¬k=2:=(by omega);have n3:¬k=3:=(by omega);have n4:¬k=4:=(by omega);have n5:¬k=5:=(by omega);have f1:k<1:=by omega
  refine fon Tryz.func38 ?_;dsimp only[Tryz.f38];push_cast -dsimp [f1,n1,n2,n3,n4,n5];exact ⟨[],rfl,rfl,by push_cast -dsimp [ze,zd,CLe,zg]<;>simp[jN,n1,n2,n3,n4,n5]⟩
theorem zb3 (k:Int):Fun Tryz.prog G2 118 [.sc (.int .i64 k)] (.str (qT k)) 0:=by
 by_cases h1:0<=k
 ·by_cases h2:k<=22
  ·have hc:k=0∨k=1∨k=2∨k=3∨k=4∨k=5∨k=6∨k=7∨k=8∨k=9∨k=10∨k=11∨k=12∨k=13∨k=14∨k=15∨k=16∨k=17∨k=18∨k=19∨k=20∨k=21∨k=22:=by omega
   clear h1 h2;rcases hc with rfl | rfl | rfl | rfl | rfl | rfl | rfl | rfl | rfl | rfl | rfl | rfl | rfl | rfl | rfl | rfl | rfl | rfl | rfl | rfl | rfl | rfl | rfl
   all_goals
    refine fon Tryz.func118 ?_;dsimp only[Tryz.f118];push_cast -dsimp;exact ⟨[],rfl,rfl,by simp only[qT];push_cast -dsimp [ze,zd,CLe,zg]<;>rfl⟩
  ·have n1:¬k=1:=(by omega);have n2:¬k=2:=(by omega);have n3:¬k=3:=(by omega);have n4:¬k=4:=(by omega);have n5:¬k=5:=(by omega);have n6:¬k=6:=(by omega);have n7:¬k=7:=(by omega);have n8:¬k=8:=(by omega);have n9:¬k=9:=(by omega);have n10:¬k=10:=(by omega);have n11:¬k=11:=(by omega);have n12:¬k=12:=(by omega);have n13:¬k=13:=(by omega);have n14:¬k=14:=(by omega);have n15:¬k=15:=(by omega);have n16:¬k=16:=(by omega);have n17:¬k=17:=(by omega);have n18:¬k=18:=(by omega);have n19:¬k=19:=(by omega);have n20:¬k=20:=(by omega);have n21:¬k=21:=(by omega);have n22:¬k=22:=(by omega);have f1:¬k<0:=(by omega);have f2:23<=k:=(by omega);have f3:22<k:=(by omega);refine fon Tryz.func118 ?_;dsimp only[Tryz.f118];push_cast -dsimp [f1,f2,f3,n1,n2,n3,n4,n5,n6,n7,n8,n9,n10,n11,n12,n13,n14,n15,n16,n17,n18,n19,n20,n21,n22];exact ⟨[],rfl,rfl,by push_cast -dsimp [ze,zd,CLe,zg]<;>simp[qT,n1,n2,n3,n4,n5,n6,n7,n8,n9,n10,n11,n12,n13,n14,n15,n16,n17,n18,n19,n20,n21,n22]⟩
 ·have n1:¬k=1:=(by omega);have n2:¬k=2:=(by omega);have n3:¬k=3:=(by omega);have n4:¬k=4:=(by omega);have n5:¬k=5:=(by omega);have n6:¬k=6:=(by omega);have n7:¬k=7:=(by omega);have n8:¬k=8:=(by omega);have n9:¬k=9:=(by omega);have n10:¬k=10:=(by omega);have n11:¬k=11:=(by omega);have n12:¬k=12:=(by omega);have n13:¬k=13:=(by omega);have n14:¬k=14:=(by omega);have n15:¬k=15:=(by omega);have n16:¬k=16:=(by omega);have n17:¬k=17:=(by omega);have n18:¬k=18:=(by omega);have n19:¬k=19:=(by omega);have n20:¬k=20:=(by omega);have n21:¬k=21:=(by omega);have n22:¬k=22:=(by omega);have f1:k<0:=by omega
  refine fon Tryz.func118 ?_;dsimp only[Tryz.f118];push_cast -dsimp [f1,n1,n2,n3,n4,n5,n6,n7,n8,n9,n10,n11,n12,n13,n14,n15,n16,n17,n18,n19,n20,n21,n22];exact ⟨[],rfl,rfl,by push_cast -dsimp [ze,zd,CLe,zg]<;>simp[qT,n1,n2,n3,n4,n5,n6,n7,n8,n9,n10,n11,n12,n13,n14,n15,n16,n17,n18,n19,n20,n21,n22]⟩
theorem vL (k:Int):Fun Tryz.prog G2 164 [.sc (.int .i64 k)] (.str (vF k)) 0:=by
 by_cases h1:0<=k
 ·by_cases h2:k<=13
  ·have hc:k=0∨k=1∨k=2∨k=3∨k=4∨k=5∨k=6∨k=7∨k=8∨k=9∨k=10∨k=11∨k=12∨k=13:=by omega
   clear h1 h2;rcases hc with rfl | rfl | rfl | rfl | rfl | rfl | rfl | rfl | rfl | rfl | rfl | rfl | rfl | rfl
   all_goals
    refine fon Tryz.func164 ?_;dsimp only[Tryz.f164];push_cast -dsimp;exact ⟨[],rfl,rfl,by simp only[vF];push_cast -dsimp [ze,zd,CLe,zg]<;>rfl⟩
  ·have n0:¬k=0:=(by omega);have n1:¬k=1:=(by omega);have n2:¬k=2:=(by omega);have n3:¬k=3:=(by omega);have n4:¬k=4:=(by omega);have n5:¬k=5:=(by omega);have n6:¬k=6:=(by omega);have n7:¬k=7:=(by omega);have n8:¬k=8:=(by omega);have n9:¬k=9:=(by omega);have n10:¬k=10:=(by omega);have n11:¬k=11:=(by omega);have n12:¬k=12:=(by omega);have n13:¬k=13:=(by omega);have f1:¬k<0:=(by omega);have f2:14<=k:=(by omega);have f3:13<k:=(by omega);refine fon Tryz.func164 ?_;dsimp only[Tryz.f164];push_cast -dsimp [f1,f2,f3,n0,n1,n2,n3,n4,n5,n6,n7,n8,n9,n10,n11,n12,n13];exact ⟨[],rfl,rfl,by push_cast -dsimp [ze,zd,CLe,zg]<;>simp[vF,n0,n1,n2,n3,n4,n5,n6,n7,n8,n9,n10,n11,n12,n13]⟩
 ·have n0:¬k=0:=(by omega);have n1:¬k=1:=(by omega);have n2:¬k=2:=(by omega);have n3:¬k=3:=(by omega);have n4:¬k=4:=(by omega);have n5:¬k=5:=(by omega);have n6:¬k=6:=(by omega);have n7:¬k=7:=(by omega);have n8:¬k=8:=(by omega);have n9:¬k=9:=(by omega);have n10:¬k=10:=(by omega);have n11:¬k=11:=(by omega);have n12:¬k=12:=(by omega);have n13:¬k=13:=(by omega);have f1:k<0:=by omega
  refine fon Tryz.func164 ?_;dsimp only[Tryz.f164];push_cast -dsimp [f1,n0,n1,n2,n3,n4,n5,n6,n7,n8,n9,n10,n11,n12,n13];exact ⟨[],rfl,rfl,by push_cast -dsimp [ze,zd,CLe,zg]<;>simp[vF,n0,n1,n2,n3,n4,n5,n6,n7,n8,n9,n10,n11,n12,n13]⟩
open QuotePlain in
theorem N3 (l:List UInt8) (hl:l.length<=1000000):Fun Tryz.prog G0 163 [.str l] (.str (quoteL l)) 0:=by
 refine Fun.wrap (by kernel_rfl) fun R vs h=>?_;obtain ⟨v1,us1,rfl,h1,h⟩:=zh.1 h;rw[zl]at h;subst h;rw[zT]at h1;subst h1;refine (QuoteWalk.quote_walk ⟨l.toArray⟩ R.w (by simp[ByteArray.size];omega)).mono ?_;rintro e w' ⟨rfl,hb⟩;exact ⟨_,rfl,hb,fun R' _=>zT.2 (by simp[Kit.ofL,Kit.toL])⟩
open QuotePlain in
theorem Qd (l:List UInt8) (hl:l.length<=1000000):Fun Tryz.prog G0 63 [.str l] (.str (quoteL l)) 0:=by
 refine Fun.wrap (by kernel_rfl) fun R vs h=>?_;obtain ⟨v1,us1,rfl,h1,h⟩:=zh.1 h;rw[zl]at h;subst h;rw[zT]at h1;subst h1;refine (QuoteWalk.refQuote_walk ⟨l.toArray⟩ R.w (by simp[ByteArray.size];omega)).mono ?_;rintro e w' ⟨rfl,hb⟩;exact ⟨_,rfl,hb,fun R' _=>zT.2 (by simp[Kit.ofL,Kit.toL])⟩
end
section
open Go.RowKit
theorem Fun.res {P:Program} {G:zp} {f:FuncId} {args:List C} {r r':C} {n:Nat} (h:Fun P G f args r n) (e:r=r'):Fun P G f args r' n:=e▸h
theorem Nj.glob0 {P:Program} {G':zp} {f:FuncId} {args:List C} {bx bx':List (List C)} {q:Nat} {r:C} {n:Nat} (h:Nj P G0 f args bx q r bx' n):Nj P G' f args bx q r bx' n:=
 ⟨h.1,fun R L vs hg=>h.2 R L vs fun g cs e=>by cases e⟩
theorem xB.glob0 {P:Program} {G':zp} {f:FuncId} {first cap:List C} {bx items:List (List C)} (h:xB P G0 f first cap bx items):xB P G' f first cap bx items:=
 ⟨h.1,fun l st J R L us vs hg=>h.2 l st J R L us vs fun g cs e=>by cases e⟩
def QU (c:UInt8):List UInt8->List (List UInt8)
 | []=>[[]]
 | b :: l=>if b=c then [] :: QU c l else match QU c l with
  | []=>[[b]]
  | x :: r=>(b :: x) :: r
theorem Ux (c:UInt8):∀ l:List UInt8,Lib.indexByte l c<0->QU c l = [l]
 | [],_=>rfl
 | b :: l,h=>by
  unfold Lib.indexByte at h;by_cases hb:b=c
  ·subst hb;simp at h
  ·have hb':(b==c)=false:=by simpa using hb
   rw[hb']at h;simp only[Bool.false_eq_true,if_false]at h;have hl:Lib.indexByte l c<0:=by
    split at h
    ·rename_i g;have:=beq_iff_eq.1 g;omega
    ·omega
   unfold QU;rw[if_neg hb,Ux c l hl]
theorem UH (c:UInt8):∀ l:List UInt8,-1<=Lib.indexByte l c
 | []=>Int.le_refl _
 | b :: l=>by
  have:=UH c l;unfold Lib.indexByte;split
  ·decide
  ·split
   ·decide
   ·omega
theorem Nz (c:UInt8):∀ (l:List UInt8) (i:Nat),Lib.indexByte l c=(i:Int)->i<l.length/\QU c l=l.take i :: QU c (l.drop (i+1))
 | [],i,h=>by
  have h:(-1:Int)=(i:Int):=h;omega
 | b :: l,i,h=>by
  unfold Lib.indexByte at h;by_cases hb:b=c
  ·subst hb;simp at h;obtain rfl:i=0:=by omega
   refine ⟨by simp,?_⟩
   conv=>lhs;unfold QU
   simp
  ·have hb':(b==c)=false:=by simpa using hb
   rw[hb']at h;simp only[Bool.false_eq_true,if_false]at h;split at h
   ·omega
   ·rename_i g;have g':Lib.indexByte l c≠-1:=by simpa using g
    have hg:=UH c l;obtain ⟨j,rfl⟩:∃ j,i=j+1:=⟨i-1,by omega⟩;have hj:Lib.indexByte l c=(j:Int):=by omega
    obtain ⟨h1,h2⟩:=Nz c l j hj;refine ⟨by simp;omega,?_⟩
    conv=>lhs;unfold QU
    rw[if_neg hb,h2];simp
theorem vx (c:UInt8) (l:List UInt8):(QU c l).length<=l.length+1:=by
 induction l with
 | nil=>simp[QU]
 | cons b l ih =>
  unfold QU;split
  ·simp;omega
  ·split
   ·simp
   ·rename_i x r h;rw[h]at ih;simp at ih ⊢;omega
theorem zaK (c:UInt8) (l:List UInt8):Fun Tryz.prog G0 192 [.str l,.str [c]] (.sc (.int .i64 (Lib.indexByte l c))) 0:=by
 refine Fun.wrap (by kernel_rfl) fun R vs h=>?_;obtain ⟨v1,us1,rfl,h1,h⟩:=zh.1 h;obtain ⟨v2,us2,rfl,h2,h⟩:=zh.1 h;rw[zl]at h;subst h;rw[zT]at h1 h2;subst h1 h2;refine (Tryz.strings_Index_one ⟨l.toArray⟩ c R.w).mono ?_;rintro e w' ⟨rfl,rfl⟩;exact ⟨_,rfl,Below.refl _ _,fun R' _=>zo.2 (by simp)⟩
theorem MG (c:UInt8) (s:List UInt8) (hs:s.length<=1000000):xB Tryz.prog G0 190 [] [.ptr 1 0,.ptr 0 0,.ptr 2 0] [[.str s],[.str [c]],[.sc (.int .i64 0)]] (zM (QU c s)):=by
 refine foI (fun _=>[]) Tryz.func190 ?_;dsimp only[Tryz.f190];intro l sf;push_cast -dsimp;refine loop (fun x:List UInt8×Nat=>⟨[(0,.sc (.func (.yield l) #[] #[])),(1,.ptr 1 0),(2,.ptr 0 0),(3,.ptr 2 0)],[[.str x.1],[.str [c]],[.sc (.int .i64 0)]],0,x.2⟩)
  (fun x=>x.1.length<=1000000/\(∃ done,QU c s=done++QU c x.1/\done.length=x.2)/\∀ j,j<x.2->sf j=false) (fun x=>x.1.length) (s,0) ⟨hs,⟨[],rfl,rfl⟩,fun j hj=>by omega⟩ ?_ ?_
 ·refine Jz.mk [] rfl rfl (Nat.zero_le _) rfl ?_ ?_<;>push_cast -dsimp [ze,zd,CLe,zg]<;>omega
 ·rintro ⟨r,k⟩ hx;simp only at hx ⊢;have hr:=hx.1;have hsf:=hx.2.2;obtain ⟨done,hd,hdl⟩:=hx.2.1;clear hx;push_cast -dsimp;refine call (zaK c r) ?_;push_cast -dsimp;by_cases hi:Lib.indexByte r c<0
  ·push_cast -dsimp [hi];have hk:(zM (QU c s))[k]?=some [.str r]:=by
    rw[hd,Ux c r hi];simp[←hdl]
   rw[hk];push_cast -dsimp;refine ⟨by push_cast -dsimp [ze,zd,CLe,zg],hsf,?_⟩;cases hk2:sf k with
   | true=>exact .inr ⟨Nat.succ_pos k,hk2⟩
   | false =>
    refine .inl ⟨?_,fun j (hj:j<k+1)=>?_⟩
    ·rw[hd,Ux c r hi];simp[hdl]
    ·rcases Nat.lt_or_ge j k with g | g
     ·exact hsf j g
     ·rw[show j=k by omega];exact hk2
  ·have hg:=UH c r;obtain ⟨i,hii⟩:∃ i:Nat,Lib.indexByte r c=(i:Int):=⟨(Lib.indexByte r c).toNat,by omega⟩;obtain ⟨hir,hsp⟩:=Nz c r i hii;have hk:(zM (QU c s))[k]?=some [.str (r.take i)]:=by
    rw[hd,hsp];simp[←hdl]
   rw[hii]at hi ⊢;push_cast -dsimp [hi];rw[hk];push_cast -dsimp;refine ⟨by omega,by omega,by push_cast -dsimp [ze,zd,CLe,zg],hsf,br (fun hk2=>?_) (fun hk2=>?_)⟩
   ·push_cast -dsimp;exact .inr ⟨Nat.succ_pos k,hk2⟩
   ·push_cast -dsimp;refine ⟨by omega,by omega,(r.drop (i+1),k+1),⟨by simp;omega,⟨done++[r.take i],by rw[hd,hsp];simp,by simp[hdl]⟩,fun j (hj:j<k+1)=>?_⟩,by simp;omega,Jz.mk [] rfl rfl (Nat.zero_le _) rfl ?_ ?_⟩
    ·rcases Nat.lt_or_ge j k with g | g
     ·exact hsf j g
     ·rw[show j=k by omega];exact hk2
    ·push_cast -dsimp [ze,zd,CLe,zg]
    ·push_cast -dsimp [ze,zd,CLe,zg]
theorem Gy (c:UInt8) (s:List UInt8):Nj Tryz.prog G0 161 [.str s,.str [c],.sc (.int .i64 0)] [] 0 (.clo (.func 190) [] [.ptr 1 0,.ptr 0 0,.ptr 2 0]) [[.str s],[.str [c]],[.sc (.int .i64 0)]] 0:=by
 refine foB (fun _=>[]) Tryz.func161 ?_;dsimp only[Tryz.f161];push_cast -dsimp;exact ⟨[],rfl,rfl,by push_cast -dsimp [ze,zd,CLe,zg],by push_cast -dsimp [ze,zd,CLe,zg]⟩
theorem GC (c:UInt8) (s:List UInt8):Nj Tryz.prog G0 119 [.str s,.str [c]] [] 0 (.clo (.func 190) [] [.ptr 1 0,.ptr 0 0,.ptr 2 0]) [[.str s],[.str [c]],[.sc (.int .i64 0)]] 0:=by
 refine foB (fun _=>[]) Tryz.func119 ?_;dsimp only[Tryz.f119];push_cast -dsimp;refine Vn [] [] (Gy c s) rfl (by simp) (by simp) (fun i hi=>by cases hi) (by push_cast -dsimp) rfl ?_;push_cast -dsimp;exact ⟨[],rfl,rfl,by push_cast -dsimp [ze,zd,CLe,zg],by push_cast -dsimp [ze,zd,CLe,zg]⟩
end
section
open CA CB
open Go.RowKit QuotePlain
def Y6 (l:List UInt8):List UInt8:=Lib.trimRightS l [58,44]
theorem zcJ (l:List UInt8):(Y6 l).length<=l.length:=by
 unfold Y6 Lib.trimRightS;rw[List.length_reverse];have:=(List.dropWhile_sublist (([58,44]:List UInt8).contains ·) (l:=l.reverse)).length_le;rw[List.length_reverse]at this;exact this
theorem zhJ (l:List UInt8) (h0:l≠[]) (hl:l.length<=1000000):Fun Tryz.prog G0 162 [.str l,.str [58,44]] (.str (Y6 l)) 0:=by
 refine Fun.wrap (by kernel_rfl) fun R vs h=>?_;obtain ⟨v1,us1,rfl,h1,h⟩:=zh.1 h;obtain ⟨v2,us2,rfl,h2,h⟩:=zh.1 h;rw[zl]at h;subst h;rw[zT]at h1 h2;subst h1 h2;have hpos:=List.length_pos_iff.2 h0;refine (Any.strings_TrimRight_set Tryz.lays162 Hq (by kernel_rfl) ⟨l.toArray⟩ ⟨#[58,44]⟩ R.w (by decide) (by simpa [ByteArray.size] using hpos) (by simp[ByteArray.size];omega) (by decide) (fun j b hb=>?_)).mono ?_
 ·match j,hb with
  | 0,hb=>cases hb;decide
  | 1,hb=>cases hb;decide
  | j+2,hb=>simp at hb
 ·rintro e w' ⟨rfl,rfl⟩;exact ⟨_,rfl,((Below.refl _ _).alloc (Nat.le_refl _) _).alloc (by simp) _,fun R' _=>zT.2 (by simp[Y6])⟩
def Zl (w qa qb m:List UInt8):List UInt8:=
 if Y6 w = [65] then qa++w.drop (Y6 w).length else if Y6 w = [66] then qb++w.drop (Y6 w).length else if Y6 w = [69] then m++w.drop (Y6 w).length else w
theorem Qe (l:List UInt8):(quoteL l).length<=4*l.length+2:=by
 have:=QuoteWalk.mid_len l;simp only[quoteL,List.length_cons,List.length_append,List.length_nil];omega
theorem zak (e:Int):(vF e).length<=100:=by
 have key:∀ (c:Prop) [Decidable c] (x y:List UInt8),x.length<=100->y.length<=100->(if c then x else y).length<=100:=fun c _ x y hx hy=>by
  by_cases h:c
  ·rw[if_pos h];exact hx
  ·rw[if_neg h];exact hy
 unfold vF
 repeat' (first | decide | refine key _ _ _ (by decide) ?_)
theorem zfT (w a b:List UInt8) (e:Int) (ha:a.length<=3000) (hb:b.length<=3000):(Zl w (quoteL a) (quoteL b) (vF e)).length<=w.length+25000:=by
 have h1:=Qe a;have h2:=Qe b;have h3:=zak e;unfold Zl
 repeat' split
 all_goals (try simp only[List.length_append,List.length_drop]);omega
theorem zg8 (w a b:List UInt8) (e:Int) (h0:w≠[]) (hw:w.length<=1000) (ha:a.length<=3000) (hb:b.length<=3000):Fun Tryz.prog G2 120 [.str w,.str a,.str b,.sc (.int .i64 e)] (.str (Zl w (quoteL a) (quoteL b) (vF e))) 0:=by
 have h1:=(zhJ w h0 (by omega)).glob0 (G':=G2);have h2:=(N3 a (by omega)).glob0 (G':=G2);have h3:=(N3 b (by omega)).glob0 (G':=G2);have h4:=vL e;have hl:=zcJ w;have l1:=Qe a;have l2:=Qe b;have l3:=zak e;by_cases hA:Y6 w = [65]
 ·refine fon Tryz.func120 ?_;dsimp only[Tryz.f120];push_cast -dsimp;refine cl (h1) ?_;push_cast -dsimp
  repeat refine an ?_
  push_cast -dsimp [hA];refine cl (h2) ?_;push_cast -dsimp
  repeat refine an ?_
  exact ⟨[],rfl,rfl,by push_cast -dsimp [ze,zd,CLe,zg]<;>simp[Zl,hA]⟩
 ·by_cases hB:Y6 w = [66]
  ·have hA':¬([66]:List UInt8) = [65]:=by decide
   refine fon Tryz.func120 ?_;dsimp only[Tryz.f120];push_cast -dsimp;refine cl (h1) ?_;push_cast -dsimp
   repeat refine an ?_
   push_cast -dsimp [hB,hA'];refine cl (h3) ?_;push_cast -dsimp
   repeat refine an ?_
   exact ⟨[],rfl,rfl,by push_cast -dsimp [ze,zd,CLe,zg]<;>simp[Zl,hB]⟩
  ·by_cases hE:Y6 w = [69]
   ·have hA':¬([69]:List UInt8) = [65]:=by decide
    have hB':¬([69]:List UInt8) = [66]:=by decide
    refine fon Tryz.func120 ?_;dsimp only[Tryz.f120];push_cast -dsimp;refine cl (h1) ?_;push_cast -dsimp
    repeat refine an ?_
    push_cast -dsimp [hE,hA',hB'];refine cl (h4) ?_;push_cast -dsimp
    repeat refine an ?_
    exact ⟨[],rfl,rfl,by push_cast -dsimp [ze,zd,CLe,zg]<;>simp[Zl,hE]⟩
   ·refine fon Tryz.func120 ?_;dsimp only[Tryz.f120];push_cast -dsimp;refine cl (h1) ?_;push_cast -dsimp
    repeat refine an ?_
    push_cast -dsimp [hA,hB,hE];exact ⟨[],rfl,rfl,by push_cast -dsimp [ze,zd,CLe,zg]<;>simp[Zl,hA,hB,hE]⟩
theorem zjh (xs:List (List UInt8)) (hx:xs.length<=1000001) (hl:(Lib.join xs [58,32]).length<=100000000):Fun Tryz.prog G0 121 [.sl 1 (zM xs)] (.str (Lib.join xs [58,32])) 0:=by
 refine fon Tryz.func121 ?_;dsimp only[Tryz.f121];push_cast -dsimp;refine cl (H4 xs [58,32] hx hl) ?_;push_cast -dsimp;exact dn
end
section
open CA CB
open Go.RowKit QuotePlain
abbrev Atm:=Nat ⊕ UInt8
def zrx (w:List UInt8):List Atm:=
 if Y6 w = [65] then .inl 0 :: (w.drop (Y6 w).length).map .inr else if Y6 w = [66] then .inl 1 :: (w.drop (Y6 w).length).map .inr else if Y6 w = [69] then .inl 2 :: (w.drop (Y6 w).length).map .inr else w.map .inr
def vA (qa qb m:List UInt8):Atm->List UInt8
 | .inl 0=>qa
 | .inl 1=>qb
 | .inl _=>m
 | .inr b=>[b]
def flA (qa qb m:List UInt8):List Atm->List UInt8
 | []=>[]
 | [a]=>vA qa qb m a
 | a :: b :: r=>vA qa qb m a++flA qa qb m (b :: r)
theorem Xl (qa qb m:List UInt8):∀ l:List Atm,flA qa qb m l=l.flatMap (vA qa qb m)
 | []=>rfl
 | [a]=>by simp[flA]
 | a :: b :: r=>by rw[flA,Xl qa qb m (b :: r)];rfl
def zep (k:Int):List Atm:=List.intercalate [.inr 32] ((QU 32 (qT k)).map zrx)
def zqw (k:Int) (qa qb m:List UInt8):List UInt8:=flA qa qb m (zep k)
theorem zh7 (qa qb m l:List UInt8):flA qa qb m (l.map .inr)=l:=by
 rw[Xl]
 induction l with
 | nil=>rfl
 | cons b r ih=>exact congrArg (b :: ·) ih
theorem GB (qa qb m:List UInt8) (a:Atm) (l:List Atm):flA qa qb m (a :: l)=vA qa qb m a++flA qa qb m l:=by rw[Xl,Xl];rfl
theorem zjg (w qa qb m:List UInt8):Zl w qa qb m=flA qa qb m (zrx w):=by
 have h:=fun l=>zh7 qa qb m l;unfold Zl zrx;split
 ·rw[GB,h];rfl
 ·split
  ·rw[GB,h];rfl
  ·split
   ·rw[GB,h];rfl
   ·rw[h]
theorem zeZ (qa qb m:List UInt8) (a b:List Atm):flA qa qb m (a++b)=flA qa qb m a++flA qa qb m b:=by rw[Xl,Xl,Xl];exact List.flatMap_append
theorem zal (qa qb m:List UInt8):∀ ws:List (List Atm),flA qa qb m (List.intercalate [.inr 32] ws)=List.intercalate [32] (ws.map (flA qa qb m))
 | []=>rfl
 | [w]=>by simp[List.intercalate,List.intersperse]
 | w :: v :: r=>by
  have ih:=zal qa qb m (v :: r);have e1:List.intercalate [(.inr 32:Atm)] (w :: v :: r)=w++([.inr 32]++List.intercalate [.inr 32] (v :: r)):=by simp[List.intercalate,List.intersperse]
  have e2:List.intercalate [(32:UInt8)] ((w :: v :: r).map (flA qa qb m))=flA qa qb m w++([32]++List.intercalate [32] ((v :: r).map (flA qa qb m))):=by simp[List.intercalate,List.intersperse]
  rw[e1,e2,zeZ,zeZ,ih]
  rfl
theorem zjP (k:Int) (qa qb m:List UInt8):Lib.join ((QU 32 (qT k)).map fun w=>Zl w qa qb m) [32]=zqw k qa qb m:=by
 unfold zqw zep;rw[zal,List.map_map];show List.intercalate [32] _=_;congr 1;exact List.map_congr_left fun w _=>zjg w qa qb m
theorem xL (k:Int) (h:¬(1<=k/\k<=22)):qT k = []:=by
 have n1:¬k=1:=by omega
 have n2:¬k=2:=by omega
 have n3:¬k=3:=by omega
 have n4:¬k=4:=by omega
 have n5:¬k=5:=by omega
 have n6:¬k=6:=by omega
 have n7:¬k=7:=by omega
 have n8:¬k=8:=by omega
 have n9:¬k=9:=by omega
 have n10:¬k=10:=by omega
 have n11:¬k=11:=by omega
 have n12:¬k=12:=by omega
 have n13:¬k=13:=by omega
 have n14:¬k=14:=by omega
 have n15:¬k=15:=by omega
 have n16:¬k=16:=by omega
 have n17:¬k=17:=by omega
 have n18:¬k=18:=by omega
 have n19:¬k=19:=by omega
 have n20:¬k=20:=by omega
 have n21:¬k=21:=by omega
 have n22:¬k=22:=by omega
 simp only[qT,n1,n2,n3,n4,n5,n6,n7,n8,n9,n10,n11,n12,n13,n14,n15,n16,n17,n18,n19,n20,n21,n22,if_false]
theorem Me (k:Int):qT k = []∨((∀ x∈QU 32 (qT k),x≠[]/\x.length<=100)/\(qT k).length<=100):=by
 by_cases h:1<=k/\k<=22
 ·refine .inr ?_;have hc:k=1∨k=2∨k=3∨k=4∨k=5∨k=6∨k=7∨k=8∨k=9∨k=10∨k=11∨k=12∨k=13∨k=14∨k=15∨k=16∨k=17∨k=18∨k=19∨k=20∨k=21∨k=22:=by omega
  clear h;rcases hc with rfl | rfl | rfl | rfl | rfl | rfl | rfl | rfl | rfl | rfl | rfl | rfl | rfl | rfl | rfl | rfl | rfl | rfl | rfl | rfl | rfl | rfl<;>exact ⟨by decide +kernel,by decide +kernel⟩
 ·exact .inl (xL k h)
theorem MB (f:List UInt8->List UInt8) (n:Nat):∀ xs:List (List UInt8),(∀ x∈xs,(f x).length<=n)->((xs.map f).map fun x=>x.length+1).sum<=xs.length*(n+1)
 | [],_=>by simp
 | x :: r,h=>by
  have ih:=MB f n r fun y hy=>h y (List.mem_cons_of_mem _ hy);have:=h x List.mem_cons_self;simp only[List.map_cons,List.sum_cons,List.length_cons,Nat.add_mul];omega
theorem zbK (xs:List (List UInt8)) (sep:List UInt8) (n:Nat) (hs:sep.length<=1) (h:(xs.map fun x=>x.length+1).sum<=n):(Lib.join xs sep).length<=n:=by
 have key:∀ xs:List (List UInt8),(Lib.join xs sep).length<=(xs.map fun x=>x.length+1).sum:=by
  intro xs
  match xs with
  | []=>simp[Lib.join]
  | [x]=>simp[Lib.join_one]
  | x :: y :: r =>
   have ih:∀ (zs:List (List UInt8)) (z:List UInt8),(Lib.join (z :: zs) sep).length<=((z :: zs).map fun x=>x.length+1).sum:=by
    intro zs
    induction zs with
    | nil=>intro z;simp[Lib.join_one]
    | cons u t iht =>
     intro z;rw[j0];have:=iht u;simp only[List.length_append,List.map_cons,List.sum_cons]at this ⊢;omega
   exact ih (y :: r) x
 exact Nat.le_trans (key xs) h
def Xy (k w:Int) (a b:List UInt8) (e:Int):List UInt8:=
 if jN k = [] then [] else if qT w = [] then [] else jN k++[58,32]++zqw w (quoteL a) (quoteL b) (vF e)
theorem zdd (k:Int):(jN k).length<=10:=by
 have key:∀ (c:Prop) [Decidable c] (x y:List UInt8),x.length<=10->y.length<=10->(if c then x else y).length<=10:=fun c _ x y hx hy=>by
  by_cases h:c
  ·rw[if_pos h];exact hx
  ·rw[if_neg h];exact hy
 unfold jN
 repeat' (first | decide | refine key _ _ _ (by decide) ?_)
theorem zh3 (k w:Int) (a b:List UInt8) (e:Int) (ha:a.length<=3000) (hb:b.length<=3000):Fun Tryz.prog G2 71 [.sc (.int .i64 k),.sc (.int .i64 w),.str a,.str b,.sc (.int .i64 e)] (.str (Xy k w a b e)) 0:=by
 have h1:=Mm k;have h2:=zb3 w;have hnl:=zdd k;by_cases hn:jN k = []
 ·rw[hn]at h1;refine fon Tryz.func71 ?_;dsimp only[Tryz.f71];push_cast -dsimp;refine cl (h1) ?_;push_cast -dsimp;refine cl (h2) ?_;push_cast -dsimp;exact ⟨[],rfl,rfl,by push_cast -dsimp [ze,zd,CLe,zg]<;>simp[Xy,hn]⟩
 by_cases hp:qT w = []
 ·rw[hp]at h2;refine fon Tryz.func71 ?_;dsimp only[Tryz.f71];push_cast -dsimp;refine cl (h1) ?_;push_cast -dsimp;refine cl (h2) ?_;push_cast -dsimp [hn];exact ⟨[],rfl,rfl,by push_cast -dsimp [ze,zd,CLe,zg]<;>simp[Xy,hn,hp]⟩
 obtain ⟨hws,hpl⟩:(∀ x∈QU 32 (qT w),x≠[]/\x.length<=100)/\(qT w).length<=100:=(Me w).resolve_left hp;have hpw:=hp;have hsay:=zjP w (quoteL a) (quoteL b) (vF e);have hsl:=vx 32 (qT w);have hsum:=MB (fun x=>Zl x (quoteL a) (quoteL b) (vF e)) 25100 (QU 32 (qT w)) fun x hx=>by
  have:=zfT x a b e ha hb;have:=(hws x hx).2;omega
 have hjl:=zbK ((QU 32 (qT w)).map fun x=>Zl x (quoteL a) (quoteL b) (vF e)) [32] 3000000 (by decide) (by
  have:(QU 32 (qT w)).length*(25100+1)<=101*25101:=Nat.mul_le_mul_right _ (by omega);omega)
 have hit:=MG 32 (qT w) (by omega);generalize qT w=P at h2 hp hws hpl hsay hsl hsum hjl hit;rw[hsay]at hjl;refine fof (fun i=>if i=7 then [false,false,false,false,false,false,false,true,true] else []) Tryz.func71 ?_;dsimp only[Tryz.f71];push_cast -dsimp;refine cl (h1) ?_;push_cast -dsimp;refine cl (h2) ?_;push_cast -dsimp [hn,hp];refine Vn [] [] ((GC 32 P).glob0) rfl (by simp) (by simp) (fun i hi=>by cases hi) (by push_cast -dsimp) rfl ?_;push_cast -dsimp;refine range (zM (QU 32 P)) (fun _=>false) 4 (fun j=>⟨[],[[.str a],[.str b],[.sc (.int .i64 e)],[.own 0 9 1 (zM (((QU 32 P).take j).map fun x=>Zl x (quoteL a) (quoteL b) (vF e)))]],1,0⟩) hit.glob0 (by push_cast -dsimp) (by push_cast -dsimp) (by push_cast -dsimp) (Nat.zero_le _) (by push_cast -dsimp) (fun it h=>?_) (fun j _=>rfl) ?_ (fun j it hj hsf=>?_) (fun hsf=>?_)
 ·obtain ⟨x,_,rfl⟩:=List.mem_map.1 h;rfl
 ·exact wks [.inr (9,1)]
 ·obtain ⟨x,hx,rfl⟩:=X9 hj;have hjl2:j<(QU 32 P).length:=(List.getElem?_eq_some_iff.1 hx).1;have hxw:=hws x (List.mem_of_getElem? hx);have hs1:=zg8 x a b e hxw.1 (by omega) ha hb;push_cast -dsimp;refine cl (hs1) ?_;push_cast -dsimp
  repeat refine an ?_
  refine Jz.mk [.inl 0] rfl rfl (Nat.le_refl _) rfl (by push_cast -dsimp [ze,zd,CLe,zg]) ?_;push_cast -dsimp [ze,zd,CLe,zg];rw[List.take_add_one,hx];simp
 ·have htk:(QU 32 P).take (QU 32 P).length=QU 32 P:=List.take_length;have j1:=((H4 ((QU 32 P).map fun x=>Zl x (quoteL a) (quoteL b) (vF e)) [32] (by rw[List.length_map];omega) (by rw[hsay];omega)).res (congrArg C.str hsay)).glob0 (G':=G2);have j2:=((zjh [jN k,zqw w (quoteL a) (quoteL b) (vF e)] (by simp) (by rw[j0,Lib.join_one];simp only[List.length_append,List.length_cons,List.length_nil];omega)).res (congrArg C.str (show _=Xy k w a b e by rw[j0,Lib.join_one,Xy,if_neg hn,if_neg hpw]))).glob0 (G':=G2);push_cast -dsimp [htk];refine cl (j1) ?_;push_cast -dsimp;refine cl (j2) ?_;push_cast -dsimp;exact dn
end
section
open CA CB
open Go.RowKit QuotePlain
end
section
open CA CB
open Go.RowKit
def GD:zp:=fun g=>if g=3 then G1 g else G2 g
theorem zsy (g:Nat) (cs:List C) (h:G1 g=some cs):GD g=some cs:=by
 unfold GD;by_cases hg:g=3
 ·rw[if_pos hg];exact h
 ·unfold G1 at h;rw[if_neg hg]at h;cases h
theorem zsQ (g:Nat) (cs:List C) (h:G2 g=some cs):GD g=some cs:=by
 unfold GD;by_cases hg:g=3
 ·subst hg;have q:G2 3=none:=rfl;rw[q]at h;cases h
 ·rw[if_neg hg];exact h
theorem Fun.gd1 {f:FuncId} {args:List C} {r:C} {n:Nat} (h:Fun Tryz.prog G1 f args r n):Fun Tryz.prog GD f args r n:=h.glob zsy
theorem Fun.gd2 {f:FuncId} {args:List C} {r:C} {n:Nat} (h:Fun Tryz.prog G2 f args r n):Fun Tryz.prog GD f args r n:=h.glob zsQ
abbrev zsc (d:qd) (ops diags:C):C:=.agg [.sc (.int .i64 d.w.fs.maxI),.sc (.int .i64 d.w.fs.maxB),.sc (.int .i64 d.w.fs.next),.sl 6 (zq d.w.fs.xs),.sl 4 (zG d.w.kept),.sl 6 (zq d.w.pool),ops,diags,.sc (.int .i64 d.status),.sc (.int .i64 d.slot)]
structure N5 (d:qd):Prop where
 wi:VT d.w
 ws:zj7 d.w
 ops:d.ops.length<=80000
 diags:d.diags.length<=80000
 slot:0<=d.slot/\d.slot<=4000000000000000000
theorem zoy (o:OpV):opL o = [.sc (.int .i64 o.kind),.sc (.int .i64 o.slot),.str o.a,.str o.b,.str o.d]:=rfl
abbrev NS:List C:=[.any,.any,.any,.any,.any,.any,.any,.any,.any,.any]
def YD (d:qd) (x:List UInt8):qd:={ d with diags:=d.diags++[x],status:=1 }
theorem zmA (d:qd) (hd:d.diags.length<=80000) (k w:Int) (a b:List UInt8) (e:Int) (ha:a.length<=3000) (hb:b.length<=3000) :
  Yr Tryz.prog GD 40 [kG d,.sc (.int .i64 k),.sc (.int .i64 w),.str a,.str b,.sc (.int .i64 e)] [] 0 (fun r bx n=>n=0/\∃ c B,zpZ 1 c (zM (YD d (Xy k w a b e)).diags) B/\r=zsc (YD d (Xy k w a b e)) (.sl 5 (d.ops.map opL)) (.bs 2 0 1 (d.diags.length+1) c)/\bx = [NS,NS,B]):=by
 have ht:=(zh3 k w a b e ha hb).gd2;generalize Xy k w a b e=x at ht ⊢;have hsl:(zM d.diags).length=d.diags.length:=List.length_map ..;have hc:=NB (G:=GD) (zM d.diags) [[.str x]] (fun r hr=>by obtain ⟨x,_,rfl⟩:=List.mem_map.1 hr;rfl) (fun r hr=>by rw[List.mem_singleton.1 hr];rfl) (fun r hr=>by obtain ⟨x,_,rfl⟩:=List.mem_map.1 hr;rfl) (fun r hr=>by rw[List.mem_singleton.1 hr];rfl) (by omega) (by simp) (by simp);refine foX (fun i=>if i=1 then [false,false,false,false,false,false,false,false,false,false,false,true,false,false,true] else []) Tryz.func40 ?_;dsimp only[Tryz.f40];push_cast -dsimp;refine cl (ht) ?_;push_cast -dsimp;refine jo [] [] hc rfl (by decide) (by decide) (by simp) (by push_cast -dsimp) (by push_cast -dsimp) (fun r bx' m hp=>?_);obtain ⟨rfl,c,B,hB,rfl,rfl⟩:=hp;have hre:∀ fp fo,C.reL fp fo B=B:=fun fp fo=>zB hB.stay;push_cast -dsimp [hre];have hm:zM (YD d x).diags=zM d.diags++[[.str x]]:=List.map_append;exact ⟨_,[NS,NS,B],0,⟨⟨rfl,c,B,by rw[hm];exact hB,rfl,rfl⟩,Nat.zero_le _⟩,[],rfl,rfl,by (push_cast -dsimp [ze,zd,CLe,zg];exact zO hB.stay),by push_cast -dsimp [ze,zd,CLe,zg,YD,List.length_append,hsl]⟩
theorem zee (d:qd) (hd:d.diags.length<=80000) (k w:Int) (a b:List UInt8) (e:Int) (ha:a.length<=3000) (hb:b.length<=3000) :
  Fun Tryz.prog GD 40 [kG d,.sc (.int .i64 k),.sc (.int .i64 w),.str a,.str b,.sc (.int .i64 e)] (zsc (YD d (Xy k w a b e)) (.sl 5 (d.ops.map opL)) (.own 0 9 1 (zM (YD d (Xy k w a b e)).diags))) 1:=
 (zmA d hd k w a b e ha hb).fun (by
  rintro r bx m ⟨rfl,c,B,hB,rfl,rfl⟩;exact ⟨[(2,9,1,zM (YD d (Xy k w a b e)).diags,c)],[.inl 0],hB.ok rfl (by simp[YD]) (fun r hr=>by obtain ⟨x,_,rfl⟩:=List.mem_map.1 hr;rfl),rfl,rfl,by push_cast -dsimp [ze,zd,CLe,zg,List.length_map,List.length_append,YD]⟩)
end
section
open CA CB
open Go.RowKit
end
section
open Go.RowKit
theorem Uo (a b:List OpV) (ha:a.length<=100000):Fun Tryz.prog G0 32 [.sl 5 (zgN a),.sl 5 (zgN b)] (qP (Jq a b)) 0:=by
 by_cases hl:a.length=b.length
 ·refine fon Tryz.func32 ?_;dsimp only[Tryz.f32];push_cast -dsimp [hl];refine loop (fun k:Nat=>⟨[(0,.sl 5 (zgN a)),(1,.sl 5 (zgN b)),(5,.sc (.int .i64 k))],[],0,0⟩) (fun k=>k<=a.length/\∀ (j:Nat) (h:j<a.length) (h':j<b.length),j<k->zkc (a[j]'h) (b[j]'h')=true) (fun k=>a.length-k) 0 ⟨Nat.zero_le _,fun j _ _ hj=>by omega⟩ ?_ ?_
  ·exact wk (by push_cast -dsimp [ze,zd,CLe,zg,hl])
  ·intro k hk;have hk1:=hk.1;have hk2:=hk.2;by_cases h:k<a.length
   ·have hga:=zfR a k h;have hgb:=zfR b k (by omega);have heq:zkc (a[k]'h) (b[k]'(by omega))=zkc (a[k]'h) (b[k]'(by omega)):=rfl;simp only[opL]at hga hgb
    conv at heq=>lhs;unfold zkc
    cases he:zkc (a[k]'h) (b[k]'(by omega)) with
    | true =>
     rw[he]at heq;push_cast -dsimp [h,hga,hgb,heq]
     repeat refine an ?_
     refine ⟨k+1,⟨by omega,fun j hj hj' hjk=>?_⟩,by omega,wk⟩;rcases Nat.lt_or_ge j k with g | g
     ·exact hk2 j hj hj' g
     ·have:j=k:=by omega
      subst this;exact he
    | false =>
     rw[he]at heq;push_cast -dsimp [h,hga,hgb,heq]
     repeat refine an ?_
     refine ⟨[],rfl,rfl,?_⟩;push_cast -dsimp [ze,zd,CLe,zg];have:¬Jq a b=true:=fun e=>by
      have:=((J6 a b).1 e).2 k h (by omega);rw[he]at this;cases this
     simp[this]
   ·push_cast -dsimp [h];refine ⟨[],rfl,rfl,?_⟩;push_cast -dsimp [ze,zd,CLe,zg];have:Jq a b=true:=(J6 a b).2 ⟨hl,fun j hj hj'=>hk2 j hj hj' (by omega)⟩;simp[this]
 ·refine fon Tryz.func32 ?_;dsimp only[Tryz.f32];push_cast -dsimp [hl];refine ⟨[],rfl,rfl,?_⟩;push_cast -dsimp [ze,zd,CLe,zg];have:¬Jq a b=true:=fun e=>hl ((J6 a b).1 e).1;simp[this]
end
section
open CA CB
open Go.RowKit
theorem zna (a b:zP):(decide (a.slot=b.slot)&&decide (a.ino=b.ino)&&a.content==b.content&&decide (a.data=b.data))=decide (a=b):=by
 obtain ⟨a1,a2,a3,a4⟩:=a;obtain ⟨b1,b2,b3,b4⟩:=b;rw[Bool.eq_iff_iff];simp[and_assoc]
theorem zfD (x y:qA) (hx:x.fs.xs.length<=100000) (hp:x.pool.length<=100000) (hk:x.kept.length<=100000) (he:∀ z∈x.fs.xs,z.es.length<=9223372036854775807) (hep:∀ z∈x.pool,z.es.length<=9223372036854775807):Fun Tryz.prog G0 19 [Qv x,Qv y] (qP (decide (x=y))) 0:=by
 obtain ⟨f,a,p⟩:=x;obtain ⟨g,b,q⟩:=y;have hk:a.length<=100000:=hk;have hla:(zG a).length=a.length:=List.length_map ..;have hlb:(zG b).length=b.length:=List.length_map ..;have h1:=ze6 (G:=G0) f g hx he;have h2:=Gr (G:=G0) p q hp hep;have hw:(⟨f,a,p⟩:qA)=⟨g,b,q⟩↔f=g/\p=q/\a=b:=by simp only[qA.mk.injEq];exact ⟨fun h=>⟨h.1,h.2.2,h.2.1⟩,fun h=>⟨h.1,h.2.2,h.2.1⟩⟩
 by_cases c1:f=g
 case neg =>
  have hn:¬(⟨f,a,p⟩:qA)=⟨g,b,q⟩:=fun h=>c1 (hw.1 h).1;rw[decide_eq_false c1]at h1;refine fon Tryz.func19 ?_;dsimp only[Tryz.f19];push_cast -dsimp;refine cl (h1) ?_;push_cast -dsimp;exact dn (by push_cast -dsimp [ze,zd,CLe,zg,hn])
 rw[decide_eq_true c1]at h1;by_cases c2:p=q
 case neg =>
  have hn:¬(⟨f,a,p⟩:qA)=⟨g,b,q⟩:=fun h=>c2 (hw.1 h).2.1;rw[decide_eq_false c2]at h2;refine fon Tryz.func19 ?_;dsimp only[Tryz.f19];push_cast -dsimp;refine cl (h1) ?_;push_cast -dsimp;refine cl (h2) ?_;push_cast -dsimp;exact dn (by push_cast -dsimp [ze,zd,CLe,zg,hn])
 rw[decide_eq_true c2]at h2;by_cases c3:a.length=b.length
 case neg =>
  have hn:¬(⟨f,a,p⟩:qA)=⟨g,b,q⟩:=fun h=>c3 (by rw[(hw.1 h).2.2]);have c3':((a.length:Int)=b.length)=False:=eq_false (by omega);refine fon Tryz.func19 ?_;dsimp only[Tryz.f19];push_cast -dsimp;refine cl (h1) ?_;push_cast -dsimp;refine cl (h2) ?_;push_cast -dsimp [hla,hlb,c3'];exact dn (by push_cast -dsimp [ze,zd,CLe,zg,hn])
 have c3':((a.length:Int)=b.length)=True:=eq_true (by omega);refine fon Tryz.func19 ?_;dsimp only[Tryz.f19];push_cast -dsimp;refine cl (h1) ?_;push_cast -dsimp;refine cl (h2) ?_;push_cast -dsimp [hla,hlb,c3'];refine loop (fun i:Nat=>⟨[(2,.ptr 0 0),(3,.ptr 1 0),(5,.sc (.int .i64 i))],[HB ⟨f,a,p⟩,HB ⟨g,b,q⟩],0,0⟩) (fun i=>i<=a.length/\a.take i=b.take i) (fun i=>a.length-i) 0 ⟨Nat.zero_le _,rfl⟩ ?_ ?_
 ·exact wk
 rintro i ⟨i1,i2⟩;by_cases h:i<a.length
 ·have hb:i<b.length:=by omega
  have g1:=jT a i h;have g2:=jT b i hb;have hd:=zna a[i] b[i];by_cases hab:a[i]=b[i]
  ·rw[decide_eq_true hab]at hd;push_cast -dsimp [hla,hlb,h,hb,g1,g2,hd]
   repeat refine an ?_
   repeat refine an ?_
   exact ⟨i+1,⟨h,(XD (by omega) hb i2).2 hab⟩,by omega,wk⟩
  ·rw[decide_eq_false hab]at hd;have hn:¬(⟨f,a,p⟩:qA)=⟨g,b,q⟩:=fun h=>hab (by have:=(hw.1 h).2.2;subst this;rfl);push_cast -dsimp [hla,hlb,h,hb,g1,g2,hd]
   repeat refine an ?_
   exact dn (by push_cast -dsimp [ze,zd,CLe,zg,hn])
 ·have hab:a=b:=by rw[←List.take_of_length_le (l:=a) (i:=i) (by omega),i2,List.take_of_length_le (by omega)]
  have hn:=hw.2 ⟨c1,c2,hab⟩;push_cast -dsimp [hla,h];exact dn (by push_cast -dsimp [ze,zd,CLe,zg,hn])
theorem MO (w:qA) (hk:w.kept.length<=100000) (hs:XI w.kept):Fun Tryz.prog G0 13 [Qv w] (kG (xf w)) 0:=by
 have h:=Uv (G:=G0) w hk hs.1 hs.2;refine fof (fun i=>if i=1 then [false,false,false,false,true] else []) Tryz.func13 ?_;dsimp only[Tryz.f13];push_cast -dsimp;refine cl (h) ?_;push_cast -dsimp;exact dn (by push_cast -dsimp [ze,zd,CLe,zg,xf])
end
section
open CA CB
open Go.RowKit
structure zs7 where
 path:List UInt8
 ino:Int
deriving DecidableEq,Inhabited
def ki (p n:List UInt8):List UInt8:=if p = [47] then p++n else p++[47]++n
theorem zeH (p n:List UInt8):(ki p n).length<=p.length+1+n.length:=by
 unfold ki;split<;>simp<;>omega
section
variable {G:zp}
end
end
section
open CA CB
open Go.RowKit
def znD (xs:List zm):Prop:=xs.length<=3240/\∀ x∈xs,x.data.length<=5000/\x.es.length<=3240/\∀ e∈x.es,e.name.length<=300
abbrev JA:=List (List (List UInt8)×zm)
structure uE (f:FsV) (tr:Int->List (List UInt8)->JA):Prop where
 has:∀ n ns,zk n f.xs=true->tr n ns=(ns,zf n f.xs) :: (zf n f.xs).es.flatMap fun e=>tr e.ino (ns++[e.name])
 not:∀ n ns,zk n f.xs=false->tr n ns = []
abbrev kA (p:List (List UInt8)×zm):List C:=[.str (qO p.1),.agg (JU p.2)]
def zbr (tr:Int->List (List UInt8)->JA) (ns:List (List UInt8)) (es:List zW):JA:=es.flatMap fun e=>tr e.ino (ns++[e.name])
def X3 (tr:Int->List (List UInt8)->JA) (S:List (List (List UInt8)×List zW)):JA:=S.flatMap fun p=>zbr tr p.1 p.2
abbrev lvC (p:List (List UInt8)×List zW):List C:=[.sl 1 (zM p.1),.sl 2 (zL p.2)]
def kL (S:List (List (List UInt8)×List zW)):List C:=(S.reverse.map lvC).flatten
theorem zl4 (S:List (List (List UInt8)×List zW)):(kL S).length=S.length*2:=by
 unfold kL;rw[qm (k:=2) fun r hr=>by obtain ⟨p,_,rfl⟩:=List.mem_map.1 hr;rfl];simp
theorem v6 (p:List (List UInt8)×List zW) (S:List (List (List UInt8)×List zW)):kL (p :: S)=kL S++lvC p:=by
 unfold kL;simp
def Vl (p:List (List UInt8)×zm):Prop:=p.1.length<=1000000/\(Lib.join p.1 [47]).length<=1000000
structure YC (f:FsV) (tr:Int->List (List UInt8)->JA) (IT:List (List C)) (sf:Nat->Bool) (S:List (List (List UInt8)×List zW)) (k cap:Nat):Prop where
 rest:IT.drop k=(X3 tr S).map kA
 bound:∀ p∈X3 tr S,Vl p
 le:k<=IT.length
 go:∀ j,j<k->sf j=false
 pos:S.length<=k
 room:S.length<=cap
 roomM:cap<=9223372036854775807
 has:∀ p∈S,p.2.length<=3240/\∀ e∈p.2,zk e.ino f.xs=true
theorem Zj (S:List (List (List UInt8)×List zW)):((kL S).all C.stayB)=true:=Qo fun r hr=>by
 obtain ⟨p,_,rfl⟩:=List.mem_map.1 hr;rfl
theorem YC.pop {f:FsV} {tr:Int->List (List UInt8)->JA} {IT:List (List C)} {sf:Nat->Bool} {S:List (List (List UInt8)×List zW)} {ns:List (List UInt8)} {k cap:Nat} (h:YC f tr IT sf ((ns,[]) :: S) k cap):YC f tr IT sf S k cap:=by
 have e:X3 tr ((ns,[]) :: S)=X3 tr S:=by simp[X3,zbr]
 exact ⟨by rw[←e];exact h.rest,fun p hp=>h.bound p (by rw[e];exact hp),h.le,h.go,by have:=h.pos;rw[List.length_cons]at this;omega,by have:=h.room;rw[List.length_cons]at this;omega,h.roomM,fun p hp=>h.has p (List.mem_cons_of_mem _ hp)⟩
theorem YC.next {f:FsV} {tr:Int->List (List UInt8)->JA} {IT:List (List C)} {sf:Nat->Bool} {S:List (List (List UInt8)×List zW)} {ns:List (List UInt8)} {e:zW} {r:List zW} {k cap:Nat} (h:YC f tr IT sf ((ns,e :: r) :: S) k cap) (ht:uE f tr) (hf:znD f.xs) (h3:Yl f) :
  ∃ y,y=zf e.ino f.xs/\y∈f.xs/\IT[k]?=some (kA (ns++[e.name],y))/\Vl (ns++[e.name],y)/\(sf k=false->(∀ c,S.length+2<=c->c<=9223372036854775807->YC f tr IT sf ((ns++[e.name],y.es) :: (ns,r) :: S) (k+1) c)/\(y.es = []->YC f tr IT sf ((ns,r) :: S) (k+1) cap)):=by
 have hh:zk e.ino f.xs=true:=(h.has (ns,e :: r) List.mem_cons_self).2 e List.mem_cons_self;obtain ⟨hm,hi⟩:=ji hh;have hu:=ht.has e.ino (ns++[e.name]) hh;have hrest:X3 tr ((ns,e :: r) :: S)=(ns++[e.name],zf e.ino f.xs) :: X3 tr ((ns++[e.name],(zf e.ino f.xs).es) :: (ns,r) :: S):=by
  simp only[X3,zbr,List.flatMap_cons,hu,List.cons_append,List.append_assoc]
 refine ⟨_,rfl,hm,?_,h.bound _ (by rw[hrest];exact List.mem_cons_self),fun hs=>?_⟩
 ·have:=h.rest;rw[hrest]at this;have:=congrArg (·[0]?) this;simpa using this
 ·have hd:IT.drop (k+1)=(X3 tr ((ns++[e.name],(zf e.ino f.xs).es) :: (ns,r) :: S)).map kA:=by
   rw[←List.drop_drop,h.rest,hrest];rfl
  have hb:∀ p∈X3 tr ((ns++[e.name],(zf e.ino f.xs).es) :: (ns,r) :: S),Vl p:=fun p hp=>h.bound p (by rw[hrest];exact List.mem_cons_of_mem _ hp);have hkl:k+1<=IT.length:=by
   rcases Nat.lt_or_ge k IT.length with g | g
   ·exact g
   ·have:=h.rest;rw[List.drop_eq_nil_of_le g,hrest]at this;cases this
  have hgo:∀ j,j<k+1->sf j=false:=fun j hj=>by
   rcases Nat.lt_or_ge j k with g | g
   ·exact h.go j g
   ·rw[show j=k by omega];exact hs
  have hp:=h.pos;have hro:=h.room;have hrm:=h.roomM;rw[List.length_cons]at hp hro;have h0:=h.has (ns,e :: r) List.mem_cons_self;have hr0:r.length<=3240/\∀ e'∈r,zk e'.ino f.xs=true:=⟨by have:=h0.1;simp at this;omega,fun e' he=>h0.2 e' (List.mem_cons_of_mem _ he)⟩;refine ⟨fun c h1 h2=>⟨hd,hb,hkl,hgo,by simp;omega,by simp;omega,h2,fun p hp=>?_⟩,fun hne=>?_⟩
  ·rcases List.mem_cons.1 hp with rfl | hp
   ·exact ⟨(hf.2 _ hm).2.1,fun e' he=>h3 _ hm e' he⟩
   ·rcases List.mem_cons.1 hp with rfl | hp
    ·exact hr0
    ·exact h.has p (List.mem_cons_of_mem _ hp)
  ·have hz:X3 tr ((ns++[e.name],(zf e.ino f.xs).es) :: (ns,r) :: S)=X3 tr ((ns,r) :: S):=by rw[hne];simp[X3,zbr]
   rw[hz]at hd hb;exact ⟨hd,hb,hkl,hgo,by simp;omega,by simp;omega,hrm,fun p hp=>by
    rcases List.mem_cons.1 hp with rfl | hp
    ·exact hr0
    ·exact h.has p (List.mem_cons_of_mem _ hp)⟩
theorem zaR (f:FsV) (ino:Int) (ns:List (List UInt8)) (tr:Int->List (List UInt8)->JA) (ht:uE f tr) (hf:znD f.xs) (hR:zX f.xs) (h3:Yl f) (h2:∀ x∈f.xs,x.kind≠2->x.es = []) (hl:(tr ino ns).length<=100000000) (hb:∀ p∈tr ino ns,Vl p) :
  xB Tryz.prog G0 226 [] [.row (fsC f),.row [.sc (.int .i64 ino)],.row [.sl 1 (zM ns)]] [] ((tr ino ns).map kA):=by
 have h40:=hf.1;refine foI (fun i=>if i=1000000+278 then [true] else if i=1 then [false,false,false,false,false,false,false,true] else if i=10 then [false,false,false,false,true] else []) Tryz.func226 ?_;dsimp only[Tryz.f226];intro l sf;push_cast -dsimp;refine cl (qY f ino (by omega) hR) ?_;push_cast -dsimp;cases hh:zk ino f.xs with
 | false =>
  have hn:=ht.not ino ns hh;push_cast -dsimp;rw[hn];exact .inl ⟨rfl,fun j hj=>absurd hj (Nat.not_lt_zero _)⟩
 | true =>
  have hn:=ht.has ino ns hh;have q:Vl (ns,zf ino f.xs):=hb _ (by rw[hn];exact List.mem_cons_self);have h0:((tr ino ns).map kA)[0]?=some (kA (ns,zf ino f.xs)):=by rw[hn];rfl
  obtain ⟨hm,hino⟩:=ji hh;generalize zf ino f.xs=x at hn h0 hm hino;have hITl:((tr ino ns).map kA).length<=100000000:=by rw[List.length_map];exact hl
  generalize hIT:(tr ino ns).map kA=IT at h0 hITl;push_cast -dsimp;refine cl (XT ns (by have:=q.1;dsimp only at this;omega) (by have:=q.2;dsimp only at this;omega)) ?_;push_cast -dsimp [h0];refine ⟨by push_cast -dsimp [ze,zd,CLe,zg],fun j hj=>absurd hj (Nat.not_lt_zero _),br (fun hs=>?_) (fun hs=>?_)⟩
  ·push_cast -dsimp;exact .inr ⟨Nat.succ_pos _,hs⟩
  ·push_cast -dsimp;refine loop (fun p:List (List (List UInt8)×List zW)×Nat×Nat=>⟨[(0,.sc (.func (.yield l) #[] #[])),(1,.row (fsC f)),(7,.bs 1 0 2 p.1.length p.2.2)],[[.any,.any,.any,.any,.any,.any],kL p.1++List.replicate ((p.2.2-p.1.length)*2) .any],0,p.2.1⟩) (fun p=>YC f tr IT sf p.1 p.2.1 p.2.2) (fun p=>2*(IT.length-p.2.1)+p.1.length) ([(ns,x.es)],1,1) ?_ ?_ ?_
   ·have hdr:IT.drop 1=(X3 tr [(ns,x.es)]).map kA:=by
     rw[←hIT,hn];simp[X3,zbr]
    show YC f tr IT sf [(ns,x.es)] 1 1;exact ⟨hdr,fun p hp=>hb p (by rw[hn];exact List.mem_cons_of_mem _ (by simpa [X3,zbr] using hp)),by have:=(List.getElem?_eq_some_iff.1 h0).1;omega,fun j hj=>by rw[show j=0 by omega];exact hs,Nat.le_refl _,Nat.le_refl _,by omega,fun p hp=>by
     rw[List.mem_singleton]at hp;subst hp;exact ⟨(hf.2 x hm).2.1,fun e he=>h3 x hm e he⟩⟩
   ·have hl1:kL [(ns,x.es)] = [.sl 1 (zM ns),.sl 2 (zL x.es)]:=rfl;exact wk (h5:=by push_cast -dsimp [ze,zd,CLe,zg,hl1])
   ·rintro ⟨S,k,cap⟩ hS;dsimp only at hS ⊢;cases S with
    | nil =>
     push_cast -dsimp;have hr:=hS.rest;have he:IT.length<=k:=by
      rcases Nat.lt_or_ge k IT.length with g | g
      ·have:=congrArg List.length hr;simp[X3]at this;omega
      ·exact g
     exact .inl ⟨by have:=hS.le;omega,hS.go⟩
    | cons p S' =>
     obtain ⟨ns1,es1⟩:=p;have hL:=zl4 S';have hd0:∀ X,(kL S'++X).drop (S'.length*2)=X:=fun X=>List.drop_left' hL;have hd1:∀ X,(kL S'++X).drop (S'.length*2+1)=X.drop 1:=fun X=>by rw[←List.drop_drop,hd0]
     have hd2:∀ X,(kL S'++X).drop (S'.length*2+2)=X.drop 2:=fun X=>by rw[←List.drop_drop,hd0]
     have ht0:∀ X,(kL S'++X).take (S'.length*2)=kL S':=fun X=>List.take_left' hL;have ht1:∀ X,(kL S'++X).take (S'.length*2+1)=kL S'++X.take 1:=fun X=>by
      rw[List.take_append,List.take_of_length_le (by omega),hL];congr 2;omega
     have hpos:((0:Int)<(S'.length:Int)+1)=True:=eq_true (by omega);have hroom:=hS.room;have hroomM:=hS.roomM;rw[List.length_cons]at hroom;have hlc:(((S'.length:Int)+1-1)=(S'.length:Int)):=by omega
     push_cast -dsimp [v6,hlc,hpos]
     repeat refine an ?_
     generalize hpad:List.replicate ((cap-(S'.length+1))*2) C.any=pad;have hps:(pad.all C.stayB)=true:=by rw[←hpad];simp[List.all_replicate,C.stayB]
     have hst1:((kL S'++(lvC (ns1,es1)++pad)).all C.stayB)=true:=by rw[List.all_append,Zj,List.all_append,hps];rfl
     have hpl:pad.length=(cap-(S'.length+1))*2:=by rw[←hpad];simp
     refine loop (fun p:List zW×Nat=>⟨[(0,.sc (.func (.yield l) #[] #[])),(1,.row (fsC f)),(7,.bs 1 0 2 (S'.length+1) cap),(8,.ptr 1 (S'.length*2))],[[.any,.any,.any,.any,.any,.any],kL S'++([.sl 1 (zM ns1),.sl 2 (zL p.1)]++pad)],0,p.2⟩) (fun p=>YC f tr IT sf ((ns1,p.1) :: S') p.2 cap/\2*(IT.length-p.2)<=2*(IT.length-k)) (fun p=>p.1.length) (es1,k) ⟨hS,Nat.le_refl _⟩ ?_ ?_
     ·exact Jz.mk [] rfl rfl (Nat.zero_le _) rfl (by push_cast -dsimp [ze,zd,CLe,zg]) (by push_cast -dsimp [ze,zd,CLe,zg,List.append_assoc];exact zO hst1)
     ·rintro ⟨es,k1⟩ ⟨hT,hkk⟩;dsimp only at hT hkk ⊢;cases es with
      | nil =>
       push_cast -dsimp [hd0,hd1,hd2,ht0,ht1,hlc];refine ⟨by omega,by omega,⟨by omega,by omega⟩,(S',k1,cap),hT.pop,by dsimp only;omega,Jz.mk [] rfl rfl (Nat.zero_le _) rfl (by push_cast -dsimp [ze,zd,CLe,zg]) ?_⟩;push_cast -dsimp [ze,zd,CLe,zg];exact zc3 (zO (Zj S')) (Xm (by simp[hpl];omega))
      | cons e r =>
       obtain ⟨y,hy,hym,hk1,hbd,hnext⟩:=hT.next ht hf h3;have hrl:((0:Int)<(r.length:Int)+1)=True:=eq_true (by omega);have hlr:(zL r).length=r.length:=List.length_map ..;have hhe:zk e.ino f.xs=true:=(hT.has (ns1,e :: r) List.mem_cons_self).2 e List.mem_cons_self;have hgy:zf e.ino f.xs=y:=hy.symm;have hb1:ns1.length+1<=1000000:=by have:=hbd.1;simpa using this
       have hb2:(Lib.join (ns1++[e.name]) [47]).length<=1000000:=hbd.2;have hst2:(zM ns1).length=ns1.length:=List.length_map ..;push_cast -dsimp [hd0,hd1,hd2,ht0,ht1,hlc,hlr,hrl,hst2,List.append_assoc,List.take_length]
       repeat refine an ?_
       refine cl (qY f e.ino (by omega) hR) ?_;push_cast -dsimp [hgy,hhe];refine cl (XT (ns1++[e.name]) (by simp;omega) (by omega)) ?_;push_cast -dsimp [hk1];refine ⟨by push_cast -dsimp [ze,zd,CLe,zg],hT.go,br (fun hs1=>?_) (fun hs1=>?_)⟩
       ·push_cast -dsimp;exact .inr ⟨Nat.succ_pos _,hs1⟩
       ·obtain ⟨w1,w2⟩:=hnext hs1;by_cases k2:y.kind=2
        ·have hSk:=hT.pos;have hkl:=hT.le;rw[List.length_cons]at hSk;have hc1:(kL S'++C.sl 1 (zM ns1) :: C.sl 2 (List.map GE r) :: pad).length=cap*2:=by
          rw[List.length_append,hL,List.length_cons,List.length_cons,hpl];omega
         have hc2:(kL S'++C.sl 1 (zM ns1) :: C.sl 2 (List.map GE r) :: pad).take ((S'.length+1)*2)=kL S'++[C.sl 1 (zM ns1),C.sl 2 (List.map GE r)]:=by
          rw[List.take_append,List.take_of_length_le (by omega),hL,show (S'.length+1)*2-S'.length*2=2 by omega];rfl
         push_cast -dsimp [k2];refine zqK (kL S'++[C.sl 1 (zM ns1),C.sl 2 (List.map GE r)]++[C.sl 1 (zM (ns1++[e.name])),C.sl 2 (zL y.es)]) rfl rfl (by decide) rfl (by decide) (Nat.zero_le _) hc1 hroom hroomM (by omega) (by omega) (by rw[hc2];exact zB (by rw[List.all_append,List.all_append,Zj];rfl)) (fun c' g1 g2=>?_);have hw:=w1 c' (by omega) g2;have hwl:=hw.le;push_cast -dsimp [k2];refine ⟨((ns1++[e.name],y.es) :: (ns1,r) :: S',k1+1,c'),hw,by simp only[List.length_cons];omega,Jz.mk [] rfl rfl (Nat.zero_le _) rfl (by push_cast -dsimp [ze,zd,CLe,zg]) ?_⟩;push_cast -dsimp [ze,zd,CLe,zg,v6,List.append_assoc];exact zO (by rw[List.all_append,Zj];simp[List.all_replicate,C.stayB])
        ·push_cast -dsimp [k2];have hz:=w2 (h2 y hym k2);have hle:=hz.le;refine ⟨(r,k1+1),⟨hz,by dsimp only;omega⟩,by dsimp only;simp,Jz.mk [] rfl rfl (Nat.zero_le _) rfl (by push_cast -dsimp [ze,zd,CLe,zg]) ?_⟩;push_cast -dsimp [ze,zd,CLe,zg,List.append_assoc];exact zO (by rw[List.all_append,Zj,List.all_cons,List.all_cons,hps];rfl)
end
section
open CA CB
open Go.RowKit
structure zfJ (f:FsV) (tr:Int->List (List UInt8)->JA):Prop where
 tree:uE f tr
 few:znD f.xs
 rise:zX f.xs
 third:Yl f
 leaf:∀ x∈f.xs,x.kind≠2->x.es = []
structure vw (tr:Int->List (List UInt8)->JA) (ino:Int) (ns:List (List UInt8)):Prop where
 len:(tr ino ns).length<=100000000
 bound:∀ p∈tr ino ns,Vl p
abbrev zc5 (l:JA):List (List C):=l.map kA
theorem ziI {l:JA} {k:Nat} {it:List C} (h:(zc5 l)[k]?=some it):∃ p,l[k]?=some p/\it=kA p:=by
 rw[List.getElem?_map]at h;cases hq:l[k]? with
 | none=>rw[hq]at h;cases h
 | some x=>rw[hq]at h;cases h;exact ⟨x,rfl,rfl⟩
theorem znn {f:FsV} {tr:Int->List (List UInt8)->JA} {ino:Int} {ns:List (List UInt8)} (hw:zfJ f tr) (hs:vw tr ino ns):xB Tryz.prog G0 226 [] [.row (fsC f),.row [.sc (.int .i64 ino)],.row [.sl 1 (zM ns)]] [] (zc5 (tr ino ns)):=
 zaR f ino ns tr hw.tree hw.few hw.rise hw.third hw.leaf hs.len hs.bound
theorem zhp (f:FsV) (ino:Int) (ns:List (List UInt8)):Fun Tryz.prog G0 183 [.agg (fsC f),.sc (.int .i64 ino),.sl 1 (zM ns)] (.clo (.func 226) [] [.row (fsC f),.row [.sc (.int .i64 ino)],.row [.sl 1 (zM ns)]]) 0:=by
 refine fon Tryz.func183 ?_;dsimp only[Tryz.f183];push_cast -dsimp;exact dn
theorem zld (f:FsV):Fun Tryz.prog G0 149 [.agg (fsC f)] (.clo (.func 226) [] [.row (fsC f),.row [.sc (.int .i64 1)],.row [.sl 1 (zM [])]]) 0:=by
 refine fon Tryz.func149 ?_;dsimp only[Tryz.f149];push_cast -dsimp;refine call (Fun.less (zhp f 1 []) (by push_cast -dsimp [ze,zd,CLe,zg])) ?_;push_cast -dsimp;exact dn
def U4 (n:Int) (l:JA):List (List UInt8):=(l.filter fun p=>decide (p.2.ino=n)).map fun p=>qO p.1
def kY (n:Int) (l:JA):Option (List UInt8):=(l.find? fun p=>decide (p.2.ino=n)&&decide (p.2.kind=2)).map fun p=>qO p.1
theorem yE (f:FsV) (n:Int) (tr:Int->List (List UInt8)->JA) (hw:zfJ f tr) (hs:vw tr 1 []) :
  Fun Tryz.prog G0 102 [.agg (fsC f),.sc (.int .i64 n)] (.tup [.str ((kY n (tr 1 [])).getD []),.sc (.bool (kY n (tr 1 [])).isSome)]) 0:=by
 refine fon Tryz.func102 ?_;dsimp only[Tryz.f102];push_cast -dsimp;refine cl (zld f) ?_;push_cast -dsimp;have hl:=hs.len;have hit:=znn hw hs;generalize tr 1 []=l at hit hl;refine range (zc5 l) (fun k=>match l[k]? with | some p=>decide (p.2.ino=n)&&decide (p.2.kind=2) | none=>false) 4 (fun k=>⟨[],[[.any,.any,.any,.any],[.sc (.int .i64 n)],[.any],[.any]],0,0⟩) hit (by push_cast -dsimp) (by push_cast -dsimp) (by push_cast -dsimp) (Nat.zero_le _) (by push_cast -dsimp) (fun it h=>?_) (fun k _=>rfl) ?_ (fun k it hk hsf=>?_) (fun hsf=>?_)
 ·obtain ⟨x,_,rfl⟩:=List.mem_map.1 h;rfl
 ·exact wk
 ·obtain ⟨x,hx2,rfl⟩:=ziI hk;have hfirst:(decide (x.2.ino=n)&&decide (x.2.kind=2))=true->kY n l=some (qO x.1):=fun hb=>by
   obtain ⟨hkl,hxe⟩:=List.getElem?_eq_some_iff.1 hx2;unfold kY;rw[List.find?_eq_some_iff_getElem (b:=x) |>.2 ⟨hb,k,hkl,hxe,fun j hj=>?_⟩]
   ·rfl
   ·have:=hsf j hj;rw[List.getElem?_eq_getElem (by omega)]at this;simp only[this];rfl
  by_cases c1:x.2.ino=n
  ·by_cases c2:x.2.kind=2
   ·have hd:=hfirst (by simp[c1,c2]);push_cast -dsimp [c1,c2];refine ⟨by rw[hx2];simp[c1,c2],⟨[],[[.any,.any,.any,.any],[.sc (.int .i64 n)],[.str (qO x.1)],[.sc (.bool true)]],0,0⟩,rfl,wk,?_⟩;push_cast -dsimp [hd];exact dn (by push_cast -dsimp [ze,zd,CLe,zg,hd,Option.getD_some,Option.isSome_some])
   ·push_cast -dsimp [c1,c2];refine ⟨by rw[hx2];simp[c2],wk⟩
  ·push_cast -dsimp [c1];refine ⟨by rw[hx2];simp[c1],wk⟩
 ·have hnone:kY n l=none:=by
   unfold kY;rw[Option.map_eq_none_iff,List.find?_eq_none];intro x hx;obtain ⟨k,hk,rfl⟩:=List.getElem_of_mem hx;have:=hsf k (by simpa using hk);rw[List.getElem?_eq_getElem hk]at this;simpa only[Bool.not_eq_true] using this
  push_cast -dsimp [hnone];exact dn (by push_cast -dsimp [ze,zd,CLe,zg,Option.getD_none,Option.isSome_none])
end
section
inductive Dep (xs:List zm):Nat->Int->Prop
 | root:Dep xs 0 1
 | step {k:Nat} {n:Int} {e:zW}:Dep xs k n->zk n xs=true->e∈(zf n xs).es->Dep xs (k+1) e.ino
def okM (f:FsV):Prop:=znD f.xs/\Jm f=0
theorem okV.m {f:FsV} (h:okV f):okM f:=⟨⟨by have:=h.1.1;omega,fun x hx=>by obtain ⟨a,b,c⟩:=h.1.2 x hx;exact ⟨a,by omega,c⟩⟩,h.2⟩
theorem qK {f:FsV} (h:okM f):znD f.xs/\Jl f/\YE f/\Yl f/\Yx f/\QC f/\kV f:=by
 obtain ⟨h0,h⟩:=h;unfold Jm at h;refine ⟨h0,?_⟩;split at h
 ·split at h
  ·split at h
   ·split at h
    ·split at h
     ·split at h
      ·exact ⟨by assumption,by assumption,by assumption,by assumption,by assumption,by assumption⟩
      ·cases h
     ·cases h
    ·cases h
   ·cases h
  ·cases h
 ·cases h
theorem Nc {es:List zW}:∀ {S:List Int} {n:Int},n∈kH S es↔n∈S∨∃ e∈es,e.ino=n:=by
 induction es with
 | nil=>intro S n;simp[kH]
 | cons e r ih =>
  intro S n;show n∈kH (Yo S e.ino) r↔_;rw[ih,Ho];constructor
  ·rintro ((h | h) | ⟨e',he,h⟩)
   ·exact .inl h
   ·exact .inr ⟨e,List.mem_cons_self,h.symm⟩
   ·exact .inr ⟨e',List.mem_cons_of_mem _ he,h⟩
  ·rintro (h | ⟨e',he,h⟩)
   ·exact .inl (.inl h)
   ·rcases List.mem_cons.1 he with rfl | he
    ·exact .inl (.inr h.symm)
    ·exact .inr ⟨e',he,h⟩
theorem NQ {xs:List zm} {es:List zW}:∀ {S:List Int},Yp xs S->(∀ e∈es,zk e.ino xs=true)->Yp xs (kH S es):=by
 induction es with
 | nil=>intro S h _;exact h
 | cons e r ih=>intro S h he;exact ih (h.one (he e List.mem_cons_self)) fun e' h'=>he e' (List.mem_cons_of_mem _ h')
theorem GH {xs:List zm} (h3:∀ x∈xs,∀ e∈x.es,zk e.ino xs=true):∀ (m i:Nat) (S:List Int),Yp xs S->(∀ n∈S,∃ k,Dep xs k n)->Yp xs (QQ xs m i S)/\∀ n∈QQ xs m i S,∃ k,Dep xs k n
 | 0,i,S,h,hd=>by unfold QQ;exact ⟨h,hd⟩
 | m+1,i,S,h,hd=>by
  unfold QQ;split
  ·rename_i n hn;have hmem:=List.mem_of_getElem? hn;have hh:=h.has n hmem;obtain ⟨hm,_⟩:=ji hh;obtain ⟨k,hk⟩:=hd n hmem;refine GH h3 m (i+1) _ (NQ h fun e he=>h3 _ hm e he) fun n' hn'=>?_;rcases Nc.1 hn' with h' | ⟨e,he,rfl⟩
   ·exact hd n' h'
   ·exact ⟨k+1,.step hk hh he⟩
  ·exact ⟨h,hd⟩
theorem zdA {S T:List Int} (hS:S.Nodup) (hs:∀ n∈S,n∈T) (hl:T.length<=S.length):∀ n∈T,n∈S:=by
 intro n hn;by_cases h:n∈S
 ·exact h
 ·exfalso
  have:=Uj (S:=n :: S) (T:=T) (List.nodup_cons.2 ⟨h,hS⟩) fun m hm=>by
   rcases List.mem_cons.1 hm with rfl | hm
   ·exact hn
   ·exact hs m hm
  rw[List.length_cons]at this;omega
theorem vf {f:FsV} (h:okM f) {n:Int} (hn:zk n f.xs=true):∃ k,Dep f.xs k n:=by
 obtain ⟨_,h1,_,h3,_,h5,_⟩:=qK h;have hroot:Yp f.xs [1]:=⟨by simp,fun n hn=>by simp at hn;subst hn;exact h1.2.2.2.2.2.2.2.1⟩;obtain ⟨g1,g2⟩:=GH h3 (f.xs.length+1) 0 [1] hroot fun n hn=>by simp at hn;subst hn;exact ⟨0,.root⟩
 have hS:=zdA (T:=f.xs.map (·.ino)) g1.nodup (fun m hm=>Gq.1 (g1.has m hm)) (by rw[List.length_map];exact Nat.le_of_eq h5.symm) n (Gq.1 hn);exact g2 n hS
theorem ZJ {xs:List zm} {n:Int} {e:zW} (hh:zk n xs=true) (he:e∈(zf n xs).es):(e.ino,n)∈qg xs:=by
 obtain ⟨hm,hi⟩:=ji hh;unfold qg;exact List.mem_flatMap.2 ⟨_,hm,List.mem_map.2 ⟨e,he,by rw[hi]⟩⟩
theorem znf {n p:Int} {l:List (Int×Int)} (h:(n,p)∈l):1<=QV n l:=by
 unfold QV;exact List.length_pos_iff.2 (List.ne_nil_of_mem (List.mem_filter.2 ⟨h,by simp⟩))
theorem vn {n p q:Int} {l:List (Int×Int)} (hp:(n,p)∈l) (hq:(n,q)∈l) (h:QV n l=1):p=q:=by
 unfold QV at h;obtain ⟨x,hx⟩:=List.length_eq_one_iff.1 h;have h1:(n,p)∈l.filter fun p=>p.1==n:=List.mem_filter.2 ⟨hp,by simp⟩;have h2:(n,q)∈l.filter fun p=>p.1==n:=List.mem_filter.2 ⟨hq,by simp⟩;rw[hx]at h1 h2;simp only[List.mem_singleton]at h1 h2;exact congrArg Prod.snd (h1.trans h2.symm)
theorem He {f:FsV} (h:okM f) {n:Int} (hh:zk n f.xs=true) {e:zW} (he:e∈(zf n f.xs).es):(zf n f.xs).kind=2:=by
 obtain ⟨_,_,h2,_⟩:=qK h;obtain ⟨hm,_⟩:=ji hh;by_cases hk:(zf n f.xs).kind=2
 ·exact hk
 ·have:=((h2 _ hm).2.1 hk).1;rw[this]at he;cases he
theorem jZ {f:FsV} (h:okM f) {n:Int} (hh:zk n f.xs=true) {e:zW} (he:e∈(zf n f.xs).es):e.ino≠1:=fun h1=>by
 obtain ⟨_,hf,_,_,h4,_⟩:=qK h;obtain ⟨hm,hi⟩:=ji hf.2.2.2.2.2.2.2.1;have hq:=(h4 _ hm).2;rw[if_pos hi,hi]at hq;have:=znf (ZJ hh he);rw[h1]at this;omega
theorem ZR {f:FsV} (h:okM f):∀ (k k':Nat) (n:Int),Dep f.xs k n->Dep f.xs k' n->zk n f.xs=true->(zf n f.xs).kind=2->k=k'
 | 0,0,_,_,_,_,_=>rfl
 | 0,k'+1,_,h1,h2,hh,hk=>by
  cases h1;generalize hn:(1:Int)=n at h2;cases h2 with
  | step a b c=>exact absurd hn.symm (jZ h b c)
 | k+1,0,_,h1,h2,hh,hk=>by
  cases h2;generalize hn:(1:Int)=n at h1;cases h1 with
  | step a b c=>exact absurd hn.symm (jZ h b c)
 | k+1,k'+1,n,h1,h2,hh,hk=>by
  obtain ⟨_,hf,_,_,h4,_⟩:=qK h;cases h1 with
  | @step _ p e a b c =>
   generalize hn:e.ino=n at h2 hh hk;cases h2 with
   | @step _ p' e' a' b' c' =>
    have hp:=ZJ b c;have hp':=ZJ b' c';rw[hn]at hp;obtain ⟨hm,hi⟩:=ji hh;have hq:=(h4 _ hm).2;rw[hi]at hq;have hne:e'.ino≠1:=jZ h b' c';rw[if_neg hne]at hq;have:=vn hp hp' (hq.2 hk).1;subst this;rw[ZR h k k' p a a' b (He h b c)]
end
section
theorem XZ (n:Int):∀ xs:List zm,QV n (qg xs)=JI n xs
 | []=>rfl
 | x :: r=>by
  have ih:=XZ n r;unfold JI Nl at ih ⊢;unfold qg at ih ⊢;rw[List.flatMap_cons,List.map_cons,List.sum_cons,←ih];unfold QV JM;rw[List.filter_append,List.length_append];congr 1
  induction x.es with
  | nil=>rfl
  | cons e es ie =>
   unfold Z2 at ie ⊢;rw[List.map_cons,List.filter_cons,List.filter_cons];by_cases h:e.ino=n
   ·simp only[h,beq_self_eq_true,if_true,decide_true,List.length_cons,ie]
   ·simp only[show (e.ino==n)=false from beq_eq_false_iff_ne.2 h,decide_eq_false h,Bool.false_eq_true,if_false,ie]
theorem Vw {f:FsV} (h:Jm f=0):Jl f/\YE f/\Yl f/\Yx f/\QC f/\kV f:=by
 unfold Jm at h;split at h
 ·split at h
  ·split at h
   ·split at h
    ·split at h
     ·split at h
      ·exact ⟨by assumption,by assumption,by assumption,by assumption,by assumption,by assumption⟩
      ·cases h
     ·cases h
    ·cases h
   ·cases h
  ·cases h
 ·cases h
theorem NJ {es:List zW} (h:YM es):Jo es:=by
 have hadj:∀ i (h1:i+1<es.length),Op.bytesLess es[i].name es[i+1].name=true:=fun i h1=>(h (i+1) h1).2.2 (by omega);have key:∀ (d i:Nat) (h1:i+d+1<es.length),Op.bytesLess (es[i]'(by omega)).name es[i+d+1].name=true:=by
  intro d
  induction d with
  | zero=>intro i h1;exact hadj i h1
  | succ d ih=>intro i h1;exact GG (ih i (by omega)) (hadj (i+d+1) (by omega))
 refine List.pairwise_iff_getElem.2 fun i j hi hj hij=>?_;have:=key (j-i-1) i (by omega);have e:i+(j-i-1)+1=j:=by omega
 simp only[e]at this;exact this
theorem xg {f:FsV} (h:Jm f=0):FsI f:=by
 obtain ⟨h1,h2,h3,h4,h5,h6⟩:=Vw h;obtain ⟨a1,a2,a3,a4,a5,a6,a7,a8,a9⟩:=h1;refine ⟨a7,a6,fun x hx=>(h2 x hx).1,fun x hx=>?_,fun x hx hk=>((h2 x hx).2.1 hk).1,h3,fun x hx=>?_,a8,a9,?_⟩
 ·by_cases hk:x.kind=2
  ·exact NJ ((h2 x hx).2.2.1 hk).2
  ·rw[((h2 x hx).2.1 hk).1];exact List.Pairwise.nil
 ·rw[(h4 x hx).1,XZ]
 ·obtain ⟨b1,b2⟩:=ji a8;have q:=(h4 _ b1).2;rw[b2,if_pos rfl,XZ]at q;exact q.1
theorem zrB {w:qA} (h:okW w):VT w:=by
 obtain ⟨h1,h2,h3,h4,h5⟩:=h.2;exact ⟨xg h1,h4.1,h2,fun x hx=>⟨(h3 x hx).1,(h3 x hx).2.2.1⟩⟩
theorem zbD {w:qA} (h:okW w):xD 40 w:=by
 obtain ⟨⟨g1,g2,g3,g4⟩,h1,_⟩:=h;obtain ⟨a1,a2,a3,a4,a5,_⟩:=(Vw h1).1;exact ⟨g2.1,fun x hx=>by obtain ⟨q1,q2,q3⟩:=g2.2 x hx;exact ⟨q2,q1,q3⟩,g4,g1,g3.1,fun x hx=>by obtain ⟨q1,q2,q3⟩:=g3.2 x hx;exact ⟨q2,q1,q3⟩,by omega,by omega⟩
theorem xD.s {N:Nat} {w:qA} (h:xD N w) (hi:VT w) (hN:N<=10000):zj7 w:=by
 have hr:=vO hi.fs;have hn:=h.next;exact ⟨⟨by have:=h.len;omega,fun x hx=>by obtain ⟨q1,q2,q3⟩:=h.node x hx;exact ⟨by omega,by omega,fun e he=>by have:=q3 e he;omega⟩⟩,⟨by omega,by omega⟩,by have:=h.klen;omega,by have:=h.plen;omega⟩
structure OpS (o:OpV):Prop where
 a:o.a.length<=1000
 b:o.b.length<=1000
 d:o.d.length<=5000
structure VM (N:Nat) (d:qd):Prop where
 wi:VT d.w
 wb:xD (40+N) d.w
 ops:d.ops.length<=N
 diags:d.diags.length<=N
 slot:0<=d.slot/\d.slot<=1073741824+N
theorem VM.s {N:Nat} {d:qd} (h:VM N d) (hN:N<=9000):N5 d:=
 ⟨h.wi,h.wb.s h.wi (by omega),by have:=h.ops;omega,by have:=h.diags;omega,h.slot.1,by have:=h.slot.2;omega⟩
theorem VM.up {N:Nat} {d:qd} (h:VM N d):VM (N+1) d:=⟨h.wi,h.wb.up,by have:=h.ops;omega,by have:=h.diags;omega,h.slot.1,by have:=h.slot.2;omega⟩
theorem MW {d:qd} {o:OpV} (h:(VZ d o).2≠0):(VZ d o).1=d:=by
 unfold VZ at h ⊢;split
 ·rfl
 ·split
  ·rfl
  ·rename_i h1 h2;rw[if_neg h1,if_neg h2]at h;exact absurd rfl h
theorem zpa {N:Nat} {d:qd} (h:VM N d) {o:OpV} (ho:o.d.length<=5000):VM (N+1) (VZ d o).1:=by
 by_cases hz:(VZ d o).2=0
 case neg=>rw[MW hz];exact h.up
 unfold VZ at hz ⊢;split at hz
 ·exact absurd hz (show ¬(12:Int)=0 by decide)
 rename_i hk;rw[if_neg hk];split at hz
 ·rename_i hd;exact absurd hz hd
 rename_i hd;rw[if_neg hd];have hs:=h.slot;have hk7:(Vf d o).kind<=7:=by show o.kind<=7;omega
 refine ⟨zrw h.wi _ hk7,doB h.wi h.wb _ ho hk7,by simp;exact h.ops,by have:=h.diags;simp only;omega,?_⟩;simp only;unfold Vf;simp only;split<;>split<;>omega
end
section
theorem NX {f:FsV} (h:okM f):∀ (k:Nat) (n:Int),Dep f.xs k n->zk n f.xs=true->(zf n f.xs).kind=2->∃ L:List Int,L.length=k+1/\L.Nodup/\(∀ m∈L,zk m f.xs=true)/\∀ m∈L,(zf m f.xs).kind=2/\∃ j,j<=k/\Dep f.xs j m
 | 0,n,hd,hh,hk=>⟨[n],rfl,by simp,fun m hm=>by simp at hm;subst hm;exact hh,fun m hm=>by simp at hm;subst hm;exact ⟨hk,0,Nat.le_refl _,hd⟩⟩
 | k+1,_,hd,hh,hk=>by
  generalize hn:k+1=k1 at hd;cases hd with
  | root=>cases hn
  | @step k0 p e a b c =>
   obtain rfl:k=k0:=by omega
   obtain ⟨L,l1,l2,l3,l4⟩:=NX h k p a b (He h b c);refine ⟨e.ino :: L,by simp[l1],List.nodup_cons.2 ⟨fun hm=>?_,l2⟩,fun m hm=>?_,fun m hm=>?_⟩
   ·obtain ⟨_,j,hj,hd⟩:=l4 _ hm;have:=ZR h _ _ _ hd (.step a b c) hh hk;omega
   ·rcases List.mem_cons.1 hm with rfl | hm
    ·exact hh
    ·exact l3 m hm
   ·rcases List.mem_cons.1 hm with rfl | hm
    ·exact ⟨hk,k+1,Nat.le_refl _,.step a b c⟩
    ·obtain ⟨q1,j,q2,q3⟩:=l4 m hm;exact ⟨q1,j,by omega,q3⟩
theorem zfr {f:FsV} (h:okM f) {k:Nat} {n:Int} (hd:Dep f.xs k n) (hh:zk n f.xs=true) (hk:(zf n f.xs).kind=2):k<f.xs.length:=by
 obtain ⟨L,l1,l2,l3,_⟩:=NX h k n hd hh hk;have:=Q8 l2 l3;omega
def jm (xs:List zm):Nat->Int->List (List UInt8)->JA
 | 0,_,_=>[]
 | m+1,n,ns=>if zk n xs then (ns,zf n xs) :: (zf n xs).es.flatMap (fun e=>jm xs m e.ino (ns++[e.name])) else []
theorem QB {α β:Type} {l:List α} {g g':α->List β} (h:∀ a∈l,g a=g' a):l.flatMap g=l.flatMap g':=by
 induction l with
 | nil=>rfl
 | cons a r ih=>rw[List.flatMap_cons,List.flatMap_cons,h a List.mem_cons_self,ih fun b hb=>h b (List.mem_cons_of_mem _ hb)]
theorem NN {f:FsV} (h:okM f):∀ (m m' k:Nat) (n:Int) (ns:List (List UInt8)),Dep f.xs k n->k<=f.xs.length->f.xs.length+1<=m+k->f.xs.length+1<=m'+k->jm f.xs m n ns=jm f.xs m' n ns
 | 0,m',k,n,ns,hd,hk,h1,h2=>by omega
 | m+1,0,k,n,ns,hd,hk,h1,h2=>by omega
 | m+1,m'+1,k,n,ns,hd,hk,h1,h2=>by
  unfold jm;split
  ·rename_i hh;congr 1;refine QB fun e he=>?_;have hdir:=He h hh he;have hlt:=zfr h hd hh hdir;exact NN h m m' (k+1) e.ino _ (.step hd hh he) (by omega) (by omega) (by omega)
  ·rfl
abbrev trV (xs:List zm):Int->List (List UInt8)->JA:=jm xs (xs.length+1)
theorem zkq {f:FsV} (h:okM f) {n:Int} (hh:zk n f.xs=true):∃ k,k<=f.xs.length/\Dep f.xs k n:=by
 obtain ⟨k,hd⟩:=vf h hh;refine ⟨k,?_,hd⟩;cases hd with
 | root=>exact Nat.zero_le _
 | step a b c=>exact zfr h a b (He h b c)
theorem zlR {f:FsV} (h:okM f):uE f (trV f.xs):=⟨fun n ns hh=>by
 obtain ⟨k,hk,hd⟩:=zkq h hh;show jm f.xs (f.xs.length+1) n ns=_;rw[jm,if_pos hh];congr 1;refine QB fun e he=>?_;have hlt:=zfr h hd hh (He h hh he);exact NN h _ _ (k+1) e.ino _ (.step hd hh he) (by omega) (by omega) (by omega),fun n ns hh=>by
 show jm f.xs (f.xs.length+1) n ns=_;rw[jm,if_neg (by rw[hh];decide)]⟩
theorem zkV {f:FsV} (h:okM f):zfJ f (trV f.xs):=by
 obtain ⟨p0,p1,p2,p3,_⟩:=qK h;exact ⟨zlR h,p0,p1.2.2.2.2.2.2.1,p3,fun x hx hk=>((p2 x hx).2.1 hk).1⟩
end
section
theorem zcz (ns:List (List UInt8)) (x:List UInt8) (hne:∀ y∈ns,y≠[]):qO (ns++[x])=ki (qO ns) x:=by
 have hj:=Nw (ns++[x]) ns.length x (by simp);rw[List.take_of_length_le (by simp),List.take_left' rfl]at hj;unfold qO;rw[if_neg (by simp),hj];by_cases h:ns = []
 ·subst h;rfl
 ·have hl:ns.length≠0:=fun h0=>h (List.eq_nil_of_length_eq_zero h0);rw[if_neg hl,if_neg h];have hne47:(47 :: Lib.join ns [47])≠[47]:=fun he=>by
   have h1:Lib.join ns [47] = []:=(List.cons.inj he).2;have h2:=X5 ns h;rw[h1]at h2;cases ns with
   | nil=>exact h rfl
   | cons y r =>
    have:=List.length_pos_iff.2 (hne y List.mem_cons_self);simp at h2;omega
  unfold ki;rw[if_neg hne47];simp
end
section
inductive Anc (xs:List zm) (n:Int):Nat->Int->Prop
 | same:Anc xs n 0 n
 | step {j:Nat} {p:Int} {e:zW}:Anc xs n j p->zk p xs=true->e∈(zf p xs).es->Anc xs n (j+1) e.ino
theorem Anc.dep {xs:List zm} {n:Int} {k:Nat} (hd:Dep xs k n):∀ {j:Nat} {d:Int},Anc xs n j d->Dep xs (k+j) d
 | _,_,.same=>hd
 | _,_,.step a b c=>.step (a.dep hd) b c
theorem Anc.up {xs:List zm} {n:Int} {e:zW} (hh:zk n xs=true) (he:e∈(zf n xs).es):∀ {j:Nat} {d:Int},Anc xs e.ino j d->Anc xs n (j+1) d
 | _,_,.same=>.step .same hh he
 | _,_,.step a b c=>.step (a.up hh he) b c
theorem Xf {xs:List zm}:∀ (m:Nat) (n:Int) (ns:List (List UInt8)),∀ p∈jm xs m n ns,∃ j,Anc xs n j p.2.ino/\zk p.2.ino xs=true/\zf p.2.ino xs=p.2
 | 0,n,ns,p,hp=>by cases hp
 | m+1,n,ns,p,hp=>by
  unfold jm at hp;split at hp
  ·rename_i hh;obtain ⟨_,hi⟩:=ji hh;rcases List.mem_cons.1 hp with rfl | hp
   ·exact ⟨0,by rw[hi];exact .same,by rw[hi];exact hh,by rw[hi]⟩
   ·obtain ⟨e,he,hp⟩:=List.mem_flatMap.1 hp;obtain ⟨j,q1,q2⟩:=Xf m _ _ p hp;exact ⟨j+1,q1.up hh he,q2⟩
  ·cases hp
theorem uZ {f:FsV} (h:okM f) {a b:Int}:∀ (j:Nat) (d:Int),Anc f.xs a j d->Anc f.xs b j d->zk d f.xs=true->(zf d f.xs).kind=2->a=b/\zk a f.xs=true/\(zf a f.xs).kind=2
 | 0,d,h1,h2,hh,hk=>by
  cases h1;cases h2;exact ⟨rfl,hh,hk⟩
 | j+1,d,h1,h2,hh,hk=>by
  obtain ⟨_,_,_,_,h4,_⟩:=qK h;cases h1 with
  | @step _ p e x y z =>
   generalize hn:e.ino=d at h2 hh hk;cases h2 with
   | @step _ p' e' x' y' z' =>
    have hp:=ZJ y z;have hp':=ZJ y' z';rw[hn]at hp;obtain ⟨hm,hi⟩:=ji hh;have hq:=(h4 _ hm).2;rw[hi,if_neg (jZ h y' z')]at hq;have:=vn hp hp' (hq.2 hk).1;subst this;exact uZ h j p x x' y (He h y z)
theorem zlS {xs:List zm} {n:Int} {e e':zW} (hh:zk n xs=true) (hs:[e,e'].Sublist (zf n xs).es) (hi:e.ino=e'.ino):2<=QV e.ino (qg xs):=by
 obtain ⟨hm,hino⟩:=ji hh;have h1:([e,e'].map fun e=>(e.ino,(zf n xs).ino)).Sublist (Z2 (zf n xs) (zf n xs).es):=hs.map _;obtain ⟨i,hi',hx⟩:=List.getElem_of_mem hm;have h2:(Z2 (zf n xs) (zf n xs).es).Sublist (qg xs):=by
  obtain ⟨s,t,hst⟩:=List.append_of_mem hm;unfold qg
  conv=>rhs;rw[hst]
  rw[List.flatMap_append,List.flatMap_cons];exact (List.sublist_append_left _ _).trans (List.sublist_append_right _ _)
 have h3:=((h1.trans h2).filter fun p=>p.1==e.ino).length_le;unfold QV;simpa [hi] using h3
abbrev YA (l:JA):List Int:=(l.filter fun p=>decide (p.2.kind=2)).map fun p=>p.2.ino
theorem V9 {l:JA} {d:Int} (h:d∈YA l):∃ p∈l,p.2.kind=2/\p.2.ino=d:=by
 obtain ⟨p,hp,rfl⟩:=List.mem_map.1 h;obtain ⟨h1,h2⟩:=List.mem_filter.1 hp;exact ⟨p,h1,of_decide_eq_true h2,rfl⟩
theorem Qk {f:FsV} (h:okM f):∀ (m:Nat) (n:Int) (ns:List (List UInt8)),zk n f.xs=true->(YA (jm f.xs m n ns)).Nodup
 | 0,n,ns,_=>List.nodup_nil
 | m+1,n,ns,hh=>by
  obtain ⟨k,hd⟩:=vf h hh;obtain ⟨_,_,_,h3,h4,_⟩:=qK h;obtain ⟨hm,hi⟩:=ji hh;have key:∀ L:List zW,L.Sublist (zf n f.xs).es->(YA (L.flatMap fun e=>jm f.xs m e.ino (ns++[e.name]))).Nodup:=by
   intro L
   induction L with
   | nil=>intro _;exact List.nodup_nil
   | cons e r ih =>
    intro hs;have he:e∈(zf n f.xs).es:=hs.subset List.mem_cons_self;have hr:r.Sublist (zf n f.xs).es:=(List.sublist_cons_self e r).trans hs;have hap:YA ((e :: r).flatMap fun e=>jm f.xs m e.ino (ns++[e.name]))=YA (jm f.xs m e.ino (ns++[e.name]))++YA (r.flatMap fun e=>jm f.xs m e.ino (ns++[e.name])):=by
     rw[List.flatMap_cons];unfold YA;rw[List.filter_append,List.map_append]
    rw[hap,List.nodup_append];refine ⟨Qk h m e.ino _ (h3 _ hm e he),ih hr,fun d hd1 d' hd2 hdd=>?_⟩;subst hdd;obtain ⟨p,p1,p2,rfl⟩:=V9 hd1;obtain ⟨p',p1',p2',p3'⟩:=V9 hd2;obtain ⟨e',he',p1'⟩:=List.mem_flatMap.1 p1';obtain ⟨j,a1,a2,a3⟩:=Xf m _ _ p p1;obtain ⟨j',b1,b2,b3⟩:=Xf m _ _ p' p1';rw[p3']at b1;have hk:(zf p.2.ino f.xs).kind=2:=by rw[a3];exact p2
    have hdep:=ZR h _ _ _ (a1.dep (.step hd hh he)) (b1.dep (.step hd hh (hr.subset he'))) a2 hk;obtain rfl:j=j':=by omega
    obtain ⟨q1,q2,q3⟩:=uZ h j _ a1 b1 a2 hk;have hs2:[e,e'].Sublist (zf n f.xs).es:=(List.Sublist.cons_cons e (List.singleton_sublist.2 he')).trans hs;have h2:=zlS hh hs2 q1;obtain ⟨hm2,hi2⟩:=ji q2;have hq:=(h4 _ hm2).2;rw[hi2,if_neg (jZ h hh he)]at hq;have:=(hq.2 q3).1;omega
  unfold jm;rw[if_pos hh];by_cases hk:(zf n f.xs).kind=2
  ·have hc:YA ((ns,zf n f.xs) :: (zf n f.xs).es.flatMap fun e=>jm f.xs m e.ino (ns++[e.name]))=n :: YA ((zf n f.xs).es.flatMap fun e=>jm f.xs m e.ino (ns++[e.name])):=by
    unfold YA;rw[List.filter_cons_of_pos (by simpa using hk),List.map_cons,hi]
   rw[hc,List.nodup_cons];refine ⟨fun hmem=>?_,key _ (List.Sublist.refl _)⟩;obtain ⟨p,p1,p2,p3⟩:=V9 hmem;obtain ⟨e,he,p1⟩:=List.mem_flatMap.1 p1;obtain ⟨j,a1,a2,a3⟩:=Xf m _ _ p p1;rw[p3]at a1;have:=ZR h _ _ _ (a1.dep (.step hd hh he)) hd hh hk;omega
  ·have hc:YA ((ns,zf n f.xs) :: (zf n f.xs).es.flatMap fun e=>jm f.xs m e.ino (ns++[e.name]))=YA ((zf n f.xs).es.flatMap fun e=>jm f.xs m e.ino (ns++[e.name])):=by
    unfold YA;rw[List.filter_cons_of_neg (by simpa using hk)]
   rw[hc];exact key _ (List.Sublist.refl _)
end
section
def Uz (l:JA):Nat:=(l.map fun p=>p.2.es.length).sum
theorem zen (a b:JA):Uz (a++b)=Uz a+Uz b:=by unfold Uz;rw[List.map_append,List.sum_append]
theorem vX {xs:List zm}:∀ (m:Nat) (n:Int) (ns:List (List UInt8)),(jm xs m n ns).length<=1+Uz (jm xs m n ns)
 | 0,n,ns=>Nat.zero_le _
 | m+1,n,ns=>by
  unfold jm;split
  ·have key:∀ L:List zW,(L.flatMap fun e=>jm xs m e.ino (ns++[e.name])).length<=L.length+Uz (L.flatMap fun e=>jm xs m e.ino (ns++[e.name])):=by
    intro L
    induction L with
    | nil=>exact Nat.le_refl _
    | cons e r ih =>
     rw[List.flatMap_cons,List.length_append,zen,List.length_cons];have:=vX (xs:=xs) m e.ino (ns++[e.name]);omega
   have:=key (zf n xs).es;have hs:∀ l:JA,Uz ((ns,zf n xs) :: l)=(zf n xs).es.length+Uz l:=fun l=>by unfold Uz;rw[List.map_cons,List.sum_cons]
   rw[List.length_cons,hs];omega
  ·exact Nat.zero_le _
theorem zhW {l:JA} (h:∀ p∈l,p.2.es.length<=3240/\(p.2.kind≠2->p.2.es = [])):Uz l<=3240*(YA l).length:=by
 induction l with
 | nil=>exact Nat.zero_le _
 | cons p r ih =>
  have hp:=h p List.mem_cons_self;have ih:=ih fun q hq=>h q (List.mem_cons_of_mem _ hq);unfold Uz at ih ⊢;rw[List.map_cons,List.sum_cons];unfold YA at ih ⊢;by_cases hk:p.2.kind=2
  ·rw[List.filter_cons_of_pos (by simpa using hk),List.map_cons,List.length_cons];omega
  ·rw[List.filter_cons_of_neg (by simpa using hk),hp.2 hk];simpa using ih
theorem ziO {f:FsV} (h:okM f) (m:Nat) (n:Int) (ns:List (List UInt8)):(jm f.xs m n ns).length<=10497601:=by
 obtain ⟨h0,_,h2,_⟩:=qK h;cases hh:zk n f.xs with
 | false =>
  cases m with
  | zero=>exact Nat.zero_le _
  | succ m=>unfold jm;rw[hh];exact Nat.zero_le _
 | true =>
  have h1:=vX (xs:=f.xs) m n ns;have hg:∀ p∈jm f.xs m n ns,p.2∈f.xs:=fun p hp=>by
   obtain ⟨j,_,q2,q3⟩:=Xf m n ns p hp;rw[←q3];exact (ji q2).1
  have hs:=zhW (l:=jm f.xs m n ns) fun p hp=>⟨(h0.2 _ (hg p hp)).2.1,fun hk=>((h2 _ (hg p hp)).2.1 hk).1⟩;have hd:=Q8 (Qk h m n ns hh) fun d hd=>by
   obtain ⟨p,p1,_,rfl⟩:=V9 hd;obtain ⟨_,_,q2,_⟩:=Xf m n ns p p1;exact q2
  have:=h0.1;omega
def zgO (ns:List (List UInt8)):Nat:=(ns.map fun x=>x.length+1).sum
theorem ML (ns:List (List UInt8)) (x:List UInt8):zgO (ns++[x])=zgO ns+(x.length+1):=by
 unfold zgO;rw[List.map_append,List.sum_append];simp
theorem ZV {xs:List zm} (h0:znD xs):∀ (m:Nat) (n:Int) (ns:List (List UInt8)),∀ p∈jm xs m n ns,p.1.length<=ns.length+m/\zgO p.1<=zgO ns+m*301
 | 0,n,ns,p,hp=>by cases hp
 | m+1,n,ns,p,hp=>by
  unfold jm at hp;split at hp
  ·rename_i hh;obtain ⟨hm,_⟩:=ji hh;rcases List.mem_cons.1 hp with rfl | hp
   ·exact ⟨Nat.le_add_right _ _,Nat.le_add_right _ _⟩
   ·obtain ⟨e,he,hp⟩:=List.mem_flatMap.1 hp;obtain ⟨q1,q2⟩:=ZV h0 m _ _ p hp;have:=(h0.2 _ hm).2.2 e he;rw[ML]at q2;rw[List.length_append,List.length_singleton]at q1;exact ⟨by omega,by omega⟩
  ·cases hp
theorem XM (ns:List (List UInt8)):(Lib.join ns [47]).length<=zgO ns:=by
 by_cases h:ns = []
 ·subst h;exact Nat.zero_le _
 ·have:=X5 ns h;unfold zgO;omega
theorem zhC {f:FsV} (h:okM f) (n:Int) (ns:List (List UInt8)) (h1:ns.length<=100000) (h2:zgO ns<=20000):vw (trV f.xs) n ns:=by
 obtain ⟨h0,_⟩:=qK h;refine ⟨Nat.le_trans (ziO h _ n ns) (by decide),fun p hp=>?_⟩;obtain ⟨q1,q2⟩:=ZV h0 _ n ns p hp;have:=XM p.1;have:=h0.1;exact ⟨by omega,by omega⟩
end
section
theorem Ht {xs:List zm}:∀ (m:Nat) (n:Int) (ns:List (List UInt8)) (j:Nat) (d:Int),Anc xs n j d->j<m->zk n xs=true->(∀ x∈xs,∀ e∈x.es,zk e.ino xs=true)->∃ p∈jm xs m n ns,p.2.ino=d
 | 0,n,ns,j,d,ha,hj,hh,h3=>by omega
 | m+1,n,ns,0,d,ha,hj,hh,h3=>by
  cases ha;obtain ⟨_,hi⟩:=ji hh;refine ⟨(ns,zf n xs),?_,hi⟩;unfold jm;rw[if_pos hh];exact List.mem_cons_self
 | m+1,n,ns,j+1,d,ha,hj,hh,h3=>by
  have key:∀ (j:Nat) (d:Int),Anc xs n (j+1) d->∃ e∈(zf n xs).es,Anc xs e.ino j d:=by
   intro j
   induction j with
   | zero =>
    intro d ha;cases ha with
    | step a b c=>cases a;exact ⟨_,c,.same⟩
   | succ j ih =>
    intro d ha;cases ha with
    | step a b c =>
     obtain ⟨e,he,h⟩:=ih _ a;exact ⟨e,he,.step h b c⟩
  obtain ⟨e,he,h⟩:=key j d ha;obtain ⟨hm,_⟩:=ji hh;obtain ⟨p,p1,p2⟩:=Ht m e.ino (ns++[e.name]) j d h (by omega) (h3 _ hm e he) h3;refine ⟨p,?_,p2⟩;unfold jm;rw[if_pos hh];exact List.mem_cons_of_mem _ (List.mem_flatMap.2 ⟨e,he,p1⟩)
theorem zdh {xs:List zm}:∀ {k:Nat} {n:Int},Dep xs k n->Anc xs 1 k n
 | _,_,.root=>.same
 | _,_,.step a b c=>.step (zdh a) b c
theorem zkB {f:FsV} (h:okM f) {n:Int} (hh:zk n f.xs=true):∃ p∈trV f.xs 1 [],p.2.ino=n:=by
 obtain ⟨_,h1,_,h3,_⟩:=qK h;obtain ⟨k,hk,hd⟩:=zkq h hh;exact Ht _ 1 [] k n (zdh hd) (by omega) h1.2.2.2.2.2.2.2.1 h3
theorem M4 {f:FsV} {m:Nat} {n:Int} {ns:List (List UInt8)} {p:List (List UInt8)×zm} (hp:p∈jm f.xs m n ns):zk p.2.ino f.xs=true/\zf p.2.ino f.xs=p.2:=by
 obtain ⟨_,_,q⟩:=Xf m n ns p hp;exact q
theorem GK:∀ {l:JA} {n:Int},(YA l).Nodup->(∀ p∈l,p.2.ino=n->p.2.kind=2)->(∃ p∈l,p.2.ino=n)->∃ p,l.filter (fun p=>decide (p.2.ino=n)) = [p]
 | [],n,_,_,⟨p,hp,_⟩=>by cases hp
 | q :: l,n,hn,hk,hex=>by
  have hk':∀ p∈l,p.2.ino=n->p.2.kind=2:=fun p hp=>hk p (List.mem_cons_of_mem _ hp);by_cases hq:q.2.ino=n
  ·have hk2:=hk q List.mem_cons_self hq;have hc:YA (q :: l)=q.2.ino :: YA l:=by
    unfold YA;rw[List.filter_cons_of_pos (by simpa using hk2),List.map_cons]
   rw[hc,List.nodup_cons,hq]at hn;have he:l.filter (fun p=>decide (p.2.ino=n)) = []:=by
    rw[List.filter_eq_nil_iff];intro p hp hpn;have hpn:=of_decide_eq_true hpn;refine hn.1 ?_;exact List.mem_map.2 ⟨p,List.mem_filter.2 ⟨hp,by simpa using hk' p hp hpn⟩,hpn⟩
   exact ⟨q,by rw[List.filter_cons_of_pos (by simpa using hq),he]⟩
  ·have hn':(YA l).Nodup:=by
    unfold YA at hn ⊢;by_cases hk2:q.2.kind=2
    ·rw[List.filter_cons_of_pos (by simpa using hk2),List.map_cons,List.nodup_cons]at hn;exact hn.2
    ·rw[List.filter_cons_of_neg (by simpa using hk2)]at hn;exact hn
   obtain ⟨p,hp,hpn⟩:=hex;have hpl:p∈l:=by
    rcases List.mem_cons.1 hp with rfl | hp
    ·exact absurd hpn hq
    ·exact hp
   obtain ⟨p',h⟩:=GK hn' hk' ⟨p,hpl,hpn⟩;exact ⟨p',by rw[List.filter_cons_of_neg (by simpa using hq)];exact h⟩
theorem zfl {f:FsV} (h:okM f) {n:Int} (hh:zk n f.xs=true) (hk:(zf n f.xs).kind=2):∃ p,U4 n (trV f.xs 1 []) = [p]/\kY n (trV f.xs 1 [])=some p:=by
 obtain ⟨_,h1,_⟩:=qK h;have hkk:∀ p∈trV f.xs 1 [],p.2.ino=n->p.2.kind=2:=fun p hp hpn=>by
  obtain ⟨_,q⟩:=M4 hp;rw[hpn]at q;rw[←q];exact hk
 obtain ⟨p,hp⟩:=GK (Qk h _ 1 [] h1.2.2.2.2.2.2.2.1) hkk (zkB h hh);refine ⟨qO p.1,by unfold U4;rw[hp];rfl,?_⟩;unfold kY;have he:(fun q:List (List UInt8)×zm=>decide (q.2.ino=n)&&decide (q.2.kind=2))=fun q=>decide (q.2.ino=n)&&decide (q.2.kind=2):=rfl;rw[←List.head?_filter];have hf:(trV f.xs 1 []).filter (fun q=>decide (q.2.ino=n)&&decide (q.2.kind=2))=(trV f.xs 1 []).filter fun q=>decide (q.2.ino=n):=by
  refine List.filter_congr fun q hq=>?_;by_cases hqn:q.2.ino=n
  ·simp[hqn,hkk q hq hqn]
  ·simp[hqn]
 rw[hf,hp];rfl
end
section
theorem uw {xs:List zm} (hm:∀ x∈xs,∀ e∈x.es,may e.name=true):∀ (m:Nat) (n:Int) (ns:List (List UInt8)),∀ p∈jm xs m n ns,∃ zs,p.1=ns++zs/\∀ z∈zs,may z=true
 | 0,n,ns,p,hp=>by unfold jm at hp;cases hp
 | m+1,n,ns,p,hp=>by
  unfold jm at hp;split at hp
  ·rename_i hh;rcases List.mem_cons.1 hp with rfl | hp
   ·exact ⟨[],by simp,fun z hz=>by cases hz⟩
   ·obtain ⟨e,he,hp⟩:=List.mem_flatMap.1 hp;obtain ⟨zs,h1,h2⟩:=uw hm m e.ino _ p hp;refine ⟨e.name :: zs,by rw[h1,List.append_assoc];rfl,fun z hz=>?_⟩;rcases List.mem_cons.1 hz with rfl | hz
    ·exact hm _ (ji hh).1 e he
    ·exact h2 z hz
  ·cases hp
theorem zfp {es:List zW} (h:YM es):es.Pairwise fun a b=>a.name≠b.name:=by
 have key:∀ (d i:Nat) (hj:i+d+1<es.length),es[i].name<es[i+d+1].name:=by
  intro d
  induction d with
  | zero =>
   intro i hj;have h1:=(h (i+1) hj).2.2 (by omega);rw[bytesLess_eq]at h1;exact of_decide_eq_true h1
  | succ d ih =>
   intro i hj;have h1:=(h (i+(d+1)+1) hj).2.2 (by omega);rw[bytesLess_eq]at h1;have h1:=of_decide_eq_true h1;have h2:=ih i (by omega);exact List.lt_trans h2 h1
 refine List.pairwise_iff_getElem.2 fun i j hi hj hij he=>?_;obtain ⟨d,rfl⟩:∃ d,j=i+d+1:=⟨j-i-1,by omega⟩;have h1:=key d i hj;rw[he]at h1;exact List.lt_irrefl _ h1
theorem yQ {f:FsV} (h:okM f):(∀ x∈f.xs,∀ e∈x.es,may e.name=true)/\∀ x∈f.xs,x.es.Pairwise fun a b=>a.name≠b.name:=by
 obtain ⟨_,_,h2,_⟩:=qK h;have key:∀ x∈f.xs,YM x.es:=fun x hx=>by
  by_cases hk:x.kind=2
  ·exact ((h2 x hx).2.2.1 hk).2
  ·rw[((h2 x hx).2.1 hk).1];intro i hi;simp at hi
 refine ⟨fun x hx e he=>?_,fun x hx=>zfp (key x hx)⟩;obtain ⟨i,hi,rfl⟩:=List.getElem_of_mem he;exact (key x hx i hi).1
end
section
open CA CB
open Go.RowKit
def ZQ (p n:List UInt8):List UInt8:=if Lib.hasSuffix p [47] then p++n else p++[47]++n
theorem zes (p n:List UInt8) (hp:p.length<=1000000) (hn:n.length<=1000000):Fun Tryz.prog G0 69 [.str p,.str n] (.str (ZQ p n)) 0:=by
 have h:=Zf p [47] hp;cases hs:Lib.hasSuffix p [47] with
 | true =>
  have e:ZQ p n=p++n:=by unfold ZQ;rw[hs,if_pos rfl]
  rw[hs]at h;refine fon Tryz.func69 ?_;dsimp only[Tryz.f69];push_cast -dsimp;refine cl (h) ?_;push_cast -dsimp
  repeat refine an ?_
  exact dn (by push_cast -dsimp [ze,zd,CLe,zg,e])
 | false =>
  have e:ZQ p n=p++[47]++n:=by unfold ZQ;rw[hs];rfl
  rw[hs]at h;refine fon Tryz.func69 ?_;dsimp only[Tryz.f69];push_cast -dsimp;refine cl (h) ?_;push_cast -dsimp
  repeat refine an ?_
  exact dn (by push_cast -dsimp [ze,zd,CLe,zg,e])
theorem zkm {f:FsV} (h:okM f) {n:Int} (hh:zk n f.xs=true) (hk:(zf n f.xs).kind=2) :
  ∃ ns,(∀ z∈ns,may z=true)/\ns.length<=3241/\zgO ns<=980000/\U4 n (trV f.xs 1 []) = [qO ns]/\kY n (trV f.xs 1 [])=some (qO ns):=by
 obtain ⟨h0,h1,_⟩:=qK h;have hkk:∀ p∈trV f.xs 1 [],p.2.ino=n->p.2.kind=2:=fun p hp hpn=>by
  obtain ⟨_,q⟩:=M4 hp;rw[hpn]at q;rw[←q];exact hk
 obtain ⟨p,hp⟩:=GK (Qk h _ 1 [] h1.2.2.2.2.2.2.2.1) hkk (zkB h hh);obtain ⟨q,q1,q2⟩:=zfl h hh hk;have hq:U4 n (trV f.xs 1 []) = [qO p.1]:=by unfold U4;rw[hp];rfl
 rw[hq]at q1;have hqe:qO p.1=q:=by simpa using q1
 have hpm:p∈trV f.xs 1 []:=(List.mem_filter.1 (by rw[hp];exact List.mem_singleton.2 rfl)).1;obtain ⟨zs,z1,z2⟩:=uw (yQ h).1 _ 1 [] p hpm;obtain ⟨t1,t2⟩:=ZV h0 _ 1 [] p hpm;have t3:=XM p.1;have t4:zgO []=0:=rfl;have h40:=h0.1;rw[List.nil_append]at z1;rw[←z1]at z2;simp only[List.length_nil,t4]at t1 t2;exact ⟨p.1,z2,by omega,by omega,hq,by rw[q2,hqe]⟩
def qx (f:FsV) (s:zR):List UInt8:=ki ((kY s.dir (trV f.xs 1 [])).getD []) s.name
theorem M6 (f:FsV) (h:okM f) (s:zR) (hh:zk s.dir f.xs=true) (hk:(zf s.dir f.xs).kind=2) (hm:may s.name=true):Fun Tryz.prog G0 74 [.agg (fsC f),.agg (QS s)] (.str (qx f s)) 0:=by
 obtain ⟨ns,n1,n2,n3,n4,n5⟩:=zkm h hh hk;have hp:=yE f s.dir _ (zkV h) (zhC h 1 [] (by decide) (by decide));have hml:=GP hm;have hjw:=XM ns;have hjl:(qO ns).length<=980001:=by unfold qO;split<;>simp<;>omega
 have hr:=Ud (qO ns) (by omega);unfold zig at hr;rw[QE ns fun z hz=>uK (n1 z hz)]at hr;have hj:=XT (ns++[s.name]) (by simp;omega) (by
  have a1:=XM (ns++[s.name]);rw[ML]at a1;omega)
 rw[zcz ns s.name fun y hy=>(uK (n1 y hy)).1]at hj;have e:qx f s=ki (qO ns) s.name:=by unfold qx;rw[n5];rfl
 rw[n5]at hp;have hsl:(zM ns).length=ns.length:=List.length_map ..;refine fof (fun i=>if i=2 then [false,false,false,false,false,false,true,false,false] else []) Tryz.func74 ?_;dsimp only[Tryz.f74];push_cast -dsimp;refine cl (hp) ?_;push_cast -dsimp [Option.getD_some,Option.isSome_some];refine cl (hr) ?_;push_cast -dsimp
 repeat refine an ?_
 refine cl (hj) ?_;push_cast -dsimp;exact dn (by push_cast -dsimp [ze,zd,CLe,zg,e])
end
section
open Go.RowKit
end
section
open Go.RowKit
end
section
open CA CB
open Go.RowKit
theorem xh (l:List OpV):Jq l l=true:=(J6 l l).2 ⟨rfl,fun j h h'=>by unfold zkc;simp⟩
theorem zez (ops:List OpV) (diags:List (List UInt8)) (s:Int) (h1:ops.length<=100000) (h2:diags.length<=100000):Fun Tryz.prog G0 54 [.agg [.sl 5 (ops.map opL),.sl 1 (zM diags),.sc (.int .i64 s)],.agg [.sl 5 (ops.map opL),.sl 1 (zM diags),.sc (.int .i64 s)]] (qP true) 0:=by
 have q1:=Uo ops ops h1;have q2:=V7 diags diags (by omega);rw[xh]at q1;rw[decide_eq_true rfl]at q2;refine fon Tryz.func54 ?_;dsimp only[Tryz.f54];push_cast -dsimp;refine cl (q1) ?_;push_cast -dsimp;refine cl (q2) ?_;push_cast -dsimp;exact dn
theorem ze9 (d:qd) (h:N5 d) (hp:∀ z∈d.w.pool,z.es.length<=9223372036854775807):Fun Tryz.prog G0 27 [kG d,kG d] (qP true) 0:=by
 have hs:=h.ws;have q1:=zfD d.w d.w (by have:=hs.fs.len;omega) (by have:=hs.pool;omega) (by have:=hs.kept;omega) (fun z hz=>by have:=(hs.fs.node z hz).1;omega) hp;have q2:=zez d.ops d.diags d.status (by have:=h.ops;omega) (by have:=h.diags;omega);rw[decide_eq_true rfl]at q1;refine fon Tryz.func27 ?_;dsimp only[Tryz.f27];push_cast -dsimp;refine cl (q1) ?_;push_cast -dsimp;refine cl (q2) ?_;push_cast -dsimp;exact dn
end
section
open Go.RowKit Go.ChangeMaps Go.ChangeShapes Go.WideShapes Go.Deep Go.Joins
section
variable {H:Type} {enc:TypeId×Value->H} {W:World}
end
theorem zry {W:World} {l:List (String×DataW Unit)} (h:laidMetH Tryz.prog l W) (hp:(l.filter fun x=>x.2.handleName?.isSome) = []) (hm:("drayman/op.has",Rows.laid_drayman_op_has)∈l):Xx G1 (Mb W):=fun g cs hc=>by
 unfold G1 at hc;split at hc
 ·rename_i hg;subst hg;cases hc;exact Jx (t:=267) h hp hm (by kernel_rfl) (by kernel_rfl) (m:=4) (by kernel_rfl) (by kernel_rfl) (by kernel_rfl)
 ·cases hc
theorem zrY {W:World} {l:List (String×DataW Unit)} (h:laidMetH Tryz.prog l W) (hp:(l.filter fun x=>x.2.handleName?.isSome) = []) (hm1:("drayman/diag.phrases",Rows.laid_drayman_diag_phrases)∈l) (hm2:("drayman/args.kinds",Rows.laid_drayman_args_kinds)∈l) (hm3:("drayman/errs.messages",Rows.laid_drayman_errs_messages)∈l):Xx G2 (Mb W):=fun g cs hc=>by
 unfold G2 at hc;split at hc
 ·rename_i hg;subst hg;cases hc;exact Jx (t:=215) h hp hm1 (by kernel_rfl) (by kernel_rfl) (m:=4) (vs:=phr.map fun l=>Value.string ⟨l.toArray⟩) (by kernel_rfl) (by kernel_rfl) (by kernel_rfl)
 ·split at hc
  ·rename_i hg;subst hg;cases hc;exact Jx (t:=214) h hp hm2 (by kernel_rfl) (by kernel_rfl) (m:=4) (by kernel_rfl) (by kernel_rfl) (by kernel_rfl)
  ·split at hc
   ·rename_i hg;subst hg;cases hc;exact Jx (t:=262) h hp hm3 (by kernel_rfl) (by kernel_rfl) (m:=4) (vs:=zsd.map fun l=>Value.string ⟨l.toArray⟩) (by kernel_rfl) (by kernel_rfl) (by kernel_rfl)
   ·cases hc
theorem zro {W:World} {l:List (String×DataW Unit)} (h:laidMetH Tryz.prog l W) (hp:(l.filter fun x=>x.2.handleName?.isSome) = []) (hm:("drayman/op.has",Rows.laid_drayman_op_has)∈l) (hm1:("drayman/diag.phrases",Rows.laid_drayman_diag_phrases)∈l) (hm2:("drayman/args.kinds",Rows.laid_drayman_args_kinds)∈l) (hm3:("drayman/errs.messages",Rows.laid_drayman_errs_messages)∈l):Xx GD (Mb W):=fun g cs hc=>by
 unfold GD at hc;split at hc
 ·exact zry h hp hm g cs hc
 ·exact zrY h hp hm1 hm2 hm3 g cs hc
end
section
structure zka (x:zm):Prop where
 par:x.kind≠2->x.parent=0
 bare:x.kind=2->x.data = []
 nam:∀ e∈x.es,may e.name=true
 lnk:x.kind=3->1<=x.data.length/\x.data.length<=4095/\∀ b∈x.data,b≠0
 named:x.ino≠1->1<=x.links
 one:x.kind=2->x.ino≠1->x.links=1
 top:x.ino=1->x.parent=1
def zq0 (rk:Int->Nat) (xs:List zm):Prop:=∀ y∈xs,∀ e∈y.es,(zf e.ino xs).kind=2->(zf e.ino xs).parent=y.ino/\rk y.ino<rk e.ino
structure FsR (f:FsV):Prop where
 node:∀ x∈f.xs,zka x
 edge:∃ rk,zq0 rk f.xs
 fit:(f.xs.length:Int)<=f.maxI/\(qe f.xs:Int)<=f.maxB
 lim:1<=f.maxI/\f.maxI<=1073741824/\0<=f.maxB/\f.maxB<=1073741824
theorem NZ {xs:List zm} (h:zX xs) {x y:zm} (hx:x∈xs) (hy:y∈xs) (e:x.ino=y.ino):x=y:=by
 obtain ⟨i,hi,rfl⟩:=List.getElem_of_mem hx;obtain ⟨j,hj,rfl⟩:=List.getElem_of_mem hy;have hp:=List.pairwise_iff_getElem.1 h;rcases Nat.lt_trichotomy i j with q | q | q
 ·have:=hp i j hi hj q;omega
 ·subst q;rfl
 ·have:=hp j i hj hi q;omega
theorem yC {xs:List zm} (h:zX xs):(xs.map (·.ino)).Nodup:=by
 rw[List.Nodup,List.pairwise_map];exact List.Pairwise.imp (fun q e=>by omega) h
theorem Vh {xs:List zm} {n p:Int}:(n,p)∈qg xs↔∃ y∈xs,∃ e∈y.es,e.ino=n/\y.ino=p:=by
 unfold qg;rw[List.mem_flatMap];refine exists_congr fun y=>and_congr_right fun hy=>?_;unfold Z2;rw[List.mem_map];refine exists_congr fun e=>and_congr_right fun he=>?_;rw[Prod.mk.injEq]
theorem zdt {n p:Int} {l:List (Int×Int)} (h1:1<=QV n l) (h:∀ q,(n,q)∈l->q=p):V1 n l=p:=by
 unfold QV at h1;unfold V1;cases hq:(l.filter fun p=>p.1==n).getLast? with
 | none=>rw[List.getLast?_eq_none_iff]at hq;rw[hq]at h1;simp at h1
 | some r =>
  obtain ⟨h2,h3⟩:=List.mem_filter.1 (List.mem_of_getLast? hq);have h3:r.1=n:=by simpa using h3
  show r.2=p;exact h r.2 (by rw[←h3];exact h2)
theorem zje {es:List zW}:∀ S:List Int,∃ t,kH S es=S++t:=by
 induction es with
 | nil=>exact fun S=>⟨[],by simp[kH]⟩
 | cons e r ih =>
  intro S;obtain ⟨t,h⟩:=ih (Yo S e.ino);show ∃ t,kH (Yo S e.ino) r=S++t;rw[h];unfold Yo;split
  ·exact ⟨t,rfl⟩
  ·exact ⟨e.ino :: t,by simp⟩
theorem kp {xs:List zm} (h3:∀ x∈xs,∀ e∈x.es,zk e.ino xs=true):∀ (m i:Nat) (S:List Int),Yp xs S->(∀ j<i,∀ n,S[j]?=some n->∀ e∈(zf n xs).es,e.ino∈S)->xs.length+1<=m+i ->
  (∀ n∈S,n∈QQ xs m i S)/\∀ n∈QQ xs m i S,∀ e∈(zf n xs).es,e.ino∈QQ xs m i S
 | 0,i,S,hS,hc,hm=>by
  have hl:=Q8 hS.nodup hS.has;show (∀ n∈S,n∈S)/\∀ n∈S,∀ e∈(zf n xs).es,e.ino∈S;refine ⟨fun n h=>h,fun n hn e he=>?_⟩;obtain ⟨j,hj,rfl⟩:=List.getElem_of_mem hn;exact hc j (by omega) _ (List.getElem?_eq_getElem hj) e he
 | m+1,i,S,hS,hc,hm=>by
  unfold QQ;cases hg:S[i]? with
  | none =>
   have hi:=List.getElem?_eq_none_iff.1 hg;show (∀ n∈S,n∈S)/\∀ n∈S,∀ e∈(zf n xs).es,e.ino∈S;refine ⟨fun n h=>h,fun n hn e he=>?_⟩;obtain ⟨j,hj,rfl⟩:=List.getElem_of_mem hn;exact hc j (by omega) _ (List.getElem?_eq_getElem hj) e he
  | some n =>
   have hn:=hS.has n (List.mem_of_getElem? hg);have hi:=(List.getElem?_eq_some_iff.1 hg).1;have hg':=zi hn;obtain ⟨t,ht⟩:=zje (es:=(zf n xs).es) S;have hsub:∀ k∈S,k∈kH S (zf n xs).es:=fun k hk=>Nc.2 (.inl hk);obtain ⟨r1,r2⟩:=kp h3 m (i+1) (kH S (zf n xs).es) (NQ hS fun e he=>h3 _ hg'.2.1 e he) (fun j hj k hk e he=>by
    rcases Nat.lt_or_ge j i with hji | hji
    ·have:S[j]?=some k:=by rw[ht,List.getElem?_append_left (by omega)]at hk;exact hk
     exact hsub _ (hc j hji k this e he)
    ·have:j=i:=by omega
     subst this;rw[ht,List.getElem?_append_left hi,hg]at hk;cases hk;exact Nc.2 (.inr ⟨e,he,rfl⟩)) (by omega)
   exact ⟨fun k hk=>r1 k (hsub k hk),r2⟩
theorem uJ {n:Int} {l:List (Int×Int)} (h:1<=QV n l):∃ p,(n,p)∈l:=by
 unfold QV at h;obtain ⟨r,hr⟩:=List.exists_mem_of_length_pos (l:=l.filter fun p=>p.1==n) (by omega);obtain ⟨h1,h2⟩:=List.mem_filter.1 hr;have h2:r.1=n:=by simpa using h2
 exact ⟨r.2,by rw[←h2];exact h1⟩
theorem FsR.links {f:FsV} (hi:FsI f) {x:zm} (hx:x∈f.xs):x.links=(QV x.ino (qg f.xs):Int):=by rw[XZ];exact hi.links x hx
theorem Gp {f:FsV} (hi:FsI f) {y:zm} (hy:y∈f.xs) {e:zW} (he:e∈y.es):y.kind=2:=by
 by_cases h:y.kind=2
 ·exact h
 ·rw[hi.file y hy h]at he;cases he
theorem YT {f:FsV} (hi:FsI f) {x:zm} (hx:x∈f.xs):zf x.ino f.xs=x:=by
 have h:=JP hx;have h2:=zi h;exact NZ hi.rises h2.2.1 hx h2.2.2
theorem FsR.come {f:FsV} (hi:FsI f) (h:FsR f) {S:List Int} (h1:(1:Int)∈S) (hc:∀ n∈S,∀ e∈(zf n f.xs).es,e.ino∈S):∀ n,zk n f.xs=true->n∈S:=by
 obtain ⟨rk,hr⟩:=h.edge;have dirs:∀ (k:Nat) (n:Int),rk n<=k->zk n f.xs=true->(zf n f.xs).kind=2->n∈S:=by
  intro k
  induction k with
  | zero =>
   intro n hk hn hd;by_cases h0:n=1
   ·rw[h0];exact h1
   obtain ⟨g1,g2,g3⟩:=zi hn;have hl:=(h.node _ g2).named (by rw[g3];exact h0);rw[FsR.links hi g2,g3]at hl;obtain ⟨p,hp⟩:=uJ (n:=n) (l:=qg f.xs) (by omega);obtain ⟨y,hy,e,he,q1,q2⟩:=Vh.1 hp;have:=(hr y hy e he (by rw[q1];exact hd)).2;rw[q1]at this;omega
  | succ k ih =>
   intro n hk hn hd;by_cases h0:n=1
   ·rw[h0];exact h1
   obtain ⟨g1,g2,g3⟩:=zi hn;have hl:=(h.node _ g2).named (by rw[g3];exact h0);rw[FsR.links hi g2,g3]at hl;obtain ⟨p,hp⟩:=uJ (n:=n) (l:=qg f.xs) (by omega);obtain ⟨y,hy,e,he,q1,q2⟩:=Vh.1 hp;have hlt:=(hr y hy e he (by rw[q1];exact hd)).2;rw[q1]at hlt;have hs:=YT hi hy;have:=ih y.ino (by omega) (JP hy) (by rw[hs];exact Gp hi hy he);rw[←q1];exact hc y.ino this e (by rw[hs];exact he)
 intro n hn;by_cases h0:n=1
 ·rw[h0];exact h1
 obtain ⟨g1,g2,g3⟩:=zi hn;have hl:=(h.node _ g2).named (by rw[g3];exact h0);rw[FsR.links hi g2,g3]at hl;obtain ⟨p,hp⟩:=uJ (n:=n) (l:=qg f.xs) (by omega);obtain ⟨y,hy,e,he,q1,q2⟩:=Vh.1 hp;have hs:=YT hi hy;have:=dirs _ y.ino (Nat.le_refl _) (JP hy) (by rw[hs];exact Gp hi hy he);rw[←q1];exact hc y.ino this e (by rw[hs];exact he)
theorem vN {es:List zW} (hR:Jo es) (h1:∀ e∈es,may e.name=true) (h2:∀ e∈es,1<=e.ino):YM es:=fun i h =>
 ⟨h1 _ (List.getElem_mem h),h2 _ (List.getElem_mem h),fun h0=>List.pairwise_iff_getElem.1 hR (i-1) i (by omega) h (by omega)⟩
theorem FsR.check {f:FsV} (hi:FsI f) (h:FsR f) (hn:f.next<=1099511627776):Jm f=0:=by
 have h1:Jl f:=⟨h.lim.1,h.lim.2.1,h.lim.2.2.1,h.lim.2.2.2,hn,hi.ino,hi.rises,hi.root,hi.base⟩;have h2:YE f:=fun x hx=>⟨hi.kind x hx,fun hk=>⟨hi.file x hx hk,(h.node x hx).par hk⟩,fun hk=>⟨(h.node x hx).bare hk,vN (hi.es x hx) (h.node x hx).nam fun e he=>by
  have:=hi.led x hx e he;have g:=zi this;have:=(hi.ino _ g.2.1).1;rw[g.2.2]at this;exact this⟩,(h.node x hx).lnk⟩
 have h3:Yl f:=hi.led;obtain ⟨rk,hr⟩:=h.edge;have h4:Yx f:=fun x hx=>by
  have hl:=FsR.links hi hx;refine ⟨hl,?_⟩;by_cases h0:x.ino=1
  ·rw[if_pos h0,h0];exact ⟨by rw[XZ];exact hi.bare,(h.node x hx).top h0⟩
  ·rw[if_neg h0];have hk:=(h.node x hx).named h0;refine ⟨by omega,fun hd=>?_⟩;have ho:=(h.node x hx).one hd h0;refine ⟨by omega,(zdt (by omega) fun q hq=>?_).symm⟩;obtain ⟨y,hy,e,he,q1,q2⟩:=Vh.1 hq;have:=(hr y hy e he (by rw[q1,YT hi hx];exact hd)).1;rw[q1,YT hi hx]at this;rw[←q2,this]
 have h5:QC f:=by
  have hS:Yp f.xs [1]:=⟨by simp,fun n hn=>by rw[List.mem_singleton.1 hn];exact hi.root⟩;obtain ⟨r1,r2⟩:=kp hi.led (f.xs.length+1) 0 [1] hS (fun j hj=>absurd hj (Nat.not_lt_zero _)) (by omega);have hok:=(GH hi.led (f.xs.length+1) 0 [1] hS (fun n hn=>by rw[List.mem_singleton.1 hn];exact ⟨0,.root⟩)).1;have hall:=h.come hi (r1 1 (by simp)) r2;have q1:=Q8 hok.nodup hok.has;have q2:=Uj (S:=f.xs.map (·.ino)) (yC hi.rises) fun n hn=>hall n (Gq.2 hn);rw[List.length_map]at q2;exact Nat.le_antisymm q1 q2
 unfold Jm;rw[if_pos h1,if_pos h2,if_pos h3,if_pos h4,if_pos h5,if_pos (show kV f from h.fit)]
open Classical in
theorem zdU {f:FsV} (h:okM f):FsR f:=by
 obtain ⟨h0,h1,h2,h3,h4,h5,h6⟩:=qK h;have hi:=xg h.2;refine ⟨fun x hx=>?_,?_,h6,h1.1,h1.2.1,h1.2.2.1,h1.2.2.2.1⟩
 ·obtain ⟨a1,a2,a3,a4⟩:=h2 x hx;obtain ⟨b1,b2⟩:=h4 x hx;refine ⟨fun hk=>(a2 hk).2,fun hk=>(a3 hk).1,fun e he=>?_,a4,fun hn=>?_,fun hk hn=>?_,fun hn=>?_⟩
  ·obtain ⟨i,hi',rfl⟩:=List.getElem_of_mem he;exact ((a3 (Gp hi hx he)).2 i hi').1
  ·rw[if_neg hn]at b2;rw[b1];omega
  ·rw[if_neg hn]at b2;rw[b1,(b2.2 hk).1];rfl
  ·rw[if_pos hn]at b2;exact b2.2
 ·refine ⟨fun n=>if hd:∃ k,Dep f.xs k n then hd.choose else 0,fun y hy e he hk=>?_⟩;have hs:=YT hi hy;have hh:=hi.led y hy e he;have g:=zi hh;have hyk:=Gp hi hy he;have hey:e∈(zf y.ino f.xs).es:=by rw[hs];exact he
  have hne:e.ino≠1:=jZ h (JP hy) hey;constructor
  ·have b:=(h4 _ g.2.1).2;rw[g.2.2,if_neg hne]at b;obtain ⟨c1,c2⟩:=b.2 hk;rw[c2];exact zdt (by omega) fun q hq=>(vn (Vh.2 ⟨y,hy,e,he,rfl,rfl⟩) hq c1).symm
  ·obtain ⟨k,hd⟩:=vf h (JP hy);have hd2:=Dep.step hd (JP hy) hey;have e1:∃ k,Dep f.xs k y.ino:=⟨k,hd⟩;have e2:∃ k,Dep f.xs k e.ino:=⟨k+1,hd2⟩;show (if hd:∃ k,Dep f.xs k y.ino then hd.choose else 0)<if hd:∃ k,Dep f.xs k e.ino then hd.choose else 0;rw[dif_pos e1,dif_pos e2,ZR h _ _ _ e1.choose_spec hd (JP hy) (by rw[hs];exact hyk),ZR h _ _ _ e2.choose_spec hd2 hh hk];exact Nat.lt_succ_self k
end
section
def bN (x:zm):Nat:=if x.kind=1 then x.data.length else 0
theorem J0:∀ xs:List zm,qe xs=Nl bN xs
 | []=>rfl
 | x :: r=>by
  have ih:=J0 r;unfold qe Nl at ih ⊢;rw[List.map_cons,List.sum_cons,←ih,List.filter_cons];unfold bN;by_cases h:x.kind=1<;>simp[h]
theorem XF {xs:List zm} (hR:zX xs) {x:zm} (hh:zk x.ino xs=true):qe (ql x xs)+bN (zf x.ino xs)=qe xs+bN x:=by
 have:=Uf bN (x:=x) hR;rw[(zi hh).1]at this;rw[J0,J0];exact this
theorem kB {xs:List zm} (hR:zX xs) {x:zm} (hh:zk x.ino xs=false):qe (ql x xs)=qe xs+bN x:=by
 have:=Uf bN (x:=x) hR;rw[(J8 hh).1]at this;rw[J0,J0];exact this
theorem zbe {xs:List zm} (hR:zX xs) (n:Int):qe (z8 n xs)<=qe xs:=by
 have:=ZD bN (n:=n) hR;rw[J0,J0];omega
theorem YW {xs:List zm} (hR:zX xs) {n:Int} {F:List zW->List zW} (hh:zk n xs=true):qe (qp n F xs)=qe xs:=by
 have hg:=zi hh;have:=XF hR (x:=qo (zf n xs) (F (zf n xs).es)) (by show zk (zf n xs).ino xs=true;rw[hg.2.2];exact hh);have e:bN (zf (qo (zf n xs) (F (zf n xs).es)).ino xs)=bN (qo (zf n xs) (F (zf n xs).es)):=by
  show bN (zf (zf n xs).ino xs)=bN (zf n xs);rw[hg.2.2]
 rw[e]at this;exact Nat.add_right_cancel this
theorem zlW {x:zm} {xs:List zm} (hR:zX xs) (hh:zk x.ino xs=false):(ql x xs).length=xs.length+1:=by rw[←xI hR hh];simp;have:=zgA x.ino xs;omega
theorem zdJ (n:Int) (xs:List zm):(z8 n xs).length<=xs.length:=List.length_filter_le _ _
theorem zka.turn {x:zm} (h:zka x) {es:List zW} (he:∀ e∈es,may e.name=true):zka (qo x es):=⟨h.par,h.bare,he,h.lnk,h.named,h.one,h.top⟩
theorem ju {xs:List zm} {n m:Int} {F:List zW->List zW} (hh:zk n xs=true):(zf m (qp n F xs)).kind=(zf m xs).kind/\(zf m (qp n F xs)).parent=(zf m xs).parent/\(zf m (qp n F xs)).links=(zf m xs).links:=by
 rw[JG hh];split
 ·subst_vars;exact ⟨rfl,rfl,rfl⟩
 ·exact ⟨rfl,rfl,rfl⟩
theorem FsR.like {f g:FsV} (h:FsR f) (hN:∀ z∈g.xs,zka z) (hE:∀ z∈g.xs,∀ e∈z.es,(zf e.ino g.xs).kind=2->∃ y∈f.xs,y.ino=z.ino/\e∈y.es/\(zf e.ino f.xs).kind=2/\(zf e.ino g.xs).parent=(zf e.ino f.xs).parent)
  (h1:g.maxI=f.maxI) (h2:g.maxB=f.maxB) (hl:g.xs.length<=f.xs.length) (hb:(qe g.xs:Int)<=f.maxB):FsR g:=by
 obtain ⟨rk,hr⟩:=h.edge;refine ⟨hN,⟨rk,fun z hz e he hk=>?_⟩,?_,by rw[h1,h2];exact h.lim⟩
 ·obtain ⟨y,hy,q1,q2,q3,q4⟩:=hE z hz e he hk;have:=hr y hy e q2 q3;rw[q4,←q1];exact this
 ·have:=h.fit;rw[h1,h2];omega
theorem zqs {f:FsV} (hi:FsI f) (h:FsR f) {s:zR} (hs:YY f s) (hm:may s.name=true) {k:Int} {t:List UInt8} (hk:k=1∨k=2∨k=3) (hr:Zx f 1 (if k=1 then (t.length:Int) else 0)=true) (h2:k=2->t = [])
  (h3:k=3->1<=t.length/\t.length<=4095/\∀ b∈t,b≠0):FsR (zb9 f s k t):=by
 obtain ⟨n1,n2⟩:=Gi hi;have hd:=zi hs.has;have hlt:=vO hi;have hdn:s.dir≠f.next:=fun e=>by have:=hs.has;rw[e,n1]at this;cases this
 have hR1:zX (qp s.dir (zY s.name f.next) f.xs):=z6 hi.rises;have hn1:zk f.next (qp s.dir (zY s.name f.next) f.xs)=false:=by rw[zS hs.has];exact n1
 obtain ⟨rk,hrk⟩:=h.edge;have hmem:∀ {z:zm},z∈(zb9 f s k t).xs->z=⟨f.next,k,1,t,if k=2 then s.dir else 0,[]⟩∨z=qo (zf s.dir f.xs) (zY s.name f.next (zf s.dir f.xs).es)∨(z∈f.xs/\z.ino≠s.dir):=fun {z} hz=>by
  rcases qq.1 hz with rfl | ⟨hz,_⟩
  ·exact .inl rfl
  ·exact .inr ((qt hs.has).1 hz)
 have hgot:∀ m,m≠f.next->(zf m (zb9 f s k t).xs).kind=(zf m f.xs).kind/\(zf m (zb9 f s k t).xs).parent=(zf m f.xs).parent:=fun m hm=>by
  have e:zf m (zb9 f s k t).xs=zf m (qp s.dir (zY s.name f.next) f.xs):=by
   show zf m (ql _ _)=_;rw[qG,if_neg (fun e:f.next=m=>hm e.symm)]
  rw[e];exact ⟨(ju hs.has).1,(ju hs.has).2.1⟩
 have hgn:zf f.next (zb9 f s k t).xs=⟨f.next,k,1,t,if k=2 then s.dir else 0,[]⟩:=by
  show zf _ (ql _ _)=_;rw[qG,if_pos rfl]
 refine ⟨fun z hz=>?_,⟨fun n=>if n=f.next then rk s.dir+1 else rk n,fun y hy e he hke=>?_⟩,?_,h.lim⟩
 ·rcases hmem hz with rfl | rfl | ⟨hz,_⟩
  ·exact ⟨fun q=>if_neg q,h2,fun e he=>(by cases he),h3,fun _=>Int.le_refl 1,fun _ _=>rfl,fun q=>by have q:f.next=1:=q;omega⟩
  ·exact (h.node _ hd.2.1).turn fun e he=>by
    rcases JS he with rfl | he
    ·exact hm
    ·exact (h.node _ hd.2.1).nam e he
  ·exact h.node z hz
 ·have old:∀ y0∈f.xs,e∈y0.es->(zf e.ino (zb9 f s k t).xs).parent=y0.ino/\(if y0.ino=f.next then rk s.dir+1 else rk y0.ino)<(if e.ino=f.next then rk s.dir+1 else rk e.ino):=fun y0 hy0 he0=>by
   have hne:=n2 y0 hy0 e he0;obtain ⟨g1,g2⟩:=hgot e.ino hne;rw[g1]at hke;have:=hrk y0 hy0 e he0 hke;rw[g2,if_neg hne,if_neg (fun q=>by have:=(hi.ino y0 hy0).2;omega)];exact this
  rcases hmem hy with rfl | rfl | ⟨hy,_⟩
  ·cases he
  ·rcases JS he with rfl | he
   ·rw[hgn]at hke ⊢;have hke:k=2:=hke;show (if k=2 then s.dir else 0)=(zf s.dir f.xs).ino/\_;rw[if_pos hke,hd.2.2];refine ⟨rfl,?_⟩;show (if s.dir=f.next then _ else rk s.dir)<if f.next=f.next then _ else _;rw[if_neg hdn,if_pos rfl];exact Nat.lt_succ_self _
   ·exact old (zf s.dir f.xs) hd.2.1 he
  ·exact old y hy he
 ·unfold Zx at hr;simp only[Bool.and_eq_true,decide_eq_true_eq]at hr;have hl:(zb9 f s k t).xs.length=f.xs.length+1:=by
   show (ql _ _).length=_;rw[zlW hR1 hn1,jW hi.rises hs.has]
  have hb:qe (zb9 f s k t).xs=qe f.xs+bN ⟨f.next,k,1,t,if k=2 then s.dir else 0,[]⟩:=by
   show qe (ql _ _)=_;rw[kB hR1 hn1,YW hi.rises hs.has]
  rw[hl,hb];show ((f.xs.length+1:Nat):Int)<=f.maxI/\((qe f.xs+(if k=1 then t.length else 0):Nat):Int)<=f.maxB;split at hr<;>(rename_i hq;simp only[hq,if_true,if_false];omega)
theorem zou {f:FsV} (hi:FsI f) (h:FsR f) {i:Int} (hh:zk i f.xs=true) (hk:(zf i f.xs).kind=1) {t:List UInt8} (hr:Zx f 0 ((t.length:Int)-(zf i f.xs).data.length)=true):FsR (XB f i t):=by
 have hx:=zi hh;have hhi:zk ({ zf i f.xs with data:=t }:zm).ino f.xs=true:=by show zk (zf i f.xs).ino f.xs=true;rw[hx.2.2];exact hh
 have hn:=h.node _ hx.2.1;have hgot:∀ m,(zf m (XB f i t).xs).kind=(zf m f.xs).kind/\(zf m (XB f i t).xs).parent=(zf m f.xs).parent:=fun m=>by
  show (zf m (ql _ _)).kind=_/\_;unfold XB;simp only[qG,hx.2.2];split
  ·subst_vars;exact ⟨rfl,rfl⟩
  ·exact ⟨rfl,rfl⟩
 unfold Zx at hr;simp only[Bool.and_eq_true,decide_eq_true_eq]at hr;refine h.like (fun z hz=>?_) (fun z hz e he hke=>?_) rfl rfl ?_ ?_
 ·rcases qq.1 hz with rfl | ⟨hz,_⟩
  ·exact ⟨hn.par,fun q=>by have q:(zf i f.xs).kind=2:=q;omega,hn.nam,fun q=>by have q:(zf i f.xs).kind=3:=q;omega,hn.named,hn.one,hn.top⟩
  ·exact h.node z hz
 ·rw[(hgot _).1]at hke;rcases qq.1 hz with rfl | ⟨hz,_⟩
  ·exact ⟨_,hx.2.1,rfl,he,hke,(hgot _).2⟩
  ·exact ⟨z,hz,rfl,he,hke,(hgot _).2⟩
 ·show (ql _ _).length<=_;rw[Jv hi.rises hhi];exact Nat.le_refl _
 ·have:=XF hi.rises hhi;have e1:bN (zf ({ zf i f.xs with data:=t }:zm).ino f.xs)=(zf i f.xs).data.length:=by
   show bN (zf (zf i f.xs).ino f.xs)=_;rw[hx.2.2];unfold bN;rw[if_pos hk]
  have e2:bN { zf i f.xs with data:=t }=t.length:=by unfold bN;rw[if_pos hk]
  rw[e1,e2]at this;show (qe (ql _ _):Int)<=_;omega
theorem zp3 {f:FsV} (hi:FsI f) (h:FsR f) {s:zR} (hs:YY f s) (hm:may s.name=true) {i:Int} (hh:zk i f.xs=true) (hk:(zf i f.xs).kind≠2):FsR (UW f s i):=by
 have hd:=zi hs.has;have hx:=zi hh;have hn:=h.node _ hx.2.1;have hR1:zX (qp s.dir (zY s.name i) f.xs):=z6 hi.rises;have hhi:zk ({ zf i f.xs with links:=(zf i f.xs).links+1 }:zm).ino (qp s.dir (zY s.name i) f.xs)=true:=by rw[zS hs.has];show zk (zf i f.xs).ino f.xs=true;rw[hx.2.2];exact hh
 have hgot:∀ m,(zf m (UW f s i).xs).kind=(zf m f.xs).kind/\(zf m (UW f s i).xs).parent=(zf m f.xs).parent:=fun m=>by
  unfold UW;simp only[qG,hx.2.2];split
  ·subst_vars;exact ⟨rfl,rfl⟩
  ·exact ⟨(ju hs.has).1,(ju hs.has).2.1⟩
 refine h.like (fun z hz=>?_) (fun z hz e he hke=>?_) rfl rfl ?_ ?_
 ·rcases qq.1 hz with rfl | ⟨hz,_⟩
  ·exact ⟨hn.par,hn.bare,hn.nam,hn.lnk,fun q=>by have:=hn.named q;show 1<=(zf i f.xs).links+1;omega,fun q=>absurd q hk,hn.top⟩
  ·rcases (qt hs.has).1 hz with rfl | ⟨hz,_⟩
   ·exact (h.node _ hd.2.1).turn fun e he=>by
     rcases JS he with rfl | he
     ·exact hm
     ·exact (h.node _ hd.2.1).nam e he
   ·exact h.node z hz
 ·rw[(hgot _).1]at hke;rcases qq.1 hz with rfl | ⟨hz,_⟩
  ·exact ⟨_,hx.2.1,rfl,he,hke,(hgot _).2⟩
  ·rcases (qt hs.has).1 hz with rfl | ⟨hz,_⟩
   ·rcases JS he with rfl | he
    ·exact absurd hke hk
    ·exact ⟨_,hd.2.1,rfl,he,hke,(hgot _).2⟩
   ·exact ⟨z,hz,rfl,he,hke,(hgot _).2⟩
 ·show (ql _ _).length<=_;rw[Jv hR1 hhi,jW hi.rises hs.has];exact Nat.le_refl _
 ·have:=XF hR1 hhi;have e1:bN (zf ({ zf i f.xs with links:=(zf i f.xs).links+1 }:zm).ino (qp s.dir (zY s.name i) f.xs))=bN { zf i f.xs with links:=(zf i f.xs).links+1 }:=by
   show bN (zf (zf i f.xs).ino _)=_;rw[hx.2.2,JG hs.has];split
   ·rename_i hq;exact absurd (by rw[←hq];exact hs.kind) hk
   ·rfl
  rw[e1,YW hi.rises hs.has]at this;show (qe (ql _ _):Int)<=_;have:=h.fit.2;omega
theorem zhy {f:FsV} (hi:FsI f) (h:FsR f) {s:zR} (hs:zQ f s) (he:(zf s.ino f.xs).es = []):FsR (zF f s):=by
 have hok:=UQ hi hs he;have hd:=zi hs.has;have hh:=zQ.ino hi hs;have hx:=zi hh;have hn:=h.node _ hx.2.1;have hne:s.dir≠s.ino:=fun e=>by
  have:=(qy hs.there).2;rw[e,he]at this;cases this
 have hr1:=Qg hi hs;have hR1:zX (qp s.dir (zj s.name) f.xs):=z6 hi.rises;have hdn:zka (qo (zf s.dir f.xs) (zj s.name (zf s.dir f.xs).es)):=(h.node _ hd.2.1).turn fun e he=>(h.node _ hd.2.1).nam e (qR he).1;by_cases hl:(zf s.ino f.xs).links-1=0
 ·have e0:zF f s = { f with xs:=z8 s.ino (qp s.dir (zj s.name) f.xs) }:=by unfold zF;rw[if_pos hl]
  rw[e0]at hok ⊢;refine h.like (fun z hz=>?_) (fun z hz e he hke=>?_) rfl rfl ?_ ?_
  ·rcases (qt hs.has).1 (YU.1 hz).1 with rfl | ⟨hz,_⟩
   ·exact hdn
   ·exact h.node z hz
  ·have hee:e.ino≠s.ino:=fun q=>by
    have:=hok.led z hz e he;rw[XL,q]at this;simp at this
   have hg:zf e.ino (z8 s.ino (qp s.dir (zj s.name) f.xs))=zf e.ino (qp s.dir (zj s.name) f.xs):=by rw[U1,if_neg hee]
   show ∃ y∈f.xs,y.ino=z.ino/\e∈y.es/\_/\(zf e.ino (z8 s.ino _)).parent=_;have hke:(zf e.ino (z8 s.ino (qp s.dir (zj s.name) f.xs))).kind=2:=hke;rw[hg,(ju hs.has).1]at hke;rw[hg,(ju hs.has).2.1];rcases (qt hs.has).1 (YU.1 hz).1 with rfl | ⟨hz,_⟩
   ·exact ⟨_,hd.2.1,rfl,(qR he).1,hke,rfl⟩
   ·exact ⟨z,hz,rfl,he,hke,rfl⟩
  ·exact Nat.le_trans (zdJ _ _) (by rw[jW hi.rises hs.has];exact Nat.le_refl _)
  ·have:=zbe hR1 s.ino;rw[YW hi.rises hs.has]at this;have:=h.fit.2;show (qe (z8 _ _):Int)<=_;omega
 ·have e0:zF f s = { f with xs:=ql { zf s.ino f.xs with links:=(zf s.ino f.xs).links-1 } (qp s.dir (zj s.name) f.xs) }:=by unfold zF;rw[if_neg hl]
  rw[e0]at hok ⊢;have hhi:zk ({ zf s.ino f.xs with links:=(zf s.ino f.xs).links-1 }:zm).ino (qp s.dir (zj s.name) f.xs)=true:=by rw[zS hs.has];show zk (zf s.ino f.xs).ino f.xs=true;rw[hx.2.2];exact hh
  have hgot:∀ m,(zf m (ql { zf s.ino f.xs with links:=(zf s.ino f.xs).links-1 } (qp s.dir (zj s.name) f.xs))).kind=(zf m f.xs).kind/\(zf m (ql { zf s.ino f.xs with links:=(zf s.ino f.xs).links-1 } (qp s.dir (zj s.name) f.xs))).parent=(zf m f.xs).parent:=fun m=>by
   simp only[qG,hx.2.2];split
   ·subst_vars;exact ⟨rfl,rfl⟩
   ·exact ⟨(ju hs.has).1,(ju hs.has).2.1⟩
  have hnm:=hn.named (by rw[hx.2.2];exact hr1);refine h.like (fun z hz=>?_) (fun z hz e he hke=>?_) rfl rfl ?_ ?_
  ·rcases qq.1 hz with rfl | ⟨hz,_⟩
   ·exact ⟨hn.par,hn.bare,hn.nam,hn.lnk,fun q=>by show 1<=(zf s.ino f.xs).links-1;omega,fun q1 q2=>by have:=hn.one q1 q2;omega,hn.top⟩
   ·rcases (qt hs.has).1 hz with rfl | ⟨hz,_⟩
    ·exact hdn
    ·exact h.node z hz
  ·have hke:(zf e.ino (ql { zf s.ino f.xs with links:=(zf s.ino f.xs).links-1 } (qp s.dir (zj s.name) f.xs))).kind=2:=hke;rw[(hgot _).1]at hke;rcases qq.1 hz with rfl | ⟨hz,_⟩
   ·exact ⟨_,hx.2.1,rfl,he,hke,(hgot _).2⟩
   ·rcases (qt hs.has).1 hz with rfl | ⟨hz,_⟩
    ·exact ⟨_,hd.2.1,rfl,(qR he).1,hke,(hgot _).2⟩
    ·exact ⟨z,hz,rfl,he,hke,(hgot _).2⟩
  ·show (ql _ _).length<=_;rw[Jv hR1 hhi,jW hi.rises hs.has];exact Nat.le_refl _
  ·have:=XF hR1 hhi;have e1:bN (zf ({ zf s.ino f.xs with links:=(zf s.ino f.xs).links-1 }:zm).ino (qp s.dir (zj s.name) f.xs))=bN { zf s.ino f.xs with links:=(zf s.ino f.xs).links-1 }:=by
    show bN (zf (zf s.ino f.xs).ino _)=_;rw[hx.2.2,JG hs.has,if_neg hne]
    rfl
   rw[e1,YW hi.rises hs.has]at this;show (qe (ql _ _):Int)<=_;have:=h.fit.2;omega
end
section
inductive Bel (xs:List zm) (x:Int):Int->Prop
 | refl:Bel xs x x
 | step {y n:Int}:Bel xs x y->zk y xs=true->(∃ e∈(zf y xs).es,e.ino=n)->Bel xs x n
def zqv (a b:zR) (y:zm) (es:List zW):Prop:=∀ e∈es,(e=⟨b.name,a.ino⟩/\y.ino=b.dir)∨(e∈y.es/\(y.ino=a.dir->e.name≠a.name))
theorem zm1 {f:FsV} (hi:FsI f) {a b:zR} (ha:zQ f a) (hb:YY f b) {z:zm} (hz:z∈qp b.dir (zY b.name a.ino) (qp a.dir (zj a.name) f.xs)):∃ y∈f.xs,∃ es,z=qo y es/\zqv a b y es:=by
 have hda:=zi ha.has;have hdb:=zi hb.has;have hb1:zk b.dir (qp a.dir (zj a.name) f.xs)=true:=by rw[zS ha.has];exact hb.has
 have g1:∀ {z:zm},z∈qp a.dir (zj a.name) f.xs->∃ y∈f.xs,∃ es,z=qo y es/\∀ e∈es,e∈y.es/\(y.ino=a.dir->e.name≠a.name):=fun {z} hz=>by
  rcases (qt ha.has).1 hz with rfl | ⟨hz,hne⟩
  ·exact ⟨_,hda.2.1,_,rfl,fun e he=>⟨(qR he).1,fun _=>(qR he).2⟩⟩
  ·exact ⟨z,hz,z.es,rfl,fun e he=>⟨he,fun q=>absurd q hne⟩⟩
 rcases (qt hb1).1 hz with rfl | ⟨hz,hne⟩
 ·obtain ⟨y,hy,es,e1,e2⟩:=g1 (zi hb1).2.1;have hyb:y.ino=b.dir:=by
   have:=(zi hb1).2.2;rw[e1]at this;exact this
  refine ⟨y,hy,zY b.name a.ino es,by rw[e1],fun e he=>?_⟩;rcases JS he with rfl | he
  ·exact .inl ⟨rfl,hyb⟩
  ·exact .inr (e2 e he)
 ·obtain ⟨y,hy,es,e1,e2⟩:=g1 hz;exact ⟨y,hy,es,e1,fun e he=>.inr (e2 e he)⟩
theorem zcO {f:FsV} {a b:zR} (ha:zQ f a) (hb:YY f b) (m:Int):(zf m (qp b.dir (zY b.name a.ino) (qp a.dir (zj a.name) f.xs))).kind=(zf m f.xs).kind/\(zf m (qp b.dir (zY b.name a.ino) (qp a.dir (zj a.name) f.xs))).parent=(zf m f.xs).parent:=by
 have hb1:zk b.dir (qp a.dir (zj a.name) f.xs)=true:=by rw[zS ha.has];exact hb.has
 obtain ⟨q1,q2,_⟩:=ju (m:=m) (F:=zY b.name a.ino) hb1;obtain ⟨q3,q4,_⟩:=ju (m:=m) (F:=zj a.name) ha.has;exact ⟨q1.trans q3,q2.trans q4⟩
theorem ul {f:FsV} (hi:FsI f) (h:FsR f) {a:zR} (ha:zQ f a) (hk:(zf a.ino f.xs).kind=2) {y:zm} (hy:y∈f.xs) {e:zW} (he:e∈y.es) (hn:y.ino=a.dir->e.name≠a.name):e.ino≠a.ino:=fun q=>by
 have hh:=zQ.ino hi ha;have hx:=zi hh;have hd:=zi ha.has;have hl:=(h.node _ hx.2.1).one hk (by rw[hx.2.2];exact Qg hi ha);have hlk:=hi.links _ hx.2.1;rw[hx.2.2,hl]at hlk;have hc:=QI (m:=a.ino) (F:=zj a.name) hi.rises ha.has;have hw:JM a.ino (zf a.dir f.xs)=JM a.ino (qo (zf a.dir f.xs) (zj a.name (zf a.dir f.xs).es))+if a.ino=a.ino then 1 else 0:=X0 (m:=a.ino) (i:=a.ino) (x:=zf a.dir f.xs) (hi.es (zf a.dir f.xs) hd.2.1) ha.there;rw[if_pos rfl]at hw;have h0:JI a.ino (qp a.dir (zj a.name) f.xs)=0:=by omega
 by_cases hya:y.ino=a.dir
 ·have e1:y=zf a.dir f.xs:=NZ hi.rises hy hd.2.1 (by rw[hd.2.2];exact hya);refine Zn h0 _ ((qt ha.has).2 (.inl rfl)) e ?_ q;exact Ze.2 ⟨by rw[←e1];exact he,hn hya⟩
 ·exact Zn h0 y ((qt ha.has).2 (.inr ⟨hy,hya⟩)) e he q
open Classical in
theorem zo0 {f:FsV} (hi:FsI f) (h:FsR f) {a b:zR} (ha:zQ f a) (hb:YY f b) (hm:may b.name=true) (hnb:(zf a.ino f.xs).kind=2->¬Bel f.xs a.ino b.dir):FsR (YL f a b):=by
 have hh:=zQ.ino hi ha;have hx:=zi hh;have hr1:=Qg hi ha;have hb1:zk b.dir (qp a.dir (zj a.name) f.xs)=true:=by rw[zS ha.has];exact hb.has
 have hR1:zX (qp a.dir (zj a.name) f.xs):=z6 hi.rises;have hR2:zX (qp b.dir (zY b.name a.ino) (qp a.dir (zj a.name) f.xs)):=z6 hR1;have hlen:(qp b.dir (zY b.name a.ino) (qp a.dir (zj a.name) f.xs)).length=f.xs.length:=by rw[jW hR1 hb1,jW hi.rises ha.has]
 have hbyt:qe (qp b.dir (zY b.name a.ino) (qp a.dir (zj a.name) f.xs))=qe f.xs:=by rw[YW hR1 hb1,YW hi.rises ha.has]
 have hha:zk a.ino (qp b.dir (zY b.name a.ino) (qp a.dir (zj a.name) f.xs))=true:=by rw[zS hb1,zS ha.has];exact hh
 have hgm:=zcO ha hb;have hmm:∀ {z:zm},z∈qp b.dir (zY b.name a.ino) (qp a.dir (zj a.name) f.xs)->∃ y∈f.xs,∃ es,z=qo y es/\zqv a b y es:=zm1 hi ha hb;have hnode:∀ {y:zm} {es:List zW},y∈f.xs->zqv a b y es->zka (qo y es):=fun {y es} hy he=>(h.node y hy).turn fun e hee=>by
  rcases he e hee with ⟨rfl,_⟩ | ⟨q,_⟩
  ·exact hm
  ·exact (h.node y hy).nam e q
 unfold YL;simp only;generalize qp b.dir (zY b.name a.ino) (qp a.dir (zj a.name) f.xs)=g at hR2 hlen hbyt hha hgm hmm;have hfit:=h.fit;by_cases hk:(zf a.ino f.xs).kind=2
 ·rw[if_pos (show (zf a.ino g).kind=2 from (hgm a.ino).1.trans hk)];have hnb:=hnb hk;have hxa:=zi hha;have hhi:zk ({ zf a.ino g with parent:=b.dir }:zm).ino g=true:=by show zk (zf a.ino g).ino g=true;rw[hxa.2.2];exact hha
  have hgot:∀ m,(zf m (ql { zf a.ino g with parent:=b.dir } g)).kind=(zf m f.xs).kind/\(zf m (ql { zf a.ino g with parent:=b.dir } g)).parent=if m=a.ino then b.dir else (zf m f.xs).parent:=fun m=>by
   simp only[qG,hxa.2.2];by_cases hq:a.ino=m
   ·rw[if_pos hq,if_pos hq.symm];subst hq;exact ⟨(hgm a.ino).1,rfl⟩
   ·rw[if_neg hq,if_neg (fun q=>hq q.symm)];exact hgm m
  have hmem:∀ {z:zm},z∈ql { zf a.ino g with parent:=b.dir } g->∃ y∈f.xs,∃ es,z.ino=y.ino/\z.es=es/\zqv a b y es/\zka z:=fun {z} hz=>by
   rcases qq.1 hz with rfl | ⟨hz,_⟩
   ·obtain ⟨y,hy,es,e1,e2⟩:=hmm hxa.2.1;refine ⟨y,hy,es,by rw[e1],by rw[e1],e2,?_⟩;have hn:=hnode hy e2;rw[←e1]at hn;have hka:(zf a.ino g).kind=2:=by rw[(hgm a.ino).1];exact hk
    exact ⟨fun q=>absurd hka q,hn.bare,hn.nam,hn.lnk,hn.named,hn.one,fun q=>by have q:(zf a.ino g).ino=1:=q;rw[hxa.2.2]at q;exact absurd q hr1⟩
   ·obtain ⟨y,hy,es,e1,e2⟩:=hmm hz;exact ⟨y,hy,es,by rw[e1],by rw[e1],e2,by rw[e1];exact hnode hy e2⟩
  obtain ⟨rk,hrk⟩:=h.edge;refine ⟨fun z hz=>(hmem hz).choose_spec.2.choose_spec.2.2.2,⟨fun n=>if Bel f.xs a.ino n then rk n+rk b.dir+1 else rk n,fun z hz e he hke=>?_⟩,?_,h.lim⟩
  ·obtain ⟨y,hy,es,e1,e2,e3,_⟩:=hmem hz;have hke:(zf e.ino (ql { zf a.ino g with parent:=b.dir } g)).kind=2:=hke;rw[(hgot _).1]at hke;show (zf e.ino (ql { zf a.ino g with parent:=b.dir } g)).parent=z.ino/\(if Bel f.xs a.ino z.ino then _ else _)<(if Bel f.xs a.ino e.ino then _ else _);rw[(hgot _).2,e1];rcases e3 e (by rw[←e2];exact he) with ⟨rfl,hyb⟩ | ⟨hey,hna⟩
   ·rw[hyb,if_neg hnb];show (if a.ino=a.ino then _ else _)=_/\_<(if Bel f.xs a.ino a.ino then rk a.ino+rk b.dir+1 else _);rw[if_pos rfl,if_pos Bel.refl];exact ⟨rfl,by omega⟩
   ·have hne:=ul hi h ha hk hy hey hna;obtain ⟨p1,p2⟩:=hrk y hy e hey hke;rw[if_neg hne];refine ⟨p1,?_⟩;have hs:=YT hi hy;have hiff:Bel f.xs a.ino e.ino↔Bel f.xs a.ino y.ino:=by
     constructor
     ·intro hB;generalize hn:e.ino=n at hB;cases hB with
      | refl=>exact absurd hn hne
      | step hB1 hv hed =>
       rename_i y';obtain ⟨e',he',q⟩:=hed;have:=(hrk _ (zi hv).2.1 e' he' (by rw[q,←hn];exact hke)).1;rw[q,←hn,p1,(zi hv).2.2]at this;rw[this];exact hB1
     ·intro hB;exact .step hB (JP hy) ⟨e,by rw[hs];exact hey,rfl⟩
    by_cases hB:Bel f.xs a.ino y.ino
    ·rw[if_pos hB,if_pos (hiff.2 hB)];omega
    ·rw[if_neg hB,if_neg (fun q=>hB (hiff.1 q))];exact p2
  ·have hb2:=XF hR2 hhi;have e1:bN (zf ({ zf a.ino g with parent:=b.dir }:zm).ino g)=bN { zf a.ino g with parent:=b.dir }:=by
    show bN (zf (zf a.ino g).ino g)=_;rw[hxa.2.2];rfl
   rw[e1]at hb2;have hb3:=Nat.add_right_cancel hb2;show ((ql _ _).length:Int)<=f.maxI/\(qe (ql _ _):Int)<=f.maxB;rw[Jv hR2 hhi,hlen,hb3,hbyt];exact hfit
 ·rw[if_neg (show ¬(zf a.ino g).kind=2 from fun q=>hk ((hgm a.ino).1.symm.trans q))];refine h.like (fun z hz=>?_) (fun z hz e he hke=>?_) rfl rfl (by show g.length<=_;omega) (by show (qe g:Int)<=_;omega)
  ·obtain ⟨y,hy,es,rfl,e2⟩:=hmm hz;exact hnode hy e2
  ·obtain ⟨y,hy,es,rfl,e2⟩:=hmm hz;have hke:(zf e.ino g).kind=2:=hke;rw[(hgm _).1]at hke;rcases e2 e he with ⟨rfl,_⟩ | ⟨q,_⟩
   ·exact absurd hke hk
   ·exact ⟨y,hy,rfl,q,hke,(hgm _).2⟩
end
section
inductive ND (xs:List zm):List (List UInt8)->Int->Prop
 | root:ND xs [] 1
 | step {ns:List (List UInt8)} {y n:Int} {m:List UInt8}:ND xs ns y->zk y xs=true->(zf y xs).kind=2->Jk zW.name m (zf y xs).es=some ⟨m,n⟩->ND xs (ns++[m]) n
theorem ND.inv {xs:List zm} {ns:List (List UInt8)} {n:Int} (h:ND xs ns n):(ns = []/\n=1)∨∃ ms y m,ns=ms++[m]/\ND xs ms y/\zk y xs=true/\(zf y xs).kind=2/\Jk zW.name m (zf y xs).es=some ⟨m,n⟩:=by
 cases h with
 | root=>exact .inl ⟨rfl,rfl⟩
 | step h1 h2 h3 h4=>exact .inr ⟨_,_,_,rfl,h1,h2,h3,h4⟩
theorem NM {f:FsV} (hi:FsI f) (h:FsR f) {x y z:Int} {m k:List UInt8} (hx:(zf x f.xs).kind=2) (hy:zk y f.xs=true) (hyk:(zf y f.xs).kind=2) (h1:Jk zW.name m (zf y f.xs).es=some ⟨m,x⟩) (hz:zk z f.xs=true) (h2:∃ e∈(zf z f.xs).es,e.name=k/\e.ino=x):z=y/\k=m:=by
 obtain ⟨e,he,rfl,q⟩:=h2;obtain ⟨rk,hr⟩:=h.edge;have gy:=zi hy;have gz:=zi hz;have p1:=(hr _ gy.2.1 ⟨m,x⟩ (qy h1).2 hx).1;have p2:=(hr _ gz.2.1 e he (by rw[q];exact hx)).1;rw[q,gz.2.2]at p2;rw[gy.2.2]at p1;have hzy:z=y:=p2.symm.trans p1;refine ⟨hzy,Classical.byContradiction fun hne=>?_⟩;subst hzy;exact ul hi h (a:=⟨z,m,x⟩) ⟨hy,hyk,h1⟩ hx gy.2.1 he (fun _=>hne) q
theorem yD {f:FsV} (hi:FsI f) {y:Int} (hy:zk y f.xs=true) {e:zW} (he:e∈(zf y f.xs).es):e.ino≠1:=Zn hi.bare _ (zi hy).2.1 e he
theorem ND.one {f:FsV} (hi:FsI f) (h:FsR f):∀ {ms ns:List (List UInt8)} {x:Int},ND f.xs ms x->ND f.xs ns x->(zf x f.xs).kind=2->ms=ns:=by
 intro ms ns x h1
 induction h1 generalizing ns with
 | root =>
  intro h2 hk;rcases h2.inv with ⟨e,_⟩ | ⟨ms,y,m,e,_,g1,g2,g3⟩
  ·exact e.symm
  ·exact absurd rfl (yD hi g1 (qy g3).2)
 | step a1 a2 a3 a4 ih =>
  intro h2 hk;rcases h2.inv with ⟨e,e1⟩ | ⟨ms,y,m,rfl,g0,g1,g2,g3⟩
  ·exact absurd e1 (yD hi a2 (qy a4).2)
  ·obtain ⟨rfl,rfl⟩:=NM hi h hk a2 a3 a4 g1 ⟨_,(qy g3).2,rfl,rfl⟩;rw[ih g0 a3]
theorem Bel.lead {f:FsV} (hi:FsI f) (h:FsR f) {x:Int} {ns:List (List UInt8)} (hn:ND f.xs ns x):∀ {m:Int} {ms:List (List UInt8)},Bel f.xs x m->ND f.xs ms m->(zf m f.xs).kind=2->∃ r,ms=ns++r:=by
 intro m ms hB
 induction hB generalizing ms with
 | refl=>intro h1 hk;exact ⟨[],by rw[List.append_nil];exact ND.one hi h h1 hn hk⟩
 | step b1 b2 b3 ih =>
  intro h1 hk;obtain ⟨e,he,q⟩:=b3;rcases h1.inv with ⟨_,e1⟩ | ⟨ms',y',k,rfl,g0,g1,g2,g3⟩
  ·exact absurd (q.trans e1) (yD hi b2 he)
  ·obtain ⟨rfl,_⟩:=NM hi h hk g1 g2 g3 b2 ⟨e,he,rfl,q⟩;obtain ⟨r,hr⟩:=ih g0 g2;exact ⟨r++[k],by rw[hr,List.append_assoc]⟩
theorem G4 {f:FsV} (hi:FsI f):∀ (ns pre:List (List UInt8)) (s:zR),(s.ino≠0->ND f.xs pre s.ino/\zk s.ino f.xs=true)->(atW f.xs ns s).2=0->ns≠[] ->
  ∃ ms,ns=ms++[(atW f.xs ns s).1.name]/\ND f.xs (pre++ms) (atW f.xs ns s).1.dir
 | [],pre,s,_,_,h=>absurd rfl h
 | n :: r,pre,s,hs,h0,_=>by
  unfold atW at h0 ⊢;by_cases h1:s.ino=0
  ·rw[if_pos h1]at h0;cases h0
  rw[if_neg h1]at h0 ⊢;by_cases h2:(zf s.ino f.xs).kind≠2
  ·rw[if_pos h2]at h0;cases h0
  rw[if_neg h2]at h0 ⊢;have h2:(zf s.ino f.xs).kind=2:=Classical.not_not.1 h2;obtain ⟨g1,g2⟩:=hs h1;have hg:=zi g2;cases r with
  | nil =>
   unfold atW;refine ⟨[],rfl,?_⟩;rw[List.append_nil];show ND f.xs pre (zf s.ino f.xs).ino;rw[hg.2.2];exact g1
  | cons m r =>
   obtain ⟨ms,e1,e2⟩:=G4 hi (m :: r) (pre++[n]) ⟨(zf s.ino f.xs).ino,n,qh n (zf s.ino f.xs).es⟩ (fun hne=>by
    have hne:qh n (zf s.ino f.xs).es≠0:=hne;have hh:Zu n (zf s.ino f.xs).es=true:=by
     unfold Zu;rw[jB];cases hq:Jk zW.name n (zf s.ino f.xs).es with
     | some e=>rfl
     | none=>unfold qh at hne;rw[hq]at hne;exact absurd rfl hne
    exact ⟨.step g1 g2 h2 (Y4 hh),G5 hi g2 hh⟩) h0 (by simp)
   refine ⟨n :: ms,by rw[List.cons_append,←e1],?_⟩;rw[List.append_assoc]at e2;exact e2
theorem zeb {f:FsV} (hi:FsI f) (h:FsR f) {p q:List UInt8} (hp:qH p=true) (hq:qH q=true) (h1:(isV f p true).2.2=0) (h2:(isV f q false).2.2=0) (hu:Qz q p=false) (hk:(zf (isV f p true).1.ino f.xs).kind=2):¬Bel f.xs (isV f p true).1.ino (isV f q false).1.dir:=fun hB=>by
 have hta:=(jG hi hp h1).1;have hfb:=J9 hi hq h2;unfold qH at hp hq;simp only[Bool.and_eq_true,Bool.not_eq_true',decide_eq_false_iff_not]at hp hq;have root:(1:Int)≠0->ND f.xs [] 1/\zk 1 f.xs=true:=fun _=>⟨.root,hi.root⟩;have ea:(isV f p true).1=(atW f.xs (zE p) ⟨0,[],1⟩).1:=by show (atV f p).1=_;unfold atV;rw[if_pos hp.1]
 have eb:(isV f q false).1=(atW f.xs (zE q) ⟨0,[],1⟩).1:=by show (atV f q).1=_;unfold atV;rw[if_pos hq.1]
 have za:(atW f.xs (zE p) ⟨0,[],1⟩).2=0:=by have:=ZT h1;unfold atV at this;rwa [if_pos hp.1]at this
 have zb:(atW f.xs (zE q) ⟨0,[],1⟩).2=0:=by have:=ZT h2;unfold atV at this;rwa [if_pos hq.1]at this
 obtain ⟨ma,a1,a2⟩:=G4 hi (zE p) [] ⟨0,[],1⟩ root za hp.2;obtain ⟨mb,b1,b2⟩:=G4 hi (zE q) [] ⟨0,[],1⟩ root zb hq.2;rw[←ea]at a1 a2;rw[←eb]at b1 b2;have la:ND f.xs (zE p) (isV f p true).1.ino:=by
  rw[a1];exact .step a2 hta.has hta.kind hta.there
 obtain ⟨r,hr⟩:=Bel.lead hi h la hB b2 hfb.kind;have hr:mb=zE p++r:=hr;have hn:zE q=zE p++(r++[(isV f q false).1.name]):=by rw[b1,hr,List.append_assoc]
 have hu2:=yT (zE q) (zE p) (fun x hx=>MR hx) (fun x hx=>MR hx);rw[US hp.1,US hq.1,hu,hn,List.take_left'  rfl]at hu2;simp at hu2
end
section
structure vz (w:qA):Prop where
 fs:FsR w.fs
 pool:∀ x∈w.pool,qw w x
 slots:∀ k∈w.kept,1<=k.slot
 kept:∀ k∈w.kept,Xu w k
theorem zrz {w:qA} (h:okW w):vz w:=⟨zdU (okV.m ⟨h.1.2.1,h.2.1⟩),h.2.2.2.1,h.2.2.2.2.1.2,h.2.2.2.2.2⟩
theorem zrn {w:qA} (h:vz w) {g:FsV} (hg:FsR g) (hn:w.fs.next<=g.next) (hp:∀ x∈w.pool,zk x.ino g.xs=false) (hk:∀ m,zk m w.fs.xs=true->zk m g.xs=true/\(zf m g.xs).kind=(zf m w.fs.xs).kind):vz { w with fs:=g }:=by
 refine ⟨hg,fun x hx=>?_,h.slots,fun k hkk=>?_⟩
 ·obtain ⟨q1,q2,q3,q4⟩:=h.pool x hx;exact ⟨hp x hx,q2,by show x.ino<g.next;omega,q4⟩
 ·obtain ⟨q1,q2,q3,q4⟩:=h.kept k hkk;refine ⟨q1,q2.imp (fun q=>(hk _ q).1) id,fun hc=>?_,q4⟩;have:=q3 hc;show (if zk k.ino w.pool=true then zf k.ino w.pool else zf k.ino g.xs).kind=1;by_cases hq:zk k.ino w.pool=true
  ·rw[if_pos hq]at this ⊢;exact this
  ·rw[if_neg hq]at this ⊢;rw[(hk _ (q2.resolve_right hq)).2];exact this
theorem zeR {w:qA} (hi:VT w) (h:vz w) {p:List UInt8} (hp:qH p=true) {k:Int} (hk:k=1∨k=2∨k=3) {t:List UInt8} (h2:k=2->t = []) (h3:k=3->1<=t.length/\t.length<=4095/\∀ b∈t,b≠0):vz (Vq w p k t).1:=by
 unfold Vq;by_cases hz:(isV w.fs p false).2.2≠0
 ·rw[if_pos hz];exact h
 rw[if_neg hz];have hs:=J9 hi.fs hp (Classical.not_not.1 hz);obtain ⟨n1,n2⟩:=Gi hi.fs;show vz { w with fs:=(zcG w.fs (isV w.fs p false).1 k t).1 };unfold zcG;by_cases hm:may (isV w.fs p false).1.name=true
 case neg=>rw[if_neg hm];exact h
 rw[if_pos hm];by_cases hr:Zx w.fs 1 (if k=1 then (t.length:Int) else 0)=true
 case neg=>rw[if_neg hr];exact h
 rw[if_pos hr];have hhas:∀ m,zk m (zb9 w.fs (isV w.fs p false).1 k t).xs=(decide (w.fs.next=m)||zk m w.fs.xs):=fun m=>by
  show zk m (ql _ _)=_;rw[qN,zS hs.has]
 refine zrn h (zqs hi.fs h.fs hs hm hk hr h2 h3) (by show w.fs.next<=w.fs.next+1;omega) (fun x hx=>?_) (fun m hh=>⟨by rw[hhas,hh,Bool.or_true],?_⟩)
 ·rw[hhas,(hi.apart x hx).1,Bool.or_false];exact decide_eq_false (by have:=(hi.apart x hx).2;omega)
 ·have hne:w.fs.next≠m:=fun e=>by rw[←e,n1]at hh;cases hh
  show (zf m (ql _ _)).kind=_;rw[qG,if_neg hne];exact (ju hs.has).1
theorem Jw {k z:zP} {ks:List zP}:z∈qC k ks↔z=k∨z∈ks:=Qj
theorem U8 {w w':qA} {x:zm} (h:qw w x) (h1:zk x.ino w'.fs.xs=false) (h2:w.fs.next<=w'.fs.next) (h3:∀ k∈w.kept,k∈w'.kept):qw w' x:=by
 obtain ⟨q1,q2,q3,q4,q5,q6,q7,q8,q9,q10⟩:=h;refine ⟨h1,q2,by omega,q4,q5,q6,q7,q8,q9,?_⟩;rw[List.any_eq_true]at q10 ⊢;obtain ⟨k,hk,e⟩:=q10;exact ⟨k,h3 k hk,e⟩
theorem zo6 {w:qA} (hi:VT w) (h:vz w) {n:Int} (h1:1<=n) (h2:n<=1073741824) {s:zR} (hs:zQ w.fs s) (he:(zf s.ino w.fs.xs).es = []):vz (Xi w n s).1:=by
 have hI:=zdg hi (n:=n) hs he;unfold Xi at hI ⊢;cases hn:zah n w.kept with
 | true=>rw[if_pos rfl];exact h
 | false =>
  rw[hn,if_neg (by simp)]at hI;rw[if_neg (by simp)];have hh:=zQ.ino hi.fs hs;have hx:=zi hh;have hnd:=h.fs.node _ hx.2.1;have hr:=zhy hi.fs h.fs hs he;have hhas:=Vd hs.has hh;have hnp:zk s.ino w.pool=false:=by
   rw[Bool.eq_false_iff];intro hq;have:=(hi.apart _ (zi hq).2.1).1;rw[(zi hq).2.2,hh]at this;cases this
  have hgk:∀ m,zk m (zF w.fs s).xs=true->(zf m (zF w.fs s).xs).kind=(zf m w.fs.xs).kind:=fun m hm=>by
   unfold zF at hm ⊢;by_cases hl:(zf s.ino w.fs.xs).links-1=0
   ·rw[if_pos hl]at hm ⊢;have hm:zk m (z8 _ _)=true:=hm;show (zf m (z8 _ _)).kind=_;rw[XL]at hm;rw[U1,if_neg (fun e=>by rw[e]at hm;simp at hm)];exact (ju hs.has).1
   ·rw[if_neg hl];show (zf m (ql _ _)).kind=_;rw[qG];split
    ·rename_i e;have e:(zf s.ino w.fs.xs).ino=m:=e;rw[hx.2.2]at e;subst e;rfl
    ·exact (ju hs.has).1
  by_cases hl:(zf s.ino w.fs.xs).links=1
  ·rw[if_pos hl]at hI ⊢;have hhp:∀ m,zk m (ql { zf s.ino w.fs.xs with links:=0,parent:=0 } w.pool)=(decide (s.ino=m)||zk m w.pool):=fun m=>by
    rw[qN];show (decide ((zf s.ino w.fs.xs).ino=m)||_)=_;rw[hx.2.2]
   refine ⟨hr,fun x hxx=>?_,fun k hk=>?_,fun k hk=>?_⟩
   ·have ha:=(hI.apart x hxx).1;rcases qq.1 hxx with rfl | ⟨hxp,_⟩
    ·have hir:=hi.fs.ino _ hx.2.1;refine ⟨ha,hir.1,by show _<(zF w.fs s).next;rw[J1];exact hir.2,rfl,rfl,he,hi.fs.kind (zf s.ino w.fs.xs) hx.2.1,hnd.bare,hnd.lnk,?_⟩;rw[List.any_eq_true];refine ⟨_,Jw.2 (.inl rfl),?_⟩;show (decide (s.ino=(zf s.ino w.fs.xs).ino)&&!false)=true;rw[hx.2.2];simp
    ·exact U8 (h.pool x hxp) ha (by show w.fs.next<=(zF w.fs s).next;rw[J1];exact Int.le_refl _) fun k hk=>Jw.2 (.inr hk)
   ·rcases Jw.1 hk with rfl | hk
    ·exact h1
    ·exact h.slots k hk
   ·rcases Jw.1 hk with rfl | hk
    ·exact ⟨h2,.inr (by show zk s.ino _=true;rw[hhp];simp),fun q=>(by cases q),fun _=>rfl⟩
    ·obtain ⟨q1,q2,q3,q4⟩:=h.kept k hk;refine ⟨q1,?_,fun hc=>?_,q4⟩
     ·show zk k.ino (zF w.fs s).xs=true∨zk k.ino _=true;rw[hhp,hhas,if_pos (by omega)];by_cases e:k.ino=s.ino
      ·right;rw[e];simp
      ·rcases q2 with q2 | q2
       ·left;rw[q2,decide_eq_false e];rfl
       ·right;rw[q2,Bool.or_true]
     ·have:=q3 hc;show (if zk k.ino _=true then zf k.ino _ else zf k.ino (zF w.fs s).xs).kind=1;by_cases e:s.ino=k.ino
      ·rw[if_pos (by rw[hhp,decide_eq_true e];rfl),qG,if_pos (by rw[←e];exact hx.2.2)];rw[←e,hnp,if_neg (by simp)]at this;exact this
      ·rw[hhp,decide_eq_false e,Bool.false_or];have e5:zf k.ino (ql { zf s.ino w.fs.xs with links:=0,parent:=0 } w.pool)=zf k.ino w.pool:=by
        rw[qG];exact if_neg fun q=>e (hx.2.2.symm.trans q)
       rw[e5];by_cases hq:zk k.ino w.pool=true
       ·rw[if_pos hq]at this ⊢;exact this
       ·rw[if_neg hq]at this ⊢;have q5:=q2.resolve_right hq;rw[hgk _ (by rw[hhas,if_pos (by omega),q5,decide_eq_false (fun q=>e q.symm)];rfl)];exact this
  ·rw[if_neg hl]at hI ⊢;have hall:∀ m,zk m (zF w.fs s).xs=zk m w.fs.xs:=fun m=>by rw[hhas,if_neg (by omega)]
   refine ⟨hr,fun x hxx=>?_,fun k hk=>?_,fun k hk=>?_⟩
   ·exact U8 (h.pool x hxx) (hI.apart x hxx).1 (by show w.fs.next<=(zF w.fs s).next;rw[J1];exact Int.le_refl _) fun k hk=>Jw.2 (.inr hk)
   ·rcases Jw.1 hk with rfl | hk
    ·exact h1
    ·exact h.slots k hk
   ·rcases Jw.1 hk with rfl | hk
    ·exact ⟨h2,.inl (by show zk s.ino (zF w.fs s).xs=true;rw[hall];exact hh),fun q=>(by cases q),fun _=>rfl⟩
    ·obtain ⟨q1,q2,q3,q4⟩:=h.kept k hk;refine ⟨q1,?_,fun hc=>?_,q4⟩
     ·show zk k.ino (zF w.fs s).xs=true∨_;rw[hall];exact q2
     ·have:=q3 hc;show (if zk k.ino w.pool=true then zf k.ino w.pool else zf k.ino (zF w.fs s).xs).kind=1;by_cases hq:zk k.ino w.pool=true
      ·rw[if_pos hq]at this ⊢;exact this
      ·rw[if_neg hq]at this ⊢;rw[hgk _ (by rw[hall];exact q2.resolve_right hq)];exact this
theorem zgW {f:FsV} {i:Int} {t:List UInt8} (hh:zk i f.xs=true) (m:Int):zk m (XB f i t).xs=zk m f.xs/\(zf m (XB f i t).xs).kind=(zf m f.xs).kind:=by
 have hx:=zi hh;constructor
 ·show zk m (ql _ _)=_;rw[qN];show (decide ((zf i f.xs).ino=m)||_)=_;rw[hx.2.2];by_cases e:i=m
  ·subst e;rw[hh];simp
  ·simp[e]
 ·show (zf m (ql _ _)).kind=_;rw[qG];split
  ·rename_i e;have e:(zf i f.xs).ino=m:=e;rw[hx.2.2]at e;subst e;rfl
  ·rfl
theorem zd8 {w:qA} (hi:VT w) (h:vz w) {o:OpV} (ha:qH o.a=true) (hb:qH o.b=true) (h1:1<=o.slot) (h2:o.slot<=1073741824):vz (Ql w o).1:=by
 unfold Ql;by_cases z1:(jb w.fs o.a).2≠0
 ·rw[if_pos z1];exact h
 rw[if_neg z1];by_cases z2:(jb w.fs o.b).2≠0
 ·rw[if_pos z2];exact h
 rw[if_neg z2];by_cases z3:(jb w.fs o.a).1.ino=(jb w.fs o.b).1.ino
 ·rw[if_pos z3];exact h
 rw[if_neg z3];by_cases z4:(JF w o.slot (jb w.fs o.b).1.ino).2≠0
 ·rw[if_pos z4];exact h
 rw[if_neg z4];by_cases z5:(km w.fs (jb w.fs o.b).1.ino (jb w.fs o.a).1.data).2≠0
 ·rw[if_pos z5];exact h
 rw[if_neg z5];obtain ⟨f1,f2,f3⟩:=U3 hi.fs hb (Classical.not_not.1 z2);generalize (jb w.fs o.b).1.ino=i at *;generalize (jb w.fs o.a).1.data=t at *;have hk1:(zf i w.fs.xs).kind=1:=by rw[←f3];exact f2
 have hnp:zk i w.pool=false:=by
  rw[Bool.eq_false_iff];intro hq;have:=(hi.apart _ (zi hq).2.1).1;rw[(zi hq).2.2,f1]at this;cases this
 have e1:(JF w o.slot i).1 = { w with kept:=qC ⟨o.slot,i,true,(zf i w.fs.xs).data⟩ w.kept }:=by
  unfold JF at z4 ⊢;split
  ·rename_i hq;rw[if_pos hq]at z4;exact absurd (show (13:Int)≠0 by decide) z4
  ·rfl
 have hr:Zx w.fs 0 ((t.length:Int)-(zf i w.fs.xs).data.length)=true:=by
  unfold km at z5;cases hq:Zx w.fs 0 ((t.length:Int)-(zf i w.fs.xs).data.length) with
  | true=>rfl
  | false=>rw[hq,if_neg (by simp)]at z5;exact absurd (show (8:Int)≠0 by decide) z5
 have e2:(km w.fs i t).1=XB w.fs i t:=by unfold km;rw[if_pos hr]
 rw[e1,e2];show vz ⟨XB w.fs i t,qC ⟨o.slot,i,true,(zf i w.fs.xs).data⟩ w.kept,w.pool⟩;have hg:=zgW (t:=t) f1;refine ⟨zou hi.fs h.fs f1 hk1 hr,fun x hx=>?_,fun k hk=>?_,fun k hk=>?_⟩
 ·exact U8 (h.pool x hx) (by show zk x.ino (XB w.fs i t).xs=false;rw[(hg _).1];exact (hi.apart x hx).1) (Int.le_refl _) fun k hk=>Jw.2 (.inr hk)
 ·rcases Jw.1 hk with rfl | hk
  ·exact h1
  ·exact h.slots k hk
 ·rcases Jw.1 hk with rfl | hk
  ·refine ⟨h2,.inl (by show zk i (XB w.fs i t).xs=true;rw[(hg _).1];exact f1),fun _=>?_,fun q=>(by cases q)⟩;show (if zk i w.pool=true then zf i w.pool else zf i (XB w.fs i t).xs).kind=1;rw[hnp,if_neg (by simp),(hg i).2];exact hk1
  ·obtain ⟨q1,q2,q3,q4⟩:=h.kept k hk;refine ⟨q1,?_,fun hc=>?_,q4⟩
   ·show zk k.ino (XB w.fs i t).xs=true∨_;rw[(hg _).1];exact q2
   ·have:=q3 hc;show (if zk k.ino w.pool=true then zf k.ino w.pool else zf k.ino (XB w.fs i t).xs).kind=1;by_cases hq:zk k.ino w.pool=true
    ·rw[if_pos hq]at this ⊢;exact this
    ·rw[if_neg hq]at this ⊢;rw[(hg _).2];exact this
end
section
theorem zkv {f:FsV} (hf:FsI f) {p:List UInt8} (hp:qH p=true) {b:Bool} (h:(isV f p b).2.2=0):may (isV f p b).1.name=true:=by
 have h1:=(zh8 hf hp (ZT h)).2.2.2;unfold qH J5 at hp;simp only[Bool.and_eq_true]at hp;exact List.all_eq_true.1 hp.1.2 _ h1
theorem zjJ {o:OpV} (h:NC o=true):(Nh o.kind=true->1<=o.slot/\o.slot<=1073741824)/\(o.kind=4->XY o.d=true)/\(o.kind=6->Qz o.b o.a=false):=by
 unfold NC at h;simp only[Bool.and_eq_true,decide_eq_true_eq]at h;obtain ⟨⟨⟨⟨⟨⟨h1,h2⟩,h3⟩,h4⟩,h5⟩,h6⟩,h7⟩:=h;refine ⟨fun q=>?_,fun q=>?_,fun q=>?_⟩
 ·rw[if_pos q]at h4;simpa using h4
 ·rw[if_pos q]at h6;exact h6
 ·rw[decide_eq_true q]at h7;simp at h7;exact h7.2
theorem zcY {t:List UInt8} (h:XY t=true):1<=t.length/\t.length<=4095/\∀ b∈t,b≠0:=by
 unfold XY at h;simp only[Bool.and_eq_true,Bool.not_eq_true',decide_eq_false_iff_not,decide_eq_true_eq]at h;obtain ⟨⟨h1,h2⟩,h3⟩:=h;refine ⟨List.length_pos_iff.2 h1,h2,fun b hb e=>?_⟩;rw[List.any_eq_false]at h3;exact h3 b hb (by simpa using e)
theorem zjz {f:FsV} {s:zR} (hs:YY f s) {i:Int} (hh:zk i f.xs=true) (m:Int):zk m (UW f s i).xs=zk m f.xs/\(zf m (UW f s i).xs).kind=(zf m f.xs).kind:=by
 have hx:=zi hh;constructor
 ·show zk m (ql _ _)=_;rw[qN,zS hs.has];show (decide ((zf i f.xs).ino=m)||_)=_;rw[hx.2.2];by_cases e:i=m
  ·subst e;rw[hh];simp
  ·simp[e]
 ·show (zf m (ql _ _)).kind=_;rw[qG];split
  ·rename_i e;have e:(zf i f.xs).ino=m:=e;rw[hx.2.2]at e;subst e;rfl
  ·exact (ju hs.has).1
theorem zhh {f:FsV} (hi:FsI f) {a b:zR} (ha:zQ f a) (hb:YY f b) (m:Int):zk m (YL f a b).xs=zk m f.xs/\(zf m (YL f a b).xs).kind=(zf m f.xs).kind:=by
 have hb1:zk b.dir (qp a.dir (zj a.name) f.xs)=true:=by rw[zS ha.has];exact hb.has
 have hh:∀ m,zk m (qp b.dir (zY b.name a.ino) (qp a.dir (zj a.name) f.xs))=zk m f.xs:=fun m=>by rw[zS hb1,zS ha.has]
 have hg:=zcO ha hb;unfold YL;simp only;generalize qp b.dir (zY b.name a.ino) (qp a.dir (zj a.name) f.xs)=g at hh hg;split
 ·have hx:=zi (show zk a.ino g=true by rw[hh];exact zQ.ino hi ha);constructor
  ·show zk m (ql _ _)=_;rw[qN];show (decide ((zf a.ino g).ino=m)||_)=_;rw[hx.2.2,hh];by_cases e:a.ino=m
   ·subst e;rw[zQ.ino hi ha];simp
   ·simp[e]
  ·show (zf m (ql _ _)).kind=_;rw[qG];split
   ·rename_i e;have e:(zf a.ino g).ino=m:=e;rw[hx.2.2]at e;subst e;exact (hg _).1
   ·exact (hg m).1
 ·exact ⟨hh m,(hg m).1⟩
theorem zsL {w:qA} (hi:VT w) (h:vz w) (o:OpV) (hk7:o.kind<=7):vz (doV w o).1:=by
 unfold doV;cases hm:NC o with
 | false=>exact h
 | true =>
  obtain ⟨p1,p2,k1,_⟩:=YR hm;obtain ⟨m1,m2,m3⟩:=zjJ hm;rw[if_neg (by simp)];by_cases h1:o.kind=1
  ·rw[if_pos h1];exact zeR hi h p1 (.inr (.inl rfl)) (fun _=>rfl) (fun q=>by cases q)
  rw[if_neg h1];by_cases h2:o.kind=2
  ·rw[if_pos h2];unfold Va;split
   ·exact h
   ·exact zeR hi h (p2 (by rw[h2];rfl)) (.inl rfl) (fun q=>by cases q) (fun q=>by cases q)
  rw[if_neg h2];by_cases h3:o.kind=3
  ·rw[if_pos h3];obtain ⟨q1,q2⟩:=m1 (by rw[h3];rfl);exact zd8 hi h p1 (p2 (by rw[h3];rfl)) q1 q2
  rw[if_neg h3];by_cases h4:o.kind=4
  ·rw[if_pos h4];exact zeR hi h p1 (.inr (.inr rfl)) (fun q=>by cases q) (fun _=>zcY (m2 h4))
  rw[if_neg h4];by_cases h5:o.kind=5
  ·rw[if_pos h5];have pb:=p2 (by rw[h5];rfl);unfold Z7;simp only;by_cases z1:(isV w.fs o.a true).2.2≠0
   ·rw[if_pos z1];exact h
   rw[if_neg z1];obtain ⟨ht,hn⟩:=jG hi.fs p1 (Classical.not_not.1 z1);by_cases z2:(isV w.fs o.a true).2.1.kind=2
   ·rw[if_pos z2];exact h
   rw[if_neg z2];by_cases z3:(isV w.fs o.b false).2.2≠0
   ·rw[if_pos z3];exact h
   rw[if_neg z3];have z3:=Classical.not_not.1 z3;have hf:=J9 hi.fs pb z3;have hh:=zQ.ino hi.fs ht;rw[hn]at z2 ⊢;rw[(zi hh).2.2];have hg:=zjz hf hh;exact zrn h (zp3 hi.fs h.fs hf (zkv hi.fs pb z3) hh z2) (Int.le_refl _) (fun x hx=>by rw[(hg _).1];exact (hi.apart x hx).1) fun m hmm=>⟨by rw[(hg _).1];exact hmm,(hg _).2⟩
  rw[if_neg h5];by_cases h6:o.kind=6
  ·rw[if_pos h6];have pb:=p2 (by rw[h6];rfl);unfold JX;by_cases z1:(isV w.fs o.a true).2.2≠0
   ·rw[if_pos z1];exact h
   rw[if_neg z1];by_cases z3:(isV w.fs o.b false).2.2≠0
   ·rw[if_pos z3];exact h
   rw[if_neg z3];have z1:=Classical.not_not.1 z1;have z3:=Classical.not_not.1 z3;have ht:=(jG hi.fs p1 z1).1;have hf:=J9 hi.fs pb z3;have hg:=zhh hi.fs ht hf;refine zrn h (zo0 hi.fs h.fs ht hf (zkv hi.fs pb z3) fun hk=>zeb hi.fs h.fs p1 pb z1 z3 (m3 h6) hk) ?_ (fun x hx=>by rw[(hg _).1];exact (hi.apart x hx).1) fun m hmm=>⟨by rw[(hg _).1];exact hmm,(hg _).2⟩;unfold YL;simp only;split<;>exact Int.le_refl _
  rw[if_neg h6];have h7:o.kind=7:=by omega
  obtain ⟨q1,q2⟩:=m1 (by rw[h7];rfl);unfold qM;simp only;by_cases z1:(isV w.fs o.a true).2.2≠0
  ·rw[if_pos z1];exact h
  rw[if_neg z1];obtain ⟨ht,hn⟩:=jG hi.fs p1 (Classical.not_not.1 z1);by_cases z2:(isV w.fs o.a true).2.1.es≠[]
  ·rw[if_pos z2];exact h
  rw[if_neg z2];exact zo6 hi h q1 q2 ht (by rw[←hn];exact Classical.not_not.1 z2)
theorem UK (w:qA) (p:List UInt8) (k:Int) (t:List UInt8):(Vq w p k t).1.fs.next<=w.fs.next+1:=by
 unfold Vq;split
 ·show w.fs.next<=_;omega
 ·show (zcG w.fs (isV w.fs p false).1 k t).1.next<=_;rcases Qb w.fs (isV w.fs p false).1 k t with e | e
  ·rw[e];omega
  ·rw[e];exact Int.le_refl _
theorem zmS (w:qA) (o:OpV):(doV w o).1.fs.next<=w.fs.next+1:=by
 have h0:w.fs.next<=w.fs.next+1:=by omega
 unfold doV;split
 ·exact h0
 split
 ·exact UK ..
 split
 ·unfold Va;split
  ·exact h0
  ·exact UK ..
 split
 ·unfold Ql;split
  ·exact h0
  split
  ·exact h0
  split
  ·exact h0
  split
  ·exact h0
  split
  ·exact h0
  ·show (km w.fs _ _).1.next<=_;unfold km;split<;>exact h0
 split
 ·exact UK ..
 split
 ·unfold Z7;simp only;split
  ·exact h0
  split
  ·exact h0
  split
  ·exact h0
  ·exact h0
 split
 ·unfold JX;split
  ·exact h0
  split
  ·exact h0
  ·show (YL w.fs _ _).next<=_;unfold YL;simp only;split<;>exact h0
 ·unfold qM;simp only;split
  ·exact h0
  split
  ·exact h0
  ·unfold Xi;split
   ·exact h0
   ·show (zF w.fs _).next<=_;rw[J1];exact h0
end
section
inductive zik (w:qA):List OpV->qA->Prop
 | nil:zik w [] w
 | snoc {l:List OpV} {v:qA} {o:OpV}:zik w l v->(doV v o).2=0->zik w (l++[o]) (doV v o).1
structure zs6 (w:qA) (d:qd):Prop where
 run:zik w d.ops d.w
 may:∀ o∈d.ops,NC o=true/\o.kind<=7
 rise:(zj3 d.ops).Pairwise (· < ·)
 over:∀ s∈zj3 d.ops,j7 w.kept<s/\s<=d.slot
 last:j7 w.kept<=d.slot
 stat:(d.status=1)↔d.diags≠[]
 right:vz d.w
end
section
def zbv (p:List UInt8):OpV:=⟨7,0,p,[],[]⟩
structure zs8 (f g:FsV):Prop where
 es:∀ n e,e∈(zf n g.xs).es->e∈(zf n f.xs).es
 has:∀ n,zk n g.xs=true->zk n f.xs=true/\(zf n g.xs).kind=(zf n f.xs).kind
end
section
open CA CB
open Go.RowKit
theorem zmP (w:qA) (hw:VT w) (hs:zj7 w) (s:Int) (a:List UInt8) (ha:a.length<=1000000):Fun Tryz.prog GD 129 [Qv w,.agg (opL ⟨7,s,a,[],[]⟩)] (.tup [Qv (doV w ⟨7,s,a,[],[]⟩).1,.sc (.int .i64 (doV w ⟨7,s,a,[],[]⟩).2)]) 0:=by
 have ho:zar ⟨7,s,a,[],[]⟩:=⟨ha,Nat.zero_le _,Nat.zero_le _⟩;have hop:=(MU 7 s a [] [] ho).gd1;cases hm:NC ⟨7,s,a,[],[]⟩ with
 | false =>
  have e:doV w ⟨7,s,a,[],[]⟩=(w,12):=by unfold doV;rw[hm];rfl
  rw[hm]at hop;rw[e];unfold opL qP at hop;unfold opL;refine fof (fun i=>if i=3 then [false,false,false,false,false,false,false,false,false,true] else []) Tryz.func129 ?_;dsimp only[Tryz.f129];push_cast -dsimp;refine cl (hop) ?_;push_cast -dsimp;exact dn (by push_cast -dsimp [ze,zd,CLe,zg])
 | true =>
  obtain ⟨p1,_⟩:=YR hm;have e:doV w ⟨7,s,a,[],[]⟩=qM w ⟨7,s,a,[],[]⟩:=by unfold doV;rw[hm];rfl
  have hq:Fun Tryz.prog GD 213 _ _ 0:=(zfz w hw hs ⟨7,s,a,[],[]⟩ ho p1).g0;rw[hm]at hop;rw[e];unfold opL qP at hop;unfold opL at hq ⊢;refine fof (fun i=>if i=3 then [false,false,false,false,false,false,false,false,false,true] else []) Tryz.func129 ?_;dsimp only[Tryz.f129];push_cast -dsimp;refine cl (hop) ?_;push_cast -dsimp;refine cl (xd (G:=GD)) ?_;push_cast -dsimp [zjF,kx,reduceIte,Int.reduceEq,Option.map_some,Option.map_none];refine cl (hq) ?_;push_cast -dsimp;exact dn (by push_cast -dsimp [ze,zd,CLe,zg])
theorem znZ (d:qd) (hd:N5 d) (p:List UInt8) (hp:p.length<=1000000):Fun Tryz.prog GD 75 [kG d,.agg (opL (zbv p))] (.tup [kG (VZ d (zbv p)).1,.sc (.int .i64 (VZ d (zbv p)).2)]) 0:=by
 have hsl:=VB (G:=GD) ⟨7,0,p,[],[]⟩;rw[decide_eq_true (show (7:Int)=3∨(7:Int)=7 by decide)]at hsl;have hb1:=hd.slot.1;have hb2:=hd.slot.2;have hopl:(d.ops.map opL).length=d.ops.length:=List.length_map ..;have hol:=hd.ops;have hl5:∀ l:List OpV,∀ r∈l.map opL,r.length=5:=fun l r hr=>by obtain ⟨x,_,rfl⟩:=List.mem_map.1 hr;rfl
 have hst:∀ l:List OpV,jd (l.map opL):=fun l r hr=>by obtain ⟨x,_,rfl⟩:=List.mem_map.1 hr;rfl
 have hX:=MV (G:=GD) (d.ops.map opL) (([⟨7,d.slot+1,p,[],[]⟩]:List OpV).map opL) (hl5 _) (hl5 _) (hst _) (hst _) (by omega) (by simp) (by simp);rw[←List.map_append]at hX;have hc:=(hX.fun (r:=.own 0 79 5 ((d.ops++([⟨7,d.slot+1,p,[],[]⟩]:List OpV)).map opL)) (n:=1) (by
  rintro r bx m ⟨rfl,c,B,hB,rfl,rfl⟩;exact ⟨[(0,79,5,(d.ops++([⟨7,d.slot+1,p,[],[]⟩]:List OpV)).map opL,c)],[.inl 0],hB.ok rfl (by simp) (hl5 _),rfl,rfl,by push_cast -dsimp [ze,zd,CLe,zg,List.length_map]⟩)).weak (r':=.sl 5 ((d.ops++([⟨7,d.slot+1,p,[],[]⟩]:List OpV)).map opL)) (by push_cast -dsimp [ze,zd,CLe,zg])
 have hdo:=zmP d.w hd.wi hd.ws (d.slot+1) p hp;have ea:VZ d (zbv p)=if (doV d.w ⟨7,d.slot+1,p,[],[]⟩).2≠0 then (d,(doV d.w ⟨7,d.slot+1,p,[],[]⟩).2) else (⟨(doV d.w ⟨7,d.slot+1,p,[],[]⟩).1,d.ops++[⟨7,d.slot+1,p,[],[]⟩],d.diags,d.status,if 0<d.slot+1 then d.slot+1 else d.slot⟩,0):=by
  unfold VZ;rw[if_neg (show ¬7<(zbv p).kind by show ¬(7:Int)<7;decide),show Vf d (zbv p)=⟨7,d.slot+1,p,[],[]⟩ from rfl]
 have hmx:(if d.slot+1>d.slot then d.slot+1 else d.slot)=d.slot+1:=if_pos (by omega);unfold opL at hsl hdo;rw[show opL (zbv p) = [.sc (.int .i64 7),.sc (.int .i64 0),.str p,.str [],.str []] from rfl];by_cases hz:(doV d.w ⟨7,d.slot+1,p,[],[]⟩).2=0
 ·rw[ea,if_neg (fun h=>h hz),if_pos (show 0<d.slot+1 by omega)];rw[hz]at hdo;simp only[List.map_cons,List.map_nil,zoy]at hc;refine fon Tryz.func75 ?_;dsimp only[Tryz.f75];push_cast -dsimp;refine cl (hsl) ?_;push_cast -dsimp
  repeat refine an ?_
  push_cast -dsimp;refine cl (hdo) ?_;push_cast -dsimp;refine cl (hc) ?_;push_cast -dsimp [hmx];exact dn (by push_cast -dsimp [ze,zd,CLe,zg])
 ·have hz':=eq_false hz;rw[ea,if_pos hz];refine fon Tryz.func75 ?_;dsimp only[Tryz.f75];push_cast -dsimp;refine cl (hsl) ?_;push_cast -dsimp
  repeat refine an ?_
  push_cast -dsimp;refine cl (hdo) ?_;push_cast -dsimp [hz'];exact dn (by push_cast -dsimp [ze,zd,CLe,zg])
end
section
abbrev XJ:=List (List UInt8)
def onL (f:FsV) (follow:Bool) (lk:zm->zm->XJ->Bool->zR×Int):XJ->zR->Bool->zR×Int
 | [],s,dir=>if zk s.ino f.xs=true/\dir=true/\(zf s.ino f.xs).kind≠2 then (jE,3) else (s,0)
 | n :: r,s,dir =>
  if s.ino=0 then (jE,1)
  else if (zf s.ino f.xs).kind≠2 then (jE,3)
  else if n = [46] then onL f follow lk r ⟨0,[],(zf s.ino f.xs).ino⟩ dir
  else if n = [46,46] then onL f follow lk r ⟨0,[],(zf s.ino f.xs).parent⟩ dir
  else if Zu n (zf s.ino f.xs).es=false∨(zf (qh n (zf s.ino f.xs).es) f.xs).kind≠3∨(r = []/\follow=false/\dir=false) then
   onL f follow lk r ⟨(zf s.ino f.xs).ino,n,qh n (zf s.ino f.xs).es⟩ dir
  else lk (zf (qh n (zf s.ino f.xs).es) f.xs) (zf s.ino f.xs) r dir
def jv (p:List UInt8):Bool:=!decide (zE p = [])&&Lib.hasSuffix p [47]
def zai (p:List UInt8):Bool:=Lib.hasPrefix p [47]
def onN (f:FsV) (follow:Bool):Nat->XJ->zR->Bool->zR×Int
 | 0=>onL f follow fun _ _ _ _=>(jE,6)
 | k+1=>onL f follow fun x d r dir=>if V0 x.data then (jE,7) else onN f follow k (zE x.data++r) ⟨0,[],if zai x.data then 1 else d.ino⟩ (dir||(jv x.data&&decide (r = [])))
def Qr (f:FsV) (b:List UInt8):Int×Int:=
 if (atV f b).2≠0 then (0,(atV f b).2) else if (atV f b).1.ino=0 then (0,1) else if (zf (atV f b).1.ino f.xs).kind≠2 then (0,3) else ((zf (atV f b).1.ino f.xs).ino,0)
def JL (f:FsV) (p:List UInt8):zm×Int:=if (atV f p).2≠0 then (uX,(atV f p).2) else if (atV f p).1.ino=0 then (uX,1) else (zf (atV f p).1.ino f.xs,0)
def zI (f:FsV) (b p:List UInt8) (follow:Bool):zR×Int:=
 if p = [] then (jE,1) else if V0 p then (jE,7)
 else if zai p then onN f follow 40 (zE p) ⟨0,[],1⟩ (jv p)
 else if (Qr f b).2≠0 then (jE,(Qr f b).2) else onN f follow 40 (zE p) ⟨0,[],(Qr f b).1⟩ (jv p)
def zmG (f:FsV) (s:zR):Prop:=s.name = []∨(zk s.dir f.xs=true/\(zf s.dir f.xs).kind=2/\s.ino=qh s.name (zf s.dir f.xs).es)
theorem ZG {xs:List zm} {n:Int} (h:(zf n xs).kind=2):zk n xs=true:=by
 cases hh:zk n xs with
 | true=>rfl
 | false=>rw[(J8 hh).2]at h;exact absurd h (by decide)
theorem UD {f:FsV} {P:zR->Prop} {Q:Int->Prop} (hp:∀ m,Q m->P ⟨0,[],m⟩) (hq:∀ m,(zf m f.xs).kind=2->Q m/\Q (zf m f.xs).parent) (hn:∀ m n,(zf m f.xs).kind=2->P ⟨m,n,qh n (zf m f.xs).es⟩)
  {follow:Bool} {lk:zm->zm->XJ->Bool->zR×Int} (hl:∀ x m r dir,(zf m f.xs).kind=2->(lk x (zf m f.xs) r dir).2=0->P (lk x (zf m f.xs) r dir).1):∀ (l:XJ) (s:zR) (dir:Bool),P s->(onL f follow lk l s dir).2=0->P (onL f follow lk l s dir).1
 | [],s,dir,hs,h=>by
  unfold onL at h ⊢;split at h
  ·exact absurd h (show ¬(3:Int)=0 by decide)
  ·rename_i hn;rw[if_neg hn];exact hs
 | n :: r,s,dir,hs,h=>by
  unfold onL at h ⊢;by_cases h1:s.ino=0
  ·rw[if_pos h1]at h;exact absurd h (show ¬(1:Int)=0 by decide)
  rw[if_neg h1]at h ⊢;by_cases h2:(zf s.ino f.xs).kind=2
  case neg=>rw[if_pos h2]at h;exact absurd h (show ¬(3:Int)=0 by decide)
  rw[if_neg (fun q=>q h2)]at h ⊢;have e:=(zi (ZG h2)).2.2;by_cases h3:n = [46]
  ·rw[if_pos h3]at h ⊢;exact UD hp hq hn hl r _ dir (by rw[e];exact hp _ (hq _ h2).1) h
  rw[if_neg h3]at h ⊢;by_cases h4:n = [46,46]
  ·rw[if_pos h4]at h ⊢;exact UD hp hq hn hl r _ dir (hp _ (hq _ h2).2) h
  rw[if_neg h4]at h ⊢;split at h
  ·rename_i h5;rw[if_pos h5];exact UD hp hq hn hl r _ dir (by rw[e];exact hn _ _ h2) h
  ·rename_i h5;rw[if_neg h5];exact hl _ _ _ _ h2 h
theorem vR {f:FsV} {P:zR->Prop} {Q:Int->Prop} (hp:∀ m,Q m->P ⟨0,[],m⟩) (h1:Q 1) (hq:∀ m,(zf m f.xs).kind=2->Q m/\Q (zf m f.xs).parent) (hn:∀ m n,(zf m f.xs).kind=2->P ⟨m,n,qh n (zf m f.xs).es⟩) {follow:Bool}:∀ (k:Nat) (l:XJ) (s:zR) (dir:Bool),P s->(onN f follow k l s dir).2=0->P (onN f follow k l s dir).1
 | 0,l,s,dir,hs,h=>UD hp hq hn (fun _ _ _ _ _ h=>absurd h (show ¬(6:Int)=0 by decide)) l s dir hs h
 | k+1,l,s,dir,hs,h=>UD hp hq hn (fun x m r dir h2 h=>by
   split at h
   ·exact absurd h (show ¬(7:Int)=0 by decide)
   ·rename_i hg;rw[if_neg hg];refine vR hp h1 hq hn k _ _ _ (hp _ ?_) h;split
    ·exact h1
    ·rw[(zi (ZG h2)).2.2];exact (hq _ h2).1) l s dir hs h
theorem zid {f:FsV} {P:zR->Prop} {Q:Int->Prop} (hp:∀ m,Q m->P ⟨0,[],m⟩) (h1:Q 1) (hq:∀ m,(zf m f.xs).kind=2->Q m/\Q (zf m f.xs).parent) (hn:∀ m n,(zf m f.xs).kind=2->P ⟨m,n,qh n (zf m f.xs).es⟩) {b p:List UInt8} {follow:Bool} (h:(zI f b p follow).2=0):P (zI f b p follow).1:=by
 unfold zI at h ⊢;by_cases a:p = []
 ·rw[if_pos a]at h;exact absurd h (show ¬(1:Int)=0 by decide)
 rw[if_neg a]at h ⊢;by_cases c:V0 p=true
 ·rw[if_pos c]at h;exact absurd h (show ¬(7:Int)=0 by decide)
 rw[if_neg c]at h ⊢;by_cases e:zai p=true
 ·rw[if_pos e]at h ⊢;exact vR hp h1 hq hn _ _ _ _ (hp _ h1) h
 rw[if_neg e]at h ⊢;by_cases g:(Qr f b).2≠0
 ·rw[if_pos g]at h;exact absurd h g
 rw[if_neg g]at h ⊢;refine vR hp h1 hq hn _ _ _ _ (hp _ ?_) h;have g:=Classical.not_not.1 g;unfold Qr at g ⊢;by_cases i:(atV f b).2≠0
 ·rw[if_pos i]at g;exact absurd g i
 rw[if_neg i]at g ⊢;by_cases j:(atV f b).1.ino=0
 ·rw[if_pos j]at g;exact absurd g (show ¬(1:Int)=0 by decide)
 rw[if_neg j]at g ⊢;by_cases k:(zf (atV f b).1.ino f.xs).kind=2
 ·rw[if_neg (fun q=>q k)];show Q (zf _ f.xs).ino;rw[(zi (ZG k)).2.2];exact (hq _ k).1
 ·rw[if_pos k]at g;exact absurd g (show ¬(3:Int)=0 by decide)
theorem Mn {f:FsV} {b p:List UInt8} {follow:Bool} (h:(zI f b p follow).2=0):zmG f (zI f b p follow).1:=
 zid (P:=zmG f) (Q:=fun _=>True) (fun _ _=>.inl rfl) trivial (fun _ _=>⟨trivial,trivial⟩) (fun m n h=>.inr ⟨ZG h,h,rfl⟩) h
def lkN (f:FsV) (follow:Bool):Nat->zm->zm->XJ->Bool->zR×Int
 | 0=>fun _ _ _ _=>(jE,6)
 | k+1=>fun x d r dir=>if V0 x.data then (jE,7) else onN f follow k (zE x.data++r) ⟨0,[],if zai x.data then 1 else d.ino⟩ (dir||(jv x.data&&decide (r = [])))
theorem Ny (f:FsV) (follow:Bool) (k:Nat):onN f follow k=onL f follow (lkN f follow k):=by cases k<;>rfl
theorem X7 (f:FsV) (follow:Bool) (k:Nat) (x d:zm) (r:XJ) (dir:Bool):lkN f follow (k+1) x d r dir=if V0 x.data then (jE,7) else onN f follow k (zE x.data++r) ⟨0,[],if zai x.data then 1 else d.ino⟩ (dir||(jv x.data&&decide (r = []))):=rfl
end
section
open Go.RowKit
section
variable {G:zp}
end
end
section
open Go.RowKit
theorem XH {f:FsV} (hs:FsS f) {follow:Bool} {lk:zm->zm->XJ->Bool->zR×Int} (hl:∀ x d r dir,x.data.length<=10000->(∀ y∈r,y.length<=100000)->(lk x d r dir).1.name.length<=100000):∀ (l:XJ) (s:zR) (dir:Bool),(∀ y∈l,y.length<=100000)->s.name.length<=100000->(onL f follow lk l s dir).1.name.length<=100000
 | [],s,dir,hy,h=>by
  unfold onL;split
  ·exact Nat.zero_le _
  ·exact h
 | n :: r,s,dir,hy,h=>by
  have hr:∀ y∈r,y.length<=100000:=fun y q=>hy y (List.mem_cons_of_mem _ q);unfold onL;split
  ·exact Nat.zero_le _
  split
  ·exact Nat.zero_le _
  split
  ·exact XH hs hl r _ dir hr (Nat.zero_le _)
  split
  ·exact XH hs hl r _ dir hr (Nat.zero_le _)
  split
  ·exact XH hs hl r _ dir hr (hy n List.mem_cons_self)
  ·rename_i hq;refine hl _ _ _ _ ?_ hr;have hk3:(zf (qh n (zf s.ino f.xs).es) f.xs).kind=3:=Classical.not_not.1 fun q=>hq (.inr (.inl q));have hhx:zk (qh n (zf s.ino f.xs).es) f.xs=true:=by
    cases hq2:zk (qh n (zf s.ino f.xs).es) f.xs with
    | true=>rfl
    | false=>rw[(J8 hq2).2]at hk3;exact absurd hk3 (by decide)
   exact (hs.node _ (zi hhx).2.1).2.1
theorem kr {f:FsV} (hs:FsS f) {follow:Bool}:∀ (k:Nat) (l:XJ) (s:zR) (dir:Bool),(∀ y∈l,y.length<=100000)->s.name.length<=100000->(onN f follow k l s dir).1.name.length<=100000
 | 0,l,s,dir,hy,h=>XH hs (fun _ _ _ _ _ _=>Nat.zero_le _) l s dir hy h
 | k+1,l,s,dir,hy,h=>XH hs (fun x d r dir hx hr=>by
   split
   ·exact Nat.zero_le _
   ·refine kr hs k _ _ _ (fun y q=>?_) (Nat.zero_le _);rcases List.mem_append.1 q with q | q
    ·have:=(XK x.data).2 y q;omega
    ·exact hr y q) l s dir hy h
theorem zaW {f:FsV} (hs:FsS f) (b p:List UInt8) (follow:Bool) (hp:p.length<=100000):(zI f b p follow).1.name.length<=100000:=by
 have hn:∀ y∈zE p,y.length<=100000:=fun y q=>by have:=(XK p).2 y q;omega
 unfold zI;split
 ·exact Nat.zero_le _
 split
 ·exact Nat.zero_le _
 split
 ·exact kr hs _ _ _ _ hn (Nat.zero_le _)
 split
 ·exact Nat.zero_le _
 ·exact kr hs _ _ _ _ hn (Nat.zero_le _)
def VX (x:zm):Bool:=decide (x.kind=3)&&decide (300<(x.data.length:Int))
def Zt (f:FsV) (b p:List UInt8):Bool:=!((f.xs.take 100).any VX)&&decide ((b.length:Int)<=1000)&&decide ((p.length:Int)<=5000)
theorem za3 (f:FsV) (b p:List UInt8):Fun Tryz.prog G0 36 [.agg (fsC f),.str b,.str p] (qP (Zt f b p)) 0:=by
 have hll:(zq f.xs).length=f.xs.length:=List.length_map ..;refine fon Tryz.func36 ?_;dsimp only[Tryz.f36];push_cast -dsimp;refine loop (fun i:Nat=>⟨[(1,.str b),(2,.str p),(3,.ptr 0 0),(7,.sc (.int .i64 i))],[fsC f],0,0⟩) (fun i=>i<=100/\∀ t (h:t<f.xs.length),t<i->VX f.xs[t]=false) (fun i=>100-i) 0 ⟨Nat.zero_le _,fun t h h'=>absurd h' (Nat.not_lt_zero _)⟩ ?_ ?_
 ·exact wk
 ·rintro i ⟨h1,h2⟩;have hend:¬(i<f.xs.length/\i<100)->(f.xs.take 100).any VX=false:=fun h=>by
   rw[List.any_eq_false];intro x hx;obtain ⟨t,ht,rfl⟩:=List.getElem_of_mem hx;rw[List.length_take]at ht;rw[List.getElem_take,h2 t (by omega) (by omega)];decide
  have stop:¬(i<f.xs.length/\i<100)->(decide ((b.length:Int)<=1000)&&decide ((p.length:Int)<=5000))=Zt f b p:=fun h=>by
   unfold Zt;rw[hend h];rfl
  by_cases h:i<f.xs.length
  ·by_cases h100:i<100
   ·have g1:=qU f.xs i h;have h100':(i:Int)<100:=by omega
    have hm:f.xs[i]∈f.xs.take 100:=by
     rw[List.mem_take_iff_getElem];exact ⟨i,by omega,rfl⟩
    have next:VX f.xs[i]=false->∀ t (h:t<f.xs.length),t<i+1->VX f.xs[t]=false:=fun q t ht hlt=>by
     rcases Nat.lt_or_ge t i with r | r
     ·exact h2 t ht r
     ·have:t=i:=by omega
      subst this;exact q
    by_cases hk:f.xs[i].kind=3
    ·by_cases hd:300<(f.xs[i].data.length:Int)
     ·have hn:Zt f b p=false:=by
       have:(f.xs.take 100).any VX=true:=List.any_eq_true.2 ⟨_,hm,by unfold VX;rw[decide_eq_true hk,decide_eq_true hd];rfl⟩;unfold Zt;rw[this];rfl
      push_cast -dsimp [hll,h,h100',g1,hk,hd]
      repeat refine an ?_
      exact dn (by push_cast -dsimp [ze,zd,CLe,zg,hn])
     ·have hq:VX f.xs[i]=false:=by unfold VX;rw[decide_eq_false hd,Bool.and_false]
      push_cast -dsimp [hll,h,h100',g1,hk,hd]
      repeat refine an ?_
      exact ⟨i+1,⟨by omega,next hq⟩,by omega,wk⟩
    ·have hq:VX f.xs[i]=false:=by unfold VX;rw[decide_eq_false hk,Bool.false_and]
     push_cast -dsimp [hll,h,h100',g1,hk]
     repeat refine an ?_
     exact ⟨i+1,⟨by omega,next hq⟩,by omega,wk⟩
   ·have h100':((i:Int)<100)=False:=eq_false (by omega);have:=(stop (by omega)).symm;by_cases hb:(b.length:Int)<=1000
    ·rw[decide_eq_true hb,Bool.true_and]at this;push_cast -dsimp [hll,h,h100',hb];exact dn (by push_cast -dsimp [ze,zd,CLe,zg,this])
    ·rw[decide_eq_false hb,Bool.false_and]at this;push_cast -dsimp [hll,h,h100',hb];exact dn (by push_cast -dsimp [ze,zd,CLe,zg,this])
  ·have:=(stop (by omega)).symm;by_cases hb:(b.length:Int)<=1000
   ·rw[decide_eq_true hb,Bool.true_and]at this;push_cast -dsimp [hll,h,hb];exact dn (by push_cast -dsimp [ze,zd,CLe,zg,this])
   ·rw[decide_eq_false hb,Bool.false_and]at this;push_cast -dsimp [hll,h,hb];exact dn (by push_cast -dsimp [ze,zd,CLe,zg,this])
end
section
theorem zlw {f:FsV} (hi:FsI f) (hr:FsR f) {n:Int} (hh:zk n f.xs=true) (hk:(zf n f.xs).kind=2):zk (zf n f.xs).parent f.xs=true:=by
 have g:=zi hh;by_cases h1:n=1
 ·rw[(hr.node _ g.2.1).top (by rw[g.2.2];exact h1)];exact hi.root
 ·have hl:=(hr.node _ g.2.1).named (by rw[g.2.2];exact h1);rw[FsR.links hi g.2.1,g.2.2]at hl;obtain ⟨p,hp⟩:=uJ (n:=n) (l:=qg f.xs) (by omega);obtain ⟨y,hy,e,he,q1,q2⟩:=Vh.1 hp;obtain ⟨rk,hed⟩:=hr.edge;have:=(hed y hy e he (by rw[q1];exact hk)).1;rw[q1]at this;rw[this];exact JP hy
end
section
def kU (xs:List zm):Prop:=∀ x∈xs,x.kind=3->x.data.length<=1000
theorem GX {xs:List zm} (h:kU xs) (n:Int):(zf n xs).kind=3->(zf n xs).data.length<=1000:=fun hk=>by
 cases hh:zk n xs with
 | true=>exact h _ (zi hh).2.1 hk
 | false=>rw[(J8 hh).2]at hk;exact absurd hk (by decide)
theorem ke {xs:List zm} {x:zm} (h:kU xs) (hx:x.kind=3->x.data.length<=1000):kU (ql x xs):=fun z hz hk=>by
 rcases zmI hz with rfl | hz
 ·exact hx hk
 ·exact h z hz hk
theorem vh {n:Int} {xs:List zm} (h:zk n xs=false):zf n xs=uX:=by unfold zf;rw[(J8 h).1];rfl
end
section
theorem UU {xs:List zm} (h:kU xs) (n:Int) (F:List zW->List zW):kU (qp n F xs):=ke h (GX h n)
theorem Gz {w:qA} (h:kU w.fs.xs) {p:List UInt8} {k:Int} {t:List UInt8} (ht:k=3->t.length<=1000):kU (Vq w p k t).1.fs.xs:=by
 unfold Vq;split
 ·exact h
 ·show kU (zcG _ _ _ _).1.xs;rcases Qb w.fs (isV w.fs p false).1 k t with e | e
  ·rw[e];exact h
  ·rw[e];exact ke (UU h _ _) ht
theorem zbR {f:FsV} (s:zR) (h:kU f.xs):kU (zF f s).xs:=by
 have hd:kU (qp s.dir (zj s.name) f.xs):=UU h _ _;unfold zF;split
 ·exact fun z hz hk=>hd z (YU.1 hz).1 hk
 ·exact ke hd (GX h s.ino)
theorem zjn {f:FsV} (a b:zR) (h:kU f.xs):kU (YL f a b).xs:=by
 have hd:=UU (UU h a.dir (zj a.name)) b.dir (zY b.name a.ino);unfold YL;simp only;split
 ·exact ke hd (GX hd a.ino)
 ·exact hd
theorem znW {w:qA} (h:kU w.fs.xs) (o:OpV) (hd:o.d.length<=1000) (h3:o.kind≠3):kU (doV w o).1.fs.xs:=by
 unfold doV;by_cases c0:(!NC o)=true
 ·rw[if_pos c0];exact h
 rw[if_neg c0];by_cases c1:o.kind=1
 ·rw[if_pos c1];exact Gz h fun q=>by cases q
 rw[if_neg c1];by_cases c2:o.kind=2
 ·rw[if_pos c2];unfold Va;split
  ·exact h
  ·exact Gz h fun q=>by cases q
 rw[if_neg c2,if_neg h3];by_cases c4:o.kind=4
 ·rw[if_pos c4];exact Gz h fun _=>hd
 rw[if_neg c4];by_cases c5:o.kind=5
 ·rw[if_pos c5];unfold Z7;simp only;split
  ·exact h
  split
  ·exact h
  split
  ·exact h
  ·exact ke (UU h _ _) (GX h _)
 rw[if_neg c5];by_cases c6:o.kind=6
 ·rw[if_pos c6];unfold JX;split
  ·exact h
  split
  ·exact h
  ·exact zjn _ _ h
 rw[if_neg c6];unfold qM;simp only;split
 ·exact h
 split
 ·exact h
 ·unfold Xi;split
  ·exact h
  ·exact zbR _ h
structure GrD (N:Nat) (d:qd):Prop where
 b:VM N d
 r:vz d.w
 next:d.w.fs.next<=549755813888+N
 dat:kU d.w.fs.xs
theorem xD.mono {N M:Nat} {w:qA} (h:xD N w) (hN:N<=M):xD M w:=by
 have key:∀ x,U9 N x->U9 M x:=fun x hx=>⟨Nat.le_trans hx.1 hN,hx.2⟩;exact ⟨Nat.le_trans h.len hN,fun x hx=>key x (h.node x hx),Nat.le_trans h.klen hN,h.kdata,Nat.le_trans h.plen hN,fun x hx=>key x (h.pnode x hx),by have:=h.next;omega,h.room⟩
theorem GrD.mono {N M:Nat} {d:qd} (h:GrD N d) (hN:N<=M):GrD M d:=
 ⟨⟨h.b.wi,h.b.wb.mono (by omega),Nat.le_trans h.b.ops hN,Nat.le_trans h.b.diags hN,h.b.slot.1,by have:=h.b.slot.2;omega⟩,h.r,by have:=h.next;omega,h.dat⟩
theorem GrD.add {N:Nat} {d:qd} (h:GrD N d) {o:OpV} (ho:o.d.length<=1000) (h3:o.kind≠3):GrD (N+1) (VZ d o).1:=by
 have hB:=zpa h.b (o:=o) (by omega);by_cases hz:(VZ d o).2=0
 case neg=>rw[MW hz]at hB ⊢;exact ⟨hB,h.r,by have:=h.next;omega,h.dat⟩
 unfold VZ at hz hB ⊢;split at hz
 ·exact absurd hz (show ¬(12:Int)=0 by decide)
 rename_i hk;rw[if_neg hk]at hB ⊢;split at hz
 ·rename_i hd;exact absurd hz hd
 rename_i hd;rw[if_neg hd]at hB ⊢;have hk7:(Vf d o).kind<=7:=by show o.kind<=7;omega
 have hn:=zmS d.w (Vf d o);have hx:=h.next;exact ⟨hB,zsL h.b.wi h.r _ hk7,by show (doV d.w (Vf d o)).1.fs.next<=_;omega,znW h.dat _ ho h3⟩
theorem GrD.tell {N:Nat} {d:qd} (h:GrD N d) (x:List UInt8):GrD (N+1) (YD d x):=by
 have hB:=h.b.up;exact ⟨⟨hB.wi,hB.wb,hB.ops,by show (d.diags++[x]).length<=N+1;rw[List.length_append,List.length_singleton];have:=h.b.diags;omega,hB.slot⟩,h.r,by have:=h.next;show d.w.fs.next<=_;omega,h.dat⟩
theorem GrD.ok {N:Nat} {d:qd} (h:GrD N d) (hN:N<=3200):okM d.w.fs:=
 ⟨⟨by have:=h.b.wb.len;omega,fun x hx=>by obtain ⟨q1,q2,q3⟩:=h.b.wb.node x hx;exact ⟨q2,by omega,q3⟩⟩,h.r.fs.check h.b.wi.fs (by have:=h.next;omega)⟩
theorem zke {w:qA} (h:okW w) (hd:kU w.fs.xs) (hn:w.fs.next<=549755813888) (hl:j7 w.kept<=536870912):GrD 0 (xf w):=
 ⟨⟨zrB h,zbD h,Nat.le_refl _,Nat.le_refl _,(Un h.2.2.2.2.1).1,by show j7 w.kept<=_;omega⟩,zrz h,by show w.fs.next<=_;omega,hd⟩
theorem um {f:FsV} (h:okM f) {s:zR} (hh:zk s.dir f.xs=true) (hk:(zf s.dir f.xs).kind=2) (hm:may s.name=true):(qx f s).length<=990000:=by
 obtain ⟨ns,n1,n2,n3,n4,n5⟩:=zkm h hh hk;have hml:=GP hm;have hjw:=XM ns;have hjl:(qO ns).length<=980001:=by unfold qO;split<;>simp<;>omega
 have e:qx f s=ki (qO ns) s.name:=by unfold qx;rw[n5];rfl
 have:=zeH (qO ns) s.name;rw[e];omega
theorem HL {f:FsV} {s:zR} (h:zmG f s) (hi:FsI f) (h0:zk s.ino f.xs=true) (hn:s.name≠[]):zQ f s:=by
 rcases h with h | ⟨h1,h2,h3⟩
 ·exact absurd h hn
 ·have h0:=Uq hi h0;refine ⟨h1,h2,?_⟩;have he:Zu s.name (zf s.dir f.xs).es=true:=by
   unfold Zu;rw[jB];cases hq:Jk zW.name s.name (zf s.dir f.xs).es with
   | some e=>rfl
   | none=>unfold qh at h3;rw[hq]at h3;exact absurd h3 h0
  rw[Y4 he,←h3]
theorem xy {f:FsV} (hr:FsR f) {s:zR} (hs:zQ f s):may s.name=true:=(hr.node _ (zi hs.has).2.1).nam ⟨s.name,s.ino⟩ (qy hs.there).2
end
section
def Hs (f:FsV) (b p:List UInt8):Bool:=decide ((zI f b p true).2=0)&&decide ((zf (zI f b p true).1.ino f.xs).kind=2)
def zfo (f:FsV) (b:List UInt8) (k:Int) (o p:List UInt8):Bool:=decide (k=3)&&decide ((110:UInt8)∈o)&&decide ((zI f b p false).2=0)&&decide ((zf (zI f b p false).1.ino f.xs).kind=3)
def zeo (f:FsV) (b:List UInt8) (k:Int) (o:List UInt8) (ops:List (List UInt8)):Bool:=
 !decide (ops.length<2)&&!decide ((84:UInt8)∈o)&&!zfo f b k o (ops.getLastD [])&&Hs f b (ops.getLastD [])
def Ja (f:FsV) (b:List UInt8) (k:Int) (o:List UInt8) (ops:List (List UInt8)):Option (List (List UInt8)):=
 if ops.length=1 then some [Q9 (ops.headD [])] else if zeo f b k o ops then some (ops.dropLast.map fun p=>ZQ (ops.getLastD []) (Q9 p))
 else if ops.length=2 then some [ops.getLastD []] else none
theorem vm (p:List UInt8):(Q9 p).length<=p.length+1:=by
 unfold Q9;rcases List.eq_nil_or_concat (zE p) with e | ⟨l,x,e⟩
 ·rw[e];show (if Lib.hasPrefix p [47] then [47] else ([]:List UInt8)).length<=_;split<;>simp
 ·have:=(XK p).2 x (by rw[e,List.concat_eq_append];simp);rw[e,List.concat_eq_append,List.getLastD_concat];omega
theorem zaU {f:FsV} {b:List UInt8} {k:Int} {o:List UInt8} {ops ps:List (List UInt8)} (h:Ja f b k o ops=some ps) (hp:∀ x∈ops,x.length<=1000):ps.length<=ops.length/\∀ x∈ps,x.length<=2003:=by
 have hl:(ops.getLastD []).length<=1000:=by
  rcases List.eq_nil_or_concat ops with e | ⟨l,x,e⟩
  ·rw[e];exact Nat.zero_le _
  ·rw[e,List.concat_eq_append,List.getLastD_eq_getLast?,List.getLast?_append];simp;exact hp x (by rw[e];simp)
 unfold Ja at h;split at h
 ·cases h;have hh:(ops.headD []).length<=1000:=by
   cases ops with
   | nil=>exact Nat.zero_le _
   | cons x r=>exact hp x List.mem_cons_self
  have:=vm (ops.headD []);exact ⟨by simp;omega,fun x hx=>by rw[List.mem_singleton.1 hx];omega⟩
 split at h
 ·cases h;refine ⟨by simp,fun x hx=>?_⟩;obtain ⟨y,hy,rfl⟩:=List.mem_map.1 hx;have h1:=hp y (List.dropLast_subset _ hy);have h2:=vm y;generalize ops.getLastD []=z at *;unfold ZQ;split<;>simp<;>omega
 split at h
 ·cases h;exact ⟨by simp;omega,fun x hx=>by rw[List.mem_singleton.1 hx];omega⟩
 ·cases h
def ud (xs:List zm):Nat->Int->Int->Bool
 | 0,_,_=>false
 | m+1,d,o=>if d=o then true else if d=1 then false else ud xs m (zf d xs).parent o
end
section
def mvS (f:FsV) (b u v:List UInt8):Option (Int×Int):=
 if (zI f b u false).2≠0 then some (11,(zI f b u false).2) else if zk (zI f b u false).1.ino f.xs=false then some (11,1) else if (zI f b u false).1.name = [] then some (15,10)
 else if (zI f b v false).2≠0 then some (15,(zI f b v false).2) else if (zI f b v false).1.name = [] then some (15,10) else none
def mvJ (f:FsV) (o:List UInt8) (a t:zR) (v:List UInt8):(Int×Int)×Bool:=
 if zk t.ino f.xs=true/\(110:UInt8)∈o then ((0,0),false)
 else if zk t.ino f.xs=true/\a.ino=t.ino then ((9,0),false)
 else if (zf a.ino f.xs).kind=2/\ud f.xs f.xs.length t.dir a.ino=true then ((14,0),false)
 else if zk t.ino f.xs=true then
  (if (zf a.ino f.xs).kind=2/\(zf t.ino f.xs).kind≠2 then ((12,0),false) else if (zf a.ino f.xs).kind≠2/\(zf t.ino f.xs).kind=2 then ((13,0),false) else ((15,5),decide ((zf t.ino f.xs).es = [])))
 else if jv v=true/\(zf a.ino f.xs).kind≠2 then ((15,3),false) else if may t.name=false then ((15,9),false) else ((0,0),true)
def XS (p q:List UInt8):OpV:=⟨6,0,p,q,[]⟩
def znJ (d:qd) (a t:zR):qd:=
 (VZ (if zk t.ino d.w.fs.xs then (VZ d (zbv (qx d.w.fs t))).1 else d) (XS (qx d.w.fs a) (qx d.w.fs t))).1
def ku (b o:List UInt8) (d:qd) (u v:List UInt8):qd:=
 match mvS d.w.fs b u v with
 | some e=>YD d (Xy 4 e.1 u v e.2)
 | none =>
  if (mvJ d.w.fs o (zI d.w.fs b u false).1 (zI d.w.fs b v false).1 v).2 then znJ d (zI d.w.fs b u false).1 (zI d.w.fs b v false).1
  else if (mvJ d.w.fs o (zI d.w.fs b u false).1 (zI d.w.fs b v false).1 v).1.1=0 then d
  else YD d (Xy 4 (mvJ d.w.fs o (zI d.w.fs b u false).1 (zI d.w.fs b v false).1 v).1.1 u v (mvJ d.w.fs o (zI d.w.fs b u false).1 (zI d.w.fs b v false).1 v).1.2)
def zk7 (b o:List UInt8) (l:List (List UInt8×List UInt8)) (d:qd):qd:=l.foldl (fun d p=>ku b o d p.1 p.2) d
def zit (k:Int) (b o:List UInt8) (ops:List (List UInt8)) (d:qd):qd:=
 match Ja d.w.fs b k o ops with
 | none=>YD d (Xy k 10 (ops.getLastD []) [] 0)
 | some ps=>zk7 b o (ops.zip ps) d
theorem zpV {N:Nat} {d:qd} (h:GrD N d) (a t:zR):GrD (N+2) (znJ d a t):=by
 unfold znJ;have h1:GrD (N+1) (if zk t.ino d.w.fs.xs then (VZ d (zbv (qx d.w.fs t))).1 else d):=by
  split
  ·exact h.add (Nat.zero_le _) (show ¬(7:Int)=3 by decide)
  ·exact h.mono (Nat.le_succ _)
 exact h1.add (Nat.zero_le _) (show ¬(6:Int)=3 by decide)
theorem zml {N:Nat} {d:qd} (h:GrD N d) (b o u v:List UInt8):GrD (N+2) (ku b o d u v):=by
 unfold ku;split
 ·exact (h.tell _).mono (by omega)
 ·split
  ·exact zpV h _ _
  ·split
   ·exact h.mono (by omega)
   ·exact (h.tell _).mono (by omega)
theorem zpv {f:FsV} {b u v:List UInt8} (h:mvS f b u v=none):(zI f b u false).2=0/\zk (zI f b u false).1.ino f.xs=true/\(zI f b u false).1.name≠[]/\(zI f b v false).2=0/\(zI f b v false).1.name≠[]:=by
 unfold mvS at h;by_cases h1:(zI f b u false).2≠0
 ·rw[if_pos h1]at h;cases h
 rw[if_neg h1]at h;by_cases h2:zk (zI f b u false).1.ino f.xs=false
 ·rw[if_pos h2]at h;cases h
 rw[if_neg h2]at h;by_cases h3:(zI f b u false).1.name = []
 ·rw[if_pos h3]at h;cases h
 rw[if_neg h3]at h;by_cases h4:(zI f b v false).2≠0
 ·rw[if_pos h4]at h;cases h
 rw[if_neg h4]at h;by_cases h5:(zI f b v false).1.name = []
 ·rw[if_pos h5]at h;cases h
 exact ⟨Classical.not_not.1 h1,by simpa using h2,h3,Classical.not_not.1 h4,h5⟩
theorem znV {f:FsV} {o:List UInt8} {a t:zR} {v:List UInt8} (h:(mvJ f o a t v).2=true):(zk t.ino f.xs=true->a.ino≠t.ino/\(zf t.ino f.xs).es = []/\((zf a.ino f.xs).kind=2↔(zf t.ino f.xs).kind=2))/\(zk t.ino f.xs=false->may t.name=true/\(jv v=true->(zf a.ino f.xs).kind=2))/\((zf a.ino f.xs).kind=2->ud f.xs f.xs.length t.dir a.ino=false):=by
 unfold mvJ at h;by_cases h1:zk t.ino f.xs=true/\(110:UInt8)∈o
 ·rw[if_pos h1]at h;cases h
 rw[if_neg h1]at h;by_cases h2:zk t.ino f.xs=true/\a.ino=t.ino
 ·rw[if_pos h2]at h;cases h
 rw[if_neg h2]at h;by_cases h3:(zf a.ino f.xs).kind=2/\ud f.xs f.xs.length t.dir a.ino=true
 ·rw[if_pos h3]at h;cases h
 rw[if_neg h3]at h;have g3:(zf a.ino f.xs).kind=2->ud f.xs f.xs.length t.dir a.ino=false:=fun q=>by
  cases hq:ud f.xs f.xs.length t.dir a.ino with
  | false=>rfl
  | true=>exact absurd ⟨q,hq⟩ h3
 by_cases h4:zk t.ino f.xs=true
 ·rw[if_pos h4]at h;by_cases h5:(zf a.ino f.xs).kind=2/\(zf t.ino f.xs).kind≠2
  ·rw[if_pos h5]at h;cases h
  rw[if_neg h5]at h;by_cases h6:(zf a.ino f.xs).kind≠2/\(zf t.ino f.xs).kind=2
  ·rw[if_pos h6]at h;cases h
  rw[if_neg h6]at h;refine ⟨fun _=>⟨fun q=>h2 ⟨h4,q⟩,of_decide_eq_true h,⟨fun q=>Classical.byContradiction fun z=>h5 ⟨q,z⟩,fun q=>Classical.byContradiction fun z=>h6 ⟨z,q⟩⟩⟩,fun q=>(by rw[h4]at q;cases q),g3⟩
 ·rw[if_neg h4]at h;by_cases h5:jv v=true/\(zf a.ino f.xs).kind≠2
  ·rw[if_pos h5]at h;cases h
  rw[if_neg h5]at h;by_cases h6:may t.name=false
  ·rw[if_pos h6]at h;cases h
  exact ⟨fun q=>absurd q h4,fun _=>⟨by simpa using h6,fun q=>Classical.byContradiction fun z=>h5 ⟨q,z⟩⟩,g3⟩
theorem znM {f:FsV} {b u v:List UInt8} {e:Int×Int} (h:mvS f b u v=some e):e.1≠0:=by
 unfold mvS at h;split at h
 ·cases h;exact show ¬(11:Int)=0 by decide
 split at h
 ·cases h;exact show ¬(11:Int)=0 by decide
 split at h
 ·cases h;exact show ¬(15:Int)=0 by decide
 split at h
 ·cases h;exact show ¬(15:Int)=0 by decide
 split at h
 ·cases h;exact show ¬(15:Int)=0 by decide
 ·cases h
end
section
open CA CB
open Go.RowKit
theorem zmj (w:qA) (hw:VT w) (hs:zj7 w) (a b:List UInt8) (ha:a.length<=1000000) (hb:b.length<=1000000):Fun Tryz.prog GD 129 [Qv w,.agg (opL (XS a b))] (.tup [Qv (doV w (XS a b)).1,.sc (.int .i64 (doV w (XS a b)).2)]) 0:=by
 have ho:zar ⟨6,0,a,b,[]⟩:=⟨ha,hb,Nat.zero_le _⟩;have hop:=(MU 6 0 a b [] ho).gd1;unfold XS;cases hm:NC ⟨6,0,a,b,[]⟩ with
 | false =>
  have e:doV w ⟨6,0,a,b,[]⟩=(w,12):=by unfold doV;rw[hm];rfl
  rw[hm]at hop;rw[e];unfold opL qP at hop;unfold opL;refine fof (fun i=>if i=3 then [false,false,false,false,false,false,false,false,false,true] else []) Tryz.func129 ?_;dsimp only[Tryz.f129];push_cast -dsimp;refine cl (hop) ?_;push_cast -dsimp;exact dn (by push_cast -dsimp [ze,zd,CLe,zg])
 | true =>
  obtain ⟨p1,p2,_⟩:=YR hm;have e:doV w ⟨6,0,a,b,[]⟩=JX w ⟨6,0,a,b,[]⟩:=by unfold doV;rw[hm];rfl
  have hq:Fun Tryz.prog GD 212 _ _ 0:=(zc0 w hw hs ⟨6,0,a,b,[]⟩ ho p1 (p2 rfl)).g0;rw[hm]at hop;rw[e];unfold opL qP at hop;unfold opL at hq ⊢;refine fof (fun i=>if i=3 then [false,false,false,false,false,false,false,false,false,true] else []) Tryz.func129 ?_;dsimp only[Tryz.f129];push_cast -dsimp;refine cl (hop) ?_;push_cast -dsimp;refine cl (xd (G:=GD)) ?_;push_cast -dsimp [zjF,kx,reduceIte,Int.reduceEq,Option.map_some,Option.map_none];refine cl (hq) ?_;push_cast -dsimp;exact dn (by push_cast -dsimp [ze,zd,CLe,zg])
theorem zkl (d:qd) (hd:N5 d) (p q:List UInt8) (hp:p.length<=1000000) (hq:q.length<=1000000):Fun Tryz.prog GD 75 [kG d,.agg (opL (XS p q))] (.tup [kG (VZ d (XS p q)).1,.sc (.int .i64 (VZ d (XS p q)).2)]) 0:=by
 have hsl:=VB (G:=GD) (XS p q);rw[show decide ((XS p q).kind=3∨(XS p q).kind=7)=false from decide_eq_false (show ¬((6:Int)=3∨(6:Int)=7) by decide)]at hsl;have hb1:=hd.slot.1;have hb2:=hd.slot.2;have hopl:(d.ops.map opL).length=d.ops.length:=List.length_map ..;have hol:=hd.ops;have hl5:∀ l:List OpV,∀ r∈l.map opL,r.length=5:=fun l r hr=>by obtain ⟨x,_,rfl⟩:=List.mem_map.1 hr;rfl
 have hst:∀ l:List OpV,jd (l.map opL):=fun l r hr=>by obtain ⟨x,_,rfl⟩:=List.mem_map.1 hr;rfl
 have hX:=MV (G:=GD) (d.ops.map opL) (([XS p q]:List OpV).map opL) (hl5 _) (hl5 _) (hst _) (hst _) (by omega) (by simp) (by simp);rw[←List.map_append]at hX;have hc:=(hX.fun (r:=.own 0 79 5 ((d.ops++([XS p q]:List OpV)).map opL)) (n:=1) (by
  rintro r bx m ⟨rfl,c,B,hB,rfl,rfl⟩;exact ⟨[(0,79,5,(d.ops++([XS p q]:List OpV)).map opL,c)],[.inl 0],hB.ok rfl (by simp) (hl5 _),rfl,rfl,by push_cast -dsimp [ze,zd,CLe,zg,List.length_map]⟩)).weak (r':=.sl 5 ((d.ops++([XS p q]:List OpV)).map opL)) (by push_cast -dsimp [ze,zd,CLe,zg])
 have hdo:=zmj d.w hd.wi hd.ws p q hp hq;have ea:VZ d (XS p q)=if (doV d.w (XS p q)).2≠0 then (d,(doV d.w (XS p q)).2) else (⟨(doV d.w (XS p q)).1,d.ops++[XS p q],d.diags,d.status,d.slot⟩,0):=by
  have e:Vf d (XS p q)=XS p q:=rfl;unfold VZ;rw[if_neg (show ¬7<(XS p q).kind by show ¬(7:Int)<6;decide),e]
  rfl
 have hmx:¬(0>d.slot):=by omega
 rw[ea];have eo:opL (XS p q) = [.sc (.int .i64 6),.sc (.int .i64 0),.str p,.str q,.str []]:=rfl;unfold opL at hsl;rw[show (XS p q).kind=6 from rfl,show (XS p q).slot=0 from rfl,show (XS p q).a=p from rfl,show (XS p q).b=q from rfl,show (XS p q).d = [] from rfl]at hsl;rw[eo]at hdo ⊢;simp only[List.map_cons,List.map_nil,eo]at hc;by_cases hz:(doV d.w (XS p q)).2=0
 ·rw[if_neg (fun h=>h hz)];rw[hz]at hdo;refine fon Tryz.func75 ?_;dsimp only[Tryz.f75];push_cast -dsimp;refine cl (hsl) ?_;push_cast -dsimp;refine cl (hdo) ?_;push_cast -dsimp;refine cl (hc) ?_;push_cast -dsimp [eq_false hmx];exact dn (by push_cast -dsimp [ze,zd,CLe,zg])
 ·have hz':=eq_false hz;rw[if_pos hz];refine fon Tryz.func75 ?_;dsimp only[Tryz.f75];push_cast -dsimp;refine cl (hsl) ?_;push_cast -dsimp;refine cl (hdo) ?_;push_cast -dsimp [hz'];exact dn (by push_cast -dsimp [ze,zd,CLe,zg])
end
section
open CA CB
open Go.RowKit
theorem zbJ (f:FsV) (hf:FsI f) (hs:FsS f) (p:List UInt8) (hp:p.length<=100000):Fun Tryz.prog G0 223 [.agg (fsC f),.str p] (.tup [.agg (JU (JL f p).1),.sc (.int .i64 (JL f p).2)]) 0:=by
 have h1:=Gg f hf hs p (by omega);have h2:=qY (G:=G0) f (atV f p).1.ino (by have:=hs.len;omega) hf.rises;by_cases c1:(atV f p).2=0
 ·have c1':=eq_true c1;cases hh:zk (atV f p).1.ino f.xs with
  | false =>
   have h0:(atV f p).1.ino=0:=Classical.byContradiction fun hne=>by
    have:zk (atV f p).1.ino f.xs=true:=by
     unfold atV at hne ⊢;split at hne
     ·rename_i q;rw[if_pos q];exact xK hf _ _ (fun _=>hf.root) hne
     ·exact absurd rfl hne
    rw[this]at hh;cases hh
   have e:JL f p=(uX,1):=by unfold JL;rw[if_neg (fun h=>h c1),if_pos h0]
   rw[c1]at h1;rw[hh]at h2;refine fon Tryz.func223 ?_;dsimp only[Tryz.f223];push_cast -dsimp;refine cl (h1) ?_;push_cast -dsimp;refine cl (h2) ?_;push_cast -dsimp;exact dn (by push_cast -dsimp [ze,zd,CLe,zg,e,uX])
  | true =>
   have h0:=Uq hf hh;have e:JL f p=(zf (atV f p).1.ino f.xs,0):=by unfold JL;rw[if_neg (fun h=>h c1),if_neg h0]
   rw[c1]at h1;rw[hh]at h2;refine fon Tryz.func223 ?_;dsimp only[Tryz.f223];push_cast -dsimp;refine cl (h1) ?_;push_cast -dsimp;refine cl (h2) ?_;push_cast -dsimp;exact dn (by push_cast -dsimp [ze,zd,CLe,zg,e])
 ·have e:JL f p=(uX,(atV f p).2):=by unfold JL;rw[if_pos c1]
  refine fon Tryz.func223 ?_;dsimp only[Tryz.f223];push_cast -dsimp;refine cl (h1) ?_;push_cast -dsimp [c1];exact dn (by push_cast -dsimp [ze,zd,CLe,zg,e,uX])
theorem zdI (f:FsV) (hf:FsI f) (hs:FsS f) (p:List UInt8) (hp:p.length<=100000):Fun Tryz.prog G0 176 [.agg (fsC f),.str p] (.tup [.sc (.int .i64 (Qr f p).1),.sc (.int .i64 (Qr f p).2)]) 0:=by
 have h1:=zbJ f hf hs p hp;by_cases c1:(JL f p).2=0
 ·have d1:(atV f p).2=0/\(atV f p).1.ino≠0/\(JL f p).1=zf (atV f p).1.ino f.xs:=by
   unfold JL at c1 ⊢;split at c1
   ·rename_i h;exact absurd c1 h
   ·rename_i h;split at c1
    ·exact absurd c1 (show ¬(1:Int)=0 by decide)
    ·rename_i h';rw[if_neg h,if_neg h'];exact ⟨Classical.not_not.1 h,h',rfl⟩
  rw[c1]at h1;by_cases c2:(JL f p).1.kind=2
  ·have e:Qr f p=((JL f p).1.ino,0):=by unfold Qr;rw[if_neg (fun h=>h d1.1),if_neg d1.2.1,if_neg (by rw[←d1.2.2];exact fun h=>h c2),d1.2.2]
   refine fon Tryz.func176 ?_;dsimp only[Tryz.f176];push_cast -dsimp;refine cl (h1) ?_;push_cast -dsimp [c2];exact dn (by push_cast -dsimp [ze,zd,CLe,zg,e])
  ·have e:Qr f p=(0,3):=by unfold Qr;rw[if_neg (fun h=>h d1.1),if_neg d1.2.1,if_pos (by rw[←d1.2.2];exact c2)]
   refine fon Tryz.func176 ?_;dsimp only[Tryz.f176];push_cast -dsimp;refine cl (h1) ?_;push_cast -dsimp [c2];exact dn (by push_cast -dsimp [ze,zd,CLe,zg,e])
 ·have e:Qr f p=(0,(JL f p).2):=by
   unfold Qr JL;unfold JL at c1;split
   ·rfl
   ·rename_i h;rw[if_neg h]at c1;split
    ·rfl
    ·rename_i h';rw[if_neg h']at c1;exact absurd rfl c1
  refine fon Tryz.func176 ?_;dsimp only[Tryz.f176];push_cast -dsimp;refine cl (h1) ?_;push_cast -dsimp [c1];exact dn (by push_cast -dsimp [ze,zd,CLe,zg,e])
theorem zdO {G:zp} (a b:List (List UInt8)) (la:a.length<=90000) (lb:b.length<=90000):Fun Tryz.prog G 70 [.sl 1 [[.sl 1 (zM a)],[.sl 1 (zM b)]]] (.sl 1 (zM (a++b))) 0:=by
 have hl:∀ l:List (List UInt8),∀ r∈zM l,r.length=1:=fun l r hr=>by obtain ⟨x,_,rfl⟩:=List.mem_map.1 hr;rfl
 have hs:∀ l:List (List UInt8),jd (zM l):=fun l r hr=>by obtain ⟨x,_,rfl⟩:=List.mem_map.1 hr;rfl
 have hla:(zM a).length=a.length:=List.length_map ..;have hlb:(zM b).length=b.length:=List.length_map ..;by_cases h0:0<a.length+b.length
 ·have h:=NB (G:=G) (zM a) (zM b) (hl a) (hl b) (hs a) (hs b) (by omega) (by omega) (by omega);have e:zM a++zM b=zM (a++b):=List.map_append.symm;rw[e]at h;refine (h.fun (r:=.own 0 9 1 (zM (a++b))) (n:=1) (by
   rintro r bx m ⟨rfl,c,B,hB,rfl,rfl⟩;exact ⟨[(0,9,1,zM (a++b),c)],[.inl 0],hB.ok rfl (by rw[List.length_map,List.length_append];exact h0) (hl _),rfl,rfl,by push_cast -dsimp [ze,zd,CLe,zg,List.length_map]⟩)).weak (by push_cast -dsimp [ze,zd,CLe,zg])
 ·have ha:a = []:=List.eq_nil_of_length_eq_zero (by omega);have hb:b = []:=List.eq_nil_of_length_eq_zero (by omega);subst ha hb;exact M9
end
section
open CA CB
open Go.RowKit
abbrev zkz (f:FsV) (fol dir:Bool) (todo:XJ) (s:zR) (n:Int):List C:=[.sc (.int .i64 f.maxI),.sc (.int .i64 f.maxB),.sc (.int .i64 f.next),.sl 6 (zq f.xs),.sc (.bool fol),.sc (.bool dir),.sl 1 (zM todo),.sc (.int .i64 s.dir),.str s.name,.sc (.int .i64 s.ino),.sc (.int .i64 n)]
abbrev Xb:List C:=[.any,.any,.any,.any,.any,.any,.any,.any,.any,.any,.any]
theorem Nb (f:FsV) (fol dir:Bool) (todo:XJ) (s:zR) (n:Nat) (x d:zm) (hx:x.data.length<=10000) (ht:todo.length<=80000) (hn:n<=40):Yr Tryz.prog G0 178 [.ptr 0 0,.agg (JU x),.agg (JU d)] [zkz f fol dir todo s n] 0 (fun r bx m=>m=0 /\
  ((n=40/\r = .sc (.int .i64 6)/\bx = [Xb])∨(n<40/\V0 x.data=true/\r = .sc (.int .i64 7)/\bx = [Xb])∨(n<40/\V0 x.data=false/\r = .sc (.int .i64 0)/\bx = [zkz f fol (dir||(jv x.data&&decide (todo = []))) (zE x.data++todo) ⟨0,[],if zai x.data then 1 else d.ino⟩ (n+1:Nat)]))):=by
 by_cases h40:n=40
 ·have hc:((40:Int)<(n:Int)+1)=True:=eq_true (by omega);refine foX (fun _=>[]) Tryz.func178 ?_;dsimp only[Tryz.f178];push_cast -dsimp [hc]
  repeat refine an ?_
  exact ⟨_,[Xb],0,⟨⟨rfl,.inl ⟨h40,rfl,rfl⟩⟩,Nat.le_refl _⟩,[],rfl,rfl,by push_cast -dsimp [ze,zd,CLe,zg],by push_cast -dsimp [ze,zd,CLe,zg]⟩
 have hc:((40:Int)<(n:Int)+1)=False:=eq_false (by omega);have hlg:=uu x.data (by omega);cases hl:V0 x.data with
 | true =>
  rw[hl]at hlg;refine foX (fun _=>[]) Tryz.func178 ?_;dsimp only[Tryz.f178];push_cast -dsimp [hc]
  repeat refine an ?_
  refine cl (hlg) ?_;push_cast -dsimp;exact ⟨_,[Xb],0,⟨⟨rfl,.inr (.inl ⟨by omega,rfl,rfl⟩)⟩,Nat.le_refl _⟩,[],rfl,rfl,by push_cast -dsimp [ze,zd,CLe,zg],by push_cast -dsimp [ze,zd,CLe,zg]⟩
 | false =>
  rw[hl]at hlg;have hrd:Fun Tryz.prog G0 125 [.str x.data] (.agg [qP (zai x.data),.own 0 9 1 (zM (zE x.data)),qP (jv x.data)]) 1:=Ud x.data (by omega);have hnl:=js x.data;have hcc:=zdO (G:=G0) (zE x.data) todo (by omega) (by omega);have htl:(zM todo).length=todo.length:=List.length_map ..;have hte:((todo.length:Int)=0)=(todo = []):=propext ⟨fun h=>List.eq_nil_of_length_eq_zero (by omega),fun h=>by rw[h];rfl⟩;generalize zE x.data=nm at hrd hcc;have fin:∀ (b a:Bool),(dir||(jv x.data&&decide (todo = [])))=b->zai x.data=a->Yr Tryz.prog G0 178 [.ptr 0 0,.agg (JU x),.agg (JU d)] [zkz f fol dir todo s n] 0 (fun r bx m=>m=0/\r = .sc (.int .i64 0)/\bx = [zkz f fol b (nm++todo) ⟨0,[],if a then 1 else d.ino⟩ (n+1:Nat)]):=fun b a hb ha=>by
   rw[ha]at hrd;by_cases ht0:todo = []
   ·have ht0':=eq_true ht0;cases dir<;>cases hs:jv x.data<;>rw[hs]at hrd hb<;>cases a
    all_goals
     simp[ht0]at hb;subst hb;refine foX (fun i=>if i=8 then [false,false,false,false,false,false,false,false,false,false,false,true] else []) Tryz.func178 ?_;dsimp only[Tryz.f178];push_cast -dsimp [hc]
     repeat refine an ?_
     refine cl (hlg) ?_;push_cast -dsimp;refine cl (hrd) ?_;push_cast -dsimp [htl,hte,ht0'];refine cl (hcc) ?_;push_cast -dsimp;exact ⟨_,_,0,⟨⟨rfl,rfl,rfl⟩,Nat.le_refl _⟩,[],rfl,rfl,by push_cast -dsimp [ze,zd,CLe,zg],by push_cast -dsimp [ze,zd,CLe,zg]⟩
   ·have ht0':=eq_false ht0;cases dir<;>cases hs:jv x.data<;>rw[hs]at hrd hb<;>cases a
    all_goals
     simp[ht0]at hb;subst hb;refine foX (fun i=>if i=8 then [false,false,false,false,false,false,false,false,false,false,false,true] else []) Tryz.func178 ?_;dsimp only[Tryz.f178];push_cast -dsimp [hc]
     repeat refine an ?_
     refine cl (hlg) ?_;push_cast -dsimp;refine cl (hrd) ?_;push_cast -dsimp [htl,hte,ht0'];refine cl (hcc) ?_;push_cast -dsimp;exact ⟨_,_,0,⟨⟨rfl,rfl,rfl⟩,Nat.le_refl _⟩,[],rfl,rfl,by push_cast -dsimp [ze,zd,CLe,zg],by push_cast -dsimp [ze,zd,CLe,zg]⟩
  have h:=fin _ _ rfl rfl;exact ⟨h.1,fun R L vs a1 a2 a3 a4 a5 a6 a7=>(h.2 R L vs a1 a2 a3 a4 a5 a6 a7).mono fun _ _=>by
   rintro ⟨r,bx,m,⟨⟨q1,q2,q3⟩,q4⟩,q5⟩;exact ⟨r,bx,m,⟨⟨q1,.inr (.inr ⟨by omega,rfl,q2,q3⟩)⟩,q4⟩,q5⟩⟩
theorem zhX (f:FsV) (hf:FsI f) (hs:FsS f) (fol dir:Bool) (todo:XJ) (s:zR) (n:Nat) (lk:zm->zm->XJ->Bool->zR×Int):Yr Tryz.prog G0 179 [.ptr 0 0] [zkz f fol dir todo s n] 0 (fun r bx m=>m=0/\r = .tup [.agg (QS (onL f fol lk [] s dir).1),.sc (.int .i64 (onL f fol lk [] s dir).2)]/\bx = [Xb]):=by
 have hg:=qY (G:=G0) f s.ino (by have:=hs.len;omega) hf.rises;cases hh:zk s.ino f.xs with
 | false =>
  have e:onL f fol lk [] s dir=(s,0):=by unfold onL;rw[if_neg (fun h=>by rw[hh]at h;cases h.1)]
  rw[hh]at hg;refine foX (fun i=>if i=1 then jS 13 14 else []) Tryz.func179 ?_;dsimp only[Tryz.f179];push_cast -dsimp;refine cl (hg) ?_;push_cast -dsimp;exact ⟨_,[Xb],0,⟨⟨rfl,rfl,rfl⟩,Nat.le_refl _⟩,[],rfl,rfl,by push_cast -dsimp [ze,zd,CLe,zg],by push_cast -dsimp [ze,zd,CLe,zg,e]⟩
 | true =>
  rw[hh]at hg;cases dir with
  | false =>
   have e:onL f fol lk [] s false=(s,0):=by unfold onL;rw[if_neg (fun h=>by cases h.2.1)]
   refine foX (fun i=>if i=1 then jS 13 14 else []) Tryz.func179 ?_;dsimp only[Tryz.f179];push_cast -dsimp;refine cl (hg) ?_;push_cast -dsimp;exact ⟨_,[Xb],0,⟨⟨rfl,rfl,rfl⟩,Nat.le_refl _⟩,[],rfl,rfl,by push_cast -dsimp [ze,zd,CLe,zg],by push_cast -dsimp [ze,zd,CLe,zg,e]⟩
  | true =>
   by_cases hk:(zf s.ino f.xs).kind=2
   ·have e:onL f fol lk [] s true=(s,0):=by unfold onL;rw[if_neg (fun h=>h.2.2 hk)]
    have hk':=eq_true hk;refine foX (fun i=>if i=1 then jS 13 14 else []) Tryz.func179 ?_;dsimp only[Tryz.f179];push_cast -dsimp;refine cl (hg) ?_;push_cast -dsimp [hk'];exact ⟨_,[Xb],0,⟨⟨rfl,rfl,rfl⟩,Nat.le_refl _⟩,[],rfl,rfl,by push_cast -dsimp [ze,zd,CLe,zg],by push_cast -dsimp [ze,zd,CLe,zg,e]⟩
   ·have e:onL f fol lk [] s true=(jE,3):=by unfold onL;rw[if_pos ⟨hh,rfl,hk⟩]
    have hk':=eq_false hk;refine foX (fun i=>if i=1 then jS 13 14 else []) Tryz.func179 ?_;dsimp only[Tryz.f179];push_cast -dsimp;refine cl (hg) ?_;push_cast -dsimp [hk'];exact ⟨_,[Xb],0,⟨⟨rfl,rfl,rfl⟩,Nat.le_refl _⟩,[],rfl,rfl,by push_cast -dsimp [ze,zd,CLe,zg],by push_cast -dsimp [ze,zd,CLe,zg,e,jE]⟩
theorem zfM (f:FsV) (hf:FsI f) (hr:FsR f) (hs:FsS f) (fol dir0:Bool) (todo0:XJ) (s0:zR) (ht0:todo0.length<=3000) (hd:∀ x∈f.xs,x.kind=3->x.data.length<=1000) (hs0:s0.ino≠0->zk s0.ino f.xs=true) (R:zR×Int) (hR:onN f fol 40 todo0 s0 dir0=R):Yr Tryz.prog G0 147 [.ptr 0 0] [zkz f fol dir0 todo0 s0 (0:Nat)] 0 (fun r bx m=>m=0/\r = .tup [.agg (QS R.1),.sc (.int .i64 R.2)]/\∃ X,bx = [Xb]++X):=by
 refine foX (fun i=>if i=4 then jS 13 14 else []) Tryz.func147 ?_;dsimp only[Tryz.f147];push_cast -dsimp;refine loop (fun p:XJ×zR×Bool×Nat=>⟨[(0,.ptr 0 0),(2,.ptr 1 0)],[zkz f fol p.2.2.1 p.1 p.2.1 p.2.2.2,[.any,.any,.any]],0,0⟩)
  (fun p=>onN f fol (40-p.2.2.2) p.1 p.2.1 p.2.2.1=R/\p.2.2.2<=40/\p.1.length<=3000+p.2.2.2*1000/\(p.2.1.ino≠0->zk p.2.1.ino f.xs=true)) (fun p=>(41-p.2.2.2)*100000+p.1.length) (todo0,s0,dir0,0) ⟨hR,Nat.zero_le _,by dsimp only;omega,hs0⟩ ?_ ?_
 ·exact wk
 rintro ⟨todo,s,dir,n⟩ ⟨hon,hn,htl,hin⟩;dsimp only at hon hn htl hin;rw[Ny]at hon;cases todo with
 | nil =>
  have he:=zhX f hf hs fol dir [] s n (lkN f fol (40-n));rw[hon]at he;push_cast -dsimp;refine jo [0] [] he rfl (by decide) (by decide) (by simp) (by push_cast -dsimp) rfl (fun r bx' m hp=>?_);obtain ⟨rfl,rfl,rfl⟩:=hp;push_cast -dsimp;exact ⟨_,[Xb],0,⟨⟨rfl,rfl,[],rfl⟩,by simp⟩,[],rfl,rfl,by push_cast -dsimp [ze,zd,CLe,zg],by push_cast -dsimp [ze,zd,CLe,zg]⟩
 | cons nm rest =>
  have hg:=qY (G:=G0) f s.ino (by have:=hs.len;omega) hf.rises;have hpos:((0:Int)<(rest.length:Int)+1)=True:=eq_true (by omega);have hrl:(zM rest).length=rest.length:=List.length_map ..;have hl1:((1:Int)<=(rest.length:Int)+1)=True:=eq_true (by omega);rw[List.length_cons]at htl;unfold onL at hon;cases hh:zk s.ino f.xs with
  | false =>
   have h0:s.ino=0:=Classical.byContradiction fun q=>by rw[hin q]at hh;cases hh
   rw[if_pos h0]at hon;rw[hh]at hg;rw[←hon];push_cast -dsimp [hpos,hl1]
   repeat refine an ?_
   refine cl (hg) ?_;push_cast -dsimp;exact ⟨_,[Xb],0,⟨⟨rfl,rfl,[],rfl⟩,by simp⟩,[],rfl,rfl,by push_cast -dsimp [ze,zd,CLe,zg],by push_cast -dsimp [ze,zd,CLe,zg,jE]⟩
  | true =>
   have hgs:=zi hh;rw[if_neg (Uq hf hh)]at hon;rw[hh]at hg;by_cases hk2:(zf s.ino f.xs).kind=2
   case neg =>
    have hk2':=eq_false hk2;rw[if_pos hk2]at hon;rw[←hon];push_cast -dsimp [hpos,hl1]
    repeat refine an ?_
    refine cl (hg) ?_;push_cast -dsimp [hk2'];exact ⟨_,[Xb],0,⟨⟨rfl,rfl,[],rfl⟩,by simp⟩,[],rfl,rfl,by push_cast -dsimp [ze,zd,CLe,zg],by push_cast -dsimp [ze,zd,CLe,zg,jE]⟩
   have hk2':=eq_true hk2;rw[if_neg (fun q=>q hk2)]at hon;by_cases n1:nm = [46]
   ·have n1':=eq_true n1;rw[if_pos n1]at hon;push_cast -dsimp [hpos,hl1]
    repeat refine an ?_
    refine cl (hg) ?_;push_cast -dsimp [hk2',n1'];exact ⟨(rest,⟨0,[],(zf s.ino f.xs).ino⟩,dir,n),⟨by dsimp only;rw[Ny];exact hon,hn,by dsimp only;omega,fun _=>by dsimp only;rw[hgs.2.2];exact hh⟩,by dsimp only;omega,wk⟩
   have n1':=eq_false n1;rw[if_neg n1]at hon;by_cases n2:nm = [46,46]
   ·have n2':=eq_true n2;rw[if_pos n2]at hon;push_cast -dsimp [hpos,hl1]
    repeat refine an ?_
    refine cl (hg) ?_;push_cast -dsimp [hk2',n1',n2'];exact ⟨(rest,⟨0,[],(zf s.ino f.xs).parent⟩,dir,n),⟨by dsimp only;rw[Ny];exact hon,hn,by dsimp only;omega,fun _=>zlw hf hr hh hk2⟩,by dsimp only;omega,wk⟩
   have n2':=eq_false n2;rw[if_neg n2]at hon;have hfd:=NG (G:=G0) (zf s.ino f.xs).es nm (by have:=hs.es hh;omega) (hf.es _ hgs.2.1);have hg2:=qY (G:=G0) f (qh nm (zf s.ino f.xs).es) (by have:=hs.len;omega) hf.rises;have hin2:qh nm (zf s.ino f.xs).es≠0->zk (qh nm (zf s.ino f.xs).es) f.xs=true:=fun q=>by
    have hx:Zu nm (zf s.ino f.xs).es=true:=by
     unfold Zu;rw[jB];cases hq:Jk zW.name nm (zf s.ino f.xs).es with
     | some e=>rfl
     | none=>unfold qh at q;rw[hq]at q;exact absurd rfl q
    exact G5 hf hh hx
   by_cases hk3:(zf (qh nm (zf s.ino f.xs).es) f.xs).kind=3
   case neg =>
    have hk3':=eq_false hk3;have hg1:((0:Int)<(rest.length:Int))=((0:Int)<(rest.length:Int)):=rfl;rw[if_pos (.inr (.inl hk3))]at hon;push_cast -dsimp [hpos,hl1,hk2',n1',n2',hk3']
    repeat refine an ?_
    refine cl (hg) ?_;push_cast -dsimp [hk2',n1',n2'];refine cl (hfd) ?_;push_cast -dsimp;refine cl (hg2) ?_;push_cast -dsimp [hk3',hrl];exact ⟨(rest,⟨(zf s.ino f.xs).ino,nm,qh nm (zf s.ino f.xs).es⟩,dir,n),⟨by dsimp only;rw[Ny];exact hon,hn,by dsimp only;omega,hin2⟩,by dsimp only;omega,wk⟩
   have hk3':=eq_true hk3;have hx2:zk (qh nm (zf s.ino f.xs).es) f.xs=true:=by
    cases hq:zk (qh nm (zf s.ino f.xs).es) f.xs with
    | true=>rfl
    | false=>rw[(J8 hq).2]at hk3;exact absurd hk3 (by decide)
   have hxe:Zu nm (zf s.ino f.xs).es=true:=by
    cases hq:Zu nm (zf s.ino f.xs).es with
    | true=>rfl
    | false =>
     have e0:qh nm (zf s.ino f.xs).es=0:=by
      unfold qh;unfold Zu at hq;rw[jB]at hq;cases hz:Jk zW.name nm (zf s.ino f.xs).es with
      | none=>rfl
      | some e=>rw[hz]at hq;cases hq
     rw[e0]at hx2;exact absurd rfl (Uq hf hx2)
   have hxd:=hd _ (zi hx2).2.1 hk3;by_cases hr0:rest = []
   ·have hg1:((0:Int)<(rest.length:Int))=False:=eq_false (by rw[hr0];simp);cases fol with
    | false =>
     cases dir with
     | false =>
      rw[if_pos (.inr (.inr ⟨hr0,rfl,rfl⟩))]at hon;push_cast -dsimp [hpos,hl1,hk2',n1',n2',hk3',hg1]
      repeat refine an ?_
      refine cl (hg) ?_;push_cast -dsimp [hk2',n1',n2'];refine cl (hfd) ?_;push_cast -dsimp;refine cl (hg2) ?_;push_cast -dsimp [hk3',hrl,hg1];exact ⟨(rest,⟨(zf s.ino f.xs).ino,nm,qh nm (zf s.ino f.xs).es⟩,false,n),⟨by dsimp only;rw[Ny];exact hon,hn,by dsimp only;omega,hin2⟩,by dsimp only;omega,wk⟩
     | true =>
      rw[if_neg (by rintro (q | q | q);exact absurd (hxe.symm.trans q) (by simp);exact q hk3;cases q.2.2)]at hon;have hlk:=Nb f false true rest s n (zf (qh nm (zf s.ino f.xs).es) f.xs) (zf s.ino f.xs) (by omega) (by omega) hn;push_cast -dsimp [hpos,hl1,hk2',n1',n2',hk3',hg1]
      repeat refine an ?_
      refine cl (hg) ?_;push_cast -dsimp [hk2',n1',n2'];refine cl (hfd) ?_;push_cast -dsimp;refine cl (hg2) ?_;push_cast -dsimp [hk3',hrl,hg1];refine jo [0] [] hlk rfl (by decide) (by decide) (by simp) (by push_cast -dsimp) (by push_cast -dsimp) (fun r bx' m hp=>?_);obtain ⟨rfl,⟨q1,rfl,rfl⟩ | ⟨q1,q2,rfl,rfl⟩ | ⟨q1,q2,rfl,rfl⟩⟩:=hp
      ·push_cast -dsimp;have hk0:40-n=0:=by omega
       rw[hk0]at hon;have hon:(jE,(6:Int))=R:=hon;rw[←hon];exact ⟨_,[Xb],0,⟨⟨rfl,rfl,[],rfl⟩,by simp⟩,[],rfl,rfl,by push_cast -dsimp [ze,zd,CLe,zg],by push_cast -dsimp [ze,zd,CLe,zg,jE]⟩
      ·push_cast -dsimp;have hk0:40-n=(39-n)+1:=by omega
       rw[hk0,X7,if_pos q2]at hon;rw[←hon];exact ⟨_,[Xb],0,⟨⟨rfl,rfl,[],rfl⟩,by simp⟩,[],rfl,rfl,by push_cast -dsimp [ze,zd,CLe,zg],by push_cast -dsimp [ze,zd,CLe,zg,jE]⟩
      ·push_cast -dsimp;have hk0:40-n=(39-n)+1:=by omega
       have hk1:40-(n+1)=39-n:=by omega
       rw[hk0,X7,if_neg (by rw[q2];simp)]at hon;have hnl:=js (zf (qh nm (zf s.ino f.xs).es) f.xs).data;exact ⟨(zE (zf (qh nm (zf s.ino f.xs).es) f.xs).data++rest,⟨0,[],if zai (zf (qh nm (zf s.ino f.xs).es) f.xs).data then 1 else (zf s.ino f.xs).ino⟩,true||(jv (zf (qh nm (zf s.ino f.xs).es) f.xs).data&&decide (rest = [])),n+1),⟨by dsimp only;rw[hk1];exact hon,by dsimp only;omega,by dsimp only;rw[List.length_append];omega,fun _=>by
        dsimp only;split
        ·exact hf.root
        ·rw[hgs.2.2];exact hh⟩,by dsimp only;rw[List.length_append];omega,wk⟩
    | true =>
     rw[if_neg (by rintro (q | q | q);exact absurd (hxe.symm.trans q) (by simp);exact q hk3;cases q.2.1)]at hon;have hlk:=Nb f true dir rest s n (zf (qh nm (zf s.ino f.xs).es) f.xs) (zf s.ino f.xs) (by omega) (by omega) hn;push_cast -dsimp [hpos,hl1,hk2',n1',n2',hk3',hg1]
     repeat refine an ?_
     refine cl (hg) ?_;push_cast -dsimp [hk2',n1',n2'];refine cl (hfd) ?_;push_cast -dsimp;refine cl (hg2) ?_;push_cast -dsimp [hk3',hrl,hg1];refine jo [0] [] hlk rfl (by decide) (by decide) (by simp) (by push_cast -dsimp) (by push_cast -dsimp) (fun r bx' m hp=>?_);obtain ⟨rfl,⟨q1,rfl,rfl⟩ | ⟨q1,q2,rfl,rfl⟩ | ⟨q1,q2,rfl,rfl⟩⟩:=hp
     ·push_cast -dsimp;have hk0:40-n=0:=by omega
      rw[hk0]at hon;have hon:(jE,(6:Int))=R:=hon;rw[←hon];exact ⟨_,[Xb],0,⟨⟨rfl,rfl,[],rfl⟩,by simp⟩,[],rfl,rfl,by push_cast -dsimp [ze,zd,CLe,zg],by push_cast -dsimp [ze,zd,CLe,zg,jE]⟩
     ·push_cast -dsimp;have hk0:40-n=(39-n)+1:=by omega
      rw[hk0,X7,if_pos q2]at hon;rw[←hon];exact ⟨_,[Xb],0,⟨⟨rfl,rfl,[],rfl⟩,by simp⟩,[],rfl,rfl,by push_cast -dsimp [ze,zd,CLe,zg],by push_cast -dsimp [ze,zd,CLe,zg,jE]⟩
     ·push_cast -dsimp;have hk0:40-n=(39-n)+1:=by omega
      have hk1:40-(n+1)=39-n:=by omega
      rw[hk0,X7,if_neg (by rw[q2];simp)]at hon;have hnl:=js (zf (qh nm (zf s.ino f.xs).es) f.xs).data;exact ⟨(zE (zf (qh nm (zf s.ino f.xs).es) f.xs).data++rest,⟨0,[],if zai (zf (qh nm (zf s.ino f.xs).es) f.xs).data then 1 else (zf s.ino f.xs).ino⟩,dir||(jv (zf (qh nm (zf s.ino f.xs).es) f.xs).data&&decide (rest = [])),n+1),⟨by dsimp only;rw[hk1];exact hon,by dsimp only;omega,by dsimp only;rw[List.length_append];omega,fun _=>by
       dsimp only;split
       ·exact hf.root
       ·rw[hgs.2.2];exact hh⟩,by dsimp only;rw[List.length_append];omega,wk⟩
   ·have hg1:((0:Int)<(rest.length:Int))=True:=eq_true (by have:=List.length_pos_iff.2 hr0;omega);rw[if_neg (by rintro (q | q | q);exact absurd (hxe.symm.trans q) (by simp);exact q hk3;exact hr0 q.1)]at hon;have hlk:=Nb f fol dir rest s n (zf (qh nm (zf s.ino f.xs).es) f.xs) (zf s.ino f.xs) (by omega) (by omega) hn;push_cast -dsimp [hpos,hl1,hk2',n1',n2',hk3',hg1]
    repeat refine an ?_
    refine cl (hg) ?_;push_cast -dsimp [hk2',n1',n2'];refine cl (hfd) ?_;push_cast -dsimp;refine cl (hg2) ?_;push_cast -dsimp [hk3',hrl,hg1];refine jo [0] [] hlk rfl (by decide) (by decide) (by simp) (by push_cast -dsimp) (by push_cast -dsimp) (fun r bx' m hp=>?_);obtain ⟨rfl,⟨q1,rfl,rfl⟩ | ⟨q1,q2,rfl,rfl⟩ | ⟨q1,q2,rfl,rfl⟩⟩:=hp
    ·push_cast -dsimp;have hk0:40-n=0:=by omega
     rw[hk0]at hon;have hon:(jE,(6:Int))=R:=hon;rw[←hon];exact ⟨_,[Xb],0,⟨⟨rfl,rfl,[],rfl⟩,by simp⟩,[],rfl,rfl,by push_cast -dsimp [ze,zd,CLe,zg],by push_cast -dsimp [ze,zd,CLe,zg,jE]⟩
    ·push_cast -dsimp;have hk0:40-n=(39-n)+1:=by omega
     rw[hk0,X7,if_pos q2]at hon;rw[←hon];exact ⟨_,[Xb],0,⟨⟨rfl,rfl,[],rfl⟩,by simp⟩,[],rfl,rfl,by push_cast -dsimp [ze,zd,CLe,zg],by push_cast -dsimp [ze,zd,CLe,zg,jE]⟩
    ·push_cast -dsimp;have hk0:40-n=(39-n)+1:=by omega
     have hk1:40-(n+1)=39-n:=by omega
     rw[hk0,X7,if_neg (by rw[q2];simp)]at hon;have hnl:=js (zf (qh nm (zf s.ino f.xs).es) f.xs).data;exact ⟨(zE (zf (qh nm (zf s.ino f.xs).es) f.xs).data++rest,⟨0,[],if zai (zf (qh nm (zf s.ino f.xs).es) f.xs).data then 1 else (zf s.ino f.xs).ino⟩,dir||(jv (zf (qh nm (zf s.ino f.xs).es) f.xs).data&&decide (rest = [])),n+1),⟨by dsimp only;rw[hk1];exact hon,by dsimp only;omega,by dsimp only;rw[List.length_append];omega,fun _=>by
      dsimp only;split
      ·exact hf.root
      ·rw[hgs.2.2];exact hh⟩,by dsimp only;rw[List.length_append];omega,wk⟩
end
section
open CA CB
open Go.RowKit
theorem Zm (f:FsV) (hf:FsI f) (hr:FsR f) (hs:FsS f) (hd:∀ x∈f.xs,x.kind=3->x.data.length<=1000) (b p:List UInt8) (fol:Bool) (hb:b.length<=100000) (hp:p.length<=3000):Fun Tryz.prog G0 99 [.agg (fsC f),.str b,.str p,.sc (.bool fol)] (.tup [.agg (QS (zI f b p fol).1),.sc (.int .i64 (zI f b p fol).2)]) 0:=by
 have hlo:=uu p (by omega);have hns:=js p;have bad:∀ e:Int,e≠0->zI f b p fol=(jE,e)->Fun Tryz.prog G0 146 [.agg (fsC f),.str b,.str p,.sc (.bool fol)] (.tup [.any,.sc (.int .i64 e)]) 0->Fun Tryz.prog G0 99 [.agg (fsC f),.str b,.str p,.sc (.bool fol)] (.tup [.agg (QS (zI f b p fol).1),.sc (.int .i64 (zI f b p fol).2)]) 0:=fun e he hv hb=>by
  refine fon Tryz.func99 ?_;dsimp only[Tryz.f99];push_cast -dsimp;refine cl (hb) ?_;push_cast -dsimp [he];exact dn (by push_cast -dsimp [ze,zd,CLe,zg,hv,jE])
 by_cases h1:p = []
 ·subst h1;refine bad 1 (by decide) (by unfold zI;rw[if_pos rfl]) ?_;refine fon Tryz.func146 ?_;dsimp only[Tryz.f146];push_cast -dsimp;exact dn (by push_cast -dsimp [ze,zd,CLe,zg])
 have h1':=eq_false h1;cases h2:V0 p with
 | true =>
  rw[h2]at hlo;refine bad 7 (by decide) (by unfold zI;rw[if_neg h1,if_pos h2]) ?_;refine fon Tryz.func146 ?_;dsimp only[Tryz.f146];push_cast -dsimp [h1'];refine cl (hlo) ?_;push_cast -dsimp;exact dn (by push_cast -dsimp [ze,zd,CLe,zg])
 | false =>
 rw[h2]at hlo;have hre:Fun Tryz.prog G0 125 [.str p] (.agg [qP (zai p),.own 0 9 1 (zM (zE p)),qP (jv p)]) 1:=Ud p (by omega);have good:∀ h:Int,zI f b p fol=onN f fol 40 (zE p) ⟨0,[],h⟩ (jv p)->(h≠0->zk h f.xs=true)->Yr Tryz.prog G0 146 [.agg (fsC f),.str b,.str p,.sc (.bool fol)] [] 0 (fun r bx m=>m=0/\r = .tup [.ptr 2 0,.sc (.int .i64 0)]/\bx = [[.any,.any,.any,.any],[.any,.any,.any],zkz f fol (jv p) (zE p) ⟨0,[],h⟩ (0:Nat)])->Fun Tryz.prog G0 99 [.agg (fsC f),.str b,.str p,.sc (.bool fol)] (.tup [.agg (QS (zI f b p fol).1),.sc (.int .i64 (zI f b p fol).2)]) 0:=fun h hv hh hbg=>by
  have hgo:=zfM f hf hr hs fol (jv p) (zE p) ⟨0,[],h⟩ (by omega) hd hh _ hv.symm;refine fon Tryz.func99 ?_;dsimp only[Tryz.f99];push_cast -dsimp;refine jo [] [] hbg rfl (by decide) (by decide) (by simp) (by push_cast -dsimp) rfl (fun r bx' m hp=>?_);obtain ⟨rfl,rfl,rfl⟩:=hp;push_cast -dsimp;refine jo [4] [] hgo rfl (by decide) (by decide) (by simp) (by push_cast -dsimp) rfl (fun r bx' m hp=>?_);obtain ⟨rfl,rfl,X,rfl⟩:=hp;push_cast -dsimp;exact dn (by push_cast -dsimp [ze,zd,CLe,zg])
 cases h3:zai p with
 | true =>
  rw[h3]at hre;refine good 1 (by unfold zI;rw[if_neg h1,if_neg (by rw[h2];decide),if_pos h3]) (fun _=>hf.root) ?_;refine foX (fun _=>[]) Tryz.func146 ?_;dsimp only[Tryz.f146];push_cast -dsimp [h1'];refine cl (hlo) ?_;push_cast -dsimp;refine cl (hre) ?_;push_cast -dsimp;exact ⟨_,[_,_,_],0,⟨⟨rfl,rfl,rfl⟩,Nat.zero_le _⟩,[],rfl,rfl,by push_cast -dsimp [ze,zd,CLe,zg],by push_cast -dsimp [ze,zd,CLe,zg]⟩
 | false =>
  rw[h3]at hre;have hh:=zdI f hf hs b hb;by_cases h4:(Qr f b).2=0
  ·rw[h4]at hh;refine good (Qr f b).1 (by unfold zI;rw[if_neg h1,if_neg (by rw[h2];decide),if_neg (by rw[h3];decide),if_neg (fun q=>q h4)]) (fun hne=>?_) ?_
   ·unfold Qr at hne h4 ⊢;split at hne
    ·exact absurd rfl hne
    rename_i c1;rw[if_neg c1]at h4 ⊢;split at hne
    ·exact absurd rfl hne
    rename_i c2;rw[if_neg c2]at h4 ⊢;split at hne
    ·exact absurd rfl hne
    rename_i c3;rw[if_neg c3];have q:=ZG (Classical.not_not.1 c3);rw[(zi q).2.2];exact q
   ·refine foX (fun _=>[]) Tryz.func146 ?_;dsimp only[Tryz.f146];push_cast -dsimp [h1'];refine cl (hlo) ?_;push_cast -dsimp;refine cl (hre) ?_;push_cast -dsimp;refine cl (hh) ?_;push_cast -dsimp;exact ⟨_,[_,_,_],0,⟨⟨rfl,rfl,rfl⟩,Nat.zero_le _⟩,[],rfl,rfl,by push_cast -dsimp [ze,zd,CLe,zg],by push_cast -dsimp [ze,zd,CLe,zg]⟩
  ·refine bad _ h4 (by unfold zI;rw[if_neg h1,if_neg (by rw[h2];decide),if_neg (by rw[h3];decide),if_pos h4]) ?_;refine fon Tryz.func146 ?_;dsimp only[Tryz.f146];push_cast -dsimp [h1'];refine cl (hlo) ?_;push_cast -dsimp;refine cl (hre) ?_;push_cast -dsimp;refine cl (hh) ?_;push_cast -dsimp [h4];exact dn (by push_cast -dsimp [ze,zd,CLe,zg])
end
section
open CA CB
open Go.RowKit QuotePlain
abbrev u8C (b:UInt8):C:=.sc (.int .u8 (b.toNat:Int))
theorem GZ (l:List UInt8) (c:UInt8):(Lib.indexByte l c<0)↔c∉l:=by
 constructor
 ·intro h hc;have h1:=Lib.indexByte_ge l c;obtain ⟨k,hk,e⟩:=List.getElem_of_mem hc;exact Lib.indexByte_none (show Lib.indexByte l c = -1 by omega) k (by rw[List.getElem?_eq_getElem hk,e])
 ·intro h;rcases Int.lt_or_le (Lib.indexByte l c) 0 with h1 | h1
  ·exact h1
  ·obtain ⟨o,ho⟩:∃ o:Nat,Lib.indexByte l c=o:=⟨(Lib.indexByte l c).toNat,by omega⟩;obtain ⟨h2,_⟩:=Lib.indexByte_some ho;exact absurd (List.mem_of_getElem? h2) h
theorem Ur (s:List UInt8) (c:UInt8) (hs:s.length<=1000000):Fun Tryz.prog G0 66 [.str s,u8C c] (.sc (.bool (decide (c∈s)))) 0:=by
 refine fon Tryz.func66 ?_;dsimp only[Tryz.f66];push_cast -dsimp;refine loop (fun k:Nat=>⟨[(0,.str s),(1,u8C c),(5,.sc (.int .i64 k))],[],0,0⟩) (fun k=>k<=s.length/\c∉s.take k) (fun k=>s.length-k) 0 ⟨Nat.zero_le _,by simp⟩ ?_ ?_
 ·exact wk
 ·rintro k ⟨hk,hn⟩;push_cast -dsimp;refine br (fun h=>?_) (fun h=>?_)
  ·have hk2:k<s.length:=by simp at h;omega
   have hg:s[k]?=some s[k]:=List.getElem?_eq_getElem hk2;push_cast -dsimp [hg];refine ⟨by omega,br (fun h2=>?_) (fun h2=>?_)⟩
   ·push_cast -dsimp;have h3:s[k]=c:=by simp at h2;exact UInt8.toNat_inj.1 (by omega)
    have h4:c∈s:=h3▸List.getElem_mem hk2;exact dn (by push_cast -dsimp [ze,zd,CLe,zg,h4])
   ·push_cast -dsimp;have h3:¬c=s[k]:=fun e=>by subst e;simp at h2
    refine ⟨by omega,k+1,⟨by omega,?_⟩,by omega,wk⟩;intro h4;rw[List.take_add_one,hg]at h4;rcases List.mem_append.1 h4 with h5 | h5
    ·exact hn h5
    ·simp at h5;exact h3 h5
  ·have hk2:k=s.length:=by simp at h;omega
   subst hk2;rw[List.take_length]at hn;push_cast -dsimp;exact dn (by push_cast -dsimp [ze,zd,CLe,zg,hn])
theorem xH (k:Int) (o:List UInt8) (ops:C) (c:UInt8) (hops:ops.cellB=true):Fun Tryz.prog G0 98 [.agg [.sc (.int .i64 k),.str o,ops],u8C c] (.sc (.bool (decide (c∈o)))) 0:=by
 refine fon Tryz.func98 ?_;dsimp only[Tryz.f98];push_cast -dsimp [hops];refine cl (QX o c) ?_;push_cast -dsimp;have e:decide (0<=Lib.indexByte o c)=decide (c∈o):=by
  have:=GZ o c;by_cases h:c∈o
  ·have h2:¬Lib.indexByte o c<0:=fun h3=>this.1 h3 h;simp[h];omega
  ·have h2:=this.2 h;simp[h];omega
 exact dn (by push_cast -dsimp [ze,zd,CLe,zg,e])
theorem zrI (c d:UInt8):((c.toNat:Int)=(d.toNat:Int))=(c=d):=by
 refine propext ⟨fun h=>UInt8.toNat_inj.1 (by omega),fun h=>by rw[h]⟩
def XO (s p:List UInt8):UInt8:=s.foldl (fun c b=>if b∈p then b else c) 0
theorem Hf (s p:List UInt8) (i:Nat) (hi:i<s.length):XO (s.take (i+1)) p=if s[i]∈p then s[i] else XO (s.take i) p:=by
 unfold XO;rw[List.take_add_one,List.getElem?_eq_getElem hi,List.foldl_append];simp
theorem NH (s p:List UInt8) (hs:s.length<=1000000) (hp:p.length<=1000000):Fun Tryz.prog G0 111 [.str s,.str p] (u8C (XO s p)) 0:=by
 refine fon Tryz.func111 ?_;dsimp only[Tryz.f111];push_cast -dsimp;refine loop (fun k:Nat=>⟨[(0,.str s),(1,.str p),(5,u8C (XO (s.take k) p)),(6,.sc (.int .i64 k))],[],0,0⟩) (fun k=>k<=s.length) (fun k=>s.length-k) 0 (Nat.zero_le _) ?_ ?_
 ·exact Jz.mk [] rfl rfl (Nat.le_refl _) rfl (by push_cast -dsimp [ze,zd,CLe,zg]<;>rfl) (by push_cast -dsimp [ze,zd,CLe,zg])
 ·rintro k hk;push_cast -dsimp;refine br (fun h=>?_) (fun h=>?_)
  ·have hk2:k<s.length:=by simp at h;omega
   have hg:s[k]?=some s[k]:=List.getElem?_eq_getElem hk2;push_cast -dsimp [hg];refine ⟨by omega,?_⟩;refine cl (Ur p s[k] hp) ?_;push_cast -dsimp;refine br (fun h2=>?_) (fun h2=>?_)
   ·push_cast -dsimp [hg];have e:XO (s.take (k+1)) p=s[k]:=by rw[Hf s p k hk2,if_pos (by simpa using h2)]
    refine ⟨by omega,by omega,k+1,by omega,by omega,wk (by push_cast -dsimp [ze,zd,CLe,zg,e])⟩
   ·push_cast -dsimp [hg];have e:XO (s.take (k+1)) p=XO (s.take k) p:=by rw[Hf s p k hk2,if_neg (by simpa using h2)]
    refine ⟨by omega,k+1,by omega,by omega,wk (by push_cast -dsimp [ze,zd,CLe,zg,e])⟩
  ·have hk2:k=s.length:=by simp at h;omega
   subst hk2;rw[List.take_length];push_cast -dsimp;exact dn
def isO (k:Int) (s:List UInt8) (x:UInt8):Bool:=if 4<=k/\(x=102∨x=110) then decide (XO s [102,110]=x) else if x=114 then decide (114∈s∨82∈s) else if x=82 then false else decide (x∈s)
def Ye (k:Int) (s:List UInt8) (n:Nat):List UInt8:=((List.range' 65 n).map UInt8.ofNat).filter (isO k s)
theorem vH (k:Int) (s:List UInt8) (hs:s.length<=1000000):Fun Tryz.prog G0 65 [.sc (.int .i64 k),.str s] (.str (Ye k s 58)) 0:=by
 refine fon Tryz.func65 ?_;dsimp only[Tryz.f65];push_cast -dsimp;refine loop (fun j:Nat=>⟨[(0,.sc (.int .i64 k)),(1,.str s),(5,.str (Ye k s j)),(6,.sc (.int .i64 (65+j)))],[],0,0⟩) (fun j=>j<=58) (fun j=>58-j) 0 (Nat.zero_le _) ?_ ?_
 ·exact Jz.mk [] rfl rfl (Nat.le_refl _) rfl (by push_cast -dsimp [ze,zd,CLe,zg]<;>rfl) (by push_cast -dsimp [ze,zd,CLe,zg])
 ·rintro j hj;push_cast -dsimp;refine br (fun h=>?_) (fun h=>?_)
  ·have hj2:j<58:=by simp at h;omega
   obtain ⟨x,hxe,hx⟩:∃ x:UInt8,UInt8.ofNat (65+j)=x/\(65+(j:Int))=(x.toNat:Int):=⟨_,rfl,by rw[UInt8.toNat_ofNat_of_lt' (by show 65+j<256;omega)];omega⟩;have hx1:65+((j:Int)+1)=(x.toNat:Int)+1:=by omega
   have hxb:(x.toNat:Int)<123:=by omega
   have hstep:Ye k s (j+1)=Ye k s j++if isO k s x then [x] else []:=by
    unfold Ye;rw[List.range'_concat,List.map_append,List.filter_append];simp only[List.map_cons,List.map_nil,Nat.one_mul,hxe,List.filter_cons,List.filter_nil]
   have hlo:(Ye k s j).length<=j:=Nat.le_trans (List.length_filter_le _ _) (by simp);have hI:∀ (n:Nat) (d:UInt8),d.toNat=n->((x.toNat:Int)=(n:Int))=(x=d):=fun n d h=>h▸zrI x d;have hcase:(x=82)∨(x=114)∨(x≠82/\x≠114/\¬4<=k)∨(x=102/\4<=k)∨(x=110/\4<=k)∨(x≠82/\x≠114/\4<=k/\x≠102/\x≠110):=by
    by_cases h1:x=82
    ·exact .inl h1
    ·by_cases h2:x=114
     ·exact .inr (.inl h2)
     ·by_cases h3:4<=k
      ·by_cases h4:x=102
       ·exact .inr (.inr (.inr (.inl ⟨h4,h3⟩)))
       ·by_cases h5:x=110
        ·exact .inr (.inr (.inr (.inr (.inl ⟨h5,h3⟩))))
        ·exact .inr (.inr (.inr (.inr (.inr ⟨h1,h2,h3,h4,h5⟩))))
      ·exact .inr (.inr (.inl ⟨h1,h2,h3⟩))
   clear hxe;rw[hx];push_cast -dsimp;refine ⟨by omega,?_⟩;refine cl (Ur s x hs) ?_;push_cast -dsimp;rcases hcase with hc | hc | hc | hc | hc | hc
   ·have f0:isO k s x=false:=by simp[isO,hc]
    have e:Ye k s (j+1)=Ye k s j:=by rw[hstep,f0];simp
    have f1:((x.toNat:Int)=82)=True:=(hI 82 82 rfl).trans (by simp[hc]);have f2:((x.toNat:Int)=114)=False:=(hI 114 114 rfl).trans (by simp[hc]);have f3:((x.toNat:Int)=102)=False:=(hI 102 102 rfl).trans (by simp[hc]);have f4:((x.toNat:Int)=110)=False:=(hI 110 110 rfl).trans (by simp[hc]);by_cases h4:4<=k
    all_goals
     push_cast -dsimp [f1,f2,f3,f4,h4]
     repeat (refine And.intro (by omega) ?_)
     refine ⟨j+1,by omega,by omega,wk (by push_cast -dsimp [ze,zd,CLe,zg,e,hx1])⟩
   ·have f0:isO k s x=decide (114∈s∨82∈s):=by simp[isO,hc]
    have f1:((x.toNat:Int)=82)=False:=(hI 82 82 rfl).trans (by simp[hc]);have f2:((x.toNat:Int)=114)=True:=(hI 114 114 rfl).trans (by simp[hc]);have f3:((x.toNat:Int)=102)=False:=(hI 102 102 rfl).trans (by simp[hc]);have f4:((x.toNat:Int)=110)=False:=(hI 110 110 rfl).trans (by simp[hc]);push_cast -dsimp [f1,f2,f3,f4];refine cl (Ur s 114 hs) ?_;push_cast -dsimp;by_cases h6:114∈s
    ·push_cast -dsimp [h6];have e:Ye k s (j+1)=Ye k s j++[x]:=by rw[hstep,f0];simp[h6]
     by_cases h4:4<=k
     all_goals
      push_cast -dsimp [f1,f2,f3,f4,h4];refine ⟨[x],rfl,?_⟩;push_cast -dsimp
      repeat (refine And.intro (by omega) ?_)
      refine ⟨j+1,by omega,by omega,wk (by push_cast -dsimp [ze,zd,CLe,zg,e,hx1])⟩
    ·push_cast -dsimp [h6];refine cl (Ur s 82 hs) ?_;push_cast -dsimp;by_cases h7:82∈s
     ·have e:Ye k s (j+1)=Ye k s j++[x]:=by rw[hstep,f0];simp[h7]
      by_cases h4:4<=k
      all_goals
       push_cast -dsimp [f1,f2,f3,f4,h4,h7];refine ⟨[x],rfl,?_⟩;push_cast -dsimp
       repeat (refine And.intro (by omega) ?_)
       refine ⟨j+1,by omega,by omega,wk (by push_cast -dsimp [ze,zd,CLe,zg,e,hx1])⟩
     ·have e:Ye k s (j+1)=Ye k s j:=by rw[hstep,f0];simp[h6,h7]
      by_cases h4:4<=k
      all_goals
       push_cast -dsimp [f1,f2,f3,f4,h4,h7]
       repeat (refine And.intro (by omega) ?_)
       refine ⟨j+1,by omega,by omega,wk (by push_cast -dsimp [ze,zd,CLe,zg,e,hx1])⟩
   ·have f0:isO k s x=decide (x∈s):=by simp[isO,hc]
    have h4:¬4<=k:=hc.2.2;have f1:((x.toNat:Int)=82)=False:=(hI 82 82 rfl).trans (by simp[hc]);have f2:((x.toNat:Int)=114)=False:=(hI 114 114 rfl).trans (by simp[hc]);by_cases h6:x∈s
    ·have e:Ye k s (j+1)=Ye k s j++[x]:=by rw[hstep,f0];simp[h6]
     push_cast -dsimp [f1,f2,h4,h6];refine ⟨[x],rfl,?_⟩;push_cast -dsimp
     repeat (refine And.intro (by omega) ?_)
     refine ⟨j+1,by omega,by omega,wk (by push_cast -dsimp [ze,zd,CLe,zg,e,hx1])⟩
    ·have e:Ye k s (j+1)=Ye k s j:=by rw[hstep,f0];simp[h6]
     push_cast -dsimp [f1,f2,h4,h6]
     repeat (refine And.intro (by omega) ?_)
     refine ⟨j+1,by omega,by omega,wk (by push_cast -dsimp [ze,zd,CLe,zg,e,hx1])⟩
   ·have f0:isO k s x=decide (XO s [102,110]=x):=by simp[isO,hc]
    have h4:4<=k:=hc.2;have f1:((x.toNat:Int)=82)=False:=(hI 82 82 rfl).trans (by simp[hc]);have f2:((x.toNat:Int)=114)=False:=(hI 114 114 rfl).trans (by simp[hc]);have f3:((x.toNat:Int)=102)=True:=(hI 102 102 rfl).trans (by simp[hc]);have f4:((x.toNat:Int)=110)=False:=(hI 110 110 rfl).trans (by simp[hc]);push_cast -dsimp [f1,f2,f3,f4,h4];refine cl (NH s [102,110] hs (by simp)) ?_;push_cast -dsimp;by_cases h6:XO s [102,110]=x
    ·have g6:((XO s [102,110]).toNat=x.toNat)=True:=by simp[h6]
     have e:Ye k s (j+1)=Ye k s j++[x]:=by rw[hstep,f0];simp[h6]
     push_cast -dsimp [g6];refine ⟨[x],rfl,?_⟩;push_cast -dsimp
     repeat (refine And.intro (by omega) ?_)
     refine ⟨j+1,by omega,by omega,wk (by push_cast -dsimp [ze,zd,CLe,zg,e,hx1])⟩
    ·have g6:((XO s [102,110]).toNat=x.toNat)=False:=by simp[UInt8.toNat_inj,h6]
     have e:Ye k s (j+1)=Ye k s j:=by rw[hstep,f0];simp[h6]
     push_cast -dsimp [g6]
     repeat (refine And.intro (by omega) ?_)
     refine ⟨j+1,by omega,by omega,wk (by push_cast -dsimp [ze,zd,CLe,zg,e,hx1])⟩
   ·have f0:isO k s x=decide (XO s [102,110]=x):=by simp[isO,hc]
    have h4:4<=k:=hc.2;have f1:((x.toNat:Int)=82)=False:=(hI 82 82 rfl).trans (by simp[hc]);have f2:((x.toNat:Int)=114)=False:=(hI 114 114 rfl).trans (by simp[hc]);have f3:((x.toNat:Int)=102)=False:=(hI 102 102 rfl).trans (by simp[hc]);have f4:((x.toNat:Int)=110)=True:=(hI 110 110 rfl).trans (by simp[hc]);push_cast -dsimp [f1,f2,f3,f4,h4];refine cl (NH s [102,110] hs (by simp)) ?_;push_cast -dsimp;by_cases h6:XO s [102,110]=x
    ·have g6:((XO s [102,110]).toNat=x.toNat)=True:=by simp[h6]
     have e:Ye k s (j+1)=Ye k s j++[x]:=by rw[hstep,f0];simp[h6]
     push_cast -dsimp [g6];refine ⟨[x],rfl,?_⟩;push_cast -dsimp
     repeat (refine And.intro (by omega) ?_)
     refine ⟨j+1,by omega,by omega,wk (by push_cast -dsimp [ze,zd,CLe,zg,e,hx1])⟩
    ·have g6:((XO s [102,110]).toNat=x.toNat)=False:=by simp[UInt8.toNat_inj,h6]
     have e:Ye k s (j+1)=Ye k s j:=by rw[hstep,f0];simp[h6]
     push_cast -dsimp [g6]
     repeat (refine And.intro (by omega) ?_)
     refine ⟨j+1,by omega,by omega,wk (by push_cast -dsimp [ze,zd,CLe,zg,e,hx1])⟩
   ·have f0:isO k s x=decide (x∈s):=by simp[isO,hc]
    have h4:4<=k:=hc.2.2.1;have f1:((x.toNat:Int)=82)=False:=(hI 82 82 rfl).trans (by simp[hc]);have f2:((x.toNat:Int)=114)=False:=(hI 114 114 rfl).trans (by simp[hc]);have f3:((x.toNat:Int)=102)=False:=(hI 102 102 rfl).trans (by simp[hc]);have f4:((x.toNat:Int)=110)=False:=(hI 110 110 rfl).trans (by simp[hc]);by_cases h6:x∈s
    ·have e:Ye k s (j+1)=Ye k s j++[x]:=by rw[hstep,f0];simp[h6]
     push_cast -dsimp [f1,f2,f3,f4,h4,h6];refine ⟨[x],rfl,?_⟩;push_cast -dsimp
     repeat (refine And.intro (by omega) ?_)
     refine ⟨j+1,by omega,by omega,wk (by push_cast -dsimp [ze,zd,CLe,zg,e,hx1])⟩
    ·have e:Ye k s (j+1)=Ye k s j:=by rw[hstep,f0];simp[h6]
     push_cast -dsimp [f1,f2,f3,f4,h4,h6]
     repeat (refine And.intro (by omega) ?_)
     refine ⟨j+1,by omega,by omega,wk (by push_cast -dsimp [ze,zd,CLe,zg,e,hx1])⟩
  ·have hj2:j=58:=by simp at h;omega
   subst hj2;push_cast -dsimp;exact dn
abbrev Acc:=List UInt8->UInt8->List UInt8
def Yw (all:List UInt8) (f:Acc):List UInt8->List UInt8->List UInt8×List UInt8
 | a,[]=>(a,[])
 | a,c :: r=>if c∈all then Yw all f (f a c) r else (a,[c])
def qz (all:List UInt8) (f:Acc):List UInt8->Nat->List (List UInt8)->List UInt8×Nat×List UInt8
 | a,n,[]=>(a,n,[])
 | a,n,w :: r=>if w = [45,45] then (a,n+1,[]) else if w.length<2∨w[0]?≠some 45 then (a,n,[]) else
   if (Yw all f a w.tail).2 = [] then qz all f (Yw all f a w.tail).1 (n+1) r else ((Yw all f a w.tail).1,n,(Yw all f a w.tail).2)
def Qx (k:Int):List UInt8:=if k=1 then [112] else if k=2 then [100,102,114,82] else if k=3 then [102,110,115,84] else if k=4 then [102,110,84] else if k=5 then [102,110,114,82,80,84] else []
abbrev Yg:Acc:=fun s c=>s++[c]
theorem zat {all:List UInt8} {f:Acc} {a w:List UInt8} {i:Nat} (hi:i<w.length):Yw all f a (w.drop i)=if w[i]∈all then Yw all f (f a w[i]) (w.drop (i+1)) else (a,[w[i]]):=by
 rw[List.drop_eq_getElem_cons hi,Yw]
theorem HZ {all:List UInt8} {f:Acc} {a:List UInt8} {l:List (List UInt8)} {n:Nat} (hn:n<l.length):qz all f a n (l.drop n)=if l[n] = [45,45] then (a,n+1,[]) else if l[n].length<2∨l[n][0]?≠some 45 then (a,n,[]) else
   if (Yw all f a l[n].tail).2 = [] then qz all f (Yw all f a l[n].tail).1 (n+1) (l.drop (n+1)) else ((Yw all f a l[n].tail).1,n,(Yw all f a l[n].tail).2):=by
 rw[List.drop_eq_getElem_cons hn,qz]
theorem zkr {w:List UInt8} {i:Nat} (hi:i<w.length):(w.take (i+1)).drop i = [w[i]]:=by
 rw[List.take_add_one,List.getElem?_eq_getElem hi];exact List.drop_left' (by rw[List.length_take];omega)
theorem xJ (k:Int) (l:List (List UInt8)) (hk:k=1∨k=2∨k=3∨k=4∨k=5) (hl:l.length<=100) (hs:∀ x∈l,x.length<=1000) :
  Fun Tryz.prog G0 64 [.sc (.int .i64 k),.sl 1 (zM l)] (.tup [.str (qz (Qx k) Yg [] 0 l).1,.sc (.int .i64 (qz (Qx k) Yg [] 0 l).2.1),.str (qz (Qx k) Yg [] 0 l).2.2]) 0:=by
 obtain ⟨A,hA⟩:∃ A,Qx k=A:=⟨_,rfl⟩;have hall:A.length<=1000000:=by
  subst hA;rcases hk with rfl | rfl | rfl | rfl | rfl<;>decide
 rw[hA];refine fon Tryz.func64 ?_;dsimp only[Tryz.f64];rcases hk with rfl | rfl | rfl | rfl | rfl
 case' inl=>have e:A = [112]:=hA.symm.trans rfl
 case' inr.inl=>have e:A = [100,102,114,82]:=hA.symm.trans rfl
 case' inr.inr.inl=>have e:A = [102,110,115,84]:=hA.symm.trans rfl
 case' inr.inr.inr.inl=>have e:A = [102,110,84]:=hA.symm.trans rfl
 case' inr.inr.inr.inr=>have e:A = [102,110,114,82,80,84]:=hA.symm.trans rfl
 all_goals
  push_cast -dsimp;refine loop (fun p:Nat×List UInt8=>⟨[(1,.sl 1 (zM l)),(7,.str A),(8,.str p.2),(9,.sc (.int .i64 p.1))],[],0,0⟩) (fun p=>p.1<=l.length/\qz A Yg [] 0 l=qz A Yg p.2 p.1 (l.drop p.1)/\p.2.length<=1000*p.1) (fun p=>l.length-p.1) (0,[]) ⟨Nat.zero_le _,rfl,Nat.zero_le _⟩ ?_ ?_
  ·exact wk (by push_cast -dsimp [ze,zd,CLe,zg,e])
  ·clear e hA;rintro ⟨n,s⟩ ⟨hn,hq,hsl⟩;dsimp only at hn hq hsl ⊢;by_cases h:n<l.length
   ·have hg:=Um l n h;have hlw:=hs l[n] (List.getElem_mem h);have hstep:=HZ (all:=A) (f:=Yg) (a:=s) h;generalize hw:l[n]=w at hg hlw hstep;by_cases h45:w = [45,45]
    ·rw[if_pos h45]at hstep;have hr:=hq.trans hstep;push_cast -dsimp [h,hg,h45]
     repeat refine an ?_
     exact dn (by push_cast -dsimp [ze,zd,CLe,zg,hr])
    ·rw[if_neg h45]at hstep;by_cases h2:w.length<2
     ·rw[if_pos (.inl h2)]at hstep;have hr:=hq.trans hstep;have h2':((w.length:Int)<2)=True:=eq_true (by omega);push_cast -dsimp [h,hg,h45,h2']
      repeat refine an ?_
      exact dn (by push_cast -dsimp [ze,zd,CLe,zg,hr])
     ·have h2':((w.length:Int)<2)=False:=eq_false (by omega);have h0:w[0]?=some w[0]:=List.getElem?_eq_getElem (by omega);by_cases h3:w[0]=45
      ·have h3':((w[0].toNat:Int)=45)=True:=eq_true (by rw[h3];rfl);rw[if_neg (by rw[h0,h3];simp;omega)]at hstep;push_cast -dsimp [h,hg,h45,h2',h0,h3']
       repeat refine an ?_
       refine loop (fun q:Nat×List UInt8=>⟨[(1,.sl 1 (zM l)),(7,.str A),(8,.str q.2),(9,.sc (.int .i64 n)),(10,.sc (.int .i64 q.1))],[],0,0⟩) (fun q=>1<=q.1/\q.1<=w.length/\Yw A Yg s w.tail=Yw A Yg q.2 (w.drop q.1)/\q.2.length+1<=1000*n+q.1) (fun q=>w.length-q.1) (1,s) ⟨Nat.le_refl _,by dsimp only;omega,by simp,by dsimp only;omega⟩ ?_ ?_
       ·exact wk
       ·rintro ⟨i,t⟩ ⟨hi1,hi2,hi3,hi4⟩;dsimp only at hi1 hi2 hi3 hi4 ⊢;by_cases hi:i<w.length
        ·have hgi:w[i]?=some w[i]:=List.getElem?_eq_getElem hi;have hws:=zat (all:=A) (f:=Yg) (a:=t) hi;push_cast -dsimp [h,hg,hi,hgi]
         repeat refine an ?_
         refine cl (Ur A w[i] hall) ?_;push_cast -dsimp;by_cases hm:w[i]∈A
         ·rw[if_pos hm]at hws;push_cast -dsimp [hm,hg,hgi]
          repeat refine an ?_
          refine ⟨(i+1,t++[w[i]]),⟨by omega,by dsimp only;omega,hi3.trans hws,by simp;omega⟩,by dsimp only;omega,wk (by push_cast -dsimp [ze,zd,CLe,zg,zkr hi])⟩
         ·rw[if_neg hm]at hws;rw[if_neg (by rw[hi3,hws];simp),hi3,hws]at hstep;have hr:=hq.trans hstep;push_cast -dsimp [hm,hg,hgi]
          repeat refine an ?_
          exact dn (by push_cast -dsimp [ze,zd,CLe,zg,hr,zkr hi])
        ·have hil:i=w.length:=by omega
         rw[hil,List.drop_length,Yw]at hi3;rw[if_pos (by rw[hi3]),hi3]at hstep;push_cast -dsimp [h,hg,hi]
         repeat refine an ?_
         exact ⟨(n+1,t),⟨by dsimp only;omega,hq.trans hstep,by dsimp only;omega⟩,by dsimp only;omega,wk⟩
      ·have h3':((w[0].toNat:Int)=45)=False:=eq_false (fun hh=>h3 (UInt8.toNat_inj.1 (by show _=45;omega)));rw[if_pos (.inr (by rw[h0];simpa using h3))]at hstep;have hr:=hq.trans hstep;push_cast -dsimp [h,hg,h45,h2',h0,h3']
       repeat refine an ?_
       exact dn (by push_cast -dsimp [ze,zd,CLe,zg,hr])
   ·have hkl:n=l.length:=by omega
    subst hkl;have hr:=hq;rw[List.drop_length,qz]at hr;push_cast -dsimp [h];exact dn (by push_cast -dsimp [ze,zd,CLe,zg,hr])
def zeh (k:Int):Nat:=if k=4∨k=5 then 2 else 1
def jO (k:Int) (o:List UInt8) (ops:List (List UInt8)):List UInt8:=
 if ops.length=0 then (if k=2/\102∈o then [] else [109,105,115,115,105,110,103,32,111,112,101,114,97,110,100])
 else if ops.length<(if 84∈o then 2 else zeh k) then [109,105,115,115,105,110,103,32,100,101,115,116,105,110,97,116,105,111,110,32,111,112,101,114,97,110,100,32,97,102,116,101,114,32]++quoteL (ops.getD (ops.length-1) [])
 else if 84∈o/\2<ops.length then [101,120,116,114,97,32,111,112,101,114,97,110,100,32]++quoteL (ops.getD 2 []) else []
theorem Q6 (l:List UInt8):(quoteL l).length<=4*l.length+2:=by
 have:=QuoteWalk.mid_len l;simp only[quoteL,List.length_cons,List.length_append,List.length_nil];omega
structure zpe where
 kind:Int
 opts:List UInt8
 operands:List (List UInt8)
def JK (w:List UInt8):Nat->Int
 | 0=>0
 | j+1=>if jN ((j+1:Nat):Int)=w then ((j+1:Nat):Int) else JK w j
def Xz:zpe:=⟨0,[],[]⟩
def jU (kind:Int) (w:List UInt8) (q:List UInt8×Nat×List UInt8) (r:List (List UInt8)):zpe×List UInt8:=
 if q.2.2≠[] then (Xz,w++[58,32,105,110,118,97,108,105,100,32,111,112,116,105,111,110,32]++quoteL q.2.2)
 else if jO kind (Ye kind q.1 58) (r.drop q.2.1)≠[] then (Xz,w++[58,32]++jO kind (Ye kind q.1 58) (r.drop q.2.1))
 else (⟨kind,Ye kind q.1 58,r.drop q.2.1⟩,[])
def Yh:List (List UInt8)->zpe×List UInt8
 | []=>(Xz,[109,105,115,115,105,110,103,32,99,111,109,109,97,110,100])
 | w :: r=>if JK w 5=0 then (Xz,quoteL w++[58,32,117,110,107,110,111,119,110,32,99,111,109,109,97,110,100])
  else jU (JK w 5) w (qz (Qx (JK w 5)) Yg [] 0 r) r
theorem NK (w:List UInt8):∀ j,0<=JK w j/\JK w j<=j
 | 0=>⟨Int.le_refl _,Int.le_refl _⟩
 | j+1=>by
  have:=NK w j;unfold JK;split<;>omega
theorem Nq (A:List UInt8) (f:Acc):∀ (w s:List UInt8),(Yw A f s w).2.length<=1
 | [],s=>Nat.zero_le _
 | c :: w,s=>by
  rw[Yw];split
  ·exact Nq A f w _
  ·exact Nat.le_refl _
theorem xu (A:List UInt8):∀ (w s:List UInt8),(Yw A Yg s w).1.length<=s.length+w.length
 | [],s=>by simp[Yw]
 | c :: w,s=>by
  rw[Yw];split
  ·have h0:(Yg s c).length=s.length+1:=by simp
   have:=xu A w (Yg s c);simp only[List.length_cons];omega
  ·simp only[List.length_cons];omega
theorem VR (A:List UInt8):∀ (l:List (List UInt8)) (s:List UInt8) (n:Nat),(∀ x∈l,x.length<=1000)->(qz A Yg s n l).1.length<=s.length+1000*l.length/\(qz A Yg s n l).2.1<=n+l.length/\(qz A Yg s n l).2.2.length<=1
 | [],s,n,_=>by simp[qz]
 | w :: l,s,n,h=>by
  have hw:=h w (List.mem_cons_self ..);have h1:=Nq A Yg w.tail s;have h2:=xu A w.tail s;have h3:w.tail.length<=1000:=by rw[List.length_tail];omega
  have ih:=VR A l (Yw A Yg s w.tail).1 (n+1) fun x hx=>h x (List.mem_cons_of_mem _ hx);rw[qz];simp only[List.length_cons];split
  ·simp only[List.length_nil];omega
  ·split
   ·simp only[List.length_nil];omega
   ·split
    ·omega
    ·dsimp only;omega
abbrev zsa (c:zpe):C:=.agg [.sc (.int .i64 c.kind),.str c.opts,.own 0 9 1 (zM c.operands)]
theorem zf8 (l:List (List UInt8)) (hl:l.length<=100) (hs:∀ x∈l,x.length<=1000) :
  Fun Tryz.prog G0 37 [.sl 1 (zM l)] (.tup [zsa (Yh l).1,.str (Yh l).2]) 1:=by
 refine fof (fun i=>if i=15 then [false,false,false,false,false,false,true,false,true] else []) Tryz.func37 ?_;dsimp only[Tryz.f37];rcases l with _ | ⟨w,r⟩
 ·push_cast -dsimp [zM,List.map_nil,List.length_nil];exact ⟨[.inr (9,1)],rfl,rfl,by push_cast -dsimp [ze,zd,CLe,zg,Yh,Xz]<;>rfl⟩
 ·have hlr:r.length<=99:=by simp at hl;omega
  have hw:=hs w (List.mem_cons_self ..);have hsr:∀ x∈r,x.length<=1000:=fun x hx=>hs x (List.mem_cons_of_mem _ hx);have hsC:zM (w :: r) = [.str w] :: zM r:=rfl;have hp0:((r.length:Int)+1=0)=False:=eq_false (by omega);rw[hsC];push_cast -dsimp [hp0];refine loop (fun j:Nat=>⟨[(0,.sl 1 ([.str w] :: zM r)),(2,.ptr 0 0),(4,.sc (.int .i64 (JK w j))),(5,.sc (.int .i64 ((j:Int)+1)))],[[.sc (.int .i64 0),.str [],.sc (.slice none 0 0)]],0,0⟩) (fun j=>j<=5) (fun j=>5-j) 0 (Nat.zero_le _) ?_ ?_
  ·exact wk (by push_cast -dsimp [ze,zd,CLe,zg,JK])
  ·rintro j hj;by_cases h:j<5
   ·have hp1:((j:Int)+1<=5)=True:=eq_true (by omega);push_cast -dsimp [hp1];refine cl (MZ ((j:Int)+1)) ?_;push_cast -dsimp;have hku:JK w (j+1)=if jN ((j:Int)+1)=w then (j:Int)+1 else JK w j:=by simp[JK]
    by_cases hm:jN ((j:Int)+1)=w
    ·rw[if_pos hm]at hku;push_cast -dsimp [hm]
     repeat refine an ?_
     exact ⟨j+1,by omega,by omega,wk (by push_cast -dsimp [ze,zd,CLe,zg,hku])⟩
    ·rw[if_neg hm]at hku;push_cast -dsimp [hm]
     repeat refine an ?_
     exact ⟨j+1,by omega,by omega,wk (by push_cast -dsimp [ze,zd,CLe,zg,hku])⟩
   ·have hp1:((j:Int)+1<=5)=False:=eq_false (by omega);have hj5:j=5:=by omega
    subst hj5;have hkle:=NK w 5;have hrd:Yh (w :: r)=if JK w 5=0 then (Xz,quoteL w++[58,32,117,110,107,110,111,119,110,32,99,111,109,109,97,110,100]) else jU (JK w 5) w (qz (Qx (JK w 5)) Yg [] 0 r) r:=rfl;generalize JK w 5=K at hkle hrd ⊢;by_cases hK0:K=0
    ·rw[if_pos hK0]at hrd;have hq:=Q6 w;push_cast -dsimp [hp1,hK0];refine cl (Qd w (by omega)) ?_;push_cast -dsimp
     repeat refine an ?_
     exact ⟨[.inr (9,1)],rfl,rfl,by push_cast -dsimp [ze,zd,CLe,zg,hrd,Xz]<;>rfl⟩
    ·rw[if_neg hK0]at hrd;have hkk:K=1∨K=2∨K=3∨K=4∨K=5:=by omega
     have hlet:=xJ K r hkk (by omega) hsr;have hbnd:=VR (Qx K) r [] 0 hsr;generalize qz (Qx K) Yg [] 0 r=q at hlet hbnd hrd ⊢;obtain ⟨s,n,bad⟩:=q;dsimp only at hlet hbnd;push_cast -dsimp [hp1,hK0]
     repeat refine an ?_
     refine cl (hlet) ?_;push_cast -dsimp;by_cases hbad:bad = []
     ·have hdr:List.drop (1+(n:Int)).toNat ([C.str w] :: zM r)=zM (r.drop n):=by
       rw[show (1+(n:Int)).toNat=n+1 by omega,List.drop_succ_cons];simp[zM]
      have hop:(r.drop n).length<=99:=by rw[List.length_drop];omega
      have hso:∀ x∈r.drop n,x.length<=1000:=fun x hx=>hsr x (List.mem_of_mem_drop hx);have hrt:jU K w (s,n,bad) r=if jO K (Ye K s 58) (r.drop n)≠[] then (Xz,w++[58,32]++jO K (Ye K s 58) (r.drop n)) else (⟨K,Ye K s 58,r.drop n⟩,[]):=by
       unfold jU;rw[if_neg (by simpa using hbad)]
      rw[hrt]at hrd;have h84:=Ur (Ye K s 58) 84 (by have:=List.length_filter_le (isO K s) ((List.range' 65 58).map UInt8.ofNat);simp at this;unfold Ye;omega);have h102:=Ur (Ye K s 58) 102 (by have:=List.length_filter_le (isO K s) ((List.range' 65 58).map UInt8.ofNat);simp at this;unfold Ye;omega);generalize r.drop n=ops at hop hso hrd hdr;push_cast -dsimp [hbad];refine cl (vH K s (by simp at hbnd;omega)) ?_;push_cast -dsimp [hdr];generalize Ye K s 58=O at h84 h102 hrd ⊢
      repeat refine an ?_
      have hleast:zeh K=if 4<=K then 2 else 1:=by
       unfold zeh;by_cases h4:4<=K
       ·rw[if_pos h4,if_pos (by omega)]
       ·rw[if_neg h4,if_neg (by omega)]
      rcases ops with _ | ⟨x,_ | ⟨y,_ | ⟨z,t⟩⟩⟩
      ·by_cases hK2:K=2/\102∈O
       ·have hwv:jO K O [] = []:=by simp[jO,hK2]
        have hr2:=hrd;rw[hwv,if_neg (by simp)]at hr2;have h4:¬4<=K:=by omega
        have hK2':=hK2.1;have m102:=hK2.2;by_cases m84:84∈O
        all_goals
         push_cast -dsimp [h4,zM,List.map_nil,List.map_cons,List.length_nil,List.length_cons];refine cl (h84) ?_;push_cast -dsimp [m84,hK2',zM,List.map_nil,List.map_cons,List.length_nil,List.length_cons];refine cl (h102) ?_;push_cast -dsimp [m102,zM,List.map_nil,List.map_cons,List.length_nil,List.length_cons];exact ⟨[.inl 0],rfl,rfl,by push_cast -dsimp [ze,zd,CLe,zg,hr2,hK2',zM,List.map_nil,List.map_cons,List.length_nil,List.length_cons]⟩
       ·have hwv:jO K O [] = [109,105,115,115,105,110,103,32,111,112,101,114,97,110,100]:=by simp[jO,hK2]
        have hr2:=hrd;rw[hwv,if_pos (by simp)]at hr2;by_cases hK2':K=2
        ·have m102:102∉O:=fun h=>hK2 ⟨hK2',h⟩;have h4:¬4<=K:=by omega
         by_cases m84:84∈O
         all_goals
          push_cast -dsimp [h4,zM,List.map_nil,List.map_cons,List.length_nil,List.length_cons];refine cl (h84) ?_;push_cast -dsimp [m84,hK2',zM,List.map_nil,List.map_cons,List.length_nil,List.length_cons];refine cl (h102) ?_;push_cast -dsimp [m102,zM,List.map_nil,List.map_cons,List.length_nil,List.length_cons]
          repeat refine an ?_
          exact ⟨[.inr (9,1)],rfl,rfl,by push_cast -dsimp [ze,zd,CLe,zg,hr2,Xz,List.append_assoc,List.cons_append,List.nil_append]<;>rfl⟩
        ·by_cases h4:4<=K<;>by_cases m84:84∈O
         all_goals
          push_cast -dsimp [h4,hK2',zM,List.map_nil,List.map_cons,List.length_nil,List.length_cons]
          try refine cl (h84) ?_;push_cast -dsimp [m84,hK2',zM,List.map_nil,List.map_cons,List.length_nil,List.length_cons]
          repeat refine an ?_
          exact ⟨[.inr (9,1)],rfl,rfl,by push_cast -dsimp [ze,zd,CLe,zg,hr2,Xz,List.append_assoc,List.cons_append,List.nil_append]<;>rfl⟩
      ·have hx:=hso x (by simp);have hqx:=Q6 x;by_cases hl2:4<=K∨84∈O
       ·have hwv:jO K O [x] = [109,105,115,115,105,110,103,32,100,101,115,116,105,110,97,116,105,111,110,32,111,112,101,114,97,110,100,32,97,102,116,101,114,32]++quoteL x:=by
         unfold jO;rw[if_neg (by simp),if_pos (by rw[hleast];rcases hl2 with h | h<;>simp[h])];rfl
        have hr2:=hrd;rw[hwv,if_pos (by simp)]at hr2;have h3:(4<=K/\84∈O)∨(4<=K/\84∉O)∨(¬4<=K/\84∈O):=by
         by_cases a:4<=K<;>by_cases b:84∈O<;>simp[a,b]at hl2 ⊢
        rcases h3 with ⟨h4,m84⟩ | ⟨h4,m84⟩ | ⟨h4,m84⟩
        all_goals
         push_cast -dsimp [h4,zM,List.map_nil,List.map_cons,List.length_nil,List.length_cons]
         try refine cl (h84) ?_;push_cast -dsimp [m84,zM,List.map_nil,List.map_cons,List.length_nil,List.length_cons]
         repeat refine an ?_
         refine cl (Qd x (by omega)) ?_;push_cast -dsimp
         repeat refine an ?_
         exact ⟨[.inr (9,1)],rfl,rfl,by push_cast -dsimp [ze,zd,CLe,zg,hr2,Xz,List.append_assoc,List.cons_append,List.nil_append]<;>rfl⟩
       ·have h4:¬4<=K:=fun h=>hl2 (.inl h);have m84:84∉O:=fun h=>hl2 (.inr h);have hwv:jO K O [x] = []:=by
         unfold jO;rw[if_neg (by simp),hleast];simp[h4,m84]
        have hr2:=hrd;rw[hwv,if_neg (by simp)]at hr2;push_cast -dsimp [h4,zM,List.map_nil,List.map_cons,List.length_nil,List.length_cons];refine cl (h84) ?_;push_cast -dsimp [m84,zM,List.map_nil,List.map_cons,List.length_nil,List.length_cons];exact ⟨[.inl 0],rfl,rfl,by push_cast -dsimp [ze,zd,CLe,zg,hr2,zM,List.map_nil,List.map_cons,List.length_nil,List.length_cons]⟩
      ·have hwv:jO K O [x,y] = []:=by
        unfold jO;rw[if_neg (by simp),hleast];by_cases h4:4<=K<;>by_cases m84:84∈O<;>simp[h4,m84]
       have hr2:=hrd;rw[hwv,if_neg (by simp)]at hr2;by_cases h4:4<=K<;>by_cases m84:84∈O
       all_goals
        push_cast -dsimp [h4,zM,List.map_nil,List.map_cons,List.length_nil,List.length_cons]
        try refine cl (h84) ?_;push_cast -dsimp [m84,zM,List.map_nil,List.map_cons,List.length_nil,List.length_cons]
        exact ⟨[.inl 0],rfl,rfl,by push_cast -dsimp [ze,zd,CLe,zg,hr2,zM,List.map_nil,List.map_cons,List.length_nil,List.length_cons]⟩
      ·have hz:=hso z (by simp);have hqz:=Q6 z;have hp0:((t.length:Int)+1+1+1=0)=False:=eq_false (by omega);have hp2:((t.length:Int)+1+1+1<2)=False:=eq_false (by omega);have hp3:((t.length:Int)+1+1+1<1)=False:=eq_false (by omega);have hp4:(2<(t.length:Int)+1+1+1)=True:=eq_true (by omega);have hp5:(0<(t.length:Int)+1+1+1)=True:=eq_true (by omega);by_cases m84:84∈O
       ·have hwv:jO K O (x :: y :: z :: t) = [101,120,116,114,97,32,111,112,101,114,97,110,100,32]++quoteL z:=by
         unfold jO;rw[if_neg (by simp),hleast,if_neg (by simp[m84]),if_pos (by simp[m84])];rfl
        have hr2:=hrd;rw[hwv,if_pos (by simp)]at hr2;by_cases h4:4<=K
        all_goals
         push_cast -dsimp [h4,hp0,hp2,hp3,hp4,hp5,zM,List.map_nil,List.map_cons,List.length_nil,List.length_cons]
         try refine cl (h84) ?_;push_cast -dsimp [m84,hp0,hp2,hp3,hp4,hp5,zM,List.map_nil,List.map_cons,List.length_nil,List.length_cons]
         try refine cl (h84) ?_;push_cast -dsimp [m84,hp0,hp2,hp3,hp4,hp5,zM,List.map_nil,List.map_cons,List.length_nil,List.length_cons]
         repeat refine an ?_
         refine cl (Qd z (by omega)) ?_;push_cast -dsimp
         repeat refine an ?_
         exact ⟨[.inr (9,1)],rfl,rfl,by push_cast -dsimp [ze,zd,CLe,zg,hr2,Xz,List.append_assoc,List.cons_append,List.nil_append]<;>rfl⟩
       ·have hwv:jO K O (x :: y :: z :: t) = []:=by
         unfold jO;rw[if_neg (by simp),hleast];by_cases h4:4<=K<;>simp[h4,m84]
        have hr2:=hrd;rw[hwv,if_neg (by simp)]at hr2;by_cases h4:4<=K
        all_goals
         push_cast -dsimp [h4,hp0,hp2,hp3,hp4,hp5,zM,List.map_nil,List.map_cons,List.length_nil,List.length_cons]
         try refine cl (h84) ?_;push_cast -dsimp [m84,hp0,hp2,hp3,hp4,hp5,zM,List.map_nil,List.map_cons,List.length_nil,List.length_cons]
         try refine cl (h84) ?_;push_cast -dsimp [m84,hp0,hp2,hp3,hp4,hp5,zM,List.map_nil,List.map_cons,List.length_nil,List.length_cons]
         exact ⟨[.inl 0],rfl,rfl,by push_cast -dsimp [ze,zd,CLe,zg,hr2,zM,List.map_nil,List.map_cons,List.length_nil,List.length_cons]⟩
     ·have hqb:=Q6 bad;have hrt:jU K w (s,n,bad) r=(Xz,w++[58,32,105,110,118,97,108,105,100,32,111,112,116,105,111,110,32]++quoteL bad):=by
       unfold jU;rw[if_pos (by simpa using hbad)]
      rw[hrt]at hrd;push_cast -dsimp [hbad]
      repeat refine an ?_
      refine cl (Qd bad (by omega)) ?_;push_cast -dsimp
      repeat refine an ?_
      exact ⟨[.inr (9,1)],rfl,rfl,by push_cast -dsimp [ze,zd,CLe,zg,hrd,Xz]<;>rfl⟩
theorem zde (l:List (List UInt8)):(Yh l).1.operands.length<=l.length:=by
 cases l with
 | nil=>simp[Yh,Xz]
 | cons w r =>
  rw[Yh];split
  ·simp[Xz]
  ·unfold jU;split
   ·simp[Xz]
   ·split
    ·simp[Xz]
    ·simp only[List.length_drop,List.length_cons];omega
end
section
open CA CB
open Go.RowKit
abbrev znB (k:Int) (o:List UInt8) (ops:List (List UInt8)):List C:=[.sc (.int .i64 k),.str o,.sl 1 (zM ops)]
theorem zdK (d:qd) (hd:d.diags.length<=80000) (k w:Int) (a b:List UInt8) (e:Int) (ha:a.length<=3000) (hb:b.length<=3000):Fun Tryz.prog GD 40 [kG d,.sc (.int .i64 k),.sc (.int .i64 w),.str a,.str b,.sc (.int .i64 e)] (kG (YD d (Xy k w a b e))) 0:=
 (zee d hd k w a b e ha hb).weak (by push_cast -dsimp [ze,zd,CLe,zg,YD])
end
section
open CA CB
open Go.RowKit
theorem zg9 {f:FsV} {b p:List UInt8} (h:zk (zI f b p true).1.ino f.xs=false):Hs f b p=false:=by
 unfold Hs;rw[vh h,Bool.and_eq_false_iff];exact .inr rfl
theorem zjC (f:FsV) (hf:FsI f) (hr:FsR f) (hs:FsS f) (hd:kU f.xs) (b p:List UInt8) (hb:b.length<=100000) (hp:p.length<=3000):Fun Tryz.prog G0 114 [.agg (fsC f),.str b,.str p] (.sc (.bool (Hs f b p))) 0:=by
 have hsk:=Zm f hf hr hs hd b p true hb hp;have hg:=qY (G:=G0) f (zI f b p true).1.ino (by have:=hs.len;omega) hf.rises;have e:Hs f b p=(decide ((zI f b p true).2=0)&&decide ((zf (zI f b p true).1.ino f.xs).kind=2)):=rfl;have hno:=zg9 (f:=f) (b:=b) (p:=p);by_cases h1:(zI f b p true).2=0
 ·have h1':=eq_true h1;rw[decide_eq_true h1,Bool.true_and]at e;cases hh:zk (zI f b p true).1.ino f.xs with
  | false =>
   rw[hh]at hg;rw[hno hh];refine fon Tryz.func114 ?_;dsimp only[Tryz.f114];push_cast -dsimp;refine cl (hsk) ?_;push_cast -dsimp [h1'];refine cl (hg) ?_;push_cast -dsimp [h1'];exact dn (by push_cast -dsimp [ze,zd,CLe,zg])
  | true =>
   rw[hh]at hg;rw[e];refine fon Tryz.func114 ?_;dsimp only[Tryz.f114];push_cast -dsimp;refine cl (hsk) ?_;push_cast -dsimp [h1'];refine cl (hg) ?_;push_cast -dsimp [h1'];exact dn (by push_cast -dsimp [ze,zd,CLe,zg])
 ·have h1':=eq_false h1;rw[decide_eq_false h1,Bool.false_and]at e;rw[e];refine fon Tryz.func114 ?_;dsimp only[Tryz.f114];push_cast -dsimp;refine cl (hsk) ?_;push_cast -dsimp [h1'];refine cl (hg) ?_;push_cast -dsimp [h1'];exact dn (by push_cast -dsimp [ze,zd,CLe,zg])
theorem Ua {ops:List (List UInt8)} (h:0<ops.length):ops[ops.length-1]?=some (ops.getLastD []):=by
 rcases List.eq_nil_or_concat ops with e | ⟨l,x,e⟩
 ·rw[e]at h;exact absurd h (Nat.lt_irrefl 0)
 ·rw[e,List.concat_eq_append,List.getLastD_concat];simp
theorem zjV (f:FsV) (hf:FsI f) (hr:FsR f) (hs:FsS f) (hd:kU f.xs) (b:List UInt8) (hb:b.length<=100000) (k:Int) (o:List UInt8) (ops:List (List UInt8)) (hn:ops.length<=1000) (hp:∀ x∈ops,x.length<=1000):Fun Tryz.prog G0 68 [.agg (fsC f),.str b,.agg (znB k o ops)] (.sc (.bool (zeo f b k o ops))) 0:=by
 have hll:(zM ops).length=ops.length:=List.length_map ..;have e:zeo f b k o ops=(!decide (ops.length<2)&&!decide ((84:UInt8)∈o)&&!zfo f b k o (ops.getLastD [])&&Hs f b (ops.getLastD [])):=rfl;have h84:=xH k o (.sl 1 (zM ops)) 84 rfl;have h110:=xH k o (.sl 1 (zM ops)) 110 rfl;by_cases c1:ops.length<2
 ·have c1':=eq_true (show (ops.length:Int)<2 by omega);rw[decide_eq_true c1]at e;rw[e];refine fon Tryz.func68 ?_;dsimp only[Tryz.f68];push_cast -dsimp [hll,c1'];exact dn (by push_cast -dsimp [ze,zd,CLe,zg,Bool.not_true,Bool.false_and])
 have c1':=eq_false (show ¬(ops.length:Int)<2 by omega);rw[decide_eq_false c1]at e;by_cases c2:(84:UInt8)∈o
 ·rw[decide_eq_true c2]at e h84;rw[e];refine fon Tryz.func68 ?_;dsimp only[Tryz.f68];push_cast -dsimp [hll,c1'];refine cl (h84) ?_;push_cast -dsimp;exact dn (by push_cast -dsimp [ze,zd,CLe,zg,Bool.not_true,Bool.false_and,Bool.and_false])
 rw[decide_eq_false c2]at e h84;have hlg:=Ua (ops:=ops) (by omega);have hla:(zM ops)[ops.length-1]?=some [.str (ops.getLastD [])]:=by rw[List.getElem?_map,hlg];rfl
 have hlx:((ops.length:Int)-1).toNat=ops.length-1:=by omega
 have hll2:(ops.getLastD []).length<=1000:=hp _ (List.mem_of_getElem? hlg);have hdi:=zjC f hf hr hs hd b (ops.getLastD []) hb (by omega);have hsk:=Zm f hf hr hs hd b (ops.getLastD []) false hb (by omega);have hg:=qY (G:=G0) f (zI f b (ops.getLastD []) false).1.ino (by have:=hs.len;omega) hf.rises;have el:zfo f b k o (ops.getLastD [])=(decide (k=3)&&decide ((110:UInt8)∈o)&&decide ((zI f b (ops.getLastD []) false).2=0)&&decide ((zf (zI f b (ops.getLastD []) false).1.ino f.xs).kind=3)):=rfl;clear hlg;generalize ops.getLastD []=p at *;have hno:zk (zI f b p false).1.ino f.xs=false->(zf (zI f b p false).1.ino f.xs).kind≠3:=fun q=>by rw[vh q];exact show ¬(0:Int)=3 by decide
 generalize zI f b p false=T at *;by_cases c3:k=3
 ·have c3':=eq_true c3;by_cases c4:(110:UInt8)∈o
  ·rw[decide_eq_true c4]at h110 el;rw[decide_eq_true c3]at el;by_cases c5:T.2=0
   ·have c5':=eq_true c5;rw[decide_eq_true c5]at el;cases c6:zk T.1.ino f.xs with
    | false =>
     rw[c6]at hg;rw[decide_eq_false (hno c6)]at el;rw[el]at e;rw[e];refine fon Tryz.func68 ?_;dsimp only[Tryz.f68];push_cast -dsimp [hll,c1'];refine cl (h84) ?_;push_cast -dsimp;push_cast -dsimp [hll,hla,hlx,c3']
     repeat refine an ?_
     refine cl (h110) ?_;push_cast -dsimp;refine cl (hsk) ?_;push_cast -dsimp [c5'];refine cl (hg) ?_;push_cast -dsimp [c5'];refine cl (hdi) ?_;push_cast -dsimp;exact dn (by push_cast -dsimp [ze,zd,CLe,zg,Bool.and_false,Bool.not_false,Bool.true_and])
    | true =>
     rw[c6]at hg;by_cases c7:(zf T.1.ino f.xs).kind=3
     ·have c7':=eq_true c7;rw[decide_eq_true c7]at el;rw[el]at e;rw[e];refine fon Tryz.func68 ?_;dsimp only[Tryz.f68];push_cast -dsimp [hll,c1'];refine cl (h84) ?_;push_cast -dsimp;push_cast -dsimp [hll,hla,hlx,c3']
      repeat refine an ?_
      refine cl (h110) ?_;push_cast -dsimp;refine cl (hsk) ?_;push_cast -dsimp [c5'];refine cl (hg) ?_;push_cast -dsimp [c5',c7'];exact dn (by push_cast -dsimp [ze,zd,CLe,zg,Bool.and_true,Bool.not_true,Bool.and_false,Bool.false_and])
     ·have c7':=eq_false c7;rw[decide_eq_false c7]at el;rw[el]at e;rw[e];refine fon Tryz.func68 ?_;dsimp only[Tryz.f68];push_cast -dsimp [hll,c1'];refine cl (h84) ?_;push_cast -dsimp;push_cast -dsimp [hll,hla,hlx,c3']
      repeat refine an ?_
      refine cl (h110) ?_;push_cast -dsimp;refine cl (hsk) ?_;push_cast -dsimp [c5'];refine cl (hg) ?_;push_cast -dsimp [c5',c7'];refine cl (hdi) ?_;push_cast -dsimp;exact dn (by push_cast -dsimp [ze,zd,CLe,zg,Bool.and_false,Bool.not_false,Bool.true_and])
   ·have c5':=eq_false c5;rw[decide_eq_false c5,Bool.and_false,Bool.false_and]at el;rw[el]at e;rw[e];refine fon Tryz.func68 ?_;dsimp only[Tryz.f68];push_cast -dsimp [hll,c1'];refine cl (h84) ?_;push_cast -dsimp;push_cast -dsimp [hll,hla,hlx,c3']
    repeat refine an ?_
    refine cl (h110) ?_;push_cast -dsimp;refine cl (hsk) ?_;push_cast -dsimp [c5'];refine cl (hg) ?_;push_cast -dsimp [c5'];refine cl (hdi) ?_;push_cast -dsimp;exact dn (by push_cast -dsimp [ze,zd,CLe,zg,Bool.and_false,Bool.not_false,Bool.true_and])
  ·rw[decide_eq_false c4]at h110 el;rw[Bool.and_false,Bool.false_and,Bool.false_and]at el;rw[el]at e;rw[e];refine fon Tryz.func68 ?_;dsimp only[Tryz.f68];push_cast -dsimp [hll,c1'];refine cl (h84) ?_;push_cast -dsimp;push_cast -dsimp [hll,hla,hlx,c3']
   repeat refine an ?_
   refine cl (h110) ?_;push_cast -dsimp;refine cl (hdi) ?_;push_cast -dsimp;exact dn (by push_cast -dsimp [ze,zd,CLe,zg,Bool.and_false,Bool.not_false,Bool.true_and])
 ·have c3':=eq_false c3;rw[decide_eq_false c3,Bool.false_and,Bool.false_and,Bool.false_and]at el;rw[el]at e;rw[e];refine fon Tryz.func68 ?_;dsimp only[Tryz.f68];push_cast -dsimp [hll,c1'];refine cl (h84) ?_;push_cast -dsimp;push_cast -dsimp [hll,hla,hlx,c3']
  repeat refine an ?_
  refine cl (hdi) ?_;push_cast -dsimp;exact dn (by push_cast -dsimp [ze,zd,CLe,zg,Bool.and_false,Bool.not_false,Bool.true_and])
end
section
open CA CB
open Go.RowKit
theorem zbX (f:FsV) (hf:FsI f) (hr:FsR f) (hs:FsS f) (hd:kU f.xs) (b:List UInt8) (hb:b.length<=100000) (k:Int) (o:List UInt8) (ops:List (List UInt8)) (hn:ops.length<=1000) (hp:∀ x∈ops,x.length<=1000):Fun Tryz.prog G0 39 [.agg (fsC f),.str b,.agg (znB k o ops)] (.tup [.sl 1 (zM ((Ja f b k o ops).getD [])),.sc (.bool (Ja f b k o ops).isSome)]) 0:=by
 have hll:(zM ops).length=ops.length:=List.length_map ..;have hin:=zjV f hf hr hs hd b hb k o ops hn hp;by_cases c1:ops.length=1
 ·have c1':=eq_true (show (ops.length:Int)=1 by omega);obtain ⟨p,rfl⟩:=List.length_eq_one_iff.1 c1;have e:Ja f b k o [p]=some [Q9 p]:=rfl;have hba:=zap p (by have:=hp p List.mem_cons_self;omega);rw[e];refine fon Tryz.func39 ?_;dsimp only[Tryz.f39];push_cast -dsimp [zM,List.map_cons,List.map_nil,List.length_cons,List.length_nil]
  repeat refine an ?_
  refine cl (hba) ?_;push_cast -dsimp;exact dn (by push_cast -dsimp [ze,zd,CLe,zg,Option.getD_some,Option.isSome_some,zM,List.map_cons,List.map_nil])
 have c1':=eq_false (show ¬(ops.length:Int)=1 by omega);cases c2:zeo f b k o ops with
 | true =>
  rw[c2]at hin;have e:Ja f b k o ops=some (ops.dropLast.map fun p=>ZQ (ops.getLastD []) (Q9 p)):=by unfold Ja;rw[if_neg c1,if_pos c2]
  have hn2:¬ops.length<2:=fun q=>by
   unfold zeo at c2;rw[decide_eq_true q]at c2;cases c2
  have hlg:=Ua (ops:=ops) (by omega);have hla:(zM ops)[ops.length-1]?=some [.str (ops.getLastD [])]:=by rw[List.getElem?_map,hlg];rfl
  have hlx:((ops.length:Int)-1).toNat=ops.length-1:=by omega
  have hl2:(ops.getLastD []).length<=1000:=hp _ (List.mem_of_getElem? hlg);have hdl:ops.take (ops.length-1)=ops.dropLast:=List.dropLast_eq_take.symm;have hpd:∀ x∈ops.dropLast,x.length<=1000:=fun x hx=>hp x (List.dropLast_subset _ hx);have hdn:ops.dropLast.length=ops.length-1:=List.length_dropLast;clear hlg hp;rw[e];generalize ops.getLastD []=z at *;generalize ops.dropLast=dl at *;have hdll:(zM dl).length=dl.length:=List.length_map ..;have hdc:((ops.length:Int)-1)=(dl.length:Int):=by omega
  refine fof (fun i=>if i=9 then [false,false,false,false,false,false,false,false,false,false,false,true] else []) Tryz.func39 ?_;dsimp only[Tryz.f39];push_cast -dsimp [hll,c1'];refine cl (hin) ?_;push_cast -dsimp;push_cast -dsimp [hll,hlx,hdl,hdll]
  repeat refine an ?_
  push_cast -dsimp [hll,hlx,hdl,hdll];refine loop (fun i:Nat=>⟨[(5,.ptr 1 0),(8,.sc (.int .i64 (ops.length:Nat))),(9,.own 0 9 1 (zM ((dl.take i).map fun p=>ZQ z (Q9 p)))),(33,.sl 1 (zM dl)),(34,.sc (.int .i64 (dl.length:Nat))),(35,.sc (.int .i64 i))],[[.any,.any,.any,.any],znB k o ops],1,0⟩) (fun i=>i<=dl.length) (fun i=>dl.length-i) 0 (Nat.zero_le _) ?_ ?_
  ·exact wks [.inr (9,1)] (h4:=by push_cast -dsimp [ze,zd,CLe,zg,List.take_zero,List.map_nil,zM,hdl])
  intro i hi;by_cases hlt:i<dl.length
  ·have hlt':=eq_true (show (i:Int)<dl.length by omega);have hgi:(zM dl)[i]?=some [.str dl[i]]:=by simp[zM,hlt]
   have hx:=hpd _ (List.getElem_mem hlt);have ht:zM ((dl.take (i+1)).map fun p=>ZQ z (Q9 p))=zM ((dl.take i).map fun p=>ZQ z (Q9 p))++[[.str (ZQ z (Q9 dl[i]))]]:=by
    rw[List.take_succ_eq_append_getElem hlt,List.map_append];exact List.map_append
   generalize dl[i]=p at *;have hba:=zap p (by omega);have hbl:=vm p;have hj:=zes z (Q9 p) (by omega) (by omega);have htl:(zM ((dl.take i).map fun p=>ZQ z (Q9 p))).length=i:=by simp[zM];omega
   push_cast -dsimp [hlt',hgi,hll,hla,hlx,Int.toNat_natCast]
   repeat refine an ?_
   refine cl (hba) ?_;push_cast -dsimp [hll,hla,hlx]
   repeat refine an ?_
   refine cl (hj) ?_;push_cast -dsimp [htl]
   repeat refine an ?_
   exact ⟨i+1,by omega,by omega,wks [.inl 0] (h4:=by push_cast -dsimp [ze,zd,CLe,zg,ht])⟩
  ·have hlt':=eq_false (show ¬(i:Int)<dl.length by omega);have hil:i=dl.length:=by omega
   rw[hil]at hlt' ⊢;rw[List.take_length];push_cast -dsimp [hlt'];exact dn (by push_cast -dsimp [ze,zd,CLe,zg,Option.getD_some,Option.isSome_some])
 | false =>
  rw[c2]at hin;by_cases c3:ops.length=2
  ·have c3':=eq_true (show (ops.length:Int)=2 by omega);have e:Ja f b k o ops=some [ops.getLastD []]:=by unfold Ja;rw[if_neg c1,if_neg (by rw[c2];decide),if_pos c3]
   have hlg:=Ua (ops:=ops) (by omega);have hla:(zM ops)[1]?=some [.str (ops.getLastD [])]:=by rw[List.getElem?_map,show (1:Nat)=ops.length-1 by omega,hlg];rfl
   rw[e];refine fon Tryz.func39 ?_;dsimp only[Tryz.f39];push_cast -dsimp [hll,c1'];refine cl (hin) ?_;push_cast -dsimp [hll,c3',hla]
   repeat refine an ?_
   exact dn (by push_cast -dsimp [ze,zd,CLe,zg,Option.getD_some,Option.isSome_some,zM,List.map_cons,List.map_nil])
  ·have c3':=eq_false (show ¬(ops.length:Int)=2 by omega);have e:Ja f b k o ops=none:=by unfold Ja;rw[if_neg c1,if_neg (by rw[c2];decide),if_neg c3]
   rw[e];refine fon Tryz.func39 ?_;dsimp only[Tryz.f39];push_cast -dsimp [hll,c1'];refine cl (hin) ?_;push_cast -dsimp [hll,c3'];exact dn (by push_cast -dsimp [ze,zd,CLe,zg,Option.getD_none,Option.isSome_none,zM,List.map_nil])
end
section
open CA CB
open Go.RowKit
theorem za1 (f:FsV) (hf:FsI f) (hs:FsS f) (d o:Int):Fun Tryz.prog G0 123 [.agg (fsC f),.sc (.int .i64 d),.sc (.int .i64 o)] (.sc (.bool (ud f.xs f.xs.length d o))) 0:=by
 have hll:(zq f.xs).length=f.xs.length:=List.length_map ..;have hlen:=hs.len;refine fon Tryz.func123 ?_;dsimp only[Tryz.f123];push_cast -dsimp;refine loop (fun p:Nat×Int=>⟨[(1,.sc (.int .i64 p.2)),(2,.sc (.int .i64 o)),(3,.ptr 0 0),(7,.sc (.bool false)),(12,.sc (.int .i64 (f.xs.length:Nat))),(13,.sc (.int .i64 p.1))],[fsC f],0,0⟩) (fun p=>p.1<=f.xs.length/\ud f.xs f.xs.length d o=ud f.xs (f.xs.length-p.1) p.2 o) (fun p=>f.xs.length-p.1) (0,d) ⟨Nat.zero_le _,rfl⟩ ?_ ?_
 ·exact wk (h4:=by push_cast -dsimp [ze,zd,CLe,zg,hll])
 rintro ⟨i,c⟩ ⟨h1,h2⟩;dsimp only at h1 h2;by_cases hi:i<f.xs.length
 ·have hi':=eq_true (show (i:Int)<f.xs.length by omega);have hg:=qY (G:=G0) f c (by omega) hf.rises;have e:ud f.xs (f.xs.length-i) c o=if c=o then true else if c=1 then false else ud f.xs (f.xs.length-(i+1)) (zf c f.xs).parent o:=by
   rw[show f.xs.length-i=(f.xs.length-(i+1))+1 by omega];rfl
  rw[e]at h2;by_cases c1:c=o
  ·have c1':=eq_true c1;rw[if_pos c1]at h2;rw[h2];push_cast -dsimp [hi'];refine cl (hg) ?_;push_cast -dsimp [c1'];exact dn (by push_cast -dsimp [ze,zd,CLe,zg])
  ·have c1':=eq_false c1;rw[if_neg c1]at h2;by_cases c2:c=1
   ·have c2':=eq_true c2;rw[if_pos c2]at h2;rw[h2];push_cast -dsimp [hi'];refine cl (hg) ?_;push_cast -dsimp [c1',c2'];exact dn (by push_cast -dsimp [ze,zd,CLe,zg])
   ·have c2':=eq_false c2;rw[if_neg c2]at h2;push_cast -dsimp [hi'];refine cl (hg) ?_;push_cast -dsimp [c1',c2']
    repeat refine an ?_
    exact ⟨(i+1,(zf c f.xs).parent),⟨by dsimp only;omega,h2⟩,by dsimp only;omega,wk⟩
 ·have hi':=eq_false (show ¬(i:Int)<f.xs.length by omega);have e:ud f.xs (f.xs.length-i) c o=false:=by rw[show f.xs.length-i=0 by omega];rfl
  rw[h2,e];push_cast -dsimp [hi'];exact dn (by push_cast -dsimp [ze,zd,CLe,zg])
abbrev zpL (a t:zR) (x y:zm) (th:Bool):List C:=[.sc (.int .i64 a.dir),.str a.name,.sc (.int .i64 a.ino),.sc (.int .i64 t.dir),.str t.name,.sc (.int .i64 t.ino),.sc (.int .i64 x.ino),.sc (.int .i64 x.kind),.sc (.int .i64 x.links),.str x.data,.sc (.int .i64 x.parent),.sl 2 (zL x.es),.sc (.int .i64 y.ino),.sc (.int .i64 y.kind),.sc (.int .i64 y.links),.str y.data,.sc (.int .i64 y.parent),.sl 2 (zL y.es),.sc (.bool th)]
abbrev zmk:List C:=[.sc (.int .i64 0),.str [],.sc (.int .i64 0),.sc (.int .i64 0),.str [],.sc (.int .i64 0),.sc (.int .i64 0),.sc (.int .i64 0),.sc (.int .i64 0),.str [],.sc (.int .i64 0),.sc (.slice none 0 0),.sc (.int .i64 0),.sc (.int .i64 0),.sc (.int .i64 0),.str [],.sc (.int .i64 0),.sc (.slice none 0 0),.sc (.bool false)]
abbrev vC (e:List C) (d:qd) (k:Int) (o:List UInt8) (ops:List (List UInt8)) (u v:List UInt8):List C:=e++(zrF d++(znB k o ops++[.str u,.str v]))
abbrev zf4 (e:Int×Int) (ok:Bool):C:=.tup [.agg [.sc (.int .i64 e.1),.sc (.int .i64 e.2)],.sc (.bool ok)]
end
section
open CA CB
open Go.RowKit
theorem GrD.s {N:Nat} {d:qd} (h:GrD N d) (hN:N<=9000):N5 d:=h.b.s hN
theorem zaE {N:Nat} {d:qd} (h:GrD N d) (hN:N<=3000) (b:List UInt8) (hb:b.length<=100000) (k:Int) (o:List UInt8) (ops:List (List UInt8)) (u v:List UInt8) (hu:u.length<=3000) (hv:v.length<=3000) :
  Yr Tryz.prog GD 72 [.ptr 0 0,.str b] [vC zmk d k o ops u v] 0 (fun r bx' n=>n=0/\r=zf4 ((mvS d.w.fs b u v).getD (0,0)) (mvS d.w.fs b u v).isNone/\bx' = [vC (match mvS d.w.fs b u v with | some _=>zmk | none=>zpL (zI d.w.fs b u false).1 (zI d.w.fs b v false).1 (zf (zI d.w.fs b u false).1.ino d.w.fs.xs) (zf (zI d.w.fs b v false).1.ino d.w.fs.xs) (zk (zI d.w.fs b v false).1.ino d.w.fs.xs)) d k o ops u v]):=by
 have hs:=(h.s (by omega)).ws.fs;have hs1:=(Zm d.w.fs h.b.wi.fs h.r.fs hs h.dat b u false hb hu).g0 (G':=GD);have hs2:=(Zm d.w.fs h.b.wi.fs h.r.fs hs h.dat b v false hb hv).g0 (G':=GD);have hg1:=qY (G:=GD) d.w.fs (zI d.w.fs b u false).1.ino (by have:=hs.len;omega) h.b.wi.fs.rises;have hg2:=qY (G:=GD) d.w.fs (zI d.w.fs b v false).1.ino (by have:=hs.len;omega) h.b.wi.fs.rises;have e:mvS d.w.fs b u v=if (zI d.w.fs b u false).2≠0 then some (11,(zI d.w.fs b u false).2) else if zk (zI d.w.fs b u false).1.ino d.w.fs.xs=false then some (11,1) else if (zI d.w.fs b u false).1.name = [] then some (15,10)
  else if (zI d.w.fs b v false).2≠0 then some (15,(zI d.w.fs b v false).2) else if (zI d.w.fs b v false).1.name = [] then some (15,10) else none:=rfl
 generalize mvS d.w.fs b u v=M at *;generalize zI d.w.fs b u false=A at *;generalize zI d.w.fs b v false=T at *;generalize zf A.1.ino d.w.fs.xs=X at *;generalize zf T.1.ino d.w.fs.xs=Y at *;by_cases h1:A.2=0
 case neg =>
  have h1':=eq_false h1;rw[if_pos h1]at e;subst e;simp only[Option.getD_some,Option.isNone_some,Option.getD_none,Option.isNone_none];refine foX (fun i=>if i=2 then jS 10 11 else if i=10 then jS 10 11 else if i=15 then QT [(0,.pure),(1,.pure),(2,.pure),(3,.pure),(4,.pure),(5,.pure),(6,.pure),(7,.pure),(8,.pure),(9,.flt [1,2,4,5]),(10,.pure),(11,.pure),(12,.pure),(13,.flt [2,5]),(14,.pure),(15,.pure),(16,.pure),(17,.flt [])] else []) Tryz.func72 ?_;dsimp only[Tryz.f72];push_cast -dsimp;refine cl (hs1) ?_;push_cast -dsimp [h1'];refine cl (hg1) ?_;push_cast -dsimp [h1'];exact ⟨_,[_],0,⟨⟨rfl,rfl,rfl⟩,Nat.le_refl _⟩,[],rfl,rfl,by push_cast -dsimp [ze,zd,CLe,zg],by push_cast -dsimp [ze,zd,CLe,zg]⟩
 have h1':=eq_true h1;rw[if_neg (fun q=>q h1)]at e;cases h2:zk A.1.ino d.w.fs.xs with
 | false =>
  rw[h2]at hg1 e;rw[if_pos rfl]at e;subst e;simp only[Option.getD_some,Option.isNone_some,Option.getD_none,Option.isNone_none];refine foX (fun i=>if i=2 then jS 10 11 else if i=10 then jS 10 11 else if i=15 then QT [(0,.pure),(1,.pure),(2,.pure),(3,.pure),(4,.pure),(5,.pure),(6,.pure),(7,.pure),(8,.pure),(9,.flt [1,2,4,5]),(10,.pure),(11,.pure),(12,.pure),(13,.flt [2,5]),(14,.pure),(15,.pure),(16,.pure),(17,.flt [])] else []) Tryz.func72 ?_;dsimp only[Tryz.f72];push_cast -dsimp;refine cl (hs1) ?_;push_cast -dsimp [h1'];refine cl (hg1) ?_;push_cast -dsimp [h1'];exact ⟨_,[_],0,⟨⟨rfl,rfl,rfl⟩,Nat.le_refl _⟩,[],rfl,rfl,by push_cast -dsimp [ze,zd,CLe,zg],by push_cast -dsimp [ze,zd,CLe,zg]⟩
 | true =>
  rw[h2]at hg1 e;rw[if_neg (by decide)]at e;by_cases h3:A.1.name = []
  ·have h3':=eq_true h3;rw[if_pos h3]at e;subst e;simp only[Option.getD_some,Option.isNone_some,Option.getD_none,Option.isNone_none];refine foX (fun i=>if i=2 then jS 10 11 else if i=10 then jS 10 11 else if i=15 then QT [(0,.pure),(1,.pure),(2,.pure),(3,.pure),(4,.pure),(5,.pure),(6,.pure),(7,.pure),(8,.pure),(9,.flt [1,2,4,5]),(10,.pure),(11,.pure),(12,.pure),(13,.flt [2,5]),(14,.pure),(15,.pure),(16,.pure),(17,.flt [])] else []) Tryz.func72 ?_;dsimp only[Tryz.f72];push_cast -dsimp;refine cl (hs1) ?_;push_cast -dsimp [h1'];refine cl (hg1) ?_;push_cast -dsimp [h1',h3'];exact ⟨_,[_],0,⟨⟨rfl,rfl,rfl⟩,Nat.le_refl _⟩,[],rfl,rfl,by push_cast -dsimp [ze,zd,CLe,zg],by push_cast -dsimp [ze,zd,CLe,zg]⟩
  have h3':=eq_false h3;rw[if_neg h3]at e;by_cases h4:T.2=0
  case neg =>
   have h4':=eq_false h4;rw[if_pos h4]at e;subst e;simp only[Option.getD_some,Option.isNone_some,Option.getD_none,Option.isNone_none];refine foX (fun i=>if i=2 then jS 10 11 else if i=10 then jS 10 11 else if i=15 then QT [(0,.pure),(1,.pure),(2,.pure),(3,.pure),(4,.pure),(5,.pure),(6,.pure),(7,.pure),(8,.pure),(9,.flt [1,2,4,5]),(10,.pure),(11,.pure),(12,.pure),(13,.flt [2,5]),(14,.pure),(15,.pure),(16,.pure),(17,.flt [])] else []) Tryz.func72 ?_;dsimp only[Tryz.f72];push_cast -dsimp;refine cl (hs1) ?_;push_cast -dsimp [h1'];refine cl (hg1) ?_;push_cast -dsimp [h1',h3'];refine cl (hs2) ?_;push_cast -dsimp [h4'];exact ⟨_,[_],0,⟨⟨rfl,rfl,rfl⟩,Nat.le_refl _⟩,[],rfl,rfl,by push_cast -dsimp [ze,zd,CLe,zg],by push_cast -dsimp [ze,zd,CLe,zg]⟩
  have h4':=eq_true h4;rw[if_neg (fun q=>q h4)]at e;by_cases h5:T.1.name = []
  ·have h5':=eq_true h5;rw[if_pos h5]at e;subst e;simp only[Option.getD_some,Option.isNone_some,Option.getD_none,Option.isNone_none];refine foX (fun i=>if i=2 then jS 10 11 else if i=10 then jS 10 11 else if i=15 then QT [(0,.pure),(1,.pure),(2,.pure),(3,.pure),(4,.pure),(5,.pure),(6,.pure),(7,.pure),(8,.pure),(9,.flt [1,2,4,5]),(10,.pure),(11,.pure),(12,.pure),(13,.flt [2,5]),(14,.pure),(15,.pure),(16,.pure),(17,.flt [])] else []) Tryz.func72 ?_;dsimp only[Tryz.f72];push_cast -dsimp;refine cl (hs1) ?_;push_cast -dsimp [h1'];refine cl (hg1) ?_;push_cast -dsimp [h1',h3'];refine cl (hs2) ?_;push_cast -dsimp [h4',h5'];exact ⟨_,[_],0,⟨⟨rfl,rfl,rfl⟩,Nat.le_refl _⟩,[],rfl,rfl,by push_cast -dsimp [ze,zd,CLe,zg],by push_cast -dsimp [ze,zd,CLe,zg]⟩
  have h5':=eq_false h5;rw[if_neg h5]at e;subst e;simp only[Option.getD_some,Option.isNone_some,Option.getD_none,Option.isNone_none];refine foX (fun i=>if i=2 then jS 10 11 else if i=10 then jS 10 11 else if i=15 then QT [(0,.pure),(1,.pure),(2,.pure),(3,.pure),(4,.pure),(5,.pure),(6,.pure),(7,.pure),(8,.pure),(9,.flt [1,2,4,5]),(10,.pure),(11,.pure),(12,.pure),(13,.flt [2,5]),(14,.pure),(15,.pure),(16,.pure),(17,.flt [])] else []) Tryz.func72 ?_;dsimp only[Tryz.f72];push_cast -dsimp;refine cl (hs1) ?_;push_cast -dsimp [h1'];refine cl (hg1) ?_;push_cast -dsimp [h1',h3'];refine cl (hs2) ?_;push_cast -dsimp [h4',h5'];refine cl (hg2) ?_;push_cast -dsimp;exact ⟨_,[_],0,⟨⟨rfl,rfl,rfl⟩,Nat.le_refl _⟩,[],rfl,rfl,by push_cast -dsimp [ze,zd,CLe,zg],by push_cast -dsimp [ze,zd,CLe,zg]⟩
end
end Go.Proofs.YtnpdbhbmakdklaaGreatDoor.Vcg
