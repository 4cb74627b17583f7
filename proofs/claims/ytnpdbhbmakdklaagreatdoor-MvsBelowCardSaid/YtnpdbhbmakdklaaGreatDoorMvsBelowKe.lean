/- What the proof of MvsBelow leans on, part 5: QuoteWalk2 Diag1 Spl Diag2 Diag3 Diag4 Dra3 Ref19b Ref19c Rf11 Ref8 Wlk1 Wlk2 Tree1 Mak0 Tree2 Tree3 Tree4 Tree5 Tree6 Tree7 Dra4 Mak1 Mak2 Mak3 OpenD Rgt0 Rgt1 Rgt2 Rgt3 Rgt4 Rgt5 Rgt6 PthL Rms0 Do7 Sk0 Slc2 Sk2 SekP SekL Dat Gro Pla Mvp Do6 Sek1 Sek2 Sek3 Rea Tol Plw Plx Mvw Mvx Mvy Mvz Mvq Sk1 Sk3 Rfi Fit. No condition beyond what each theorem states. -/
import Derived.Test.YtnpdbhbmakdklaaGreatDoorMvsBelowKd
import Derived.Shelf.Strings.SlTrimAscii
import Derived.Sort.Walk0
import Derived.Lib.IndexLaws
set_option linter.unusedVariables false
set_option linter.unusedSimpArgs false
set_option linter.unusedSectionVars false
set_option maxRecDepth 100000
set_option maxHeartbeats 4000000
section
namespace Go.Proofs.YtnpdbhbmakdklaaGreatDoor
open Go.RowKit
namespace QuoteWalk
open Kit QuotePlain
def pre (s:ByteArray) (k:Nat):Bs:=34 :: mid ((toL s).take k)
theorem ziv (s:ByteArray):pre s 0 = [34]:=by simp[pre,mid]
theorem zh8 (s:ByteArray) (k:Nat) (h:k<s.size) {c:UInt8} (hc:s[k]=c):pre s (k+1)=pre s k++qb c:=by
 have h':k<(toL s).length:=by rw[Ng];exact h
 have:(toL s)[k]=c:=hc;rw[pre,pre,AB h',this,mid,mid,AO];simp
theorem zkS (s:ByteArray) (k:Nat) (h:s.size<=k):pre s k++[34]=jL (toL s):=by
 rw[pre,Wg (by rw[Ng];exact h)];rfl
theorem zpu (c:UInt8):(qb c).length<=4:=by unfold qb;split<;>simp
theorem mid_len (l:Bs):(mid l).length<=4*l.length:=by
 induction l with
 | nil=>simp[mid]
 | cons c l ih =>
  have:=zpu c;simp only[mid,Al,Wk,Wr]at ih ⊢;omega
theorem zlc (s:ByteArray) (k:Nat):(pre s k).length<=1+4*k:=by
 have h1:=mid_len ((toL s).take k);have h2:((toL s).take k).length<=k:=List.length_take_le _ _;simp only[pre,Wr];omega
def Bld (B:Nat) (l:Bs) (w:World):Prop:=Lib.BuilderAt 220 5 B B (.pointer (some ⟨B,0,none⟩)) (Lib.byteCells l) w
theorem Bld.alloc {B:Nat} {l:Bs} {w:World} (h:Bld B l w) (o:Obj):Bld B l (w.alloc o):=by
 obtain ⟨h1,v,h2,h3,h4⟩:=h;refine ⟨h1,v,?_,h3.alloc o,h4⟩;rw[Lib.alloc_old _ _ _ (Au.1 h2).1];exact h2
theorem Bld.drew {B:Nat} {l:Bs} {w:World} (h:Bld B l w):Bld B l w.drew:=h
theorem xg (B:Nat) (l:Bs) (c:UInt8) (w:World) (h:Bld B l w) (hl:l.length<140737488355328) (hB:B<=w.heap.size) :
  Calls Tryz.prog 197 #[.pointer (some ⟨B,0,none⟩),.int .u8 (c.toNat:Int)] w fun e w'=>e = .returned .nilIface/\Bld B (l++[c]) w'/\Below B w w':=by
 refine (Tryz.zBuilder_WriteByte B B (Lib.byteCells l) c.toNat w (.inr h) (by rw[Lib.byteCells_length];omega) hB).mono ?_;rintro e w' ⟨h1,h2,h3⟩;exact ⟨h1,by rw[Bld,Lib.byteCells_append];exact h2,h3⟩
theorem zb9 (w:World) (c:UInt8) :
  Calls Tryz.prog 197 #[.pointer (some ⟨w.heap.size,0,none⟩),.int .u8 (c.toNat:Int)] (w.alloc (.cells #[.pointer none,.slice none 0 0] 220 (0,0))) fun e w'=>e = .returned .nilIface/\Bld w.heap.size [c] w'/\Below w.heap.size w w':=by
 refine (Tryz.zBuilder_WriteByte w.heap.size w.heap.size [] c.toNat _ (Lib.fresh_isBuilder _ _ w) (by decide) (by simp)).mono ?_;rintro e w' ⟨h1,h2,h3⟩;exact ⟨h1,h2,((W9 _ _).alloc (Wb _) _).trans h3⟩
theorem yM (B:Nat) (l:Bs) (x:ByteArray) (w:World) (h:Bld B l w) (hl:l.length+x.size<=140737488355328) (hB:B<=w.heap.size) :
  Calls Tryz.prog 166 #[.pointer (some ⟨B,0,none⟩),.string x] w fun e w'=>e = .returned (.tuple #[.int .i64 x.size,.nilIface])/\Bld B (l++toL x) w'/\Below B w w':=by
 refine (Tryz.zBuilder_WriteString B B (Lib.byteCells l) x w (.inr h) (by rw[Lib.byteCells_length];omega) hB).mono ?_;rintro e w' ⟨h1,h2,h3⟩;exact ⟨h1,by rw[Bld,Lib.byteCells_append];exact h2,h3⟩
theorem zcX (B:Nat) (l:Bs) (w:World) (h:Bld B l w) (hB:B<=w.heap.size) :
  Calls Tryz.prog 167 #[.pointer (some ⟨B,0,none⟩)] w fun e w'=>e = .returned (.string (ofL l))/\Below B w w':=
 Tryz.Builder_String_any B B l w (.inr h) hB
theorem zn2 (c:UInt8):bits BinOp.and IntKind.u8 (c.toNat:Int) 15=(c.toNat:Int) % 16:=by
 have:=zgf (p:=fun c=>decide (bits BinOp.and IntKind.u8 (c.toNat:Int) 15=(c.toNat:Int) % 16)) (by decide +kernel) c;exact WN this
theorem quote_walk (s:ByteArray) (w:World) (hs:s.size<=1099511627776) :
  Calls Tryz.prog 163 #[.string s] w fun e w'=>e = .returned (.string (ofL (jL (toL s))))/\Below w.heap.size w w':=by
 go_enter Tryz.func163,Tryz.ntmps163
 go_wp2_with fail
 refine (zb9 w 34).mono ?_;rintro e w1 ⟨rfl,hI1,hB1⟩
 go_wp2_with fail
 go_loopw [9] (fun i wr=>∃ k:Nat,k<=s.size/\i = .int .i64 k/\Bld w.heap.size (pre s k) wr/\Below w.heap.size w wr) (fun i _=>s.size-(intOf i).toNat)
 case atStart=>exact ⟨0,by omega,rfl,by rw[ziv];exact hI1,hB1⟩
 case round =>
  obtain ⟨k,hk,rfl,hI,hB⟩:=hrel;clear hI1 hB1;have hpl:=zlc s k;by_cases hlt:k<s.size
  ·obtain ⟨c,hc⟩:∃ c,s[k]=c:=⟨_,rfl⟩;have hsn:=Lib.hid (zh8 s k hlt hc)
   go_wp2_with fail
   refine (va c _).mono ?_;rintro e w' ⟨rfl,rfl⟩;cases hg:good c with
   | true =>
    have hq:=Lib.hid (show qb c = [c] by rw[qb,if_pos hg]);clear hg
    go_wp2_with fail
    refine (xg w.heap.size (pre s k) c _ hI (by omega) hB.size).mono ?_;rintro e w2 ⟨rfl,hI2,hb2⟩
    go_wp2
    go_roundw
    case rel=>exact ⟨k+1,by omega,by go_num,by rw[hsn.out,hq.out];exact hI2,hB.trans hb2⟩
    case measure=>simp[intOf];omega
   | false =>
    have hq:=Lib.hid (show qb c = [92,120,za2 (c.toNat / 16),za2 (c.toNat % 16)] by rw[qb,hg];rfl);clear hg;have x1:=zpB c;have x2:=zqc c;have x3:=zn2 c;have hcv:=fun w2:World=>zjP (P:=Tryz.prog) w2 [92,120,za2 (c.toNat / 16),za2 (c.toNat % 16)] 174 5 9 Tryz.underlying174 Tryz.underlying5 Tryz.underlying9 #[.int .u8 92,.int .u8 120,.int .u8 (za2 (c.toNat / 16)).toNat,.int .u8 (za2 (c.toNat % 16)).toNat] rfl (0,0) w2.heap.size 4 4 rfl rfl
    go_wp2_with fail
    go_still_tail 6,(by kernel_rfl)
    change wpList _ _ _ _ _ wr.drew;obtain ⟨w2,hw2,hI2,hsz⟩:∃ w2:World,Below w.heap.size w w2/\Bld w.heap.size (pre s k) w2/\w2=wr.drew:=⟨_,hB.drew,hI.drew,rfl⟩;rw[←hsz];clear hsz hI hB
    go_wp2_with fail
    refine (yM w.heap.size (pre s k) (ofL [92,120,za2 (c.toNat / 16),za2 (c.toNat % 16)]) _ (hI2.alloc _) (by rw[GB];show _+4<=_;omega) (by have:=hw2.size;simp;omega)).mono ?_;rintro e w3 ⟨rfl,hI3,hb3⟩;rw[zc7]at hI3;have hB3:=(hw2.alloc hw2.size _).trans hb3;clear hb3 hcv x1 x2 x3 hI2
    go_wp2
    go_roundw
    case rel=>exact ⟨k+1,by omega,by go_num,by rw[hsn.out,hq.out];exact hI3,hB3⟩
    case measure=>simp[intOf];omega
  ·have hfin:=Lib.hid (zkS s k (by omega))
   go_wp2_with fail
   refine (xg w.heap.size (pre s k) 34 _ hI (by omega) hB.size).mono ?_;rintro e w2 ⟨rfl,hI2,hb2⟩
   go_wp2_with fail
   refine (zcX w.heap.size _ _ hI2 (hB.trans hb2).size).mono ?_;rintro e w3 ⟨rfl,hb3⟩
   go_wp2
   go_ret
   exact ⟨zby (by rw[hfin.out]),(hB.trans hb2).trans hb3⟩
end QuoteWalk
end Go.Proofs.YtnpdbhbmakdklaaGreatDoor
end
namespace Go.Proofs.YtnpdbhbmakdklaaGreatDoor.Vcg
variable {f:FsV} {args:List C} {n p:Int} {k N:Nat} {ns:List Lz} {l:List (Int×Int)} {xs:List zl} {w:qN} {d:zY} {b v:Lz}
section
open Go.RowKit
def phr:List Lz:=[[],[99,97,110,110,111,116,32,99,114,101,97,116,101,32,100,105,114,101,99,116,111,114,121,32,65,58,32,69],[99,97,110,110,111,116,32,114,101,109,111,118,101,32,65,58,32,69],[114,101,102,117,115,105,110,103,32,116,111,32,114,101,109,111,118,101,32,34,46,34,32,111,114,32,34,46,46,34,32,100,105,114,101,99,116,111,114,121,58,32,115,107,105,112,112,105,110,103,32,65],[105,116,32,105,115,32,100,97,110,103,101,114,111,117,115,32,116,111,32,111,112,101,114,97,116,101,32,114,101,99,117,114,115,105,118,101,108,121,32,111,110,32,65],[102,97,105,108,101,100,32,116,111,32,97,99,99,101,115,115,32,65,58,32,69],[65,58,32,104,97,114,100,32,108,105,110,107,32,110,111,116,32,97,108,108,111,119,101,100,32,102,111,114,32,100,105,114,101,99,116,111,114,121],[102,97,105,108,101,100,32,116,111,32,99,114,101,97,116,101,32,104,97,114,100,32,108,105,110,107,32,66,58,32,69],[102,97,105,108,101,100,32,116,111,32,99,114,101,97,116,101,32,115,121,109,98,111,108,105,99,32,108,105,110,107,32,66,58,32,69],[65,32,97,110,100,32,66,32,97,114,101,32,116,104,101,32,115,97,109,101,32,102,105,108,101],[116,97,114,103,101,116,32,65,32,105,115,32,110,111,116,32,97,32,100,105,114,101,99,116,111,114,121],[99,97,110,110,111,116,32,115,116,97,116,32,65,58,32,69],[99,97,110,110,111,116,32,111,118,101,114,119,114,105,116,101,32,110,111,110,45,100,105,114,101,99,116,111,114,121,32,66,32,119,105,116,104,32,100,105,114,101,99,116,111,114,121,32,65],[99,97,110,110,111,116,32,111,118,101,114,119,114,105,116,101,32,100,105,114,101,99,116,111,114,121,32,66,32,119,105,116,104,32,110,111,110,45,100,105,114,101,99,116,111,114,121,32,65],[99,97,110,110,111,116,32,109,111,118,101,32,65,32,116,111,32,97,32,115,117,98,100,105,114,101,99,116,111,114,121,32,111,102,32,105,116,115,101,108,102,44,32,66],[99,97,110,110,111,116,32,109,111,118,101,32,65,32,116,111,32,66,58,32,69],[45,114,32,110,111,116,32,115,112,101,99,105,102,105,101,100,59,32,111,109,105,116,116,105,110,103,32,100,105,114,101,99,116,111,114,121,32,65],[99,97,110,110,111,116,32,99,114,101,97,116,101,32,114,101,103,117,108,97,114,32,102,105,108,101,32,66,58,32,69],[99,97,110,110,111,116,32,99,114,101,97,116,101,32,115,121,109,98,111,108,105,99,32,108,105,110,107,32,66,58,32,69],[99,97,110,110,111,116,32,99,111,112,121,32,97,32,100,105,114,101,99,116,111,114,121,44,32,65,44,32,105,110,116,111,32,105,116,115,101,108,102,44,32,66],[110,111,116,32,119,114,105,116,105,110,103,32,116,104,114,111,117,103,104,32,100,97,110,103,108,105,110,103,32,115,121,109,108,105,110,107,32,66],[101,114,114,111,114,32,119,114,105,116,105,110,103,32,66,58,32,69],[99,97,110,110,111,116,32,99,114,101,97,116,101,32,100,105,114,101,99,116,111,114,121,32,66,58,32,69]]
def zsc:List Lz:=[[83,117,99,99,101,115,115],[78,111,32,115,117,99,104,32,102,105,108,101,32,111,114,32,100,105,114,101,99,116,111,114,121],[70,105,108,101,32,101,120,105,115,116,115],[78,111,116,32,97,32,100,105,114,101,99,116,111,114,121],[73,115,32,97,32,100,105,114,101,99,116,111,114,121],[68,105,114,101,99,116,111,114,121,32,110,111,116,32,101,109,112,116,121],[84,111,111,32,109,97,110,121,32,108,101,118,101,108,115,32,111,102,32,115,121,109,98,111,108,105,99,32,108,105,110,107,115],[70,105,108,101,32,110,97,109,101,32,116,111,111,32,108,111,110,103],[78,111,32,115,112,97,99,101,32,108,101,102,116,32,111,110,32,100,101,118,105,99,101],[73,110,118,97,108,105,100,32,97,114,103,117,109,101,110,116],[68,101,118,105,99,101,32,111,114,32,114,101,115,111,117,114,99,101,32,98,117,115,121],[79,112,101,114,97,116,105,111,110,32,110,111,116,32,112,101,114,109,105,116,116,101,100],[77,97,108,102,111,114,109,101,100,32,116,101,120,116],[78,111,116,32,105,110,32,116,104,101,32,115,116,97,115,104]]
def zn3:List Value:=[.string ⟨#[]⟩,.string ⟨#[]⟩,.int .i64 0,.string ⟨#[109,107,100,105,114]⟩,.string ⟨#[112]⟩,.int .i64 1,.string ⟨#[114,109]⟩,.string ⟨#[82,100,102,114]⟩,.int .i64 1,.string ⟨#[108,110]⟩,.string ⟨#[84,102,110,115]⟩,.int .i64 1,.string ⟨#[109,118]⟩,.string ⟨#[84,102,110]⟩,.int .i64 2,.string ⟨#[99,112]⟩,.string ⟨#[80,82,84,102,110,114]⟩,.int .i64 2]
def G2:zr:=fun g=>if g=1 then some (phr.map C.str) else if g=0 then some (zn3.map zD) else if g=2 then some (zsc.map C.str) else none
theorem zo7:G2 1=some [.str [],.str [99,97,110,110,111,116,32,99,114,101,97,116,101,32,100,105,114,101,99,116,111,114,121,32,65,58,32,69],.str [99,97,110,110,111,116,32,114,101,109,111,118,101,32,65,58,32,69],.str [114,101,102,117,115,105,110,103,32,116,111,32,114,101,109,111,118,101,32,34,46,34,32,111,114,32,34,46,46,34,32,100,105,114,101,99,116,111,114,121,58,32,115,107,105,112,112,105,110,103,32,65],.str [105,116,32,105,115,32,100,97,110,103,101,114,111,117,115,32,116,111,32,111,112,101,114,97,116,101,32,114,101,99,117,114,115,105,118,101,108,121,32,111,110,32,65],.str [102,97,105,108,101,100,32,116,111,32,97,99,99,101,115,115,32,65,58,32,69],.str [65,58,32,104,97,114,100,32,108,105,110,107,32,110,111,116,32,97,108,108,111,119,101,100,32,102,111,114,32,100,105,114,101,99,116,111,114,121],.str [102,97,105,108,101,100,32,116,111,32,99,114,101,97,116,101,32,104,97,114,100,32,108,105,110,107,32,66,58,32,69],.str [102,97,105,108,101,100,32,116,111,32,99,114,101,97,116,101,32,115,121,109,98,111,108,105,99,32,108,105,110,107,32,66,58,32,69],.str [65,32,97,110,100,32,66,32,97,114,101,32,116,104,101,32,115,97,109,101,32,102,105,108,101],.str [116,97,114,103,101,116,32,65,32,105,115,32,110,111,116,32,97,32,100,105,114,101,99,116,111,114,121],.str [99,97,110,110,111,116,32,115,116,97,116,32,65,58,32,69],.str [99,97,110,110,111,116,32,111,118,101,114,119,114,105,116,101,32,110,111,110,45,100,105,114,101,99,116,111,114,121,32,66,32,119,105,116,104,32,100,105,114,101,99,116,111,114,121,32,65],.str [99,97,110,110,111,116,32,111,118,101,114,119,114,105,116,101,32,100,105,114,101,99,116,111,114,121,32,66,32,119,105,116,104,32,110,111,110,45,100,105,114,101,99,116,111,114,121,32,65],.str [99,97,110,110,111,116,32,109,111,118,101,32,65,32,116,111,32,97,32,115,117,98,100,105,114,101,99,116,111,114,121,32,111,102,32,105,116,115,101,108,102,44,32,66],.str [99,97,110,110,111,116,32,109,111,118,101,32,65,32,116,111,32,66,58,32,69],.str [45,114,32,110,111,116,32,115,112,101,99,105,102,105,101,100,59,32,111,109,105,116,116,105,110,103,32,100,105,114,101,99,116,111,114,121,32,65],.str [99,97,110,110,111,116,32,99,114,101,97,116,101,32,114,101,103,117,108,97,114,32,102,105,108,101,32,66,58,32,69],.str [99,97,110,110,111,116,32,99,114,101,97,116,101,32,115,121,109,98,111,108,105,99,32,108,105,110,107,32,66,58,32,69],.str [99,97,110,110,111,116,32,99,111,112,121,32,97,32,100,105,114,101,99,116,111,114,121,44,32,65,44,32,105,110,116,111,32,105,116,115,101,108,102,44,32,66],.str [110,111,116,32,119,114,105,116,105,110,103,32,116,104,114,111,117,103,104,32,100,97,110,103,108,105,110,103,32,115,121,109,108,105,110,107,32,66],.str [101,114,114,111,114,32,119,114,105,116,105,110,103,32,66,58,32,69],.str [99,97,110,110,111,116,32,99,114,101,97,116,101,32,100,105,114,101,99,116,111,114,121,32,66,58,32,69]]:=rfl
theorem zit:G2 0=some [.str [],.str [],.sc (.int .i64 0),.str [109,107,100,105,114],.str [112],.sc (.int .i64 1),.str [114,109],.str [82,100,102,114],.sc (.int .i64 1),.str [108,110],.str [84,102,110,115],.sc (.int .i64 1),.str [109,118],.str [84,102,110],.sc (.int .i64 2),.str [99,112],.str [80,82,84,102,110,114],.sc (.int .i64 2)]:=rfl
theorem zne:G2 2=some [.str [83,117,99,99,101,115,115],.str [78,111,32,115,117,99,104,32,102,105,108,101,32,111,114,32,100,105,114,101,99,116,111,114,121],.str [70,105,108,101,32,101,120,105,115,116,115],.str [78,111,116,32,97,32,100,105,114,101,99,116,111,114,121],.str [73,115,32,97,32,100,105,114,101,99,116,111,114,121],.str [68,105,114,101,99,116,111,114,121,32,110,111,116,32,101,109,112,116,121],.str [84,111,111,32,109,97,110,121,32,108,101,118,101,108,115,32,111,102,32,115,121,109,98,111,108,105,99,32,108,105,110,107,115],.str [70,105,108,101,32,110,97,109,101,32,116,111,111,32,108,111,110,103],.str [78,111,32,115,112,97,99,101,32,108,101,102,116,32,111,110,32,100,101,118,105,99,101],.str [73,110,118,97,108,105,100,32,97,114,103,117,109,101,110,116],.str [68,101,118,105,99,101,32,111,114,32,114,101,115,111,117,114,99,101,32,98,117,115,121],.str [79,112,101,114,97,116,105,111,110,32,110,111,116,32,112,101,114,109,105,116,116,101,100],.str [77,97,108,102,111,114,109,101,100,32,116,101,120,116],.str [78,111,116,32,105,110,32,116,104,101,32,115,116,97,115,104]]:=rfl
attribute [push_cast] zo7 zit zne
def Ha (k:Int):Lz:=if k=1 then [109,107,100,105,114] else if k=2 then [114,109] else if k=3 then [108,110] else if k=4 then [109,118] else if k=5 then [99,112] else []
def qW (k:Int):Lz:=if k=1 then [99,97,110,110,111,116,32,99,114,101,97,116,101,32,100,105,114,101,99,116,111,114,121,32,65,58,32,69] else if k=2 then [99,97,110,110,111,116,32,114,101,109,111,118,101,32,65,58,32,69] else if k=3 then [114,101,102,117,115,105,110,103,32,116,111,32,114,101,109,111,118,101,32,34,46,34,32,111,114,32,34,46,46,34,32,100,105,114,101,99,116,111,114,121,58,32,115,107,105,112,112,105,110,103,32,65] else if k=4 then [105,116,32,105,115,32,100,97,110,103,101,114,111,117,115,32,116,111,32,111,112,101,114,97,116,101,32,114,101,99,117,114,115,105,118,101,108,121,32,111,110,32,65] else if k=5 then [102,97,105,108,101,100,32,116,111,32,97,99,99,101,115,115,32,65,58,32,69] else if k=6 then [65,58,32,104,97,114,100,32,108,105,110,107,32,110,111,116,32,97,108,108,111,119,101,100,32,102,111,114,32,100,105,114,101,99,116,111,114,121] else if k=7 then [102,97,105,108,101,100,32,116,111,32,99,114,101,97,116,101,32,104,97,114,100,32,108,105,110,107,32,66,58,32,69] else if k=8 then [102,97,105,108,101,100,32,116,111,32,99,114,101,97,116,101,32,115,121,109,98,111,108,105,99,32,108,105,110,107,32,66,58,32,69] else if k=9 then [65,32,97,110,100,32,66,32,97,114,101,32,116,104,101,32,115,97,109,101,32,102,105,108,101] else if k=10 then [116,97,114,103,101,116,32,65,32,105,115,32,110,111,116,32,97,32,100,105,114,101,99,116,111,114,121] else if k=11 then [99,97,110,110,111,116,32,115,116,97,116,32,65,58,32,69] else if k=12 then [99,97,110,110,111,116,32,111,118,101,114,119,114,105,116,101,32,110,111,110,45,100,105,114,101,99,116,111,114,121,32,66,32,119,105,116,104,32,100,105,114,101,99,116,111,114,121,32,65] else if k=13 then [99,97,110,110,111,116,32,111,118,101,114,119,114,105,116,101,32,100,105,114,101,99,116,111,114,121,32,66,32,119,105,116,104,32,110,111,110,45,100,105,114,101,99,116,111,114,121,32,65] else if k=14 then [99,97,110,110,111,116,32,109,111,118,101,32,65,32,116,111,32,97,32,115,117,98,100,105,114,101,99,116,111,114,121,32,111,102,32,105,116,115,101,108,102,44,32,66] else if k=15 then [99,97,110,110,111,116,32,109,111,118,101,32,65,32,116,111,32,66,58,32,69] else if k=16 then [45,114,32,110,111,116,32,115,112,101,99,105,102,105,101,100,59,32,111,109,105,116,116,105,110,103,32,100,105,114,101,99,116,111,114,121,32,65] else if k=17 then [99,97,110,110,111,116,32,99,114,101,97,116,101,32,114,101,103,117,108,97,114,32,102,105,108,101,32,66,58,32,69] else if k=18 then [99,97,110,110,111,116,32,99,114,101,97,116,101,32,115,121,109,98,111,108,105,99,32,108,105,110,107,32,66,58,32,69] else if k=19 then [99,97,110,110,111,116,32,99,111,112,121,32,97,32,100,105,114,101,99,116,111,114,121,44,32,65,44,32,105,110,116,111,32,105,116,115,101,108,102,44,32,66] else if k=20 then [110,111,116,32,119,114,105,116,105,110,103,32,116,104,114,111,117,103,104,32,100,97,110,103,108,105,110,103,32,115,121,109,108,105,110,107,32,66] else if k=21 then [101,114,114,111,114,32,119,114,105,116,105,110,103,32,66,58,32,69] else if k=22 then [99,97,110,110,111,116,32,99,114,101,97,116,101,32,100,105,114,101,99,116,111,114,121,32,66,58,32,69] else []
def yE (k:Int):Lz:=if k=0 then [83,117,99,99,101,115,115] else if k=1 then [78,111,32,115,117,99,104,32,102,105,108,101,32,111,114,32,100,105,114,101,99,116,111,114,121] else if k=2 then [70,105,108,101,32,101,120,105,115,116,115] else if k=3 then [78,111,116,32,97,32,100,105,114,101,99,116,111,114,121] else if k=4 then [73,115,32,97,32,100,105,114,101,99,116,111,114,121] else if k=5 then [68,105,114,101,99,116,111,114,121,32,110,111,116,32,101,109,112,116,121] else if k=6 then [84,111,111,32,109,97,110,121,32,108,101,118,101,108,115,32,111,102,32,115,121,109,98,111,108,105,99,32,108,105,110,107,115] else if k=7 then [70,105,108,101,32,110,97,109,101,32,116,111,111,32,108,111,110,103] else if k=8 then [78,111,32,115,112,97,99,101,32,108,101,102,116,32,111,110,32,100,101,118,105,99,101] else if k=9 then [73,110,118,97,108,105,100,32,97,114,103,117,109,101,110,116] else if k=10 then [68,101,118,105,99,101,32,111,114,32,114,101,115,111,117,114,99,101,32,98,117,115,121] else if k=11 then [79,112,101,114,97,116,105,111,110,32,110,111,116,32,112,101,114,109,105,116,116,101,100] else if k=12 then [77,97,108,102,111,114,109,101,100,32,116,101,120,116] else if k=13 then [78,111,116,32,105,110,32,116,104,101,32,115,116,97,115,104] else [85,110,107,110,111,119,110,32,101,114,114,111,114]
theorem MU (k:Int):Fun Tryz.prog G2 117 [.sc (.int .i64 k)] (.str (Ha k)) 0:=by
 by_cases h1:1<=k
 ·by_cases h2:k<=5
  ·have hc:k=1∨k=2∨k=3∨k=4∨k=5:=by omega
   clear h1 h2;rcases hc with rfl | rfl | rfl | rfl | rfl
   all_goals
    refine fon Tryz.func117 ?_;dsimp only[Tryz.f117];push_cast;exact ⟨[],rfl,rfl,by simp only[Ha];push_cast [ze,zd,CLe,zg]<;>rfl⟩
  ·have n1:¬k=1:=(by omega);have n2:¬k=2:=(by omega);have n3:¬k=3:=(by omega);have n4:¬k=4:=(by omega);have n5:¬k=5:=(by omega);have f1:¬k<1:=(by omega);have f2:6<=k:=(by omega);have f3:5<k:=(by omega);refine fon Tryz.func117 ?_;dsimp only[Tryz.f117];push_cast [f1,f2,f3,n1,n2,n3,n4,n5];exact ⟨[],rfl,rfl,by push_cast [ze,zd,CLe,zg]<;>simp[Ha,n1,n2,n3,n4,n5]⟩
 ·have n1:¬k=1:=(by omega);have n2:¬k=2:=(by omega);have n3:¬k=3:=(by omega);have n4:¬k=4:=(by omega);have n5:¬k=5:=(by omega);have f1:k<1:=by omega
  refine fon Tryz.func117 ?_;dsimp only[Tryz.f117];push_cast [f1,n1,n2,n3,n4,n5];exact ⟨[],rfl,rfl,by push_cast [ze,zd,CLe,zg]<;>simp[Ha,n1,n2,n3,n4,n5]⟩
theorem zbr (k:Int):Fun Tryz.prog G2 118 [.sc (.int .i64 k)] (.str (qW k)) 0:=by
 by_cases h1:0<=k
 ·by_cases h2:k<=22
  ·have hc:k=0∨k=1∨k=2∨k=3∨k=4∨k=5∨k=6∨k=7∨k=8∨k=9∨k=10∨k=11∨k=12∨k=13∨k=14∨k=15∨k=16∨k=17∨k=18∨k=19∨k=20∨k=21∨k=22:=by omega
   clear h1 h2;rcases hc with rfl | rfl | rfl | rfl | rfl | rfl | rfl | rfl | rfl | rfl | rfl | rfl | rfl | rfl | rfl | rfl | rfl | rfl | rfl | rfl | rfl | rfl | rfl
   all_goals
    refine fon Tryz.func118 ?_;dsimp only[Tryz.f118];push_cast;exact ⟨[],rfl,rfl,by simp only[qW];push_cast [ze,zd,CLe,zg]<;>rfl⟩
  ·have n1:¬k=1:=(by omega);have n2:¬k=2:=(by omega);have n3:¬k=3:=(by omega);have n4:¬k=4:=(by omega);have n5:¬k=5:=(by omega);have n6:¬k=6:=(by omega);have n7:¬k=7:=(by omega);have n8:¬k=8:=(by omega);have n9:¬k=9:=(by omega);have n10:¬k=10:=(by omega);have n11:¬k=11:=(by omega);have n12:¬k=12:=(by omega);have n13:¬k=13:=(by omega);have n14:¬k=14:=(by omega);have n15:¬k=15:=(by omega);have n16:¬k=16:=(by omega);have n17:¬k=17:=(by omega);have n18:¬k=18:=(by omega);have n19:¬k=19:=(by omega);have n20:¬k=20:=(by omega);have n21:¬k=21:=(by omega);have n22:¬k=22:=(by omega);have f1:¬k<0:=(by omega);have f2:23<=k:=(by omega);have f3:22<k:=(by omega);refine fon Tryz.func118 ?_;dsimp only[Tryz.f118];push_cast [f1,f2,f3,n1,n2,n3,n4,n5,n6,n7,n8,n9,n10,n11,n12,n13,n14,n15,n16,n17,n18,n19,n20,n21,n22];exact ⟨[],rfl,rfl,by push_cast [ze,zd,CLe,zg]<;>simp[qW,n1,n2,n3,n4,n5,n6,n7,n8,n9,n10,n11,n12,n13,n14,n15,n16,n17,n18,n19,n20,n21,n22]⟩
 ·have n1:¬k=1:=(by omega);have n2:¬k=2:=(by omega);have n3:¬k=3:=(by omega);have n4:¬k=4:=(by omega);have n5:¬k=5:=(by omega);have n6:¬k=6:=(by omega);have n7:¬k=7:=(by omega);have n8:¬k=8:=(by omega);have n9:¬k=9:=(by omega);have n10:¬k=10:=(by omega);have n11:¬k=11:=(by omega);have n12:¬k=12:=(by omega);have n13:¬k=13:=(by omega);have n14:¬k=14:=(by omega);have n15:¬k=15:=(by omega);have n16:¬k=16:=(by omega);have n17:¬k=17:=(by omega);have n18:¬k=18:=(by omega);have n19:¬k=19:=(by omega);have n20:¬k=20:=(by omega);have n21:¬k=21:=(by omega);have n22:¬k=22:=(by omega);have f1:k<0:=by omega
  refine fon Tryz.func118 ?_;dsimp only[Tryz.f118];push_cast [f1,n1,n2,n3,n4,n5,n6,n7,n8,n9,n10,n11,n12,n13,n14,n15,n16,n17,n18,n19,n20,n21,n22];exact ⟨[],rfl,rfl,by push_cast [ze,zd,CLe,zg]<;>simp[qW,n1,n2,n3,n4,n5,n6,n7,n8,n9,n10,n11,n12,n13,n14,n15,n16,n17,n18,n19,n20,n21,n22]⟩
theorem yn (k:Int):Fun Tryz.prog G2 164 [.sc (.int .i64 k)] (.str (yE k)) 0:=by
 by_cases h1:0<=k
 ·by_cases h2:k<=13
  ·have hc:k=0∨k=1∨k=2∨k=3∨k=4∨k=5∨k=6∨k=7∨k=8∨k=9∨k=10∨k=11∨k=12∨k=13:=by omega
   clear h1 h2;rcases hc with rfl | rfl | rfl | rfl | rfl | rfl | rfl | rfl | rfl | rfl | rfl | rfl | rfl | rfl
   all_goals
    refine fon Tryz.func164 ?_;dsimp only[Tryz.f164];push_cast;exact ⟨[],rfl,rfl,by simp only[yE];push_cast [ze,zd,CLe,zg]<;>rfl⟩
  ·have n0:¬k=0:=(by omega);have n1:¬k=1:=(by omega);have n2:¬k=2:=(by omega);have n3:¬k=3:=(by omega);have n4:¬k=4:=(by omega);have n5:¬k=5:=(by omega);have n6:¬k=6:=(by omega);have n7:¬k=7:=(by omega);have n8:¬k=8:=(by omega);have n9:¬k=9:=(by omega);have n10:¬k=10:=(by omega);have n11:¬k=11:=(by omega);have n12:¬k=12:=(by omega);have n13:¬k=13:=(by omega);have f1:¬k<0:=(by omega);have f2:14<=k:=(by omega);have f3:13<k:=(by omega);refine fon Tryz.func164 ?_;dsimp only[Tryz.f164];push_cast [f1,f2,f3,n0,n1,n2,n3,n4,n5,n6,n7,n8,n9,n10,n11,n12,n13];exact ⟨[],rfl,rfl,by push_cast [ze,zd,CLe,zg]<;>simp[yE,n0,n1,n2,n3,n4,n5,n6,n7,n8,n9,n10,n11,n12,n13]⟩
 ·have n0:¬k=0:=(by omega);have n1:¬k=1:=(by omega);have n2:¬k=2:=(by omega);have n3:¬k=3:=(by omega);have n4:¬k=4:=(by omega);have n5:¬k=5:=(by omega);have n6:¬k=6:=(by omega);have n7:¬k=7:=(by omega);have n8:¬k=8:=(by omega);have n9:¬k=9:=(by omega);have n10:¬k=10:=(by omega);have n11:¬k=11:=(by omega);have n12:¬k=12:=(by omega);have n13:¬k=13:=(by omega);have f1:k<0:=by omega
  refine fon Tryz.func164 ?_;dsimp only[Tryz.f164];push_cast [f1,n0,n1,n2,n3,n4,n5,n6,n7,n8,n9,n10,n11,n12,n13];exact ⟨[],rfl,rfl,by push_cast [ze,zd,CLe,zg]<;>simp[yE,n0,n1,n2,n3,n4,n5,n6,n7,n8,n9,n10,n11,n12,n13]⟩
open QuotePlain in
theorem MY (l:Lz) (hl:l.length<=1000000):Fun Tryz.prog G0 163 [.str l] (.str (jL l)) 0:=by
 refine Fun.wrap (by kernel_rfl) fun R vs h=>?_;obtain ⟨v1,us1,rfl,h1,h⟩:=zh.1 h;rw[zm]at h;subst h;rw[z8]at h1;subst h1;refine (QuoteWalk.quote_walk ⟨l.toArray⟩ R.w (by simp[ByteArray.size];omega)).mono ?_;rintro e w' ⟨rfl,hb⟩;exact ⟨_,rfl,hb,fun R' _=>z8.2 (by simp[Kit.ofL,Kit.toL])⟩
end
section
open Go.RowKit
theorem Fun.res {P:Program} {G:zr} {f:FuncId} {r r':C} {n:Nat} (h:Fun P G f args r n) (e:r=r'):Fun P G f args r' n:=e▸h
theorem Nr.glob0 {P:Program} {G':zr} {f:FuncId} {bx bx':List (List C)} {q:Nat} {r:C} {n:Nat} (h:Nr P G0 f args bx q r bx' n):Nr P G' f args bx q r bx' n:=
 ⟨h.1,fun R L vs hg=>h.2 R L vs fun g cs e=>by cases e⟩
theorem xE.glob0 {P:Program} {G':zr} {f:FuncId} {first cap:List C} {bx items:List (List C)} (h:xE P G0 f first cap bx items):xE P G' f first cap bx items:=
 ⟨h.1,fun l st J R L us vs hg=>h.2 l st J R L us vs fun g cs e=>by cases e⟩
def Q8 (c:UInt8):Lz->List Lz
 | []=>[[]]
 | b :: l=>if b=c then [] :: Q8 c l else match Q8 c l with
  | []=>[[b]]
  | x :: r=>(b :: x) :: r
theorem kx (c:UInt8):∀ l:Lz,Lib.indexByte l c<0->Q8 c l = [l]
 | [],_=>rfl
 | b :: l,h=>by
  unfold Lib.indexByte at h;by_cases hb:b=c
  ·subst hb;simp at h
  ·have hb':(b==c)=false:=by simpa using hb
   rw[hb']at h;simp only[W7,Oe]at h;have hl:Lib.indexByte l c<0:=by
    split at h
    ·rename_i g;have:=Ox.1 g;omega
    ·omega
   unfold Q8;rw[if_neg hb,kx c l hl]
theorem UG (c:UInt8):∀ l:Lz,-1<=Lib.indexByte l c
 | []=>Ak _
 | b :: l=>by
  have:=UG c l;unfold Lib.indexByte;split
  ·decide
  ·split
   ·decide
   ·omega
theorem NX (c:UInt8):∀ (l:Lz) (i:Nat),Lib.indexByte l c=(i:Int)->i<l.length/\Q8 c l=l.take i :: Q8 c (l.drop (i+1))
 | [],i,h=>by
  have h:(-1:Int)=(i:Int):=h;omega
 | b :: l,i,h=>by
  unfold Lib.indexByte at h;by_cases hb:b=c
  ·subst hb;simp at h;obtain rfl:i=0:=by omega
   refine ⟨by simp,?_⟩
   conv=>lhs;unfold Q8
   simp
  ·have hb':(b==c)=false:=by simpa using hb
   rw[hb']at h;simp only[W7,Oe]at h;split at h
   ·omega
   ·rename_i g;have g':Lib.indexByte l c≠-1:=by simpa using g
    have hg:=UG c l;obtain ⟨j,rfl⟩:∃ j,i=j+1:=⟨i-1,by omega⟩;have hj:Lib.indexByte l c=(j:Int):=by omega
    obtain ⟨h1,h2⟩:=NX c l j hj;refine ⟨by simp;omega,?_⟩
    conv=>lhs;unfold Q8
    rw[if_neg hb,h2];simp
theorem x9 (c:UInt8) (l:Lz):(Q8 c l).length<=l.length+1:=by
 induction l with
 | nil=>simp[Q8]
 | cons b l ih =>
  unfold Q8;split
  ·simp;omega
  ·split
   ·simp
   ·rename_i x r h;rw[h]at ih;simp at ih ⊢;omega
theorem zb0 (c:UInt8) (l:Lz):Fun Tryz.prog G0 192 [.str l,.str [c]] (.sc (.int .i64 (Lib.indexByte l c))) 0:=by
 refine Fun.wrap (by kernel_rfl) fun R vs h=>?_;obtain ⟨v1,us1,rfl,h1,h⟩:=zh.1 h;obtain ⟨v2,us2,rfl,h2,h⟩:=zh.1 h;rw[zm]at h;subst h;rw[z8]at h1 h2;subst h1 h2;refine (Tryz.strings_Index_one ⟨l.toArray⟩ c R.w).mono ?_;rintro e w' ⟨rfl,rfl⟩;exact ⟨_,rfl,W9 _ _,fun R' _=>zq.2 (by simp)⟩
theorem Mw (c:UInt8) (s:Lz) (hs:s.length<=1000000):xE Tryz.prog G0 190 [] [.ptr 1 0,.ptr 0 0,.ptr 2 0] [[.str s],[.str [c]],[.sc (.int .i64 0)]] (qg (Q8 c s)):=by
 refine foI (fun _=>[]) Tryz.func190 ?_;dsimp only[Tryz.f190];intro l sf;push_cast;refine loop (fun x:Lz×Nat=>⟨[(0,.sc (.func (.yield l) #[] #[])),(1,.ptr 1 0),(2,.ptr 0 0),(3,.ptr 2 0)],[[.str x.1],[.str [c]],[.sc (.int .i64 0)]],0,x.2⟩)
  (fun x=>x.1.length<=1000000/\(∃ done,Q8 c s=done++Q8 c x.1/\done.length=x.2)/\∀ j,j<x.2->sf j=false) (fun x=>x.1.length) (s,0) ⟨hs,⟨[],rfl,rfl⟩,fun j hj=>by omega⟩ ?_ ?_
 ·refine JY.mk [] rfl rfl (Wd _) rfl ?_ ?_<;>push_cast [ze,zd,CLe,zg]<;>omega
 ·rintro ⟨r,k⟩ hx;simp only at hx ⊢;have hr:=hx.1;have hsf:=hx.2.2;obtain ⟨done,hd,hdl⟩:=hx.2.1;clear hx;push_cast;refine call (zb0 c r) ?_;push_cast;by_cases hi:Lib.indexByte r c<0
  ·push_cast [hi];have hk:(qg (Q8 c s))[k]?=some [.str r]:=by
    rw[hd,kx c r hi];simp[←hdl]
   rw[hk];push_cast;refine ⟨by push_cast [ze,zd,CLe,zg],hsf,?_⟩;cases hk2:sf k with
   | true=>exact .inr ⟨A0 k,hk2⟩
   | false =>
    refine .inl ⟨?_,fun j (hj:j<k+1)=>?_⟩
    ·rw[hd,kx c r hi];simp[hdl]
    ·rcases Wq j k with g | g
     ·exact hsf j g
     ·rw[show j=k by omega];exact hk2
  ·have hg:=UG c r;obtain ⟨i,hii⟩:∃ i:Nat,Lib.indexByte r c=(i:Int):=⟨(Lib.indexByte r c).toNat,by omega⟩;obtain ⟨hir,hsp⟩:=NX c r i hii;have hk:(qg (Q8 c s))[k]?=some [.str (r.take i)]:=by
    rw[hd,hsp];simp[←hdl]
   rw[hii]at hi ⊢;push_cast [hi];rw[hk];push_cast;refine ⟨by omega,by omega,by push_cast [ze,zd,CLe,zg],hsf,br (fun hk2=>?_) (fun hk2=>?_)⟩
   ·push_cast;exact .inr ⟨A0 k,hk2⟩
   ·push_cast;refine ⟨by omega,by omega,(r.drop (i+1),k+1),⟨by simp;omega,⟨done++[r.take i],by rw[hd,hsp];simp,by simp[hdl]⟩,fun j (hj:j<k+1)=>?_⟩,by simp;omega,JY.mk [] rfl rfl (Wd _) rfl ?_ ?_⟩
    ·rcases Wq j k with g | g
     ·exact hsf j g
     ·rw[show j=k by omega];exact hk2
    ·push_cast [ze,zd,CLe,zg]
    ·push_cast [ze,zd,CLe,zg]
theorem G7 (c:UInt8) (s:Lz):Nr Tryz.prog G0 161 [.str s,.str [c],.sc (.int .i64 0)] [] 0 (.clo (.func 190) [] [.ptr 1 0,.ptr 0 0,.ptr 2 0]) [[.str s],[.str [c]],[.sc (.int .i64 0)]] 0:=by
 refine foB (fun _=>[]) Tryz.func161 ?_;dsimp only[Tryz.f161];push_cast;exact ⟨[],rfl,rfl,by push_cast [ze,zd,CLe,zg],by push_cast [ze,zd,CLe,zg]⟩
theorem GW (c:UInt8) (s:Lz):Nr Tryz.prog G0 119 [.str s,.str [c]] [] 0 (.clo (.func 190) [] [.ptr 1 0,.ptr 0 0,.ptr 2 0]) [[.str s],[.str [c]],[.sc (.int .i64 0)]] 0:=by
 refine foB (fun _=>[]) Tryz.func119 ?_;dsimp only[Tryz.f119];push_cast;refine VK [] [] (G7 c s) rfl (by simp) (by simp) (fun i hi=>by cases hi) (by push_cast) rfl ?_;push_cast;exact ⟨[],rfl,rfl,by push_cast [ze,zd,CLe,zg],by push_cast [ze,zd,CLe,zg]⟩
end
section
open CA CB
open Go.RowKit QuotePlain
def Xx (l:Lz):Lz:=Lib.trimRightS l [58,44]
theorem zdW (l:Lz):(Xx l).length<=l.length:=by
 unfold Xx Lib.trimRightS;rw[List.length_reverse];have:=(List.dropWhile_sublist (([58,44]:Lz).contains ·) (l:=l.reverse)).length_le;rw[List.length_reverse]at this;exact this
theorem ziN (l:Lz) (h0:l≠[]) (hl:l.length<=1000000):Fun Tryz.prog G0 162 [.str l,.str [58,44]] (.str (Xx l)) 0:=by
 refine Fun.wrap (by kernel_rfl) fun R vs h=>?_;obtain ⟨v1,us1,rfl,h1,h⟩:=zh.1 h;obtain ⟨v2,us2,rfl,h2,h⟩:=zh.1 h;rw[zm]at h;subst h;rw[z8]at h1 h2;subst h1 h2;have hpos:=WG.2 h0;refine (Any.strings_TrimRight_set Tryz.lays162 Hw (by kernel_rfl) ⟨l.toArray⟩ ⟨#[58,44]⟩ R.w (by decide) (by simpa [ByteArray.size] using hpos) (by simp[ByteArray.size];omega) (by decide) (fun j b hb=>?_)).mono ?_
 ·match j,hb with
  | 0,hb=>cases hb;decide
  | 1,hb=>cases hb;decide
  | j+2,hb=>simp at hb
 ·rintro e w' ⟨rfl,rfl⟩;exact ⟨_,rfl,((W9 _ _).alloc (Wb _) _).alloc (by simp) _,fun R' _=>z8.2 (by simp[Xx])⟩
def Zg (w qa qb m:Lz):Lz:=
 if Xx w = [65] then qa++w.drop (Xx w).length else if Xx w = [66] then qb++w.drop (Xx w).length else if Xx w = [69] then m++w.drop (Xx w).length else w
theorem Qz (l:Lz):(jL l).length<=4*l.length+2:=by
 have:=QuoteWalk.mid_len l;simp only[jL,Wr,Wk,OC];omega
theorem uF (e:Int):(yE e).length<=100:=by
 have key:∀ (c:Prop) [Decidable c] (x y:Lz),x.length<=100->y.length<=100->(if c then x else y).length<=100:=fun c _ x y hx hy=>by
  by_cases h:c
  ·rw[if_pos h];exact hx
  ·rw[if_neg h];exact hy
 unfold yE
 repeat' (first | decide | refine key _ _ _ (by decide) ?_)
theorem zgD (w a b:Lz) (e:Int) (ha:a.length<=3000) (hb:b.length<=3000):(Zg w (jL a) (jL b) (yE e)).length<=w.length+25000:=by
 have h1:=Qz a;have h2:=Qz b;have h3:=uF e;unfold Zg
 repeat' split
 all_goals (try simp only[Wk,W6]);omega
theorem ziu (w a b:Lz) (e:Int) (h0:w≠[]) (hw:w.length<=1000) (ha:a.length<=3000) (hb:b.length<=3000):Fun Tryz.prog G2 120 [.str w,.str a,.str b,.sc (.int .i64 e)] (.str (Zg w (jL a) (jL b) (yE e))) 0:=by
 have h1:=(ziN w h0 (by omega)).glob0 (G':=G2);have h2:=(MY a (by omega)).glob0 (G':=G2);have h3:=(MY b (by omega)).glob0 (G':=G2);have h4:=yn e;have hl:=zdW w;have l1:=Qz a;have l2:=Qz b;have l3:=uF e;by_cases hA:Xx w = [65]
 ·refine fon Tryz.func120 ?_;dsimp only[Tryz.f120];push_cast;refine cl h1 ?_;push_cast
  repeat refine an ?_
  push_cast [hA];refine cl h2 ?_;push_cast
  repeat refine an ?_
  exact ⟨[],rfl,rfl,by push_cast [ze,zd,CLe,zg]<;>simp[Zg,hA]⟩
 ·by_cases hB:Xx w = [66]
  ·have hA':¬([66]:Lz) = [65]:=by decide
   refine fon Tryz.func120 ?_;dsimp only[Tryz.f120];push_cast;refine cl h1 ?_;push_cast
   repeat refine an ?_
   push_cast [hB,hA'];refine cl h3 ?_;push_cast
   repeat refine an ?_
   exact ⟨[],rfl,rfl,by push_cast [ze,zd,CLe,zg]<;>simp[Zg,hB]⟩
  ·by_cases hE:Xx w = [69]
   ·have hA':¬([69]:Lz) = [65]:=by decide
    have hB':¬([69]:Lz) = [66]:=by decide
    refine fon Tryz.func120 ?_;dsimp only[Tryz.f120];push_cast;refine cl h1 ?_;push_cast
    repeat refine an ?_
    push_cast [hE,hA',hB'];refine cl h4 ?_;push_cast
    repeat refine an ?_
    exact ⟨[],rfl,rfl,by push_cast [ze,zd,CLe,zg]<;>simp[Zg,hE]⟩
   ·refine fon Tryz.func120 ?_;dsimp only[Tryz.f120];push_cast;refine cl h1 ?_;push_cast
    repeat refine an ?_
    push_cast [hA,hB,hE];exact ⟨[],rfl,rfl,by push_cast [ze,zd,CLe,zg]<;>simp[Zg,hA,hB,hE]⟩
theorem zkc (xs:List Lz) (hx:xs.length<=1000001) (hl:(Lib.join xs [58,32]).length<=100000000):Fun Tryz.prog G0 121 [.sl 1 (qg xs)] (.str (Lib.join xs [58,32])) 0:=by
 refine fon Tryz.func121 ?_;dsimp only[Tryz.f121];push_cast;refine cl (GJ xs [58,32] hx hl) ?_;push_cast;exact dn
end
section
open CA CB
open Go.RowKit QuotePlain
abbrev Atm:=Nat ⊕ UInt8
def zrP (w:Lz):List Atm:=
 if Xx w = [65] then .inl 0 :: (w.drop (Xx w).length).map .inr else if Xx w = [66] then .inl 1 :: (w.drop (Xx w).length).map .inr else if Xx w = [69] then .inl 2 :: (w.drop (Xx w).length).map .inr else w.map .inr
def vA (qa qb m:Lz):Atm->Lz
 | .inl 0=>qa
 | .inl 1=>qb
 | .inl _=>m
 | .inr b=>[b]
def flA (qa qb m:Lz):List Atm->Lz
 | []=>[]
 | [a]=>vA qa qb m a
 | a :: b :: r=>vA qa qb m a++flA qa qb m (b :: r)
theorem Xj (qa qb m:Lz):∀ l:List Atm,flA qa qb m l=l.flatMap (vA qa qb m)
 | []=>rfl
 | [a]=>by simp[flA]
 | a :: b :: r=>by rw[flA,Xj qa qb m (b :: r)];rfl
def zdn (k:Int):List Atm:=List.intercalate [.inr 32] ((Q8 32 (qW k)).map zrP)
def zqz (k:Int) (qa qb m:Lz):Lz:=flA qa qb m (zdn k)
theorem zjA (qa qb m l:Lz):flA qa qb m (l.map .inr)=l:=by
 rw[Xj]
 induction l with
 | nil=>rfl
 | cons b r ih=>exact Wu (b :: ·) ih
theorem GC (qa qb m:Lz) (a:Atm) (l:List Atm):flA qa qb m (a :: l)=vA qa qb m a++flA qa qb m l:=by rw[Xj,Xj];rfl
theorem zh5 (w qa qb m:Lz):Zg w qa qb m=flA qa qb m (zrP w):=by
 have h:=fun l=>zjA qa qb m l;unfold Zg zrP;split
 ·rw[GC,h];rfl
 ·split
  ·rw[GC,h];rfl
  ·split
   ·rw[GC,h];rfl
   ·rw[h]
theorem zfx (qa qb m:Lz) (a b:List Atm):flA qa qb m (a++b)=flA qa qb m a++flA qa qb m b:=by rw[Xj,Xj,Xj];exact AO
theorem u7 (qa qb m:Lz):∀ ws:List (List Atm),flA qa qb m (List.intercalate [.inr 32] ws)=List.intercalate [32] (ws.map (flA qa qb m))
 | []=>rfl
 | [w]=>by simp[List.intercalate,List.intersperse]
 | w :: v :: r=>by
  have ih:=u7 qa qb m (v :: r);have e1:List.intercalate [(.inr 32:Atm)] (w :: v :: r)=w++([.inr 32]++List.intercalate [.inr 32] (v :: r)):=by simp[List.intercalate,List.intersperse]
  have e2:List.intercalate [(32:UInt8)] ((w :: v :: r).map (flA qa qb m))=flA qa qb m w++([32]++List.intercalate [32] ((v :: r).map (flA qa qb m))):=by simp[List.intercalate,List.intersperse]
  rw[e1,e2,zfx,zfx,ih]
  rfl
theorem ziU (k:Int) (qa qb m:Lz):Lib.join ((Q8 32 (qW k)).map fun w=>Zg w qa qb m) [32]=zqz k qa qb m:=by
 unfold zqz zdn;rw[u7,List.map_map];show List.intercalate [32] _=_;congr 1;exact A5 fun w _=>zh5 w qa qb m
theorem yO (k:Int) (h:¬(1<=k/\k<=22)):qW k = []:=by
 have n1:¬k=1:=by omega
 have n2:¬k=2:=by omega
 have n3:¬k=3:=by omega
 have n4:¬k=4:=by omega
 have n5:¬k=5:=by omega
 have n6:¬k=6:=by omega
 have n7:¬k=7:=by omega
 have n8:¬k=8:=by omega
 have n9:¬k=9:=by omega
 have n10:¬k=10:=by omega
 have n11:¬k=11:=by omega
 have n12:¬k=12:=by omega
 have n13:¬k=13:=by omega
 have n14:¬k=14:=by omega
 have n15:¬k=15:=by omega
 have n16:¬k=16:=by omega
 have n17:¬k=17:=by omega
 have n18:¬k=18:=by omega
 have n19:¬k=19:=by omega
 have n20:¬k=20:=by omega
 have n21:¬k=21:=by omega
 have n22:¬k=22:=by omega
 simp only[qW,n1,n2,n3,n4,n5,n6,n7,n8,n9,n10,n11,n12,n13,n14,n15,n16,n17,n18,n19,n20,n21,n22,Oe]
theorem xx (k:Int):qW k = []∨((∀ x∈Q8 32 (qW k),x≠[]/\x.length<=100)/\(qW k).length<=100):=by
 by_cases h:1<=k/\k<=22
 ·refine .inr ?_;have hc:k=1∨k=2∨k=3∨k=4∨k=5∨k=6∨k=7∨k=8∨k=9∨k=10∨k=11∨k=12∨k=13∨k=14∨k=15∨k=16∨k=17∨k=18∨k=19∨k=20∨k=21∨k=22:=by omega
  clear h;rcases hc with rfl | rfl | rfl | rfl | rfl | rfl | rfl | rfl | rfl | rfl | rfl | rfl | rfl | rfl | rfl | rfl | rfl | rfl | rfl | rfl | rfl | rfl<;>exact ⟨by decide +kernel,by decide +kernel⟩
 ·exact .inl (yO k h)
theorem NO (f:Lz->Lz) (n:Nat):∀ xs:List Lz,(∀ x∈xs,(f x).length<=n)->((xs.map f).map fun x=>x.length+1).sum<=xs.length*(n+1)
 | [],_=>by simp
 | x :: r,h=>by
  have ih:=NO f n r fun y hy=>h y (Wl _ hy);have:=h x Wi;simp only[WC,OS,Wr,Oj];omega
theorem zax (xs:List Lz) (sep:Lz) (n:Nat) (hs:sep.length<=1) (h:(xs.map fun x=>x.length+1).sum<=n):(Lib.join xs sep).length<=n:=by
 have key:∀ xs:List Lz,(Lib.join xs sep).length<=(xs.map fun x=>x.length+1).sum:=by
  intro xs
  match xs with
  | []=>simp[Lib.join]
  | [x]=>simp[Lib.join_one]
  | x :: y :: r =>
   have ih:∀ (zs:List Lz) (z:Lz),(Lib.join (z :: zs) sep).length<=((z :: zs).map fun x=>x.length+1).sum:=by
    intro zs
    induction zs with
    | nil=>intro z;simp[Lib.join_one]
    | cons u t iht =>
     intro z;rw[jS];have:=iht u;simp only[Wk,WC,OS]at this ⊢;omega
   exact ih (y :: r) x
 exact WM (key xs) h
def XQ (k w:Int) (a b:Lz) (e:Int):Lz:=
 if Ha k = [] then [] else if qW w = [] then [] else Ha k++[58,32]++zqz w (jL a) (jL b) (yE e)
theorem zeT (k:Int):(Ha k).length<=10:=by
 have key:∀ (c:Prop) [Decidable c] (x y:Lz),x.length<=10->y.length<=10->(if c then x else y).length<=10:=fun c _ x y hx hy=>by
  by_cases h:c
  ·rw[if_pos h];exact hx
  ·rw[if_neg h];exact hy
 unfold Ha
 repeat' (first | decide | refine key _ _ _ (by decide) ?_)
theorem zg8 (k w:Int) (a b:Lz) (e:Int) (ha:a.length<=3000) (hb:b.length<=3000):Fun Tryz.prog G2 71 [.sc (.int .i64 k),.sc (.int .i64 w),.str a,.str b,.sc (.int .i64 e)] (.str (XQ k w a b e)) 0:=by
 have h1:=MU k;have h2:=zbr w;have hnl:=zeT k;by_cases hn:Ha k = []
 ·rw[hn]at h1;refine fon Tryz.func71 ?_;dsimp only[Tryz.f71];push_cast;refine cl h1 ?_;push_cast;refine cl h2 ?_;push_cast;exact ⟨[],rfl,rfl,by push_cast [ze,zd,CLe,zg]<;>simp[XQ,hn]⟩
 by_cases hp:qW w = []
 ·rw[hp]at h2;refine fon Tryz.func71 ?_;dsimp only[Tryz.f71];push_cast;refine cl h1 ?_;push_cast;refine cl h2 ?_;push_cast [hn];exact ⟨[],rfl,rfl,by push_cast [ze,zd,CLe,zg]<;>simp[XQ,hn,hp]⟩
 obtain ⟨hws,hpl⟩:(∀ x∈Q8 32 (qW w),x≠[]/\x.length<=100)/\(qW w).length<=100:=(xx w).resolve_left hp;have hpw:=hp;have hsay:=ziU w (jL a) (jL b) (yE e);have hsl:=x9 32 (qW w);have hsum:=NO (fun x=>Zg x (jL a) (jL b) (yE e)) 25100 (Q8 32 (qW w)) fun x hx=>by
  have:=zgD x a b e ha hb;have:=(hws x hx).2;omega
 have hjl:=zax ((Q8 32 (qW w)).map fun x=>Zg x (jL a) (jL b) (yE e)) [32] 3000000 (by decide) (by
  have:(Q8 32 (qW w)).length*(25100+1)<=101*25101:=WO _ (by omega);omega)
 have hit:=Mw 32 (qW w) (by omega);generalize qW w=P at h2 hp hws hpl hsay hsl hsum hjl hit;rw[hsay]at hjl;refine fof (fun i=>if i=7 then [false,false,false,false,false,false,false,true,true] else []) Tryz.func71 ?_;dsimp only[Tryz.f71];push_cast;refine cl h1 ?_;push_cast;refine cl h2 ?_;push_cast [hn,hp];refine VK [] [] ((GW 32 P).glob0) rfl (by simp) (by simp) (fun i hi=>by cases hi) (by push_cast) rfl ?_;push_cast;refine range (qg (Q8 32 P)) (fun _=>false) 4 (fun j=>⟨[],[[.str a],[.str b],[.sc (.int .i64 e)],[.own 0 9 1 (qg (((Q8 32 P).take j).map fun x=>Zg x (jL a) (jL b) (yE e)))]],1,0⟩) hit.glob0 (by push_cast) (by push_cast) (by push_cast) (Wd _) (by push_cast) (fun it h=>?_) (fun j _=>rfl) ?_ (fun j it hj hsf=>?_) (fun hsf=>?_)
 ·obtain ⟨x,_,rfl⟩:=WP.1 h;rfl
 ·exact wks [.inr (9,1)]
 ·obtain ⟨x,hx,rfl⟩:=QD hj;have hjl2:j<(Q8 32 P).length:=(Wc.1 hx).1;have hxw:=hws x (Wf hx);have hs1:=ziu x a b e hxw.1 (by omega) ha hb;push_cast;refine cl hs1 ?_;push_cast
  repeat refine an ?_
  refine JY.mk [.inl 0] rfl rfl (Wb _) rfl (by push_cast [ze,zd,CLe,zg]) ?_;push_cast [ze,zd,CLe,zg];rw[WV,hx];simp
 ·have htk:(Q8 32 P).take (Q8 32 P).length=Q8 32 P:=Og;have j1:=((GJ ((Q8 32 P).map fun x=>Zg x (jL a) (jL b) (yE e)) [32] (by rw[We];omega) (by rw[hsay];omega)).res (Wu C.str hsay)).glob0 (G':=G2);have j2:=((zkc [Ha k,zqz w (jL a) (jL b) (yE e)] (by simp) (by rw[jS,Lib.join_one];simp only[Wk,Wr,OC];omega)).res (Wu C.str (show _=XQ k w a b e by rw[jS,Lib.join_one,XQ,if_neg hn,if_neg hpw]))).glob0 (G':=G2);push_cast [htk];refine cl j1 ?_;push_cast;refine cl j2 ?_;push_cast;exact dn
end
section
open CA CB
open Go.RowKit QuotePlain
end
section
open CA CB
open Go.RowKit
def GD:zr:=fun g=>if g=3 then G1 g else G2 g
theorem zsS (g:Nat) (cs:List C) (h:G1 g=some cs):GD g=some cs:=by
 unfold GD;by_cases hg:g=3
 ·rw[if_pos hg];exact h
 ·unfold G1 at h;rw[if_neg hg]at h;cases h
theorem zsx (g:Nat) (cs:List C) (h:G2 g=some cs):GD g=some cs:=by
 unfold GD;by_cases hg:g=3
 ·subst hg;have q:G2 3=none:=rfl;rw[q]at h;cases h
 ·rw[if_neg hg];exact h
theorem Fun.gd1 {f:FuncId} {r:C} {n:Nat} (h:Fun Tryz.prog G1 f args r n):Fun Tryz.prog GD f args r n:=h.glob zsS
theorem Fun.gd2 {f:FuncId} {r:C} {n:Nat} (h:Fun Tryz.prog G2 f args r n):Fun Tryz.prog GD f args r n:=h.glob zsx
abbrev zr3 (d:zY) (ops diags:C):C:=.agg [.sc (.int .i64 d.w.fs.maxI),.sc (.int .i64 d.w.fs.maxB),.sc (.int .i64 d.w.fs.next),.sl 6 (zx d.w.fs.xs),.sl 4 (zJ d.w.kept),.sl 6 (zx d.w.pool),ops,diags,.sc (.int .i64 d.status),.sc (.int .i64 d.slot)]
structure uH (d:zY):Prop where
 wi:Uh d.w
 ws:zkF d.w
 ops:d.ops.length<=80000
 diags:d.diags.length<=80000
 slot:0<=d.slot/\d.slot<=4000000000000000000
theorem zqd (o:OpV):opL o = [.sc (.int .i64 o.kind),.sc (.int .i64 o.slot),.str o.a,.str o.b,.str o.d]:=rfl
abbrev Mx:List C:=[.any,.any,.any,.any,.any,.any,.any,.any,.any,.any]
def YM (d:zY) (x:Lz):zY:={ d with diags:=d.diags++[x],status:=1 }
theorem znb (d:zY) (hd:d.diags.length<=80000) (k w:Int) (a b:Lz) (e:Int) (ha:a.length<=3000) (hb:b.length<=3000) :
  YH Tryz.prog GD 40 [HV d,.sc (.int .i64 k),.sc (.int .i64 w),.str a,.str b,.sc (.int .i64 e)] [] 0 (fun r bx n=>n=0/\∃ c B,zor 1 c (qg (YM d (XQ k w a b e)).diags) B/\r=zr3 (YM d (XQ k w a b e)) (.sl 5 (d.ops.map opL)) (.bs 2 0 1 (d.diags.length+1) c)/\bx = [Mx,Mx,B]):=by
 have ht:=(zg8 k w a b e ha hb).gd2;generalize XQ k w a b e=x at ht ⊢;have hsl:(qg d.diags).length=d.diags.length:=We ..;have hc:=MX (G:=GD) (qg d.diags) [[.str x]] (fun r hr=>by obtain ⟨x,_,rfl⟩:=WP.1 hr;rfl) (fun r hr=>by rw[WY.1 hr];rfl) (fun r hr=>by obtain ⟨x,_,rfl⟩:=WP.1 hr;rfl) (fun r hr=>by rw[WY.1 hr];rfl) (by omega) (by simp) (by simp);refine foX (fun i=>if i=1 then [false,false,false,false,false,false,false,false,false,false,false,true,false,false,true] else []) Tryz.func40 ?_;dsimp only[Tryz.f40];push_cast;refine cl ht ?_;push_cast;refine jy [] [] hc rfl (by decide) (by decide) (by simp) (by push_cast) (by push_cast) (fun r bx' m hp=>?_);obtain ⟨rfl,c,B,hB,rfl,rfl⟩:=hp;have hre:∀ fp fo,C.reL fp fo B=B:=fun fp fo=>zE hB.stay;push_cast [hre];have hm:qg (YM d x).diags=qg d.diags++[[.str x]]:=Oa;exact ⟨_,[Mx,Mx,B],0,⟨⟨rfl,c,B,by rw[hm];exact hB,rfl,rfl⟩,Wd _⟩,[],rfl,rfl,by (push_cast [ze,zd,CLe,zg];exact zT hB.stay),by push_cast [ze,zd,CLe,zg,YM,Wk,hsl]⟩
theorem ze5 (d:zY) (hd:d.diags.length<=80000) (k w:Int) (a b:Lz) (e:Int) (ha:a.length<=3000) (hb:b.length<=3000) :
  Fun Tryz.prog GD 40 [HV d,.sc (.int .i64 k),.sc (.int .i64 w),.str a,.str b,.sc (.int .i64 e)] (zr3 (YM d (XQ k w a b e)) (.sl 5 (d.ops.map opL)) (.own 0 9 1 (qg (YM d (XQ k w a b e)).diags))) 1:=
 (znb d hd k w a b e ha hb).fun (by
  rintro r bx m ⟨rfl,c,B,hB,rfl,rfl⟩;exact ⟨[(2,9,1,qg (YM d (XQ k w a b e)).diags,c)],[.inl 0],hB.ok rfl (by simp[YM]) (fun r hr=>by obtain ⟨x,_,rfl⟩:=WP.1 hr;rfl),rfl,rfl,by push_cast [ze,zd,CLe,zg,We,Wk,YM]⟩)
end
section
open CA CB
open Go.RowKit
end
section
open Go.RowKit
theorem M7 (a b:List OpV) (ha:a.length<=100000):Fun Tryz.prog G0 32 [.sl 5 (zgY a),.sl 5 (zgY b)] (qZ (J0 a b)) 0:=by
 by_cases hl:a.length=b.length
 ·refine fon Tryz.func32 ?_;dsimp only[Tryz.f32];push_cast [hl];refine loop (fun k:Nat=>⟨[(0,.sl 5 (zgY a)),(1,.sl 5 (zgY b)),(5,.sc (.int .i64 k))],[],0,0⟩) (fun k=>k<=a.length/\∀ (j:Nat) (h:j<a.length) (h':j<b.length),j<k->zlF (a[j]'h) (b[j]'h')=true) (fun k=>a.length-k) 0 ⟨Wd _,fun j _ _ hj=>by omega⟩ ?_ ?_
  ·exact wk (by push_cast [ze,zd,CLe,zg,hl])
  ·intro k hk;have hk1:=hk.1;have hk2:=hk.2;by_cases h:k<a.length
   ·have hga:=zeM a k h;have hgb:=zeM b k (by omega);have heq:zlF (a[k]'h) (b[k]'(by omega))=zlF (a[k]'h) (b[k]'(by omega)):=rfl;simp only[opL]at hga hgb
    conv at heq=>lhs;unfold zlF
    cases he:zlF (a[k]'h) (b[k]'(by omega)) with
    | true =>
     rw[he]at heq;push_cast [h,hga,hgb,heq]
     repeat refine an ?_
     refine ⟨k+1,⟨by omega,fun j hj hj' hjk=>?_⟩,by omega,wk⟩;rcases Wq j k with g | g
     ·exact hk2 j hj hj' g
     ·have:j=k:=by omega
      subst this;exact he
    | false =>
     rw[he]at heq;push_cast [h,hga,hgb,heq]
     repeat refine an ?_
     refine ⟨[],rfl,rfl,?_⟩;push_cast [ze,zd,CLe,zg];have:¬J0 a b=true:=fun e=>by
      have:=((XC a b).1 e).2 k h (by omega);rw[he]at this;cases this
     simp[this]
   ·push_cast [h];refine ⟨[],rfl,rfl,?_⟩;push_cast [ze,zd,CLe,zg];have:J0 a b=true:=(XC a b).2 ⟨hl,fun j hj hj'=>hk2 j hj hj' (by omega)⟩;simp[this]
 ·refine fon Tryz.func32 ?_;dsimp only[Tryz.f32];push_cast [hl];refine ⟨[],rfl,rfl,?_⟩;push_cast [ze,zd,CLe,zg];have:¬J0 a b=true:=fun e=>hl ((XC a b).1 e).1;simp[this]
end
section
open CA CB
open Go.RowKit
theorem ML (w:qN) (hk:w.kept.length<=100000) (hs:X0 w.kept):Fun Tryz.prog G0 13 [Q7 w] (HV (Nj w)) 0:=by
 have h:=UZ (G:=G0) w hk hs.1 hs.2;refine fof (fun i=>if i=1 then [false,false,false,false,true] else []) Tryz.func13 ?_;dsimp only[Tryz.f13];push_cast;refine cl h ?_;push_cast;exact dn (by push_cast [ze,zd,CLe,zg,Nj])
end
section
open CA CB
open Go.RowKit
structure zl0 where
 path:Lz
 ino:Int
deriving DecidableEq,Inhabited
abbrev zsb (s:zl0):List C:=[.str s.path,.sc (.int .i64 s.ino)]
abbrev Hf (l:List zl0):List (List C):=l.map zsb
def Jf (p n:Lz):Lz:=if p = [47] then p++n else p++[47]++n
def ja (xs:List zl):Nat->Int->Lz->List zl0
 | 0,_,_=>[]
 | m+1,ino,p=>if zk ino xs then ⟨p,ino⟩ :: (zf ino xs).es.flatMap (fun e=>ja xs m e.ino (Jf p e.name)) else []
theorem N0 (p n:Lz):(Jf p n).length<=p.length+1+n.length:=by
 unfold Jf;split<;>simp<;>omega
theorem zgr (xs:List zl0) (i:Nat) (h:i<xs.length):(Hf xs)[i]?=some (zsb xs[i]):=by simp[Wv,Wa h]
theorem zdu {α β:Type} {g:α->List β} {l:List α} (h:k<l.length):(l.take (k+1)).flatMap g=(l.take k).flatMap g++g l[k]:=by
 rw[WV,Wa h,AO];simp
theorem Mp {α β:Type} {g:α->List β} {l:List α} (k:Nat):((l.take k).flatMap g).length<=(l.flatMap g).length:=by
 have h:l.flatMap g=(l.take k).flatMap g++(l.drop k).flatMap g:=by rw[←AO,W2]
 rw[h,Wk];omega
section
variable {G:zr}
theorem zfG (p n:Lz) (h:p.length+n.length<=1000000000):Fun Tryz.prog G 53 [.str p,.str n] (.str (Jf p n)) 0:=by
 refine fon Tryz.func53 ?_;dsimp only[Tryz.f53];by_cases hp:p = [47]
 ·subst hp;have hu:Jf [47] n = [47]++n:=by unfold Jf;rw[if_pos rfl]
  push_cast
  repeat refine an ?_
  exact dn (by push_cast [ze,zd,CLe,zg,hu])
 ·have hu:Jf p n=p++[47]++n:=by unfold Jf;rw[if_neg hp]
  push_cast [hp]
  repeat refine an ?_
  exact dn (by push_cast [ze,zd,CLe,zg,hu])
def zr9 (xs:List zl):Prop:=xs.length<=10000/\∀ x∈xs,x.data.length<=5000/\x.es.length<=10000/\∀ e∈x.es,e.name.length<=300
theorem kV (f:FsV) (hf:zr9 f.xs):∀ (m:Nat) (ino:Int) (p:Lz),m<=10000->p.length+m*301<=4000000->(ja f.xs m ino p).length<=20000000->Fun Tryz.prog G 26 [.agg (fsC f),.sc (.int .i64 ino),.str p,.sc (.int .i64 ((m:Int)-1))] (.own 0 73 2 (Hf (ja f.xs m ino p))) 1
 | 0,ino,p,hm,hp,hl=>by
  have h40:=hf.1;refine fon Tryz.func26 ?_;dsimp only[Tryz.f26];push_cast;refine cl (JK f ino (by omega)) ?_;push_cast;cases hh:zk ino f.xs with
  | true =>
   push_cast;exact ⟨[.inr (73,2)],rfl,rfl,by push_cast [ze,zd,CLe,zg,ja]⟩
  | false =>
   push_cast;exact ⟨[.inr (73,2)],rfl,rfl,by push_cast [ze,zd,CLe,zg,ja]⟩
 | m+1,ino,p,hm,hp,hl=>by
  have h40:=hf.1;have e1:(((m+1:Nat):Int)-1)=(m:Int):=by omega
  rw[e1];refine fof (fun i=>if i=8 then [false,false,false,false,false,false,false,false,false,false,false,false,false,false,false,false,false,false,false,true] else []) Tryz.func26 ?_;dsimp only[Tryz.f26];push_cast;refine cl (JK f ino (by omega)) ?_;push_cast;cases hh:zk ino f.xs with
  | false =>
   have hb:ja f.xs (m+1) ino p = []:=by rw[ja,hh];rfl
   push_cast;exact ⟨[.inr (73,2)],rfl,rfl,by push_cast [ze,zd,CLe,zg,hb]⟩
  | true =>
   obtain ⟨hm1,hino⟩:=qO hh;have hb:ja f.xs (m+1) ino p=⟨p,ino⟩ :: (zf ino f.xs).es.flatMap (fun e=>ja f.xs m e.ino (Jf p e.name)):=by rw[ja,hh];rfl
   rw[hb]at hl;have hs:=hf.2 _ hm1;have hnm:((m:Int)<0)=False:=WH (by omega);push_cast [hnm];generalize zf ino f.xs=x at hs hb hl;have hle:(zQ x.es).length=x.es.length:=We ..;rw[Wr]at hl;refine loop (fun k:Nat=>⟨[(2,.str p),(3,.sc (.int .i64 m)),(4,.ptr 0 0),(9,.ptr 1 0),(11,.own 0 73 2 (Hf (⟨p,ino⟩ :: (x.es.take k).flatMap (fun e=>ja f.xs m e.ino (Jf p e.name))))),(12,.sc (.int .i64 k))],[fsC f,Yf x],1,0⟩) (fun k=>k<=x.es.length) (fun k=>x.es.length-k) 0 (Wd _) ?_ ?_
   ·exact wks [.inl 0] (by push_cast [ze,zd,CLe,zg,Oy,List.flatMap_nil])
   ·intro k hk0;by_cases hk:k<x.es.length
    ·have g1:=JV x.es k hk;have ht:=zdu (g:=fun e:zO=>ja f.xs m e.ino (Jf p e.name)) hk;have h1:=Mp (g:=fun e:zO=>ja f.xs m e.ino (Jf p e.name)) (l:=x.es) (k+1);have hn:=hs.2.2 _ (WB hk);have hul:=N0 p x.es[k].name;rw[ht]at h1;rw[Wk]at h1;have hbl:∀ l:List zl0,(Hf l).length=l.length:=fun l=>We ..;push_cast [hle,hk,g1]
     repeat refine an ?_
     refine cl (zfG p x.es[k].name (by omega)) ?_;push_cast
     repeat refine an ?_
     refine cl (kV f hf m x.es[k].ino (Jf p x.es[k].name) (by omega) (by omega) (by omega)) ?_;push_cast;have hent:=hs.2.1;rw[We,We];refine ⟨by omega,by omega,⟨by omega,by omega⟩,k+1,hk,by omega,wks [.inl 0] (by push_cast [ze,zd,CLe,zg,ht,Oa])⟩
    ·push_cast [hle,hk];have hkk:x.es.take k=x.es:=Wg (by omega);rw[hkk];exact ⟨[.inl 0],rfl,rfl,by push_cast [ze,zd,CLe,zg,hb]⟩
theorem zhq (a b:List zl0) (ha:a.length<=9223372036854775806) (hb:b.length<=9223372036854775806):Fun Tryz.prog G 25 [.sl 2 (Hf a),.sl 2 (Hf b)] (.sc (.bool (decide (a=b)))) 0:=by
 refine fon Tryz.func25 ?_;dsimp only[Tryz.f25];have hla:(Hf a).length=a.length:=We ..;have hlb:(Hf b).length=b.length:=We ..;by_cases hab:a.length=b.length
 ·push_cast [hla,hlb,hab];refine loop (fun i:Nat=>⟨[(0,.sl 2 (Hf a)),(1,.sl 2 (Hf b)),(5,.sc (.int .i64 i))],[],0,0⟩) (fun i=>i<=b.length/\a.take i=b.take i) (fun i=>b.length-i) 0 ⟨Wd _,rfl⟩ ?_ ?_
  ·exact wk
  ·rintro i ⟨h1,h2⟩;by_cases h:i<b.length
   ·have g1:=zgr a i (by omega);have g2:=zgr b i h;push_cast [hla,hab,h,g1,g2]
    repeat refine an ?_
    have hd:(decide (a[i].path=b[i].path)&&decide (a[i].ino=b[i].ino))=decide (a[i]=b[i]):=by
     cases a[i];cases b[i];simp
    by_cases he:a[i]=b[i]
    ·rw[Wn he]at hd;push_cast [hd]
     repeat refine an ?_
     exact ⟨i+1,⟨h,(M6 (by omega) h h2).2 he⟩,by omega,wk⟩
    ·rw[Wj he]at hd;push_cast [hd];have:a≠b:=fun h=>he (by subst h;rfl);exact dn (by push_cast [ze,zd,CLe,zg,this])
   ·push_cast [hla,hab,h];have:a=b:=by rw[←Wg (l:=a) (i:=i) (by omega),h2,Wg (by omega)]
    exact dn (by push_cast [ze,zd,CLe,zg,this])
 ·push_cast [hla,hlb,hab];have:a≠b:=fun h=>hab (by rw[h]);exact dn (by push_cast [ze,zd,CLe,zg,this])
end
end
section
open CA CB
open Go.RowKit
def zny (xs:List zl):Prop:=xs.length<=3240/\∀ x∈xs,x.data.length<=5000/\x.es.length<=3240/\∀ e∈x.es,e.name.length<=300
abbrev JO:=List (List Lz×zl)
structure zah (f:FsV) (tr:Int->List Lz->JO):Prop where
 has:∀ n ns,zk n f.xs=true->tr n ns=(ns,zf n f.xs) :: (zf n f.xs).es.flatMap fun e=>tr e.ino (ns++[e.name])
 not:∀ n ns,zk n f.xs=false->tr n ns = []
abbrev kQ (p:List Lz×zl):List C:=[.str (qq p.1),.agg (Yf p.2)]
def za4 (tr:Int->List Lz->JO) (ns:List Lz) (es:List zO):JO:=es.flatMap fun e=>tr e.ino (ns++[e.name])
def XY (tr:Int->List Lz->JO) (S:List (List Lz×List zO)):JO:=S.flatMap fun p=>za4 tr p.1 p.2
abbrev lvC (p:List Lz×List zO):List C:=[.sl 1 (qg p.1),.sl 2 (zQ p.2)]
def Hr (S:List (List Lz×List zO)):List C:=(S.reverse.map lvC).flatten
theorem zmC (S:List (List Lz×List zO)):(Hr S).length=S.length*2:=by
 unfold Hr;rw[qt (k:=2) fun r hr=>by obtain ⟨p,_,rfl⟩:=WP.1 hr;rfl];simp
theorem ud (p:List Lz×List zO) (S:List (List Lz×List zO)):Hr (p :: S)=Hr S++lvC p:=by
 unfold Hr;simp
def VO (p:List Lz×zl):Prop:=p.1.length<=1000000/\(Lib.join p.1 [47]).length<=1000000
structure YI (f:FsV) (tr:Int->List Lz->JO) (IT:List (List C)) (sf:Nat->Bool) (S:List (List Lz×List zO)) (k cap:Nat):Prop where
 rest:IT.drop k=(XY tr S).map kQ
 bound:∀ p∈XY tr S,VO p
 le:k<=IT.length
 go:∀ j,j<k->sf j=false
 pos:S.length<=k
 room:S.length<=cap
 roomM:cap<=9223372036854775807
 has:∀ p∈S,p.2.length<=3240/\∀ e∈p.2,zk e.ino f.xs=true
theorem Zf (S:List (List Lz×List zO)):((Hr S).all C.stayB)=true:=Qv fun r hr=>by
 obtain ⟨p,_,rfl⟩:=WP.1 hr;rfl
theorem YI.pop {tr:Int->List Lz->JO} {IT:List (List C)} {sf:Nat->Bool} {S:List (List Lz×List zO)} {cap:Nat} (h:YI f tr IT sf ((ns,[]) :: S) k cap):YI f tr IT sf S k cap:=by
 have e:XY tr ((ns,[]) :: S)=XY tr S:=by simp[XY,za4]
 exact ⟨by rw[←e];exact h.rest,fun p hp=>h.bound p (by rw[e];exact hp),h.le,h.go,by have:=h.pos;rw[Wr]at this;omega,by have:=h.room;rw[Wr]at this;omega,h.roomM,fun p hp=>h.has p (Wl _ hp)⟩
theorem YI.next {tr:Int->List Lz->JO} {IT:List (List C)} {sf:Nat->Bool} {S:List (List Lz×List zO)} {e:zO} {r:List zO} {cap:Nat} (h:YI f tr IT sf ((ns,e :: r) :: S) k cap) (ht:zah f tr) (hf:zny f.xs) (h3:YC f) :
  ∃ y,y=zf e.ino f.xs/\y∈f.xs/\IT[k]?=some (kQ (ns++[e.name],y))/\VO (ns++[e.name],y)/\(sf k=false->(∀ c,S.length+2<=c->c<=9223372036854775807->YI f tr IT sf ((ns++[e.name],y.es) :: (ns,r) :: S) (k+1) c)/\(y.es = []->YI f tr IT sf ((ns,r) :: S) (k+1) cap)):=by
 have hh:zk e.ino f.xs=true:=(h.has (ns,e :: r) Wi).2 e Wi;obtain ⟨hm,hi⟩:=qO hh;have hu:=ht.has e.ino (ns++[e.name]) hh;have hrest:XY tr ((ns,e :: r) :: S)=(ns++[e.name],zf e.ino f.xs) :: XY tr ((ns++[e.name],(zf e.ino f.xs).es) :: (ns,r) :: S):=by
  simp only[XY,za4,Al,hu,Om,WE]
 refine ⟨_,rfl,hm,?_,h.bound _ (by rw[hrest];exact Wi),fun hs=>?_⟩
 ·have:=h.rest;rw[hrest]at this;have:=Wu (·[0]?) this;simpa using this
 ·have hd:IT.drop (k+1)=(XY tr ((ns++[e.name],(zf e.ino f.xs).es) :: (ns,r) :: S)).map kQ:=by
   rw[←Aw,h.rest,hrest];rfl
  have hb:∀ p∈XY tr ((ns++[e.name],(zf e.ino f.xs).es) :: (ns,r) :: S),VO p:=fun p hp=>h.bound p (by rw[hrest];exact Wl _ hp);have hkl:k+1<=IT.length:=by
   rcases Wq k IT.length with g | g
   ·exact g
   ·have:=h.rest;rw[AP g,hrest]at this;cases this
  have hgo:∀ j,j<k+1->sf j=false:=fun j hj=>by
   rcases Wq j k with g | g
   ·exact h.go j g
   ·rw[show j=k by omega];exact hs
  have hp:=h.pos;have hro:=h.room;have hrm:=h.roomM;rw[Wr]at hp hro;have h0:=h.has (ns,e :: r) Wi;have hr0:r.length<=3240/\∀ e'∈r,zk e'.ino f.xs=true:=⟨by have:=h0.1;simp at this;omega,fun e' he=>h0.2 e' (Wl _ he)⟩;refine ⟨fun c h1 h2=>⟨hd,hb,hkl,hgo,by simp;omega,by simp;omega,h2,fun p hp=>?_⟩,fun hne=>?_⟩
  ·rcases WK.1 hp with rfl | hp
   ·exact ⟨(hf.2 _ hm).2.1,fun e' he=>h3 _ hm e' he⟩
   ·rcases WK.1 hp with rfl | hp
    ·exact hr0
    ·exact h.has p (Wl _ hp)
  ·have hz:XY tr ((ns++[e.name],(zf e.ino f.xs).es) :: (ns,r) :: S)=XY tr ((ns,r) :: S):=by rw[hne];simp[XY,za4]
   rw[hz]at hd hb;exact ⟨hd,hb,hkl,hgo,by simp;omega,by simp;omega,hrm,fun p hp=>by
    rcases WK.1 hp with rfl | hp
    ·exact hr0
    ·exact h.has p (Wl _ hp)⟩
theorem zaM (f:FsV) (ino:Int) (ns:List Lz) (tr:Int->List Lz->JO) (ht:zah f tr) (hf:zny f.xs) (hR:zZ f.xs) (h3:YC f) (h2:∀ x∈f.xs,x.kind≠2->x.es = []) (hl:(tr ino ns).length<=100000000) (hb:∀ p∈tr ino ns,VO p) :
  xE Tryz.prog G0 226 [] [.row (fsC f),.row [.sc (.int .i64 ino)],.row [.sl 1 (qg ns)]] [] ((tr ino ns).map kQ):=by
 have h40:=hf.1;refine foI (fun i=>if i=1000000+278 then [true] else if i=1 then [false,false,false,false,false,false,false,true] else if i=10 then [false,false,false,false,true] else []) Tryz.func226 ?_;dsimp only[Tryz.f226];intro l sf;push_cast;refine cl (je f ino (by omega) hR) ?_;push_cast;cases hh:zk ino f.xs with
 | false =>
  have hn:=ht.not ino ns hh;push_cast;rw[hn];exact .inl ⟨rfl,fun j hj=>absurd hj (OD _)⟩
 | true =>
  have hn:=ht.has ino ns hh;have q:VO (ns,zf ino f.xs):=hb _ (by rw[hn];exact Wi);have h0:((tr ino ns).map kQ)[0]?=some (kQ (ns,zf ino f.xs)):=by rw[hn];rfl
  obtain ⟨hm,hino⟩:=qO hh;generalize zf ino f.xs=x at hn h0 hm hino;have hITl:((tr ino ns).map kQ).length<=100000000:=by rw[We];exact hl
  generalize hIT:(tr ino ns).map kQ=IT at h0 hITl;push_cast;refine cl (XV ns (by have:=q.1;dsimp only at this;omega) (by have:=q.2;dsimp only at this;omega)) ?_;push_cast [h0];refine ⟨by push_cast [ze,zd,CLe,zg],fun j hj=>absurd hj (OD _),br (fun hs=>?_) (fun hs=>?_)⟩
  ·push_cast;exact .inr ⟨A0 _,hs⟩
  ·push_cast;refine loop (fun p:List (List Lz×List zO)×Nat×Nat=>⟨[(0,.sc (.func (.yield l) #[] #[])),(1,.row (fsC f)),(7,.bs 1 0 2 p.1.length p.2.2)],[[.any,.any,.any,.any,.any,.any],Hr p.1++List.replicate ((p.2.2-p.1.length)*2) .any],0,p.2.1⟩) (fun p=>YI f tr IT sf p.1 p.2.1 p.2.2) (fun p=>2*(IT.length-p.2.1)+p.1.length) ([(ns,x.es)],1,1) ?_ ?_ ?_
   ·have hdr:IT.drop 1=(XY tr [(ns,x.es)]).map kQ:=by
     rw[←hIT,hn];simp[XY,za4]
    show YI f tr IT sf [(ns,x.es)] 1 1;exact ⟨hdr,fun p hp=>hb p (by rw[hn];exact Wl _ (by simpa [XY,za4] using hp)),by have:=(Wc.1 h0).1;omega,fun j hj=>by rw[show j=0 by omega];exact hs,Wb _,Wb _,by omega,fun p hp=>by
     rw[WY]at hp;subst hp;exact ⟨(hf.2 x hm).2.1,fun e he=>h3 x hm e he⟩⟩
   ·have hl1:Hr [(ns,x.es)] = [.sl 1 (qg ns),.sl 2 (zQ x.es)]:=rfl;exact wk (h5:=by push_cast [ze,zd,CLe,zg,hl1])
   ·rintro ⟨S,k,cap⟩ hS;dsimp only at hS ⊢;cases S with
    | nil =>
     push_cast;have hr:=hS.rest;have he:IT.length<=k:=by
      rcases Wq k IT.length with g | g
      ·have:=Wu List.length hr;simp[XY]at this;omega
      ·exact g
     exact .inl ⟨by have:=hS.le;omega,hS.go⟩
    | cons p S' =>
     obtain ⟨ns1,es1⟩:=p;have hL:=zmC S';have hd0:∀ X,(Hr S'++X).drop (S'.length*2)=X:=fun X=>List.drop_left' hL;have hd1:∀ X,(Hr S'++X).drop (S'.length*2+1)=X.drop 1:=fun X=>by rw[←Aw,hd0]
     have hd2:∀ X,(Hr S'++X).drop (S'.length*2+2)=X.drop 2:=fun X=>by rw[←Aw,hd0]
     have ht0:∀ X,(Hr S'++X).take (S'.length*2)=Hr S':=fun X=>OB hL;have ht1:∀ X,(Hr S'++X).take (S'.length*2+1)=Hr S'++X.take 1:=fun X=>by
      rw[AH,Wg (by omega),hL];congr 2;omega
     have hpos:((0:Int)<(S'.length:Int)+1)=True:=eq_true (by omega);have hroom:=hS.room;have hroomM:=hS.roomM;rw[Wr]at hroom;have hlc:(((S'.length:Int)+1-1)=(S'.length:Int)):=by omega
     push_cast [ud,hlc,hpos]
     repeat refine an ?_
     generalize hpad:List.replicate ((cap-(S'.length+1))*2) C.any=pad;have hps:(pad.all C.stayB)=true:=by rw[←hpad];simp[OE,C.stayB]
     have hst1:((Hr S'++(lvC (ns1,es1)++pad)).all C.stayB)=true:=by rw[OW,Zf,OW,hps];rfl
     have hpl:pad.length=(cap-(S'.length+1))*2:=by rw[←hpad];simp
     refine loop (fun p:List zO×Nat=>⟨[(0,.sc (.func (.yield l) #[] #[])),(1,.row (fsC f)),(7,.bs 1 0 2 (S'.length+1) cap),(8,.ptr 1 (S'.length*2))],[[.any,.any,.any,.any,.any,.any],Hr S'++([.sl 1 (qg ns1),.sl 2 (zQ p.1)]++pad)],0,p.2⟩) (fun p=>YI f tr IT sf ((ns1,p.1) :: S') p.2 cap/\2*(IT.length-p.2)<=2*(IT.length-k)) (fun p=>p.1.length) (es1,k) ⟨hS,Wb _⟩ ?_ ?_
     ·exact JY.mk [] rfl rfl (Wd _) rfl (by push_cast [ze,zd,CLe,zg]) (by push_cast [ze,zd,CLe,zg,WE];exact zT hst1)
     ·rintro ⟨es,k1⟩ ⟨hT,hkk⟩;dsimp only at hT hkk ⊢;cases es with
      | nil =>
       push_cast [hd0,hd1,hd2,ht0,ht1,hlc];refine ⟨by omega,by omega,⟨by omega,by omega⟩,(S',k1,cap),hT.pop,by dsimp only;omega,JY.mk [] rfl rfl (Wd _) rfl (by push_cast [ze,zd,CLe,zg]) ?_⟩;push_cast [ze,zd,CLe,zg];exact zd7 (zT (Zf S')) (Xn (by simp[hpl];omega))
      | cons e r =>
       obtain ⟨y,hy,hym,hk1,hbd,hnext⟩:=hT.next ht hf h3;have hrl:((0:Int)<(r.length:Int)+1)=True:=eq_true (by omega);have hlr:(zQ r).length=r.length:=We ..;have hhe:zk e.ino f.xs=true:=(hT.has (ns1,e :: r) Wi).2 e Wi;have hgy:zf e.ino f.xs=y:=hy.symm;have hb1:ns1.length+1<=1000000:=by have:=hbd.1;simpa using this
       have hb2:(Lib.join (ns1++[e.name]) [47]).length<=1000000:=hbd.2;have hst2:(qg ns1).length=ns1.length:=We ..;push_cast [hd0,hd1,hd2,ht0,ht1,hlc,hlr,hrl,hst2,WE,Og]
       repeat refine an ?_
       refine cl (je f e.ino (by omega) hR) ?_;push_cast [hgy,hhe];refine cl (XV (ns1++[e.name]) (by simp;omega) (by omega)) ?_;push_cast [hk1];refine ⟨by push_cast [ze,zd,CLe,zg],hT.go,br (fun hs1=>?_) (fun hs1=>?_)⟩
       ·push_cast;exact .inr ⟨A0 _,hs1⟩
       ·obtain ⟨w1,w2⟩:=hnext hs1;by_cases k2:y.kind=2
        ·have hSk:=hT.pos;have hkl:=hT.le;rw[Wr]at hSk;have hc1:(Hr S'++C.sl 1 (qg ns1) :: C.sl 2 (List.map Gu r) :: pad).length=cap*2:=by
          rw[Wk,hL,Wr,Wr,hpl];omega
         have hc2:(Hr S'++C.sl 1 (qg ns1) :: C.sl 2 (List.map Gu r) :: pad).take ((S'.length+1)*2)=Hr S'++[C.sl 1 (qg ns1),C.sl 2 (List.map Gu r)]:=by
          rw[AH,Wg (by omega),hL,show (S'.length+1)*2-S'.length*2=2 by omega];rfl
         push_cast [k2];refine zrk (Hr S'++[C.sl 1 (qg ns1),C.sl 2 (List.map Gu r)]++[C.sl 1 (qg (ns1++[e.name])),C.sl 2 (zQ y.es)]) rfl rfl (by decide) rfl (by decide) (Wd _) hc1 hroom hroomM (by omega) (by omega) (by rw[hc2];exact zE (by rw[OW,OW,Zf];rfl)) (fun c' g1 g2=>?_);have hw:=w1 c' (by omega) g2;have hwl:=hw.le;push_cast [k2];refine ⟨((ns1++[e.name],y.es) :: (ns1,r) :: S',k1+1,c'),hw,by simp only[Wr];omega,JY.mk [] rfl rfl (Wd _) rfl (by push_cast [ze,zd,CLe,zg]) ?_⟩;push_cast [ze,zd,CLe,zg,ud,WE];exact zT (by rw[OW,Zf];simp[OE,C.stayB])
        ·push_cast [k2];have hz:=w2 (h2 y hym k2);have hle:=hz.le;refine ⟨(r,k1+1),⟨hz,by dsimp only;omega⟩,by dsimp only;simp,JY.mk [] rfl rfl (Wd _) rfl (by push_cast [ze,zd,CLe,zg]) ?_⟩;push_cast [ze,zd,CLe,zg,WE];exact zT (by rw[OW,Zf,A2,A2,hps];rfl)
end
section
open CA CB
open Go.RowKit
structure zfw (f:FsV) (tr:Int->List Lz->JO):Prop where
 tree:zah f tr
 few:zny f.xs
 rise:zZ f.xs
 third:YC f
 leaf:∀ x∈f.xs,x.kind≠2->x.es = []
structure vE (tr:Int->List Lz->JO) (ino:Int) (ns:List Lz):Prop where
 len:(tr ino ns).length<=100000000
 bound:∀ p∈tr ino ns,VO p
abbrev zfH (l:JO):List (List C):=l.map kQ
theorem zhM {l:JO} {it:List C} (h:(zfH l)[k]?=some it):∃ p,l[k]?=some p/\it=kQ p:=by
 rw[Wv]at h;cases hq:l[k]? with
 | none=>rw[hq]at h;cases h
 | some x=>rw[hq]at h;cases h;exact ⟨x,rfl,rfl⟩
abbrev zmk (p:List Lz×zl):zl0:=⟨qq p.1,p.2.ino⟩
theorem zlB {tr:Int->List Lz->JO} {ino:Int} (hw:zfw f tr) (hs:vE tr ino ns):xE Tryz.prog G0 226 [] [.row (fsC f),.row [.sc (.int .i64 ino)],.row [.sl 1 (qg ns)]] [] (zfH (tr ino ns)):=
 zaM f ino ns tr hw.tree hw.few hw.rise hw.third hw.leaf hs.len hs.bound
theorem zin (f:FsV) (ino:Int) (ns:List Lz):Fun Tryz.prog G0 183 [.agg (fsC f),.sc (.int .i64 ino),.sl 1 (qg ns)] (.clo (.func 226) [] [.row (fsC f),.row [.sc (.int .i64 ino)],.row [.sl 1 (qg ns)]]) 0:=by
 refine fon Tryz.func183 ?_;dsimp only[Tryz.f183];push_cast;exact dn
theorem zkY (f:FsV):Fun Tryz.prog G0 149 [.agg (fsC f)] (.clo (.func 226) [] [.row (fsC f),.row [.sc (.int .i64 1)],.row [.sl 1 (qg [])]]) 0:=by
 refine fon Tryz.func149 ?_;dsimp only[Tryz.f149];push_cast;refine call (Fun.less (zin f 1 []) (by push_cast [ze,zd,CLe,zg])) ?_;push_cast;exact dn
def QN (n:Int) (l:JO):List Lz:=(l.filter fun p=>decide (p.2.ino=n)).map fun p=>qq p.1
def UU (n:Int) (l:JO):Option Lz:=(l.find? fun p=>decide (p.2.ino=n)&&decide (p.2.kind=2)).map fun p=>qq p.1
theorem x5 (f:FsV) (n:Int) (tr:Int->List Lz->JO) (hw:zfw f tr) (hs:vE tr 1 []) :
  Fun Tryz.prog G0 102 [.agg (fsC f),.sc (.int .i64 n)] (.tup [.str ((UU n (tr 1 [])).getD []),.sc (.bool (UU n (tr 1 [])).isSome)]) 0:=by
 refine fon Tryz.func102 ?_;dsimp only[Tryz.f102];push_cast;refine cl (zkY f) ?_;push_cast;have hl:=hs.len;have hit:=zlB hw hs;generalize tr 1 []=l at hit hl;refine range (zfH l) (fun k=>match l[k]? with | some p=>decide (p.2.ino=n)&&decide (p.2.kind=2) | none=>false) 4 (fun k=>⟨[],[[.any,.any,.any,.any],[.sc (.int .i64 n)],[.any],[.any]],0,0⟩) hit (by push_cast) (by push_cast) (by push_cast) (Wd _) (by push_cast) (fun it h=>?_) (fun k _=>rfl) ?_ (fun k it hk hsf=>?_) (fun hsf=>?_)
 ·obtain ⟨x,_,rfl⟩:=WP.1 h;rfl
 ·exact wk
 ·obtain ⟨x,hx2,rfl⟩:=zhM hk;have hfirst:(decide (x.2.ino=n)&&decide (x.2.kind=2))=true->UU n l=some (qq x.1):=fun hb=>by
   obtain ⟨hkl,hxe⟩:=Wc.1 hx2;unfold UU;rw[A7 (b:=x) |>.2 ⟨hb,k,hkl,hxe,fun j hj=>?_⟩]
   ·rfl
   ·have:=hsf j hj;rw[Wa (by omega)]at this;simp only[this];rfl
  by_cases c1:x.2.ino=n
  ·by_cases c2:x.2.kind=2
   ·have hd:=hfirst (by simp[c1,c2]);push_cast [c1,c2];refine ⟨by rw[hx2];simp[c1,c2],⟨[],[[.any,.any,.any,.any],[.sc (.int .i64 n)],[.str (qq x.1)],[.sc (.bool true)]],0,0⟩,rfl,wk,?_⟩;push_cast [hd];exact dn (by push_cast [ze,zd,CLe,zg,hd,WS,AW])
   ·push_cast [c1,c2];refine ⟨by rw[hx2];simp[c2],wk⟩
  ·push_cast [c1];refine ⟨by rw[hx2];simp[c1],wk⟩
 ·have hnone:UU n l=none:=by
   unfold UU;rw[Option.map_eq_none_iff,Bb];intro x hx;obtain ⟨k,hk,rfl⟩:=WD hx;have:=hsf k (by simpa using hk);rw[Wa hk]at this;simpa only[Bool.not_eq_true] using this
  push_cast [hnone];exact dn (by push_cast [ze,zd,CLe,zg,Ol,Br])
end
section
inductive Dep (xs:List zl):Nat->Int->Prop
 | root:Dep xs 0 1
 | step {k:Nat} {n:Int} {e:zO}:Dep xs k n->zk n xs=true->e∈(zf n xs).es->Dep xs (k+1) e.ino
def okM (f:FsV):Prop:=zny f.xs/\Jy f=0
theorem okV.m (h:okV f):okM f:=⟨⟨by have:=h.1.1;omega,fun x hx=>by obtain ⟨a,b,c⟩:=h.1.2 x hx;exact ⟨a,by omega,c⟩⟩,h.2⟩
theorem qH (h:okM f):zny f.xs/\Jx f/\YQ f/\YC f/\YP f/\QK f/\Hh f:=by
 obtain ⟨h0,h⟩:=h;unfold Jy at h;refine ⟨h0,?_⟩;split at h
 ·split at h
  ·split at h
   ·split at h
    ·split at h
     ·split at h
      ·exact ⟨by assumption,by assumption,by assumption,by assumption,by assumption,by assumption⟩
      ·cases h
     ·cases h
    ·cases h
   ·cases h
  ·cases h
 ·cases h
theorem GS {es:List zO}:∀ {S:List Int} {n:Int},n∈kZ S es↔n∈S∨∃ e∈es,e.ino=n:=by
 induction es with
 | nil=>intro S n;simp[kZ]
 | cons e r ih =>
  intro S n;show n∈kZ (YG S e.ino) r↔_;rw[ih,Hs];constructor
  ·rintro ((h | h) | ⟨e',he,h⟩)
   ·exact .inl h
   ·exact .inr ⟨e,Wi,h.symm⟩
   ·exact .inr ⟨e',Wl _ he,h⟩
  ·rintro (h | ⟨e',he,h⟩)
   ·exact .inl (.inl h)
   ·rcases WK.1 he with rfl | he
    ·exact .inl (.inr h.symm)
    ·exact .inr ⟨e',he,h⟩
theorem xw {es:List zO}:∀ {S:List Int},YD xs S->(∀ e∈es,zk e.ino xs=true)->YD xs (kZ S es):=by
 induction es with
 | nil=>intro S h _;exact h
 | cons e r ih=>intro S h he;exact ih (h.one (he e Wi)) fun e' h'=>he e' (Wl _ h')
theorem GG {xs:List zl} (h3:∀ x∈xs,∀ e∈x.es,zk e.ino xs=true):∀ (m i:Nat) (S:List Int),YD xs S->(∀ n∈S,∃ k,Dep xs k n)->YD xs (QT xs m i S)/\∀ n∈QT xs m i S,∃ k,Dep xs k n
 | 0,i,S,h,hd=>by unfold QT;exact ⟨h,hd⟩
 | m+1,i,S,h,hd=>by
  unfold QT;split
  ·rename_i n hn;have hmem:=Wf hn;have hh:=h.has n hmem;obtain ⟨hm,_⟩:=qO hh;obtain ⟨k,hk⟩:=hd n hmem;refine GG h3 m (i+1) _ (xw h fun e he=>h3 _ hm e he) fun n' hn'=>?_;rcases GS.1 hn' with h' | ⟨e,he,rfl⟩
   ·exact hd n' h'
   ·exact ⟨k+1,.step hk hh he⟩
  ·exact ⟨h,hd⟩
theorem zeF {S T:List Int} (hS:S.Nodup) (hs:∀ n∈S,n∈T) (hl:T.length<=S.length):∀ n∈T,n∈S:=by
 intro n hn;by_cases h:n∈S
 ·exact h
 ·exfalso
  have:=Uq (S:=n :: S) (T:=T) (OP.2 ⟨h,hS⟩) fun m hm=>by
   rcases WK.1 hm with rfl | hm
   ·exact hn
   ·exact hs m hm
  rw[Wr]at this;omega
theorem yS (h:okM f) {n:Int} (hn:zk n f.xs=true):∃ k,Dep f.xs k n:=by
 obtain ⟨_,h1,_,h3,_,h5,_⟩:=qH h;have hroot:YD f.xs [1]:=⟨by simp,fun n hn=>by simp at hn;subst hn;exact h1.2.2.2.2.2.2.2.1⟩;obtain ⟨g1,g2⟩:=GG h3 (f.xs.length+1) 0 [1] hroot fun n hn=>by simp at hn;subst hn;exact ⟨0,.root⟩
 have hS:=zeF (T:=f.xs.map (·.ino)) g1.nodup (fun m hm=>Np.1 (g1.has m hm)) (by rw[We];exact Nat.le_of_eq h5.symm) n (Np.1 hn);exact g2 n hS
theorem Zh {e:zO} (hh:zk n xs=true) (he:e∈(zf n xs).es):(e.ino,n)∈qk xs:=by
 obtain ⟨hm,hi⟩:=qO hh;unfold qk;exact At.2 ⟨_,hm,WP.2 ⟨e,he,by rw[hi]⟩⟩
theorem zlm (h:(n,p)∈l):1<=Q6 n l:=by
 unfold Q6;exact WG.2 (List.ne_nil_of_mem (Ov.2 ⟨h,by simp⟩))
theorem yc {q:Int} (hp:(n,p)∈l) (hq:(n,q)∈l) (h:Q6 n l=1):p=q:=by
 unfold Q6 at h;obtain ⟨x,hx⟩:=List.length_eq_one_iff.1 h;have h1:(n,p)∈l.filter fun p=>p.1==n:=Ov.2 ⟨hp,by simp⟩;have h2:(n,q)∈l.filter fun p=>p.1==n:=Ov.2 ⟨hq,by simp⟩;rw[hx]at h1 h2;simp only[WY]at h1 h2;exact Wu Prod.snd (h1.trans h2.symm)
theorem VW (h:okM f) {n:Int} (hh:zk n f.xs=true) {e:zO} (he:e∈(zf n f.xs).es):(zf n f.xs).kind=2:=by
 obtain ⟨_,_,h2,_⟩:=qH h;obtain ⟨hm,_⟩:=qO hh;by_cases hk:(zf n f.xs).kind=2
 ·exact hk
 ·have:=((h2 _ hm).2.1 hk).1;rw[this]at he;cases he
theorem jJ (h:okM f) {n:Int} (hh:zk n f.xs=true) {e:zO} (he:e∈(zf n f.xs).es):e.ino≠1:=fun h1=>by
 obtain ⟨_,hf,_,_,h4,_⟩:=qH h;obtain ⟨hm,hi⟩:=qO hf.2.2.2.2.2.2.2.1;have hq:=(h4 _ hm).2;rw[if_pos hi,hi]at hq;have:=zlm (Zh hh he);rw[h1]at this;omega
theorem Vj {f:FsV} (h:okM f):∀ (k k':Nat) (n:Int),Dep f.xs k n->Dep f.xs k' n->zk n f.xs=true->(zf n f.xs).kind=2->k=k'
 | 0,0,_,_,_,_,_=>rfl
 | 0,k'+1,_,h1,h2,hh,hk=>by
  cases h1;generalize hn:(1:Int)=n at h2;cases h2 with
  | step a b c=>exact absurd hn.symm (jJ h b c)
 | k+1,0,_,h1,h2,hh,hk=>by
  cases h2;generalize hn:(1:Int)=n at h1;cases h1 with
  | step a b c=>exact absurd hn.symm (jJ h b c)
 | k+1,k'+1,n,h1,h2,hh,hk=>by
  obtain ⟨_,hf,_,_,h4,_⟩:=qH h;cases h1 with
  | @step _ p e a b c =>
   generalize hn:e.ino=n at h2 hh hk;cases h2 with
   | @step _ p' e' a' b' c' =>
    have hp:=Zh b c;have hp':=Zh b' c';rw[hn]at hp;obtain ⟨hm,hi⟩:=qO hh;have hq:=(h4 _ hm).2;rw[hi]at hq;have hne:e'.ino≠1:=jJ h b' c';rw[if_neg hne]at hq;have:=yc hp hp' (hq.2 hk).1;subst this;rw[Vj h k k' p a a' b (VW h b c)]
end
section
theorem X1 (n:Int):∀ xs:List zl,Q6 n (qk xs)=JX n xs
 | []=>rfl
 | x :: r=>by
  have ih:=X1 n r;unfold JX Ns at ih ⊢;unfold qk at ih ⊢;rw[Al,WC,OS,←ih];unfold Q6 J3;rw[O5,Wk];congr 1
  induction x.es with
  | nil=>rfl
  | cons e es ie =>
   unfold VG at ie ⊢;rw[WC,O8,O8];by_cases h:e.ino=n
   ·simp only[h,beq_self_eq_true,if_true,decide_true,Wr,ie]
   ·simp only[show (e.ino==n)=false from OU.2 h,Wj h,W7,Oe,ie]
theorem VT (h:Jy f=0):Jx f/\YQ f/\YC f/\YP f/\QK f/\Hh f:=by
 unfold Jy at h;split at h
 ·split at h
  ·split at h
   ·split at h
    ·split at h
     ·split at h
      ·exact ⟨by assumption,by assumption,by assumption,by assumption,by assumption,by assumption⟩
      ·cases h
     ·cases h
    ·cases h
   ·cases h
  ·cases h
 ·cases h
theorem M5 {es:List zO} (h:Y6 es):Jw es:=by
 have hadj:∀ i (h1:i+1<es.length),Op.bytesLess es[i].name es[i+1].name=true:=fun i h1=>(h (i+1) h1).2.2 (by omega);have key:∀ (d i:Nat) (h1:i+d+1<es.length),Op.bytesLess (es[i]'(by omega)).name es[i+d+1].name=true:=by
  intro d
  induction d with
  | zero=>intro i h1;exact hadj i h1
  | succ d ih=>intro i h1;exact G9 (ih i (by omega)) (hadj (i+d+1) (by omega))
 refine WQ.2 fun i j hi hj hij=>?_;have:=key (j-i-1) i (by omega);have e:i+(j-i-1)+1=j:=by omega
 simp only[e]at this;exact this
theorem Zr (h:Jy f=0):FsI f:=by
 obtain ⟨h1,h2,h3,h4,h5,h6⟩:=VT h;obtain ⟨a1,a2,a3,a4,a5,a6,a7,a8,a9⟩:=h1;refine ⟨a7,a6,fun x hx=>(h2 x hx).1,fun x hx=>?_,fun x hx hk=>((h2 x hx).2.1 hk).1,h3,fun x hx=>?_,a8,a9,?_⟩
 ·by_cases hk:x.kind=2
  ·exact M5 ((h2 x hx).2.2.1 hk).2
  ·rw[((h2 x hx).2.1 hk).1];exact List.Pairwise.nil
 ·rw[(h4 x hx).1,X1]
 ·obtain ⟨b1,b2⟩:=qO a8;have q:=(h4 _ b1).2;rw[b2,if_pos rfl,X1]at q;exact q.1
theorem zrK (h:okW w):Uh w:=by
 obtain ⟨h1,h2,h3,h4,h5⟩:=h.2;exact ⟨Zr h1,h4.1,h2,fun x hx=>⟨(h3 x hx).1,(h3 x hx).2.2.1⟩⟩
theorem zdU (h:okW w):xF 40 w:=by
 obtain ⟨⟨g1,g2,g3,g4⟩,h1,_⟩:=h;obtain ⟨a1,a2,a3,a4,a5,_⟩:=(VT h1).1;exact ⟨g2.1,fun x hx=>by obtain ⟨q1,q2,q3⟩:=g2.2 x hx;exact ⟨q2,q1,q3⟩,g4,g1,g3.1,fun x hx=>by obtain ⟨q1,q2,q3⟩:=g3.2 x hx;exact ⟨q2,q1,q3⟩,by omega,by omega⟩
theorem xF.s (h:xF N w) (hi:Uh w) (hN:N<=10000):zkF w:=by
 have hr:=vj hi.fs;have hn:=h.next;exact ⟨⟨by have:=h.len;omega,fun x hx=>by obtain ⟨q1,q2,q3⟩:=h.node x hx;exact ⟨by omega,by omega,fun e he=>by have:=q3 e he;omega⟩⟩,⟨by omega,by omega⟩,by have:=h.klen;omega,by have:=h.plen;omega⟩
structure OpS (o:OpV):Prop where
 a:o.a.length<=1000
 b:o.b.length<=1000
 d:o.d.length<=5000
structure VR (N:Nat) (d:zY):Prop where
 wi:Uh d.w
 wb:xF (40+N) d.w
 ops:d.ops.length<=N
 diags:d.diags.length<=N
 slot:0<=d.slot/\d.slot<=1073741824+N
theorem VR.s (h:VR N d) (hN:N<=9000):uH d:=
 ⟨h.wi,h.wb.s h.wi (by omega),by have:=h.ops;omega,by have:=h.diags;omega,h.slot.1,by have:=h.slot.2;omega⟩
theorem VR.up (h:VR N d):VR (N+1) d:=⟨h.wi,h.wb.up,by have:=h.ops;omega,by have:=h.diags;omega,h.slot.1,by have:=h.slot.2;omega⟩
theorem NP {o:OpV} (h:(Xp d o).2≠0):(Xp d o).1=d:=by
 unfold Xp at h ⊢;split
 ·rfl
 ·split
  ·rfl
  ·rename_i h1 h2;rw[if_neg h1,if_neg h2]at h;exact absurd rfl h
theorem zoC (h:VR N d) {o:OpV} (ho:o.d.length<=5000):VR (N+1) (Xp d o).1:=by
 by_cases hz:(Xp d o).2=0
 case neg=>rw[NP hz];exact h.up
 unfold Xp at hz ⊢;split at hz
 ·exact absurd hz (show ¬(12:Int)=0 by decide)
 rename_i hk;rw[if_neg hk];split at hz
 ·rename_i hd;exact absurd hz hd
 rename_i hd;rw[if_neg hd];have hs:=h.slot;have hk7:(Q5 d o).kind<=7:=by show o.kind<=7;omega
 refine ⟨zrm h.wi _ hk7,doB h.wi h.wb _ ho hk7,by simp;exact h.ops,by have:=h.diags;simp only;omega,?_⟩;simp only;unfold Q5;simp only;split<;>split<;>omega
end
section
theorem MS {f:FsV} (h:okM f):∀ (k:Nat) (n:Int),Dep f.xs k n->zk n f.xs=true->(zf n f.xs).kind=2->∃ L:List Int,L.length=k+1/\L.Nodup/\(∀ m∈L,zk m f.xs=true)/\∀ m∈L,(zf m f.xs).kind=2/\∃ j,j<=k/\Dep f.xs j m
 | 0,n,hd,hh,hk=>⟨[n],rfl,by simp,fun m hm=>by simp at hm;subst hm;exact hh,fun m hm=>by simp at hm;subst hm;exact ⟨hk,0,Wb _,hd⟩⟩
 | k+1,_,hd,hh,hk=>by
  generalize hn:k+1=k1 at hd;cases hd with
  | root=>cases hn
  | @step k0 p e a b c =>
   obtain rfl:k=k0:=by omega
   obtain ⟨L,l1,l2,l3,l4⟩:=MS h k p a b (VW h b c);refine ⟨e.ino :: L,by simp[l1],OP.2 ⟨fun hm=>?_,l2⟩,fun m hm=>?_,fun m hm=>?_⟩
   ·obtain ⟨_,j,hj,hd⟩:=l4 _ hm;have:=Vj h _ _ _ hd (.step a b c) hh hk;omega
   ·rcases WK.1 hm with rfl | hm
    ·exact hh
    ·exact l3 m hm
   ·rcases WK.1 hm with rfl | hm
    ·exact ⟨hk,k+1,Wb _,.step a b c⟩
    ·obtain ⟨q1,j,q2,q3⟩:=l4 m hm;exact ⟨q1,j,by omega,q3⟩
theorem uG (h:okM f) {k:Nat} {n:Int} (hd:Dep f.xs k n) (hh:zk n f.xs=true) (hk:(zf n f.xs).kind=2):k<f.xs.length:=by
 obtain ⟨L,l1,l2,l3,_⟩:=MS h k n hd hh hk;have:=Z3 l2 l3;omega
def qR (xs:List zl):Nat->Int->List Lz->JO
 | 0,_,_=>[]
 | m+1,n,ns=>if zk n xs then (ns,zf n xs) :: (zf n xs).es.flatMap (fun e=>qR xs m e.ino (ns++[e.name])) else []
theorem JL {α β:Type} {l:List α} {g g':α->List β} (h:∀ a∈l,g a=g' a):l.flatMap g=l.flatMap g':=by
 induction l with
 | nil=>rfl
 | cons a r ih=>rw[Al,Al,h a Wi,ih fun b hb=>h b (Wl _ hb)]
theorem MZ {f:FsV} (h:okM f):∀ (m m' k:Nat) (n:Int) (ns:List Lz),Dep f.xs k n->k<=f.xs.length->f.xs.length+1<=m+k->f.xs.length+1<=m'+k->qR f.xs m n ns=qR f.xs m' n ns
 | 0,m',k,n,ns,hd,hk,h1,h2=>by omega
 | m+1,0,k,n,ns,hd,hk,h1,h2=>by omega
 | m+1,m'+1,k,n,ns,hd,hk,h1,h2=>by
  unfold qR;split
  ·rename_i hh;congr 1;refine JL fun e he=>?_;have hdir:=VW h hh he;have hlt:=uG h hd hh hdir;exact MZ h m m' (k+1) e.ino _ (.step hd hh he) (by omega) (by omega) (by omega)
  ·rfl
abbrev trV (xs:List zl):Int->List Lz->JO:=qR xs (xs.length+1)
theorem zkh (h:okM f) {n:Int} (hh:zk n f.xs=true):∃ k,k<=f.xs.length/\Dep f.xs k n:=by
 obtain ⟨k,hd⟩:=yS h hh;refine ⟨k,?_,hd⟩;cases hd with
 | root=>exact Wd _
 | step a b c=>exact uG h a b (VW h b c)
theorem znn (h:okM f):zah f (trV f.xs):=⟨fun n ns hh=>by
 obtain ⟨k,hk,hd⟩:=zkh h hh;show qR f.xs (f.xs.length+1) n ns=_;rw[qR,if_pos hh];congr 1;refine JL fun e he=>?_;have hlt:=uG h hd hh (VW h hh he);exact MZ h _ _ (k+1) e.ino _ (.step hd hh he) (by omega) (by omega) (by omega),fun n ns hh=>by
 show qR f.xs (f.xs.length+1) n ns=_;rw[qR,if_neg (by rw[hh];decide)]⟩
theorem zmo (h:okM f):zfw f (trV f.xs):=by
 obtain ⟨p0,p1,p2,p3,_⟩:=qH h;exact ⟨znn h,p0,p1.2.2.2.2.2.2.1,p3,fun x hx hk=>((p2 x hx).2.1 hk).1⟩
end
section
theorem Y5 (ns:List Lz) (x:Lz) (hne:∀ y∈ns,y≠[]):qq (ns++[x])=Jf (qq ns) x:=by
 have hj:=xB (ns++[x]) ns.length x (by simp);rw[Wg (by simp),OB rfl]at hj;unfold qq;rw[if_neg (by simp),hj];by_cases h:ns = []
 ·subst h;rfl
 ·have hl:ns.length≠0:=fun h0=>h (WZ h0);rw[if_neg hl,if_neg h];have hne47:(47 :: Lib.join ns [47])≠[47]:=fun he=>by
   have h1:Lib.join ns [47] = []:=(List.cons.inj he).2;have h2:=Qo ns h;rw[h1]at h2;cases ns with
   | nil=>exact h rfl
   | cons y r =>
    have:=WG.2 (hne y Wi);simp at h2;omega
  unfold Jf;rw[if_neg hne47];simp
theorem zm1 (h:okM f) {n:Int} (hh:zk n f.xs=true) {e:zO} (he:e∈(zf n f.xs).es):e.name≠[]:=fun hn=>by
 obtain ⟨_,_,h2,_⟩:=qH h;obtain ⟨hm,_⟩:=qO hh;obtain ⟨i,hi,rfl⟩:=WD he;have:=(((h2 _ hm).2.2.1 (VW h hh (WB hi))).2 i hi).1;rw[hn]at this;simp[may]at this
theorem HG {f:FsV} (h:okM f):∀ (m:Nat) (n:Int) (ns:List Lz),(∀ y∈ns,y≠[])->ja f.xs m n (qq ns)=(qR f.xs m n ns).map zmk
 | 0,n,ns,_=>rfl
 | m+1,n,ns,hne=>by
  unfold ja qR;split
  ·rename_i hh;obtain ⟨_,hi⟩:=qO hh;rw[WC,List.map_flatMap,show zmk (ns,zf n f.xs)=⟨qq ns,n⟩ by simp[zmk,hi]];congr 1;refine JL fun e he=>?_;have hn:=zm1 h hh he;rw[←Y5 ns e.name hne];exact HG h m e.ino _ fun y hy=>by
    rcases Wz.1 hy with hy | hy
    ·exact hne y hy
    ·simp at hy;subst hy;exact hn
  ·rfl
end
section
inductive Anc (xs:List zl) (n:Int):Nat->Int->Prop
 | same:Anc xs n 0 n
 | step {j:Nat} {p:Int} {e:zO}:Anc xs n j p->zk p xs=true->e∈(zf p xs).es->Anc xs n (j+1) e.ino
theorem Anc.dep (hd:Dep xs k n):∀ {j:Nat} {d:Int},Anc xs n j d->Dep xs (k+j) d
 | _,_,.same=>hd
 | _,_,.step a b c=>.step (a.dep hd) b c
theorem Anc.up {e:zO} (hh:zk n xs=true) (he:e∈(zf n xs).es):∀ {j:Nat} {d:Int},Anc xs e.ino j d->Anc xs n (j+1) d
 | _,_,.same=>.step .same hh he
 | _,_,.step a b c=>.step (a.up hh he) b c
theorem XA {xs:List zl}:∀ (m:Nat) (n:Int) (ns:List Lz),∀ p∈qR xs m n ns,∃ j,Anc xs n j p.2.ino/\zk p.2.ino xs=true/\zf p.2.ino xs=p.2
 | 0,n,ns,p,hp=>by cases hp
 | m+1,n,ns,p,hp=>by
  unfold qR at hp;split at hp
  ·rename_i hh;obtain ⟨_,hi⟩:=qO hh;rcases WK.1 hp with rfl | hp
   ·exact ⟨0,by rw[hi];exact .same,by rw[hi];exact hh,by rw[hi]⟩
   ·obtain ⟨e,he,hp⟩:=At.1 hp;obtain ⟨j,q1,q2⟩:=XA m _ _ p hp;exact ⟨j+1,q1.up hh he,q2⟩
  ·cases hp
theorem zaa {f:FsV} (h:okM f) {a b:Int}:∀ (j:Nat) (d:Int),Anc f.xs a j d->Anc f.xs b j d->zk d f.xs=true->(zf d f.xs).kind=2->a=b/\zk a f.xs=true/\(zf a f.xs).kind=2
 | 0,d,h1,h2,hh,hk=>by
  cases h1;cases h2;exact ⟨rfl,hh,hk⟩
 | j+1,d,h1,h2,hh,hk=>by
  obtain ⟨_,_,_,_,h4,_⟩:=qH h;cases h1 with
  | @step _ p e x y z =>
   generalize hn:e.ino=d at h2 hh hk;cases h2 with
   | @step _ p' e' x' y' z' =>
    have hp:=Zh y z;have hp':=Zh y' z';rw[hn]at hp;obtain ⟨hm,hi⟩:=qO hh;have hq:=(h4 _ hm).2;rw[hi,if_neg (jJ h y' z')]at hq;have:=yc hp hp' (hq.2 hk).1;subst this;exact zaa h j p x x' y (VW h y z)
theorem zkU {e e':zO} (hh:zk n xs=true) (hs:[e,e'].Sublist (zf n xs).es) (hi:e.ino=e'.ino):2<=Q6 e.ino (qk xs):=by
 obtain ⟨hm,hino⟩:=qO hh;have h1:([e,e'].map fun e=>(e.ino,(zf n xs).ino)).Sublist (VG (zf n xs) (zf n xs).es):=hs.map _;obtain ⟨i,hi',hx⟩:=WD hm;have h2:(VG (zf n xs) (zf n xs).es).Sublist (qk xs):=by
  obtain ⟨s,t,hst⟩:=List.append_of_mem hm;unfold qk
  conv=>rhs;rw[hst]
  rw[AO,Al];exact (List.sublist_append_left _ _).trans (List.sublist_append_right _ _)
 have h3:=((h1.trans h2).filter fun p=>p.1==e.ino).length_le;unfold Q6;simpa [hi] using h3
abbrev YL (l:JO):List Int:=(l.filter fun p=>decide (p.2.kind=2)).map fun p=>p.2.ino
theorem Uo {l:JO} {d:Int} (h:d∈YL l):∃ p∈l,p.2.kind=2/\p.2.ino=d:=by
 obtain ⟨p,hp,rfl⟩:=WP.1 h;obtain ⟨h1,h2⟩:=Ov.1 hp;exact ⟨p,h1,WN h2,rfl⟩
theorem Y4 {f:FsV} (h:okM f):∀ (m:Nat) (n:Int) (ns:List Lz),zk n f.xs=true->(YL (qR f.xs m n ns)).Nodup
 | 0,n,ns,_=>Af
 | m+1,n,ns,hh=>by
  obtain ⟨k,hd⟩:=yS h hh;obtain ⟨_,_,_,h3,h4,_⟩:=qH h;obtain ⟨hm,hi⟩:=qO hh;have key:∀ L:List zO,L.Sublist (zf n f.xs).es->(YL (L.flatMap fun e=>qR f.xs m e.ino (ns++[e.name]))).Nodup:=by
   intro L
   induction L with
   | nil=>intro _;exact Af
   | cons e r ih =>
    intro hs;have he:e∈(zf n f.xs).es:=hs.subset Wi;have hr:r.Sublist (zf n f.xs).es:=(List.sublist_cons_self e r).trans hs;have hap:YL ((e :: r).flatMap fun e=>qR f.xs m e.ino (ns++[e.name]))=YL (qR f.xs m e.ino (ns++[e.name]))++YL (r.flatMap fun e=>qR f.xs m e.ino (ns++[e.name])):=by
     rw[Al];unfold YL;rw[O5,Oa]
    rw[hap,Ac];refine ⟨Y4 h m e.ino _ (h3 _ hm e he),ih hr,fun d hd1 d' hd2 hdd=>?_⟩;subst hdd;obtain ⟨p,p1,p2,rfl⟩:=Uo hd1;obtain ⟨p',p1',p2',p3'⟩:=Uo hd2;obtain ⟨e',he',p1'⟩:=At.1 p1';obtain ⟨j,a1,a2,a3⟩:=XA m _ _ p p1;obtain ⟨j',b1,b2,b3⟩:=XA m _ _ p' p1';rw[p3']at b1;have hk:(zf p.2.ino f.xs).kind=2:=by rw[a3];exact p2
    have hdep:=Vj h _ _ _ (a1.dep (.step hd hh he)) (b1.dep (.step hd hh (hr.subset he'))) a2 hk;obtain rfl:j=j':=by omega
    obtain ⟨q1,q2,q3⟩:=zaa h j _ a1 b1 a2 hk;have hs2:[e,e'].Sublist (zf n f.xs).es:=(List.Sublist.cons_cons e (List.singleton_sublist.2 he')).trans hs;have h2:=zkU hh hs2 q1;obtain ⟨hm2,hi2⟩:=qO q2;have hq:=(h4 _ hm2).2;rw[hi2,if_neg (jJ h hh he)]at hq;have:=(hq.2 q3).1;omega
  unfold qR;rw[if_pos hh];by_cases hk:(zf n f.xs).kind=2
  ·have hc:YL ((ns,zf n f.xs) :: (zf n f.xs).es.flatMap fun e=>qR f.xs m e.ino (ns++[e.name]))=n :: YL ((zf n f.xs).es.flatMap fun e=>qR f.xs m e.ino (ns++[e.name])):=by
    unfold YL;rw[Oh (by simpa using hk),WC,hi]
   rw[hc,OP];refine ⟨fun hmem=>?_,key _ (List.Sublist.refl _)⟩;obtain ⟨p,p1,p2,p3⟩:=Uo hmem;obtain ⟨e,he,p1⟩:=At.1 p1;obtain ⟨j,a1,a2,a3⟩:=XA m _ _ p p1;rw[p3]at a1;have:=Vj h _ _ _ (a1.dep (.step hd hh he)) hd hh hk;omega
  ·have hc:YL ((ns,zf n f.xs) :: (zf n f.xs).es.flatMap fun e=>qR f.xs m e.ino (ns++[e.name]))=YL ((zf n f.xs).es.flatMap fun e=>qR f.xs m e.ino (ns++[e.name])):=by
    unfold YL;rw[OY (by simpa using hk)]
   rw[hc];exact key _ (List.Sublist.refl _)
end
section
def kp (l:JO):Nat:=(l.map fun p=>p.2.es.length).sum
theorem zeC (a b:JO):kp (a++b)=kp a+kp b:=by unfold kp;rw[Oa,BI]
theorem zas {xs:List zl}:∀ (m:Nat) (n:Int) (ns:List Lz),(qR xs m n ns).length<=1+kp (qR xs m n ns)
 | 0,n,ns=>Wd _
 | m+1,n,ns=>by
  unfold qR;split
  ·have key:∀ L:List zO,(L.flatMap fun e=>qR xs m e.ino (ns++[e.name])).length<=L.length+kp (L.flatMap fun e=>qR xs m e.ino (ns++[e.name])):=by
    intro L
    induction L with
    | nil=>exact Wb _
    | cons e r ih =>
     rw[Al,Wk,zeC,Wr];have:=zas (xs:=xs) m e.ino (ns++[e.name]);omega
   have:=key (zf n xs).es;have hs:∀ l:JO,kp ((ns,zf n xs) :: l)=(zf n xs).es.length+kp l:=fun l=>by unfold kp;rw[WC,OS]
   rw[Wr,hs];omega
  ·exact Wd _
theorem zil {l:JO} (h:∀ p∈l,p.2.es.length<=3240/\(p.2.kind≠2->p.2.es = [])):kp l<=3240*(YL l).length:=by
 induction l with
 | nil=>exact Wd _
 | cons p r ih =>
  have hp:=h p Wi;have ih:=ih fun q hq=>h q (Wl _ hq);unfold kp at ih ⊢;rw[WC,OS];unfold YL at ih ⊢;by_cases hk:p.2.kind=2
  ·rw[Oh (by simpa using hk),WC,Wr];omega
  ·rw[OY (by simpa using hk),hp.2 hk];simpa using ih
theorem uN (h:okM f) (m:Nat) (n:Int) (ns:List Lz):(qR f.xs m n ns).length<=10497601:=by
 obtain ⟨h0,_,h2,_⟩:=qH h;cases hh:zk n f.xs with
 | false =>
  cases m with
  | zero=>exact Wd _
  | succ m=>unfold qR;rw[hh];exact Wd _
 | true =>
  have h1:=zas (xs:=f.xs) m n ns;have hg:∀ p∈qR f.xs m n ns,p.2∈f.xs:=fun p hp=>by
   obtain ⟨j,_,q2,q3⟩:=XA m n ns p hp;rw[←q3];exact (qO q2).1
  have hs:=zil (l:=qR f.xs m n ns) fun p hp=>⟨(h0.2 _ (hg p hp)).2.1,fun hk=>((h2 _ (hg p hp)).2.1 hk).1⟩;have hd:=Z3 (Y4 h m n ns hh) fun d hd=>by
   obtain ⟨p,p1,_,rfl⟩:=Uo hd;obtain ⟨_,_,q2,_⟩:=XA m n ns p p1;exact q2
  have:=h0.1;omega
def zg0 (ns:List Lz):Nat:=(ns.map fun x=>x.length+1).sum
theorem N3 (ns:List Lz) (x:Lz):zg0 (ns++[x])=zg0 ns+(x.length+1):=by
 unfold zg0;rw[Oa,BI];simp
theorem Vq {xs:List zl} (h0:zny xs):∀ (m:Nat) (n:Int) (ns:List Lz),∀ p∈qR xs m n ns,p.1.length<=ns.length+m/\zg0 p.1<=zg0 ns+m*301
 | 0,n,ns,p,hp=>by cases hp
 | m+1,n,ns,p,hp=>by
  unfold qR at hp;split at hp
  ·rename_i hh;obtain ⟨hm,_⟩:=qO hh;rcases WK.1 hp with rfl | hp
   ·exact ⟨BD _ _,BD _ _⟩
   ·obtain ⟨e,he,hp⟩:=At.1 hp;obtain ⟨q1,q2⟩:=Vq h0 m _ _ p hp;have:=(h0.2 _ hm).2.2 e he;rw[N3]at q2;rw[Wk,OM]at q1;exact ⟨by omega,by omega⟩
  ·cases hp
theorem X5 (ns:List Lz):(Lib.join ns [47]).length<=zg0 ns:=by
 by_cases h:ns = []
 ·subst h;exact Wd _
 ·have:=Qo ns h;unfold zg0;omega
theorem zjn (h:okM f) (n:Int) (ns:List Lz) (h1:ns.length<=100000) (h2:zg0 ns<=20000):vE (trV f.xs) n ns:=by
 obtain ⟨h0,_⟩:=qH h;refine ⟨WM (uN h _ n ns) (by decide),fun p hp=>?_⟩;obtain ⟨q1,q2⟩:=Vq h0 _ n ns p hp;have:=X5 p.1;have:=h0.1;exact ⟨by omega,by omega⟩
end
section
theorem H0 {xs:List zl}:∀ (m:Nat) (n:Int) (ns:List Lz) (j:Nat) (d:Int),Anc xs n j d->j<m->zk n xs=true->(∀ x∈xs,∀ e∈x.es,zk e.ino xs=true)->∃ p∈qR xs m n ns,p.2.ino=d
 | 0,n,ns,j,d,ha,hj,hh,h3=>by omega
 | m+1,n,ns,0,d,ha,hj,hh,h3=>by
  cases ha;obtain ⟨_,hi⟩:=qO hh;refine ⟨(ns,zf n xs),?_,hi⟩;unfold qR;rw[if_pos hh];exact Wi
 | m+1,n,ns,j+1,d,ha,hj,hh,h3=>by
  have key:∀ (j:Nat) (d:Int),Anc xs n (j+1) d->∃ e∈(zf n xs).es,Anc xs e.ino j d:=by
   intro j
   induction j with
   | zero =>
    intro d ha;cases ha with
    | step a b c=>cases a;exact ⟨_,c,.same⟩
   | succ j ih =>
    intro d ha;cases ha with
    | step a b c =>
     obtain ⟨e,he,h⟩:=ih _ a;exact ⟨e,he,.step h b c⟩
  obtain ⟨e,he,h⟩:=key j d ha;obtain ⟨hm,_⟩:=qO hh;obtain ⟨p,p1,p2⟩:=H0 m e.ino (ns++[e.name]) j d h (by omega) (h3 _ hm e he) h3;refine ⟨p,?_,p2⟩;unfold qR;rw[if_pos hh];exact Wl _ (At.2 ⟨e,he,p1⟩)
theorem zeA {xs:List zl}:∀ {k:Nat} {n:Int},Dep xs k n->Anc xs 1 k n
 | _,_,.root=>.same
 | _,_,.step a b c=>.step (zeA a) b c
theorem zgJ (h:okM f) {n:Int} (hh:zk n f.xs=true):∃ p∈trV f.xs 1 [],p.2.ino=n:=by
 obtain ⟨_,h1,_,h3,_⟩:=qH h;obtain ⟨k,hk,hd⟩:=zkh h hh;exact H0 _ 1 [] k n (zeA hd) (by omega) h1.2.2.2.2.2.2.2.1 h3
theorem kK {m:Nat} {p:List Lz×zl} (hp:p∈qR f.xs m n ns):zk p.2.ino f.xs=true/\zf p.2.ino f.xs=p.2:=by
 obtain ⟨_,_,q⟩:=XA m n ns p hp;exact q
theorem Uv:∀ {l:JO} {n:Int},(YL l).Nodup->(∀ p∈l,p.2.ino=n->p.2.kind=2)->(∃ p∈l,p.2.ino=n)->∃ p,l.filter (fun p=>decide (p.2.ino=n)) = [p]
 | [],n,_,_,⟨p,hp,_⟩=>by cases hp
 | q :: l,n,hn,hk,hex=>by
  have hk':∀ p∈l,p.2.ino=n->p.2.kind=2:=fun p hp=>hk p (Wl _ hp);by_cases hq:q.2.ino=n
  ·have hk2:=hk q Wi hq;have hc:YL (q :: l)=q.2.ino :: YL l:=by
    unfold YL;rw[Oh (by simpa using hk2),WC]
   rw[hc,OP,hq]at hn;have he:l.filter (fun p=>decide (p.2.ino=n)) = []:=by
    rw[AR];intro p hp hpn;have hpn:=WN hpn;refine hn.1 ?_;exact WP.2 ⟨p,Ov.2 ⟨hp,by simpa using hk' p hp hpn⟩,hpn⟩
   exact ⟨q,by rw[Oh (by simpa using hq),he]⟩
  ·have hn':(YL l).Nodup:=by
    unfold YL at hn ⊢;by_cases hk2:q.2.kind=2
    ·rw[Oh (by simpa using hk2),WC,OP]at hn;exact hn.2
    ·rw[OY (by simpa using hk2)]at hn;exact hn
   obtain ⟨p,hp,hpn⟩:=hex;have hpl:p∈l:=by
    rcases WK.1 hp with rfl | hp
    ·exact absurd hpn hq
    ·exact hp
   obtain ⟨p',h⟩:=Uv hn' hk' ⟨p,hpl,hpn⟩;exact ⟨p',by rw[OY (by simpa using hq)];exact h⟩
theorem Mu (h:okM f) {n:Int} (hh:zk n f.xs=true) (hk:(zf n f.xs).kind=2):∃ p,QN n (trV f.xs 1 []) = [p]/\UU n (trV f.xs 1 [])=some p:=by
 obtain ⟨_,h1,_⟩:=qH h;have hkk:∀ p∈trV f.xs 1 [],p.2.ino=n->p.2.kind=2:=fun p hp hpn=>by
  obtain ⟨_,q⟩:=kK hp;rw[hpn]at q;rw[←q];exact hk
 obtain ⟨p,hp⟩:=Uv (Y4 h _ 1 [] h1.2.2.2.2.2.2.2.1) hkk (zgJ h hh);refine ⟨qq p.1,by unfold QN;rw[hp];rfl,?_⟩;unfold UU;have he:(fun q:List Lz×zl=>decide (q.2.ino=n)&&decide (q.2.kind=2))=fun q=>decide (q.2.ino=n)&&decide (q.2.kind=2):=rfl;rw[←List.head?_filter];have hf:(trV f.xs 1 []).filter (fun q=>decide (q.2.ino=n)&&decide (q.2.kind=2))=(trV f.xs 1 []).filter fun q=>decide (q.2.ino=n):=by
  refine List.filter_congr fun q hq=>?_;by_cases hqn:q.2.ino=n
  ·simp[hqn,hkk q hq hqn]
  ·simp[hqn]
 rw[hf,hp];rfl
end
section
theorem GY {xs:List zl} (hm:∀ x∈xs,∀ e∈x.es,may e.name=true):∀ (m:Nat) (n:Int) (ns:List Lz),∀ p∈qR xs m n ns,∃ zs,p.1=ns++zs/\∀ z∈zs,may z=true
 | 0,n,ns,p,hp=>by unfold qR at hp;cases hp
 | m+1,n,ns,p,hp=>by
  unfold qR at hp;split at hp
  ·rename_i hh;rcases WK.1 hp with rfl | hp
   ·exact ⟨[],by simp,fun z hz=>by cases hz⟩
   ·obtain ⟨e,he,hp⟩:=At.1 hp;obtain ⟨zs,h1,h2⟩:=GY hm m e.ino _ p hp;refine ⟨e.name :: zs,by rw[h1,WE];rfl,fun z hz=>?_⟩;rcases WK.1 hz with rfl | hz
    ·exact hm _ (qO hh).1 e he
    ·exact h2 z hz
  ·cases hp
theorem zc0 {es:List zO} (h:Y6 es):es.Pairwise fun a b=>a.name≠b.name:=by
 have key:∀ (d i:Nat) (hj:i+d+1<es.length),es[i].name<es[i+d+1].name:=by
  intro d
  induction d with
  | zero =>
   intro i hj;have h1:=(h (i+1) hj).2.2 (by omega);rw[bytesLess_eq]at h1;exact WN h1
  | succ d ih =>
   intro i hj;have h1:=(h (i+(d+1)+1) hj).2.2 (by omega);rw[bytesLess_eq]at h1;have h1:=WN h1;have h2:=ih i (by omega);exact List.lt_trans h2 h1
 refine WQ.2 fun i j hi hj hij he=>?_;obtain ⟨d,rfl⟩:∃ d,j=i+d+1:=⟨j-i-1,by omega⟩;have h1:=key d i hj;rw[he]at h1;exact List.lt_irrefl _ h1
theorem ko (h:okM f):(∀ x∈f.xs,∀ e∈x.es,may e.name=true)/\∀ x∈f.xs,x.es.Pairwise fun a b=>a.name≠b.name:=by
 obtain ⟨_,_,h2,_⟩:=qH h;have key:∀ x∈f.xs,Y6 x.es:=fun x hx=>by
  by_cases hk:x.kind=2
  ·exact ((h2 x hx).2.2.1 hk).2
  ·rw[((h2 x hx).2.1 hk).1];intro i hi;simp at hi
 refine ⟨fun x hx e he=>?_,fun x hx=>zc0 (key x hx)⟩;obtain ⟨i,hi,rfl⟩:=WD he;exact (key x hx i hi).1
end
section
open CA CB
open Go.RowKit
def Vh (p n:Lz):Lz:=if Lib.hasSuffix p [47] then p++n else p++[47]++n
theorem zgz (p n:Lz) (hp:p.length<=1000000) (hn:n.length<=1000000):Fun Tryz.prog G0 69 [.str p,.str n] (.str (Vh p n)) 0:=by
 have h:=Zv p [47] hp;cases hs:Lib.hasSuffix p [47] with
 | true =>
  have e:Vh p n=p++n:=by unfold Vh;rw[hs,if_pos rfl]
  rw[hs]at h;refine fon Tryz.func69 ?_;dsimp only[Tryz.f69];push_cast;refine cl h ?_;push_cast
  repeat refine an ?_
  exact dn (by push_cast [ze,zd,CLe,zg,e])
 | false =>
  have e:Vh p n=p++[47]++n:=by unfold Vh;rw[hs];rfl
  rw[hs]at h;refine fon Tryz.func69 ?_;dsimp only[Tryz.f69];push_cast;refine cl h ?_;push_cast
  repeat refine an ?_
  exact dn (by push_cast [ze,zd,CLe,zg,e])
theorem zkt (h:okM f) {n:Int} (hh:zk n f.xs=true) (hk:(zf n f.xs).kind=2) :
  ∃ ns,(∀ z∈ns,may z=true)/\ns.length<=3241/\zg0 ns<=980000/\QN n (trV f.xs 1 []) = [qq ns]/\UU n (trV f.xs 1 [])=some (qq ns):=by
 obtain ⟨h0,h1,_⟩:=qH h;have hkk:∀ p∈trV f.xs 1 [],p.2.ino=n->p.2.kind=2:=fun p hp hpn=>by
  obtain ⟨_,q⟩:=kK hp;rw[hpn]at q;rw[←q];exact hk
 obtain ⟨p,hp⟩:=Uv (Y4 h _ 1 [] h1.2.2.2.2.2.2.2.1) hkk (zgJ h hh);obtain ⟨q,q1,q2⟩:=Mu h hh hk;have hq:QN n (trV f.xs 1 []) = [qq p.1]:=by unfold QN;rw[hp];rfl
 rw[hq]at q1;have hqe:qq p.1=q:=by simpa using q1
 have hpm:p∈trV f.xs 1 []:=(Ov.1 (by rw[hp];exact WY.2 rfl)).1;obtain ⟨zs,z1,z2⟩:=GY (ko h).1 _ 1 [] p hpm;obtain ⟨t1,t2⟩:=Vq h0 _ 1 [] p hpm;have t3:=X5 p.1;have t4:zg0 []=0:=rfl;have h40:=h0.1;rw[OV]at z1;rw[←z1]at z2;simp only[OC,t4]at t1 t2;exact ⟨p.1,z2,by omega,by omega,hq,by rw[q2,hqe]⟩
def zV (f:FsV) (s:zH):Lz:=Jf ((UU s.dir (trV f.xs 1 [])).getD []) s.name
theorem Mo (f:FsV) (h:okM f) (s:zH) (hh:zk s.dir f.xs=true) (hk:(zf s.dir f.xs).kind=2) (hm:may s.name=true):Fun Tryz.prog G0 74 [.agg (fsC f),.agg (X4 s)] (.str (zV f s)) 0:=by
 obtain ⟨ns,n1,n2,n3,n4,n5⟩:=zkt h hh hk;have hp:=x5 f s.dir _ (zmo h) (zjn h 1 [] (by decide) (by decide));have hml:=GQ hm;have hjw:=X5 ns;have hjl:(qq ns).length<=980001:=by unfold qq;split<;>simp<;>omega
 have hr:=Uw (qq ns) (by omega);unfold zj2 at hr;rw[Xw ns fun z hz=>j8 (n1 z hz)]at hr;have hj:=XV (ns++[s.name]) (by simp;omega) (by
  have a1:=X5 (ns++[s.name]);rw[N3]at a1;omega)
 rw[Y5 ns s.name fun y hy=>(j8 (n1 y hy)).1]at hj;have e:zV f s=Jf (qq ns) s.name:=by unfold zV;rw[n5];rfl
 rw[n5]at hp;have hsl:(qg ns).length=ns.length:=We ..;refine fof (fun i=>if i=2 then [false,false,false,false,false,false,true,false,false] else []) Tryz.func74 ?_;dsimp only[Tryz.f74];push_cast;refine cl hp ?_;push_cast [WS,AW];refine cl hr ?_;push_cast
 repeat refine an ?_
 refine cl hj ?_;push_cast;exact dn (by push_cast [ze,zd,CLe,zg,e])
end
section
open Go.RowKit
end
section
open Go.RowKit
end
section
open CA CB
open Go.RowKit
end
section
open Go.RowKit Go.ChangeMaps Go.ChangeShapes Go.WideShapes Go.Deep Go.Joins
section
variable {H:Type} {enc:TypeId×Value->H} {W:World}
end
theorem zqQ {W:World} {l:List (String×DataW Unit)} (h:laidMetH Tryz.prog l W) (hp:(l.filter fun x=>x.2.handleName?.isSome) = []) (hm:("drayman/op.has",Rows.laid_drayman_op_has)∈l):XM G1 (N7 W):=fun g cs hc=>by
 unfold G1 at hc;split at hc
 ·rename_i hg;subst hg;cases hc;exact JI (t:=267) h hp hm (by kernel_rfl) (by kernel_rfl) (m:=4) (by kernel_rfl) (by kernel_rfl) (by kernel_rfl)
 ·cases hc
theorem zqV {W:World} {l:List (String×DataW Unit)} (h:laidMetH Tryz.prog l W) (hp:(l.filter fun x=>x.2.handleName?.isSome) = []) (hm1:("drayman/diag.phrases",Rows.laid_drayman_diag_phrases)∈l) (hm2:("drayman/args.kinds",Rows.laid_drayman_args_kinds)∈l) (hm3:("drayman/errs.messages",Rows.laid_drayman_errs_messages)∈l):XM G2 (N7 W):=fun g cs hc=>by
 unfold G2 at hc;split at hc
 ·rename_i hg;subst hg;cases hc;exact JI (t:=215) h hp hm1 (by kernel_rfl) (by kernel_rfl) (m:=4) (vs:=phr.map fun l=>Value.string ⟨l.toArray⟩) (by kernel_rfl) (by kernel_rfl) (by kernel_rfl)
 ·split at hc
  ·rename_i hg;subst hg;cases hc;exact JI (t:=214) h hp hm2 (by kernel_rfl) (by kernel_rfl) (m:=4) (by kernel_rfl) (by kernel_rfl) (by kernel_rfl)
  ·split at hc
   ·rename_i hg;subst hg;cases hc;exact JI (t:=262) h hp hm3 (by kernel_rfl) (by kernel_rfl) (m:=4) (vs:=zsc.map fun l=>Value.string ⟨l.toArray⟩) (by kernel_rfl) (by kernel_rfl) (by kernel_rfl)
   ·cases hc
theorem zrJ {W:World} {l:List (String×DataW Unit)} (h:laidMetH Tryz.prog l W) (hp:(l.filter fun x=>x.2.handleName?.isSome) = []) (hm:("drayman/op.has",Rows.laid_drayman_op_has)∈l) (hm1:("drayman/diag.phrases",Rows.laid_drayman_diag_phrases)∈l) (hm2:("drayman/args.kinds",Rows.laid_drayman_args_kinds)∈l) (hm3:("drayman/errs.messages",Rows.laid_drayman_errs_messages)∈l):XM GD (N7 W):=fun g cs hc=>by
 unfold GD at hc;split at hc
 ·exact zqQ h hp hm g cs hc
 ·exact zqV h hp hm1 hm2 hm3 g cs hc
end
section
structure zky (x:zl):Prop where
 par:x.kind≠2->x.parent=0
 bare:x.kind=2->x.data = []
 nam:∀ e∈x.es,may e.name=true
 lnk:x.kind=3->1<=x.data.length/\x.data.length<=4095/\∀ b∈x.data,b≠0
 named:x.ino≠1->1<=x.links
 one:x.kind=2->x.ino≠1->x.links=1
 top:x.ino=1->x.parent=1
def zqP (rk:Int->Nat) (xs:List zl):Prop:=∀ y∈xs,∀ e∈y.es,(zf e.ino xs).kind=2->(zf e.ino xs).parent=y.ino/\rk y.ino<rk e.ino
structure FsR (f:FsV):Prop where
 node:∀ x∈f.xs,zky x
 edge:∃ rk,zqP rk f.xs
 fit:(f.xs.length:Int)<=f.maxI/\(qj f.xs:Int)<=f.maxB
 lim:1<=f.maxI/\f.maxI<=1073741824/\0<=f.maxB/\f.maxB<=1073741824
theorem Mh (h:zZ xs) {x y:zl} (hx:x∈xs) (hy:y∈xs) (e:x.ino=y.ino):x=y:=by
 obtain ⟨i,hi,rfl⟩:=WD hx;obtain ⟨j,hj,rfl⟩:=WD hy;have hp:=WQ.1 h;rcases Ai i j with q | q | q
 ·have:=hp i j hi hj q;omega
 ·subst q;rfl
 ·have:=hp j i hj hi q;omega
theorem ye (h:zZ xs):(xs.map (·.ino)).Nodup:=by
 rw[List.Nodup,List.pairwise_map];exact List.Pairwise.imp (fun q e=>by omega) h
theorem Vs:(n,p)∈qk xs↔∃ y∈xs,∃ e∈y.es,e.ino=n/\y.ino=p:=by
 unfold qk;rw[At];refine exists_congr fun y=>and_congr_right fun hy=>?_;unfold VG;rw[WP];refine exists_congr fun e=>and_congr_right fun he=>?_;rw[Prod.mk.injEq]
theorem zfK (h1:1<=Q6 n l) (h:∀ q,(n,q)∈l->q=p):Uf n l=p:=by
 unfold Q6 at h1;unfold Uf;cases hq:(l.filter fun p=>p.1==n).getLast? with
 | none=>rw[List.getLast?_eq_none_iff]at hq;rw[hq]at h1;simp at h1
 | some r =>
  obtain ⟨h2,h3⟩:=Ov.1 (List.mem_of_getLast? hq);have h3:r.1=n:=by simpa using h3
  show r.2=p;exact h r.2 (by rw[←h3];exact h2)
theorem zio {es:List zO}:∀ S:List Int,∃ t,kZ S es=S++t:=by
 induction es with
 | nil=>exact fun S=>⟨[],by simp[kZ]⟩
 | cons e r ih =>
  intro S;obtain ⟨t,h⟩:=ih (YG S e.ino);show ∃ t,kZ (YG S e.ino) r=S++t;rw[h];unfold YG;split
  ·exact ⟨t,rfl⟩
  ·exact ⟨e.ino :: t,by simp⟩
theorem UK {xs:List zl} (h3:∀ x∈xs,∀ e∈x.es,zk e.ino xs=true):∀ (m i:Nat) (S:List Int),YD xs S->(∀ j<i,∀ n,S[j]?=some n->∀ e∈(zf n xs).es,e.ino∈S)->xs.length+1<=m+i ->
  (∀ n∈S,n∈QT xs m i S)/\∀ n∈QT xs m i S,∀ e∈(zf n xs).es,e.ino∈QT xs m i S
 | 0,i,S,hS,hc,hm=>by
  have hl:=Z3 hS.nodup hS.has;show (∀ n∈S,n∈S)/\∀ n∈S,∀ e∈(zf n xs).es,e.ino∈S;refine ⟨fun n h=>h,fun n hn e he=>?_⟩;obtain ⟨j,hj,rfl⟩:=WD hn;exact hc j (by omega) _ (Wa hj) e he
 | m+1,i,S,hS,hc,hm=>by
  unfold QT;cases hg:S[i]? with
  | none =>
   have hi:=List.getElem?_eq_none_iff.1 hg;show (∀ n∈S,n∈S)/\∀ n∈S,∀ e∈(zf n xs).es,e.ino∈S;refine ⟨fun n h=>h,fun n hn e he=>?_⟩;obtain ⟨j,hj,rfl⟩:=WD hn;exact hc j (by omega) _ (Wa hj) e he
  | some n =>
   have hn:=hS.has n (Wf hg);have hi:=(Wc.1 hg).1;have hg':=zj hn;obtain ⟨t,ht⟩:=zio (es:=(zf n xs).es) S;have hsub:∀ k∈S,k∈kZ S (zf n xs).es:=fun k hk=>GS.2 (.inl hk);obtain ⟨r1,r2⟩:=UK h3 m (i+1) (kZ S (zf n xs).es) (xw hS fun e he=>h3 _ hg'.2.1 e he) (fun j hj k hk e he=>by
    rcases Wq j i with hji | hji
    ·have:S[j]?=some k:=by rw[ht,Ws (by omega)]at hk;exact hk
     exact hsub _ (hc j hji k this e he)
    ·have:j=i:=by omega
     subst this;rw[ht,Ws hi,hg]at hk;cases hk;exact GS.2 (.inr ⟨e,he,rfl⟩)) (by omega)
   exact ⟨fun k hk=>r1 k (hsub k hk),r2⟩
theorem zap (h:1<=Q6 n l):∃ p,(n,p)∈l:=by
 unfold Q6 at h;obtain ⟨r,hr⟩:=List.exists_mem_of_length_pos (l:=l.filter fun p=>p.1==n) (by omega);obtain ⟨h1,h2⟩:=Ov.1 hr;have h2:r.1=n:=by simpa using h2
 exact ⟨r.2,by rw[←h2];exact h1⟩
theorem FsR.links (hi:FsI f) {x:zl} (hx:x∈f.xs):x.links=(Q6 x.ino (qk f.xs):Int):=by rw[X1];exact hi.links x hx
theorem GI (hi:FsI f) {y:zl} (hy:y∈f.xs) {e:zO} (he:e∈y.es):y.kind=2:=by
 by_cases h:y.kind=2
 ·exact h
 ·rw[hi.file y hy h]at he;cases he
theorem Y3 (hi:FsI f) {x:zl} (hx:x∈f.xs):zf x.ino f.xs=x:=by
 have h:=J6 hx;have h2:=zj h;exact Mh hi.rises h2.2.1 hx h2.2.2
theorem FsR.come (hi:FsI f) (h:FsR f) {S:List Int} (h1:(1:Int)∈S) (hc:∀ n∈S,∀ e∈(zf n f.xs).es,e.ino∈S):∀ n,zk n f.xs=true->n∈S:=by
 obtain ⟨rk,hr⟩:=h.edge;have dirs:∀ (k:Nat) (n:Int),rk n<=k->zk n f.xs=true->(zf n f.xs).kind=2->n∈S:=by
  intro k
  induction k with
  | zero =>
   intro n hk hn hd;by_cases h0:n=1
   ·rw[h0];exact h1
   obtain ⟨g1,g2,g3⟩:=zj hn;have hl:=(h.node _ g2).named (by rw[g3];exact h0);rw[FsR.links hi g2,g3]at hl;obtain ⟨p,hp⟩:=zap (n:=n) (l:=qk f.xs) (by omega);obtain ⟨y,hy,e,he,q1,q2⟩:=Vs.1 hp;have:=(hr y hy e he (by rw[q1];exact hd)).2;rw[q1]at this;omega
  | succ k ih =>
   intro n hk hn hd;by_cases h0:n=1
   ·rw[h0];exact h1
   obtain ⟨g1,g2,g3⟩:=zj hn;have hl:=(h.node _ g2).named (by rw[g3];exact h0);rw[FsR.links hi g2,g3]at hl;obtain ⟨p,hp⟩:=zap (n:=n) (l:=qk f.xs) (by omega);obtain ⟨y,hy,e,he,q1,q2⟩:=Vs.1 hp;have hlt:=(hr y hy e he (by rw[q1];exact hd)).2;rw[q1]at hlt;have hs:=Y3 hi hy;have:=ih y.ino (by omega) (J6 hy) (by rw[hs];exact GI hi hy he);rw[←q1];exact hc y.ino this e (by rw[hs];exact he)
 intro n hn;by_cases h0:n=1
 ·rw[h0];exact h1
 obtain ⟨g1,g2,g3⟩:=zj hn;have hl:=(h.node _ g2).named (by rw[g3];exact h0);rw[FsR.links hi g2,g3]at hl;obtain ⟨p,hp⟩:=zap (n:=n) (l:=qk f.xs) (by omega);obtain ⟨y,hy,e,he,q1,q2⟩:=Vs.1 hp;have hs:=Y3 hi hy;have:=dirs _ y.ino (Wb _) (J6 hy) (by rw[hs];exact GI hi hy he);rw[←q1];exact hc y.ino this e (by rw[hs];exact he)
theorem vB {es:List zO} (hR:Jw es) (h1:∀ e∈es,may e.name=true) (h2:∀ e∈es,1<=e.ino):Y6 es:=fun i h =>
 ⟨h1 _ (WB h),h2 _ (WB h),fun h0=>WQ.1 hR (i-1) i (by omega) h (by omega)⟩
theorem FsR.check (hi:FsI f) (h:FsR f) (hn:f.next<=1099511627776):Jy f=0:=by
 have h1:Jx f:=⟨h.lim.1,h.lim.2.1,h.lim.2.2.1,h.lim.2.2.2,hn,hi.ino,hi.rises,hi.root,hi.base⟩;have h2:YQ f:=fun x hx=>⟨hi.kind x hx,fun hk=>⟨hi.file x hx hk,(h.node x hx).par hk⟩,fun hk=>⟨(h.node x hx).bare hk,vB (hi.es x hx) (h.node x hx).nam fun e he=>by
  have:=hi.led x hx e he;have g:=zj this;have:=(hi.ino _ g.2.1).1;rw[g.2.2]at this;exact this⟩,(h.node x hx).lnk⟩
 have h3:YC f:=hi.led;obtain ⟨rk,hr⟩:=h.edge;have h4:YP f:=fun x hx=>by
  have hl:=FsR.links hi hx;refine ⟨hl,?_⟩;by_cases h0:x.ino=1
  ·rw[if_pos h0,h0];exact ⟨by rw[X1];exact hi.bare,(h.node x hx).top h0⟩
  ·rw[if_neg h0];have hk:=(h.node x hx).named h0;refine ⟨by omega,fun hd=>?_⟩;have ho:=(h.node x hx).one hd h0;refine ⟨by omega,(zfK (by omega) fun q hq=>?_).symm⟩;obtain ⟨y,hy,e,he,q1,q2⟩:=Vs.1 hq;have:=(hr y hy e he (by rw[q1,Y3 hi hx];exact hd)).1;rw[q1,Y3 hi hx]at this;rw[←q2,this]
 have h5:QK f:=by
  have hS:YD f.xs [1]:=⟨by simp,fun n hn=>by rw[WY.1 hn];exact hi.root⟩;obtain ⟨r1,r2⟩:=UK hi.led (f.xs.length+1) 0 [1] hS (fun j hj=>absurd hj (OD _)) (by omega);have hok:=(GG hi.led (f.xs.length+1) 0 [1] hS (fun n hn=>by rw[WY.1 hn];exact ⟨0,.root⟩)).1;have hall:=h.come hi (r1 1 (by simp)) r2;have q1:=Z3 hok.nodup hok.has;have q2:=Uq (S:=f.xs.map (·.ino)) (ye hi.rises) fun n hn=>hall n (Np.2 hn);rw[We]at q2;exact Nat.le_antisymm q1 q2
 unfold Jy;rw[if_pos h1,if_pos h2,if_pos h3,if_pos h4,if_pos h5,if_pos (show Hh f from h.fit)]
open Classical in
theorem zfD (h:okM f):FsR f:=by
 obtain ⟨h0,h1,h2,h3,h4,h5,h6⟩:=qH h;have hi:=Zr h.2;refine ⟨fun x hx=>?_,?_,h6,h1.1,h1.2.1,h1.2.2.1,h1.2.2.2.1⟩
 ·obtain ⟨a1,a2,a3,a4⟩:=h2 x hx;obtain ⟨b1,b2⟩:=h4 x hx;refine ⟨fun hk=>(a2 hk).2,fun hk=>(a3 hk).1,fun e he=>?_,a4,fun hn=>?_,fun hk hn=>?_,fun hn=>?_⟩
  ·obtain ⟨i,hi',rfl⟩:=WD he;exact ((a3 (GI hi hx he)).2 i hi').1
  ·rw[if_neg hn]at b2;rw[b1];omega
  ·rw[if_neg hn]at b2;rw[b1,(b2.2 hk).1];rfl
  ·rw[if_pos hn]at b2;exact b2.2
 ·refine ⟨fun n=>if hd:∃ k,Dep f.xs k n then hd.choose else 0,fun y hy e he hk=>?_⟩;have hs:=Y3 hi hy;have hh:=hi.led y hy e he;have g:=zj hh;have hyk:=GI hi hy he;have hey:e∈(zf y.ino f.xs).es:=by rw[hs];exact he
  have hne:e.ino≠1:=jJ h (J6 hy) hey;constructor
  ·have b:=(h4 _ g.2.1).2;rw[g.2.2,if_neg hne]at b;obtain ⟨c1,c2⟩:=b.2 hk;rw[c2];exact zfK (by omega) fun q hq=>(yc (Vs.2 ⟨y,hy,e,he,rfl,rfl⟩) hq c1).symm
  ·obtain ⟨k,hd⟩:=yS h (J6 hy);have hd2:=Dep.step hd (J6 hy) hey;have e1:∃ k,Dep f.xs k y.ino:=⟨k,hd⟩;have e2:∃ k,Dep f.xs k e.ino:=⟨k+1,hd2⟩;show (if hd:∃ k,Dep f.xs k y.ino then hd.choose else 0)<if hd:∃ k,Dep f.xs k e.ino then hd.choose else 0;rw[dif_pos e1,dif_pos e2,Vj h _ _ _ e1.choose_spec hd (J6 hy) (by rw[hs];exact hyk),Vj h _ _ _ e2.choose_spec hd2 hh hk];exact Nat.lt_succ_self k
end
section
def bN (x:zl):Nat:=if x.kind=1 then x.data.length else 0
theorem Yi:∀ xs:List zl,qj xs=Ns bN xs
 | []=>rfl
 | x :: r=>by
  have ih:=Yi r;unfold qj Ns at ih ⊢;rw[WC,OS,←ih,O8];unfold bN;by_cases h:x.kind=1<;>simp[h]
theorem X6 (hR:zZ xs) {x:zl} (hh:zk x.ino xs=true):qj (qp x xs)+bN (zf x.ino xs)=qj xs+bN x:=by
 have:=Ur bN (x:=x) hR;rw[(zj hh).1]at this;rw[Yi,Yi];exact this
theorem kC (hR:zZ xs) {x:zl} (hh:zk x.ino xs=false):qj (qp x xs)=qj xs+bN x:=by
 have:=Ur bN (x:=x) hR;rw[(j4 hh).1]at this;rw[Yi,Yi];exact this
theorem zcy (hR:zZ xs) (n:Int):qj (qc n xs)<=qj xs:=by
 have:=ZP bN (n:=n) hR;rw[Yi,Yi];omega
theorem Xa (hR:zZ xs) {n:Int} {F:List zO->List zO} (hh:zk n xs=true):qj (ql n F xs)=qj xs:=by
 have hg:=zj hh;have:=X6 hR (x:=qv (zf n xs) (F (zf n xs).es)) (by show zk (zf n xs).ino xs=true;rw[hg.2.2];exact hh);have e:bN (zf (qv (zf n xs) (F (zf n xs).es)).ino xs)=bN (qv (zf n xs) (F (zf n xs).es)):=by
  show bN (zf (zf n xs).ino xs)=bN (zf n xs);rw[hg.2.2]
 rw[e]at this;exact Nat.add_right_cancel this
theorem zmn {x:zl} (hR:zZ xs) (hh:zk x.ino xs=false):(qp x xs).length=xs.length+1:=by rw[←y9 hR hh];simp;have:=zfW x.ino xs;omega
theorem zgF (n:Int) (xs:List zl):(qc n xs).length<=xs.length:=Ao _ _
theorem zky.turn {x:zl} (h:zky x) {es:List zO} (he:∀ e∈es,may e.name=true):zky (qv x es):=⟨h.par,h.bare,he,h.lnk,h.named,h.one,h.top⟩
theorem jA {m:Int} {F:List zO->List zO} (hh:zk n xs=true):(zf m (ql n F xs)).kind=(zf m xs).kind/\(zf m (ql n F xs)).parent=(zf m xs).parent/\(zf m (ql n F xs)).links=(zf m xs).links:=by
 rw[jI hh];split
 ·subst_vars;exact ⟨rfl,rfl,rfl⟩
 ·exact ⟨rfl,rfl,rfl⟩
theorem FsR.like {g:FsV} (h:FsR f) (hN:∀ z∈g.xs,zky z) (hE:∀ z∈g.xs,∀ e∈z.es,(zf e.ino g.xs).kind=2->∃ y∈f.xs,y.ino=z.ino/\e∈y.es/\(zf e.ino f.xs).kind=2/\(zf e.ino g.xs).parent=(zf e.ino f.xs).parent)
  (h1:g.maxI=f.maxI) (h2:g.maxB=f.maxB) (hl:g.xs.length<=f.xs.length) (hb:(qj g.xs:Int)<=f.maxB):FsR g:=by
 obtain ⟨rk,hr⟩:=h.edge;refine ⟨hN,⟨rk,fun z hz e he hk=>?_⟩,?_,by rw[h1,h2];exact h.lim⟩
 ·obtain ⟨y,hy,q1,q2,q3,q4⟩:=hE z hz e he hk;have:=hr y hy e q2 q3;rw[q4,←q1];exact this
 ·have:=h.fit;rw[h1,h2];omega
theorem zpo (hi:FsI f) (h:FsR f) {s:zH} (hs:jY f s) (hm:may s.name=true) {k:Int} {t:Lz} (hk:k=1∨k=2∨k=3) (hr:Zd f 1 (if k=1 then (t.length:Int) else 0)=true) (h2:k=2->t = [])
  (h3:k=3->1<=t.length/\t.length<=4095/\∀ b∈t,b≠0):FsR (zbW f s k t):=by
 obtain ⟨n1,n2⟩:=Gh hi;have hd:=zj hs.has;have hlt:=vj hi;have hdn:s.dir≠f.next:=fun e=>by have:=hs.has;rw[e,n1]at this;cases this
 have hR1:zZ (ql s.dir (zU s.name f.next) f.xs):=z7 hi.rises;have hn1:zk f.next (ql s.dir (zU s.name f.next) f.xs)=false:=by rw[zM hs.has];exact n1
 obtain ⟨rk,hrk⟩:=h.edge;have hmem:∀ {z:zl},z∈(zbW f s k t).xs->z=⟨f.next,k,1,t,if k=2 then s.dir else 0,[]⟩∨z=qv (zf s.dir f.xs) (zU s.name f.next (zf s.dir f.xs).es)∨(z∈f.xs/\z.ino≠s.dir):=fun {z} hz=>by
  rcases qw.1 hz with rfl | ⟨hz,_⟩
  ·exact .inl rfl
  ·exact .inr ((qy hs.has).1 hz)
 have hgot:∀ m,m≠f.next->(zf m (zbW f s k t).xs).kind=(zf m f.xs).kind/\(zf m (zbW f s k t).xs).parent=(zf m f.xs).parent:=fun m hm=>by
  have e:zf m (zbW f s k t).xs=zf m (ql s.dir (zU s.name f.next) f.xs):=by
   show zf m (qp _ _)=_;rw[qD,if_neg (fun e:f.next=m=>hm e.symm)]
  rw[e];exact ⟨(jA hs.has).1,(jA hs.has).2.1⟩
 have hgn:zf f.next (zbW f s k t).xs=⟨f.next,k,1,t,if k=2 then s.dir else 0,[]⟩:=by
  show zf _ (qp _ _)=_;rw[qD,if_pos rfl]
 refine ⟨fun z hz=>?_,⟨fun n=>if n=f.next then rk s.dir+1 else rk n,fun y hy e he hke=>?_⟩,?_,h.lim⟩
 ·rcases hmem hz with rfl | rfl | ⟨hz,_⟩
  ·exact ⟨fun q=>if_neg q,h2,fun e he=>(by cases he),h3,fun _=>Ak 1,fun _ _=>rfl,fun q=>by have q:f.next=1:=q;omega⟩
  ·exact (h.node _ hd.2.1).turn fun e he=>by
    rcases J8 he with rfl | he
    ·exact hm
    ·exact (h.node _ hd.2.1).nam e he
  ·exact h.node z hz
 ·have old:∀ y0∈f.xs,e∈y0.es->(zf e.ino (zbW f s k t).xs).parent=y0.ino/\(if y0.ino=f.next then rk s.dir+1 else rk y0.ino)<(if e.ino=f.next then rk s.dir+1 else rk e.ino):=fun y0 hy0 he0=>by
   have hne:=n2 y0 hy0 e he0;obtain ⟨g1,g2⟩:=hgot e.ino hne;rw[g1]at hke;have:=hrk y0 hy0 e he0 hke;rw[g2,if_neg hne,if_neg (fun q=>by have:=(hi.ino y0 hy0).2;omega)];exact this
  rcases hmem hy with rfl | rfl | ⟨hy,_⟩
  ·cases he
  ·rcases J8 he with rfl | he
   ·rw[hgn]at hke ⊢;have hke:k=2:=hke;show (if k=2 then s.dir else 0)=(zf s.dir f.xs).ino/\_;rw[if_pos hke,hd.2.2];refine ⟨rfl,?_⟩;show (if s.dir=f.next then _ else rk s.dir)<if f.next=f.next then _ else _;rw[if_neg hdn,if_pos rfl];exact Nat.lt_succ_self _
   ·exact old (zf s.dir f.xs) hd.2.1 he
  ·exact old y hy he
 ·unfold Zd at hr;simp only[Wp,WU]at hr;have hl:(zbW f s k t).xs.length=f.xs.length+1:=by
   show (qp _ _).length=_;rw[zmn hR1 hn1,jP hi.rises hs.has]
  have hb:qj (zbW f s k t).xs=qj f.xs+bN ⟨f.next,k,1,t,if k=2 then s.dir else 0,[]⟩:=by
   show qj (qp _ _)=_;rw[kC hR1 hn1,Xa hi.rises hs.has]
  rw[hl,hb];show ((f.xs.length+1:Nat):Int)<=f.maxI/\((qj f.xs+(if k=1 then t.length else 0):Nat):Int)<=f.maxB;split at hr<;>(rename_i hq;simp only[hq,if_true,Oe];omega)
theorem zp4 (hi:FsI f) (h:FsR f) {i:Int} (hh:zk i f.xs=true) (hk:(zf i f.xs).kind=1) {t:Lz} (hr:Zd f 0 ((t.length:Int)-(zf i f.xs).data.length)=true):FsR (XO f i t):=by
 have hx:=zj hh;have hhi:zk ({ zf i f.xs with data:=t }:zl).ino f.xs=true:=by show zk (zf i f.xs).ino f.xs=true;rw[hx.2.2];exact hh
 have hn:=h.node _ hx.2.1;have hgot:∀ m,(zf m (XO f i t).xs).kind=(zf m f.xs).kind/\(zf m (XO f i t).xs).parent=(zf m f.xs).parent:=fun m=>by
  show (zf m (qp _ _)).kind=_/\_;unfold XO;simp only[qD,hx.2.2];split
  ·subst_vars;exact ⟨rfl,rfl⟩
  ·exact ⟨rfl,rfl⟩
 unfold Zd at hr;simp only[Wp,WU]at hr;refine h.like (fun z hz=>?_) (fun z hz e he hke=>?_) rfl rfl ?_ ?_
 ·rcases qw.1 hz with rfl | ⟨hz,_⟩
  ·exact ⟨hn.par,fun q=>by have q:(zf i f.xs).kind=2:=q;omega,hn.nam,fun q=>by have q:(zf i f.xs).kind=3:=q;omega,hn.named,hn.one,hn.top⟩
  ·exact h.node z hz
 ·rw[(hgot _).1]at hke;rcases qw.1 hz with rfl | ⟨hz,_⟩
  ·exact ⟨_,hx.2.1,rfl,he,hke,(hgot _).2⟩
  ·exact ⟨z,hz,rfl,he,hke,(hgot _).2⟩
 ·show (qp _ _).length<=_;rw[Jo hi.rises hhi];exact Wb _
 ·have:=X6 hi.rises hhi;have e1:bN (zf ({ zf i f.xs with data:=t }:zl).ino f.xs)=(zf i f.xs).data.length:=by
   show bN (zf (zf i f.xs).ino f.xs)=_;rw[hx.2.2];unfold bN;rw[if_pos hk]
  have e2:bN { zf i f.xs with data:=t }=t.length:=by unfold bN;rw[if_pos hk]
  rw[e1,e2]at this;show (qj (qp _ _):Int)<=_;omega
theorem zqs (hi:FsI f) (h:FsR f) {s:zH} (hs:jY f s) (hm:may s.name=true) {i:Int} (hh:zk i f.xs=true) (hk:(zf i f.xs).kind≠2):FsR (kj f s i):=by
 have hd:=zj hs.has;have hx:=zj hh;have hn:=h.node _ hx.2.1;have hR1:zZ (ql s.dir (zU s.name i) f.xs):=z7 hi.rises;have hhi:zk ({ zf i f.xs with links:=(zf i f.xs).links+1 }:zl).ino (ql s.dir (zU s.name i) f.xs)=true:=by rw[zM hs.has];show zk (zf i f.xs).ino f.xs=true;rw[hx.2.2];exact hh
 have hgot:∀ m,(zf m (kj f s i).xs).kind=(zf m f.xs).kind/\(zf m (kj f s i).xs).parent=(zf m f.xs).parent:=fun m=>by
  unfold kj;simp only[qD,hx.2.2];split
  ·subst_vars;exact ⟨rfl,rfl⟩
  ·exact ⟨(jA hs.has).1,(jA hs.has).2.1⟩
 refine h.like (fun z hz=>?_) (fun z hz e he hke=>?_) rfl rfl ?_ ?_
 ·rcases qw.1 hz with rfl | ⟨hz,_⟩
  ·exact ⟨hn.par,hn.bare,hn.nam,hn.lnk,fun q=>by have:=hn.named q;show 1<=(zf i f.xs).links+1;omega,fun q=>absurd q hk,hn.top⟩
  ·rcases (qy hs.has).1 hz with rfl | ⟨hz,_⟩
   ·exact (h.node _ hd.2.1).turn fun e he=>by
     rcases J8 he with rfl | he
     ·exact hm
     ·exact (h.node _ hd.2.1).nam e he
   ·exact h.node z hz
 ·rw[(hgot _).1]at hke;rcases qw.1 hz with rfl | ⟨hz,_⟩
  ·exact ⟨_,hx.2.1,rfl,he,hke,(hgot _).2⟩
  ·rcases (qy hs.has).1 hz with rfl | ⟨hz,_⟩
   ·rcases J8 he with rfl | he
    ·exact absurd hke hk
    ·exact ⟨_,hd.2.1,rfl,he,hke,(hgot _).2⟩
   ·exact ⟨z,hz,rfl,he,hke,(hgot _).2⟩
 ·show (qp _ _).length<=_;rw[Jo hR1 hhi,jP hi.rises hs.has];exact Wb _
 ·have:=X6 hR1 hhi;have e1:bN (zf ({ zf i f.xs with links:=(zf i f.xs).links+1 }:zl).ino (ql s.dir (zU s.name i) f.xs))=bN { zf i f.xs with links:=(zf i f.xs).links+1 }:=by
   show bN (zf (zf i f.xs).ino _)=_;rw[hx.2.2,jI hs.has];split
   ·rename_i hq;exact absurd (by rw[←hq];exact hs.kind) hk
   ·rfl
  rw[e1,Xa hi.rises hs.has]at this;show (qj (qp _ _):Int)<=_;have:=h.fit.2;omega
theorem ziF (hi:FsI f) (h:FsR f) {s:zH} (hs:zu f s) (he:(zf s.ino f.xs).es = []):FsR (zp f s):=by
 have hok:=UR hi hs he;have hd:=zj hs.has;have hh:=zu.ino hi hs;have hx:=zj hh;have hn:=h.node _ hx.2.1;have hne:s.dir≠s.ino:=fun e=>by
  have:=(zS hs.there).2;rw[e,he]at this;cases this
 have hr1:=Qk hi hs;have hR1:zZ (ql s.dir (zi s.name) f.xs):=z7 hi.rises;have hdn:zky (qv (zf s.dir f.xs) (zi s.name (zf s.dir f.xs).es)):=(h.node _ hd.2.1).turn fun e he=>(h.node _ hd.2.1).nam e (qE he).1;by_cases hl:(zf s.ino f.xs).links-1=0
 ·have e0:zp f s = { f with xs:=qc s.ino (ql s.dir (zi s.name) f.xs) }:=by unfold zp;rw[if_pos hl]
  rw[e0]at hok ⊢;refine h.like (fun z hz=>?_) (fun z hz e he hke=>?_) rfl rfl ?_ ?_
  ·rcases (qy hs.has).1 (Y7.1 hz).1 with rfl | ⟨hz,_⟩
   ·exact hdn
   ·exact h.node z hz
  ·have hee:e.ino≠s.ino:=fun q=>by
    have:=hok.led z hz e he;rw[YT,q]at this;simp at this
   have hg:zf e.ino (qc s.ino (ql s.dir (zi s.name) f.xs))=zf e.ino (ql s.dir (zi s.name) f.xs):=by rw[Zx,if_neg hee]
   show ∃ y∈f.xs,y.ino=z.ino/\e∈y.es/\_/\(zf e.ino (qc s.ino _)).parent=_;have hke:(zf e.ino (qc s.ino (ql s.dir (zi s.name) f.xs))).kind=2:=hke;rw[hg,(jA hs.has).1]at hke;rw[hg,(jA hs.has).2.1];rcases (qy hs.has).1 (Y7.1 hz).1 with rfl | ⟨hz,_⟩
   ·exact ⟨_,hd.2.1,rfl,(qE he).1,hke,rfl⟩
   ·exact ⟨z,hz,rfl,he,hke,rfl⟩
  ·exact WM (zgF _ _) (by rw[jP hi.rises hs.has];exact Wb _)
  ·have:=zcy hR1 s.ino;rw[Xa hi.rises hs.has]at this;have:=h.fit.2;show (qj (qc _ _):Int)<=_;omega
 ·have e0:zp f s = { f with xs:=qp { zf s.ino f.xs with links:=(zf s.ino f.xs).links-1 } (ql s.dir (zi s.name) f.xs) }:=by unfold zp;rw[if_neg hl]
  rw[e0]at hok ⊢;have hhi:zk ({ zf s.ino f.xs with links:=(zf s.ino f.xs).links-1 }:zl).ino (ql s.dir (zi s.name) f.xs)=true:=by rw[zM hs.has];show zk (zf s.ino f.xs).ino f.xs=true;rw[hx.2.2];exact hh
  have hgot:∀ m,(zf m (qp { zf s.ino f.xs with links:=(zf s.ino f.xs).links-1 } (ql s.dir (zi s.name) f.xs))).kind=(zf m f.xs).kind/\(zf m (qp { zf s.ino f.xs with links:=(zf s.ino f.xs).links-1 } (ql s.dir (zi s.name) f.xs))).parent=(zf m f.xs).parent:=fun m=>by
   simp only[qD,hx.2.2];split
   ·subst_vars;exact ⟨rfl,rfl⟩
   ·exact ⟨(jA hs.has).1,(jA hs.has).2.1⟩
  have hnm:=hn.named (by rw[hx.2.2];exact hr1);refine h.like (fun z hz=>?_) (fun z hz e he hke=>?_) rfl rfl ?_ ?_
  ·rcases qw.1 hz with rfl | ⟨hz,_⟩
   ·exact ⟨hn.par,hn.bare,hn.nam,hn.lnk,fun q=>by show 1<=(zf s.ino f.xs).links-1;omega,fun q1 q2=>by have:=hn.one q1 q2;omega,hn.top⟩
   ·rcases (qy hs.has).1 hz with rfl | ⟨hz,_⟩
    ·exact hdn
    ·exact h.node z hz
  ·have hke:(zf e.ino (qp { zf s.ino f.xs with links:=(zf s.ino f.xs).links-1 } (ql s.dir (zi s.name) f.xs))).kind=2:=hke;rw[(hgot _).1]at hke;rcases qw.1 hz with rfl | ⟨hz,_⟩
   ·exact ⟨_,hx.2.1,rfl,he,hke,(hgot _).2⟩
   ·rcases (qy hs.has).1 hz with rfl | ⟨hz,_⟩
    ·exact ⟨_,hd.2.1,rfl,(qE he).1,hke,(hgot _).2⟩
    ·exact ⟨z,hz,rfl,he,hke,(hgot _).2⟩
  ·show (qp _ _).length<=_;rw[Jo hR1 hhi,jP hi.rises hs.has];exact Wb _
  ·have:=X6 hR1 hhi;have e1:bN (zf ({ zf s.ino f.xs with links:=(zf s.ino f.xs).links-1 }:zl).ino (ql s.dir (zi s.name) f.xs))=bN { zf s.ino f.xs with links:=(zf s.ino f.xs).links-1 }:=by
    show bN (zf (zf s.ino f.xs).ino _)=_;rw[hx.2.2,jI hs.has,if_neg hne]
    rfl
   rw[e1,Xa hi.rises hs.has]at this;show (qj (qp _ _):Int)<=_;have:=h.fit.2;omega
end
section
inductive Bel (xs:List zl) (x:Int):Int->Prop
 | refl:Bel xs x x
 | step {y n:Int}:Bel xs x y->zk y xs=true->(∃ e∈(zf y xs).es,e.ino=n)->Bel xs x n
def zqD (a b:zH) (y:zl) (es:List zO):Prop:=∀ e∈es,(e=⟨b.name,a.ino⟩/\y.ino=b.dir)∨(e∈y.es/\(y.ino=a.dir->e.name≠a.name))
theorem zmt (hi:FsI f) {a b:zH} (ha:zu f a) (hb:jY f b) {z:zl} (hz:z∈ql b.dir (zU b.name a.ino) (ql a.dir (zi a.name) f.xs)):∃ y∈f.xs,∃ es,z=qv y es/\zqD a b y es:=by
 have hda:=zj ha.has;have hdb:=zj hb.has;have hb1:zk b.dir (ql a.dir (zi a.name) f.xs)=true:=by rw[zM ha.has];exact hb.has
 have g1:∀ {z:zl},z∈ql a.dir (zi a.name) f.xs->∃ y∈f.xs,∃ es,z=qv y es/\∀ e∈es,e∈y.es/\(y.ino=a.dir->e.name≠a.name):=fun {z} hz=>by
  rcases (qy ha.has).1 hz with rfl | ⟨hz,hne⟩
  ·exact ⟨_,hda.2.1,_,rfl,fun e he=>⟨(qE he).1,fun _=>(qE he).2⟩⟩
  ·exact ⟨z,hz,z.es,rfl,fun e he=>⟨he,fun q=>absurd q hne⟩⟩
 rcases (qy hb1).1 hz with rfl | ⟨hz,hne⟩
 ·obtain ⟨y,hy,es,e1,e2⟩:=g1 (zj hb1).2.1;have hyb:y.ino=b.dir:=by
   have:=(zj hb1).2.2;rw[e1]at this;exact this
  refine ⟨y,hy,zU b.name a.ino es,by rw[e1],fun e he=>?_⟩;rcases J8 he with rfl | he
  ·exact .inl ⟨rfl,hyb⟩
  ·exact .inr (e2 e he)
 ·obtain ⟨y,hy,es,e1,e2⟩:=g1 hz;exact ⟨y,hy,es,e1,fun e he=>.inr (e2 e he)⟩
theorem zgS {a b:zH} (ha:zu f a) (hb:jY f b) (m:Int):(zf m (ql b.dir (zU b.name a.ino) (ql a.dir (zi a.name) f.xs))).kind=(zf m f.xs).kind/\(zf m (ql b.dir (zU b.name a.ino) (ql a.dir (zi a.name) f.xs))).parent=(zf m f.xs).parent:=by
 have hb1:zk b.dir (ql a.dir (zi a.name) f.xs)=true:=by rw[zM ha.has];exact hb.has
 obtain ⟨q1,q2,_⟩:=jA (m:=m) (F:=zU b.name a.ino) hb1;obtain ⟨q3,q4,_⟩:=jA (m:=m) (F:=zi a.name) ha.has;exact ⟨q1.trans q3,q2.trans q4⟩
theorem ue (hi:FsI f) (h:FsR f) {a:zH} (ha:zu f a) (hk:(zf a.ino f.xs).kind=2) {y:zl} (hy:y∈f.xs) {e:zO} (he:e∈y.es) (hn:y.ino=a.dir->e.name≠a.name):e.ino≠a.ino:=fun q=>by
 have hh:=zu.ino hi ha;have hx:=zj hh;have hd:=zj ha.has;have hl:=(h.node _ hx.2.1).one hk (by rw[hx.2.2];exact Qk hi ha);have hlk:=hi.links _ hx.2.1;rw[hx.2.2,hl]at hlk;have hc:=Q0 (m:=a.ino) (F:=zi a.name) hi.rises ha.has;have hw:J3 a.ino (zf a.dir f.xs)=J3 a.ino (qv (zf a.dir f.xs) (zi a.name (zf a.dir f.xs).es))+if a.ino=a.ino then 1 else 0:=X9 (m:=a.ino) (i:=a.ino) (x:=zf a.dir f.xs) (hi.es (zf a.dir f.xs) hd.2.1) ha.there;rw[if_pos rfl]at hw;have h0:JX a.ino (ql a.dir (zi a.name) f.xs)=0:=by omega
 by_cases hya:y.ino=a.dir
 ·have e1:y=zf a.dir f.xs:=Mh hi.rises hy hd.2.1 (by rw[hd.2.2];exact hya);refine Zs h0 _ ((qy ha.has).2 (.inl rfl)) e ?_ q;exact X7.2 ⟨by rw[←e1];exact he,hn hya⟩
 ·exact Zs h0 y ((qy ha.has).2 (.inr ⟨hy,hya⟩)) e he q
open Classical in
theorem zqg (hi:FsI f) (h:FsR f) {a b:zH} (ha:zu f a) (hb:jY f b) (hm:may b.name=true) (hnb:(zf a.ino f.xs).kind=2->¬Bel f.xs a.ino b.dir):FsR (jx f a b):=by
 have hh:=zu.ino hi ha;have hx:=zj hh;have hr1:=Qk hi ha;have hb1:zk b.dir (ql a.dir (zi a.name) f.xs)=true:=by rw[zM ha.has];exact hb.has
 have hR1:zZ (ql a.dir (zi a.name) f.xs):=z7 hi.rises;have hR2:zZ (ql b.dir (zU b.name a.ino) (ql a.dir (zi a.name) f.xs)):=z7 hR1;have hlen:(ql b.dir (zU b.name a.ino) (ql a.dir (zi a.name) f.xs)).length=f.xs.length:=by rw[jP hR1 hb1,jP hi.rises ha.has]
 have hbyt:qj (ql b.dir (zU b.name a.ino) (ql a.dir (zi a.name) f.xs))=qj f.xs:=by rw[Xa hR1 hb1,Xa hi.rises ha.has]
 have hha:zk a.ino (ql b.dir (zU b.name a.ino) (ql a.dir (zi a.name) f.xs))=true:=by rw[zM hb1,zM ha.has];exact hh
 have hgm:=zgS ha hb;have hmm:∀ {z:zl},z∈ql b.dir (zU b.name a.ino) (ql a.dir (zi a.name) f.xs)->∃ y∈f.xs,∃ es,z=qv y es/\zqD a b y es:=zmt hi ha hb;have hnode:∀ {y:zl} {es:List zO},y∈f.xs->zqD a b y es->zky (qv y es):=fun {y es} hy he=>(h.node y hy).turn fun e hee=>by
  rcases he e hee with ⟨rfl,_⟩ | ⟨q,_⟩
  ·exact hm
  ·exact (h.node y hy).nam e q
 unfold jx;simp only;generalize ql b.dir (zU b.name a.ino) (ql a.dir (zi a.name) f.xs)=g at hR2 hlen hbyt hha hgm hmm;have hfit:=h.fit;by_cases hk:(zf a.ino f.xs).kind=2
 ·rw[if_pos (show (zf a.ino g).kind=2 from (hgm a.ino).1.trans hk)];have hnb:=hnb hk;have hxa:=zj hha;have hhi:zk ({ zf a.ino g with parent:=b.dir }:zl).ino g=true:=by show zk (zf a.ino g).ino g=true;rw[hxa.2.2];exact hha
  have hgot:∀ m,(zf m (qp { zf a.ino g with parent:=b.dir } g)).kind=(zf m f.xs).kind/\(zf m (qp { zf a.ino g with parent:=b.dir } g)).parent=if m=a.ino then b.dir else (zf m f.xs).parent:=fun m=>by
   simp only[qD,hxa.2.2];by_cases hq:a.ino=m
   ·rw[if_pos hq,if_pos hq.symm];subst hq;exact ⟨(hgm a.ino).1,rfl⟩
   ·rw[if_neg hq,if_neg (fun q=>hq q.symm)];exact hgm m
  have hmem:∀ {z:zl},z∈qp { zf a.ino g with parent:=b.dir } g->∃ y∈f.xs,∃ es,z.ino=y.ino/\z.es=es/\zqD a b y es/\zky z:=fun {z} hz=>by
   rcases qw.1 hz with rfl | ⟨hz,_⟩
   ·obtain ⟨y,hy,es,e1,e2⟩:=hmm hxa.2.1;refine ⟨y,hy,es,by rw[e1],by rw[e1],e2,?_⟩;have hn:=hnode hy e2;rw[←e1]at hn;have hka:(zf a.ino g).kind=2:=by rw[(hgm a.ino).1];exact hk
    exact ⟨fun q=>absurd hka q,hn.bare,hn.nam,hn.lnk,hn.named,hn.one,fun q=>by have q:(zf a.ino g).ino=1:=q;rw[hxa.2.2]at q;exact absurd q hr1⟩
   ·obtain ⟨y,hy,es,e1,e2⟩:=hmm hz;exact ⟨y,hy,es,by rw[e1],by rw[e1],e2,by rw[e1];exact hnode hy e2⟩
  obtain ⟨rk,hrk⟩:=h.edge;refine ⟨fun z hz=>(hmem hz).choose_spec.2.choose_spec.2.2.2,⟨fun n=>if Bel f.xs a.ino n then rk n+rk b.dir+1 else rk n,fun z hz e he hke=>?_⟩,?_,h.lim⟩
  ·obtain ⟨y,hy,es,e1,e2,e3,_⟩:=hmem hz;have hke:(zf e.ino (qp { zf a.ino g with parent:=b.dir } g)).kind=2:=hke;rw[(hgot _).1]at hke;show (zf e.ino (qp { zf a.ino g with parent:=b.dir } g)).parent=z.ino/\(if Bel f.xs a.ino z.ino then _ else _)<(if Bel f.xs a.ino e.ino then _ else _);rw[(hgot _).2,e1];rcases e3 e (by rw[←e2];exact he) with ⟨rfl,hyb⟩ | ⟨hey,hna⟩
   ·rw[hyb,if_neg hnb];show (if a.ino=a.ino then _ else _)=_/\_<(if Bel f.xs a.ino a.ino then rk a.ino+rk b.dir+1 else _);rw[if_pos rfl,if_pos Bel.refl];exact ⟨rfl,by omega⟩
   ·have hne:=ue hi h ha hk hy hey hna;obtain ⟨p1,p2⟩:=hrk y hy e hey hke;rw[if_neg hne];refine ⟨p1,?_⟩;have hs:=Y3 hi hy;have hiff:Bel f.xs a.ino e.ino↔Bel f.xs a.ino y.ino:=by
     constructor
     ·intro hB;generalize hn:e.ino=n at hB;cases hB with
      | refl=>exact absurd hn hne
      | step hB1 hv hed =>
       rename_i y';obtain ⟨e',he',q⟩:=hed;have:=(hrk _ (zj hv).2.1 e' he' (by rw[q,←hn];exact hke)).1;rw[q,←hn,p1,(zj hv).2.2]at this;rw[this];exact hB1
     ·intro hB;exact .step hB (J6 hy) ⟨e,by rw[hs];exact hey,rfl⟩
    by_cases hB:Bel f.xs a.ino y.ino
    ·rw[if_pos hB,if_pos (hiff.2 hB)];omega
    ·rw[if_neg hB,if_neg (fun q=>hB (hiff.1 q))];exact p2
  ·have hb2:=X6 hR2 hhi;have e1:bN (zf ({ zf a.ino g with parent:=b.dir }:zl).ino g)=bN { zf a.ino g with parent:=b.dir }:=by
    show bN (zf (zf a.ino g).ino g)=_;rw[hxa.2.2];rfl
   rw[e1]at hb2;have hb3:=Nat.add_right_cancel hb2;show ((qp _ _).length:Int)<=f.maxI/\(qj (qp _ _):Int)<=f.maxB;rw[Jo hR2 hhi,hlen,hb3,hbyt];exact hfit
 ·rw[if_neg (show ¬(zf a.ino g).kind=2 from fun q=>hk ((hgm a.ino).1.symm.trans q))];refine h.like (fun z hz=>?_) (fun z hz e he hke=>?_) rfl rfl (by show g.length<=_;omega) (by show (qj g:Int)<=_;omega)
  ·obtain ⟨y,hy,es,rfl,e2⟩:=hmm hz;exact hnode hy e2
  ·obtain ⟨y,hy,es,rfl,e2⟩:=hmm hz;have hke:(zf e.ino g).kind=2:=hke;rw[(hgm _).1]at hke;rcases e2 e he with ⟨rfl,_⟩ | ⟨q,_⟩
   ·exact absurd hke hk
   ·exact ⟨y,hy,rfl,q,hke,(hgm _).2⟩
end
section
inductive J9 (xs:List zl):List Lz->Int->Prop
 | root:J9 xs [] 1
 | step {ns:List Lz} {y n:Int} {m:Lz}:J9 xs ns y->zk y xs=true->(zf y xs).kind=2->qA zO.name m (zf y xs).es=some ⟨m,n⟩->J9 xs (ns++[m]) n
theorem J9.inv (h:J9 xs ns n):(ns = []/\n=1)∨∃ ms y m,ns=ms++[m]/\J9 xs ms y/\zk y xs=true/\(zf y xs).kind=2/\qA zO.name m (zf y xs).es=some ⟨m,n⟩:=by
 cases h with
 | root=>exact .inl ⟨rfl,rfl⟩
 | step h1 h2 h3 h4=>exact .inr ⟨_,_,_,rfl,h1,h2,h3,h4⟩
theorem MH (hi:FsI f) (h:FsR f) {x y z:Int} {m k:Lz} (hx:(zf x f.xs).kind=2) (hy:zk y f.xs=true) (hyk:(zf y f.xs).kind=2) (h1:qA zO.name m (zf y f.xs).es=some ⟨m,x⟩) (hz:zk z f.xs=true) (h2:∃ e∈(zf z f.xs).es,e.name=k/\e.ino=x):z=y/\k=m:=by
 obtain ⟨e,he,rfl,q⟩:=h2;obtain ⟨rk,hr⟩:=h.edge;have gy:=zj hy;have gz:=zj hz;have p1:=(hr _ gy.2.1 ⟨m,x⟩ (zS h1).2 hx).1;have p2:=(hr _ gz.2.1 e he (by rw[q];exact hx)).1;rw[q,gz.2.2]at p2;rw[gy.2.2]at p1;have hzy:z=y:=p2.symm.trans p1;refine ⟨hzy,OO fun hne=>?_⟩;subst hzy;exact ue hi h (a:=⟨z,m,x⟩) ⟨hy,hyk,h1⟩ hx gy.2.1 he (fun _=>hne) q
theorem vI (hi:FsI f) {y:Int} (hy:zk y f.xs=true) {e:zO} (he:e∈(zf y f.xs).es):e.ino≠1:=Zs hi.bare _ (zj hy).2.1 e he
theorem J9.one (hi:FsI f) (h:FsR f):∀ {ms ns:List Lz} {x:Int},J9 f.xs ms x->J9 f.xs ns x->(zf x f.xs).kind=2->ms=ns:=by
 intro ms ns x h1
 induction h1 generalizing ns with
 | root =>
  intro h2 hk;rcases h2.inv with ⟨e,_⟩ | ⟨ms,y,m,e,_,g1,g2,g3⟩
  ·exact e.symm
  ·exact absurd rfl (vI hi g1 (zS g3).2)
 | step a1 a2 a3 a4 ih =>
  intro h2 hk;rcases h2.inv with ⟨e,e1⟩ | ⟨ms,y,m,rfl,g0,g1,g2,g3⟩
  ·exact absurd e1 (vI hi a2 (zS a4).2)
  ·obtain ⟨rfl,rfl⟩:=MH hi h hk a2 a3 a4 g1 ⟨_,(zS g3).2,rfl,rfl⟩;rw[ih g0 a3]
theorem Bel.lead (hi:FsI f) (h:FsR f) {x:Int} {ns:List Lz} (hn:J9 f.xs ns x):∀ {m:Int} {ms:List Lz},Bel f.xs x m->J9 f.xs ms m->(zf m f.xs).kind=2->∃ r,ms=ns++r:=by
 intro m ms hB
 induction hB generalizing ms with
 | refl=>intro h1 hk;exact ⟨[],by rw[W0];exact J9.one hi h h1 hn hk⟩
 | step b1 b2 b3 ih =>
  intro h1 hk;obtain ⟨e,he,q⟩:=b3;rcases h1.inv with ⟨_,e1⟩ | ⟨ms',y',k,rfl,g0,g1,g2,g3⟩
  ·exact absurd (q.trans e1) (vI hi b2 he)
  ·obtain ⟨rfl,_⟩:=MH hi h hk g1 g2 g3 b2 ⟨e,he,rfl,q⟩;obtain ⟨r,hr⟩:=ih g0 g2;exact ⟨r++[k],by rw[hr,WE]⟩
theorem Z0 {f:FsV} (hi:FsI f):∀ (ns pre:List Lz) (s:zH),(s.ino≠0->J9 f.xs pre s.ino/\zk s.ino f.xs=true)->(atW f.xs ns s).2=0->ns≠[] ->
  ∃ ms,ns=ms++[(atW f.xs ns s).1.name]/\J9 f.xs (pre++ms) (atW f.xs ns s).1.dir
 | [],pre,s,_,_,h=>absurd rfl h
 | n :: r,pre,s,hs,h0,_=>by
  unfold atW at h0 ⊢;by_cases h1:s.ino=0
  ·rw[if_pos h1]at h0;cases h0
  rw[if_neg h1]at h0 ⊢;by_cases h2:(zf s.ino f.xs).kind≠2
  ·rw[if_pos h2]at h0;cases h0
  rw[if_neg h2]at h0 ⊢;have h2:(zf s.ino f.xs).kind=2:=Ww.1 h2;obtain ⟨g1,g2⟩:=hs h1;have hg:=zj g2;cases r with
  | nil =>
   unfold atW;refine ⟨[],rfl,?_⟩;rw[W0];show J9 f.xs pre (zf s.ino f.xs).ino;rw[hg.2.2];exact g1
  | cons m r =>
   obtain ⟨ms,e1,e2⟩:=Z0 hi (m :: r) (pre++[n]) ⟨(zf s.ino f.xs).ino,n,zK n (zf s.ino f.xs).es⟩ (fun hne=>by
    have hne:zK n (zf s.ino f.xs).es≠0:=hne;have hh:Yb n (zf s.ino f.xs).es=true:=by
     unfold Yb;rw[qh];cases hq:qA zO.name n (zf s.ino f.xs).es with
     | some e=>rfl
     | none=>unfold zK at hne;rw[hq]at hne;exact absurd rfl hne
    exact ⟨.step g1 g2 h2 (Yw hh),X8 hi g2 hh⟩) h0 (by simp)
   refine ⟨n :: ms,by rw[Om,←e1],?_⟩;rw[WE]at e2;exact e2
theorem zcV (hi:FsI f) (h:FsR f) {p q:Lz} (hp:qm p=true) (hq:qm q=true) (h1:(isV f p true).2.2=0) (h2:(isV f q false).2.2=0) (hu:JM q p=false) (hk:(zf (isV f p true).1.ino f.xs).kind=2):¬Bel f.xs (isV f p true).1.ino (isV f q false).1.dir:=fun hB=>by
 have hta:=(jB hi hp h1).1;have hfb:=JZ hi hq h2;unfold qm at hp hq;simp only[Wp,Ab,Oc]at hp hq;have root:(1:Int)≠0->J9 f.xs [] 1/\zk 1 f.xs=true:=fun _=>⟨.root,hi.root⟩;have ea:(isV f p true).1=(atW f.xs (zn p) ⟨0,[],1⟩).1:=by show (atV f p).1=_;unfold atV;rw[if_pos hp.1]
 have eb:(isV f q false).1=(atW f.xs (zn q) ⟨0,[],1⟩).1:=by show (atV f q).1=_;unfold atV;rw[if_pos hq.1]
 have za:(atW f.xs (zn p) ⟨0,[],1⟩).2=0:=by have:=VC h1;unfold atV at this;rwa [if_pos hp.1]at this
 have zb:(atW f.xs (zn q) ⟨0,[],1⟩).2=0:=by have:=VC h2;unfold atV at this;rwa [if_pos hq.1]at this
 obtain ⟨ma,a1,a2⟩:=Z0 hi (zn p) [] ⟨0,[],1⟩ root za hp.2;obtain ⟨mb,b1,b2⟩:=Z0 hi (zn q) [] ⟨0,[],1⟩ root zb hq.2;rw[←ea]at a1 a2;rw[←eb]at b1 b2;have la:J9 f.xs (zn p) (isV f p true).1.ino:=by
  rw[a1];exact .step a2 hta.has hta.kind hta.there
 obtain ⟨r,hr⟩:=Bel.lead hi h la hB b2 hfb.kind;have hr:mb=zn p++r:=hr;have hn:zn q=zn p++(r++[(isV f q false).1.name]):=by rw[b1,hr,WE]
 have hu2:=Xz (zn q) (zn p) (fun x hx=>Zl hx) (fun x hx=>Zl hx);rw[jN hp.1,jN hq.1,hu,hn,OB  rfl]at hu2;simp at hu2
end
section
structure yw (w:qN):Prop where
 fs:FsR w.fs
 pool:∀ x∈w.pool,qC w x
 slots:∀ k∈w.kept,1<=k.slot
 kept:∀ k∈w.kept,XG w k
theorem zq8 (h:okW w):yw w:=⟨zfD (okV.m ⟨h.1.2.1,h.2.1⟩),h.2.2.2.1,h.2.2.2.2.1.2,h.2.2.2.2.2⟩
theorem zqG (h:yw w) {g:FsV} (hg:FsR g) (hn:w.fs.next<=g.next) (hp:∀ x∈w.pool,zk x.ino g.xs=false) (hk:∀ m,zk m w.fs.xs=true->zk m g.xs=true/\(zf m g.xs).kind=(zf m w.fs.xs).kind):yw { w with fs:=g }:=by
 refine ⟨hg,fun x hx=>?_,h.slots,fun k hkk=>?_⟩
 ·obtain ⟨q1,q2,q3,q4⟩:=h.pool x hx;exact ⟨hp x hx,q2,by show x.ino<g.next;omega,q4⟩
 ·obtain ⟨q1,q2,q3,q4⟩:=h.kept k hkk;refine ⟨q1,q2.imp (fun q=>(hk _ q).1) id,fun hc=>?_,q4⟩;have:=q3 hc;show (if zk k.ino w.pool=true then zf k.ino w.pool else zf k.ino g.xs).kind=1;by_cases hq:zk k.ino w.pool=true
  ·rw[if_pos hq]at this ⊢;exact this
  ·rw[if_neg hq]at this ⊢;rw[(hk _ (q2.resolve_right hq)).2];exact this
theorem zdf (hi:Uh w) (h:yw w) {p:Lz} (hp:qm p=true) {k:Int} (hk:k=1∨k=2∨k=3) {t:Lz} (h2:k=2->t = []) (h3:k=3->1<=t.length/\t.length<=4095/\∀ b∈t,b≠0):yw (Vc w p k t).1:=by
 unfold Vc;by_cases hz:(isV w.fs p false).2.2≠0
 ·rw[if_pos hz];exact h
 rw[if_neg hz];have hs:=JZ hi.fs hp (Ww.1 hz);obtain ⟨n1,n2⟩:=Gh hi.fs;show yw { w with fs:=(zcL w.fs (isV w.fs p false).1 k t).1 };unfold zcL;by_cases hm:may (isV w.fs p false).1.name=true
 case neg=>rw[if_neg hm];exact h
 rw[if_pos hm];by_cases hr:Zd w.fs 1 (if k=1 then (t.length:Int) else 0)=true
 case neg=>rw[if_neg hr];exact h
 rw[if_pos hr];have hhas:∀ m,zk m (zbW w.fs (isV w.fs p false).1 k t).xs=(decide (w.fs.next=m)||zk m w.fs.xs):=fun m=>by
  show zk m (qp _ _)=_;rw[qT,zM hs.has]
 refine zqG h (zpo hi.fs h.fs hs hm hk hr h2 h3) (by show w.fs.next<=w.fs.next+1;omega) (fun x hx=>?_) (fun m hh=>⟨by rw[hhas,hh,BN],?_⟩)
 ·rw[hhas,(hi.apart x hx).1,A3];exact Wj (by have:=(hi.apart x hx).2;omega)
 ·have hne:w.fs.next≠m:=fun e=>by rw[←e,n1]at hh;cases hh
  show (zf m (qp _ _)).kind=_;rw[qD,if_neg hne];exact (jA hs.has).1
theorem Jp {k z:zW} {ks:List zW}:z∈qF k ks↔z=k∨z∈ks:=Qx
theorem UN {w':qN} {x:zl} (h:qC w x) (h1:zk x.ino w'.fs.xs=false) (h2:w.fs.next<=w'.fs.next) (h3:∀ k∈w.kept,k∈w'.kept):qC w' x:=by
 obtain ⟨q1,q2,q3,q4,q5,q6,q7,q8,q9,q10⟩:=h;refine ⟨h1,q2,by omega,q4,q5,q6,q7,q8,q9,?_⟩;rw[Ou]at q10 ⊢;obtain ⟨k,hk,e⟩:=q10;exact ⟨k,h3 k hk,e⟩
theorem zqf (hi:Uh w) (h:yw w) {n:Int} (h1:1<=n) (h2:n<=1073741824) {s:zH} (hs:zu w.fs s) (he:(zf s.ino w.fs.xs).es = []):yw (JT w n s).1:=by
 have hI:=zeV hi (n:=n) hs he;unfold JT at hI ⊢;cases hn:NK n w.kept with
 | true=>rw[if_pos rfl];exact h
 | false =>
  rw[hn,if_neg (by simp)]at hI;rw[if_neg (by simp)];have hh:=zu.ino hi.fs hs;have hx:=zj hh;have hnd:=h.fs.node _ hx.2.1;have hr:=ziF hi.fs h.fs hs he;have hhas:=Qy hs.has hh;have hnp:zk s.ino w.pool=false:=by
   rw[Ok];intro hq;have:=(hi.apart _ (zj hq).2.1).1;rw[(zj hq).2.2,hh]at this;cases this
  have hgk:∀ m,zk m (zp w.fs s).xs=true->(zf m (zp w.fs s).xs).kind=(zf m w.fs.xs).kind:=fun m hm=>by
   unfold zp at hm ⊢;by_cases hl:(zf s.ino w.fs.xs).links-1=0
   ·rw[if_pos hl]at hm ⊢;have hm:zk m (qc _ _)=true:=hm;show (zf m (qc _ _)).kind=_;rw[YT]at hm;rw[Zx,if_neg (fun e=>by rw[e]at hm;simp at hm)];exact (jA hs.has).1
   ·rw[if_neg hl];show (zf m (qp _ _)).kind=_;rw[qD];split
    ·rename_i e;have e:(zf s.ino w.fs.xs).ino=m:=e;rw[hx.2.2]at e;subst e;rfl
    ·exact (jA hs.has).1
  by_cases hl:(zf s.ino w.fs.xs).links=1
  ·rw[if_pos hl]at hI ⊢;have hhp:∀ m,zk m (qp { zf s.ino w.fs.xs with links:=0,parent:=0 } w.pool)=(decide (s.ino=m)||zk m w.pool):=fun m=>by
    rw[qT];show (decide ((zf s.ino w.fs.xs).ino=m)||_)=_;rw[hx.2.2]
   refine ⟨hr,fun x hxx=>?_,fun k hk=>?_,fun k hk=>?_⟩
   ·have ha:=(hI.apart x hxx).1;rcases qw.1 hxx with rfl | ⟨hxp,_⟩
    ·have hir:=hi.fs.ino _ hx.2.1;refine ⟨ha,hir.1,by show _<(zp w.fs s).next;rw[Yq];exact hir.2,rfl,rfl,he,hi.fs.kind (zf s.ino w.fs.xs) hx.2.1,hnd.bare,hnd.lnk,?_⟩;rw[Ou];refine ⟨_,Jp.2 (.inl rfl),?_⟩;show (decide (s.ino=(zf s.ino w.fs.xs).ino)&&!false)=true;rw[hx.2.2];simp
    ·exact UN (h.pool x hxp) ha (by show w.fs.next<=(zp w.fs s).next;rw[Yq];exact Ak _) fun k hk=>Jp.2 (.inr hk)
   ·rcases Jp.1 hk with rfl | hk
    ·exact h1
    ·exact h.slots k hk
   ·rcases Jp.1 hk with rfl | hk
    ·exact ⟨h2,.inr (by show zk s.ino _=true;rw[hhp];simp),fun q=>(by cases q),fun _=>rfl⟩
    ·obtain ⟨q1,q2,q3,q4⟩:=h.kept k hk;refine ⟨q1,?_,fun hc=>?_,q4⟩
     ·show zk k.ino (zp w.fs s).xs=true∨zk k.ino _=true;rw[hhp,hhas,if_pos (by omega)];by_cases e:k.ino=s.ino
      ·right;rw[e];simp
      ·rcases q2 with q2 | q2
       ·left;rw[q2,Wj e];rfl
       ·right;rw[q2,BN]
     ·have:=q3 hc;show (if zk k.ino _=true then zf k.ino _ else zf k.ino (zp w.fs s).xs).kind=1;by_cases e:s.ino=k.ino
      ·rw[if_pos (by rw[hhp,Wn e];rfl),qD,if_pos (by rw[←e];exact hx.2.2)];rw[←e,hnp,if_neg (by simp)]at this;exact this
      ·rw[hhp,Wj e,O0];have e5:zf k.ino (qp { zf s.ino w.fs.xs with links:=0,parent:=0 } w.pool)=zf k.ino w.pool:=by
        rw[qD];exact if_neg fun q=>e (hx.2.2.symm.trans q)
       rw[e5];by_cases hq:zk k.ino w.pool=true
       ·rw[if_pos hq]at this ⊢;exact this
       ·rw[if_neg hq]at this ⊢;have q5:=q2.resolve_right hq;rw[hgk _ (by rw[hhas,if_pos (by omega),q5,Wj (fun q=>e q.symm)];rfl)];exact this
  ·rw[if_neg hl]at hI ⊢;have hall:∀ m,zk m (zp w.fs s).xs=zk m w.fs.xs:=fun m=>by rw[hhas,if_neg (by omega)]
   refine ⟨hr,fun x hxx=>?_,fun k hk=>?_,fun k hk=>?_⟩
   ·exact UN (h.pool x hxx) (hI.apart x hxx).1 (by show w.fs.next<=(zp w.fs s).next;rw[Yq];exact Ak _) fun k hk=>Jp.2 (.inr hk)
   ·rcases Jp.1 hk with rfl | hk
    ·exact h1
    ·exact h.slots k hk
   ·rcases Jp.1 hk with rfl | hk
    ·exact ⟨h2,.inl (by show zk s.ino (zp w.fs s).xs=true;rw[hall];exact hh),fun q=>(by cases q),fun _=>rfl⟩
    ·obtain ⟨q1,q2,q3,q4⟩:=h.kept k hk;refine ⟨q1,?_,fun hc=>?_,q4⟩
     ·show zk k.ino (zp w.fs s).xs=true∨_;rw[hall];exact q2
     ·have:=q3 hc;show (if zk k.ino w.pool=true then zf k.ino w.pool else zf k.ino (zp w.fs s).xs).kind=1;by_cases hq:zk k.ino w.pool=true
      ·rw[if_pos hq]at this ⊢;exact this
      ·rw[if_neg hq]at this ⊢;rw[hgk _ (by rw[hall];exact q2.resolve_right hq)];exact this
theorem zhg {i:Int} {t:Lz} (hh:zk i f.xs=true) (m:Int):zk m (XO f i t).xs=zk m f.xs/\(zf m (XO f i t).xs).kind=(zf m f.xs).kind:=by
 have hx:=zj hh;constructor
 ·show zk m (qp _ _)=_;rw[qT];show (decide ((zf i f.xs).ino=m)||_)=_;rw[hx.2.2];by_cases e:i=m
  ·subst e;rw[hh];simp
  ·simp[e]
 ·show (zf m (qp _ _)).kind=_;rw[qD];split
  ·rename_i e;have e:(zf i f.xs).ino=m:=e;rw[hx.2.2]at e;subst e;rfl
  ·rfl
theorem ze9 (hi:Uh w) (h:yw w) {o:OpV} (ha:qm o.a=true) (hb:qm o.b=true) (h1:1<=o.slot) (h2:o.slot<=1073741824):yw (Qj w o).1:=by
 unfold Qj;by_cases z1:(jh w.fs o.a).2≠0
 ·rw[if_pos z1];exact h
 rw[if_neg z1];by_cases z2:(jh w.fs o.b).2≠0
 ·rw[if_pos z2];exact h
 rw[if_neg z2];by_cases z3:(jh w.fs o.a).1.ino=(jh w.fs o.b).1.ino
 ·rw[if_pos z3];exact h
 rw[if_neg z3];by_cases z4:(JS w o.slot (jh w.fs o.b).1.ino).2≠0
 ·rw[if_pos z4];exact h
 rw[if_neg z4];by_cases z5:(kO w.fs (jh w.fs o.b).1.ino (jh w.fs o.a).1.data).2≠0
 ·rw[if_pos z5];exact h
 rw[if_neg z5];obtain ⟨f1,f2,f3⟩:=kh hi.fs hb (Ww.1 z2);generalize (jh w.fs o.b).1.ino=i at *;generalize (jh w.fs o.a).1.data=t at *;have hk1:(zf i w.fs.xs).kind=1:=by rw[←f3];exact f2
 have hnp:zk i w.pool=false:=by
  rw[Ok];intro hq;have:=(hi.apart _ (zj hq).2.1).1;rw[(zj hq).2.2,f1]at this;cases this
 have e1:(JS w o.slot i).1 = { w with kept:=qF ⟨o.slot,i,true,(zf i w.fs.xs).data⟩ w.kept }:=by
  unfold JS at z4 ⊢;split
  ·rename_i hq;rw[if_pos hq]at z4;exact absurd (show (13:Int)≠0 by decide) z4
  ·rfl
 have hr:Zd w.fs 0 ((t.length:Int)-(zf i w.fs.xs).data.length)=true:=by
  unfold kO at z5;cases hq:Zd w.fs 0 ((t.length:Int)-(zf i w.fs.xs).data.length) with
  | true=>rfl
  | false=>rw[hq,if_neg (by simp)]at z5;exact absurd (show (8:Int)≠0 by decide) z5
 have e2:(kO w.fs i t).1=XO w.fs i t:=by unfold kO;rw[if_pos hr]
 rw[e1,e2];show yw ⟨XO w.fs i t,qF ⟨o.slot,i,true,(zf i w.fs.xs).data⟩ w.kept,w.pool⟩;have hg:=zhg (t:=t) f1;refine ⟨zp4 hi.fs h.fs f1 hk1 hr,fun x hx=>?_,fun k hk=>?_,fun k hk=>?_⟩
 ·exact UN (h.pool x hx) (by show zk x.ino (XO w.fs i t).xs=false;rw[(hg _).1];exact (hi.apart x hx).1) (Ak _) fun k hk=>Jp.2 (.inr hk)
 ·rcases Jp.1 hk with rfl | hk
  ·exact h1
  ·exact h.slots k hk
 ·rcases Jp.1 hk with rfl | hk
  ·refine ⟨h2,.inl (by show zk i (XO w.fs i t).xs=true;rw[(hg _).1];exact f1),fun _=>?_,fun q=>(by cases q)⟩;show (if zk i w.pool=true then zf i w.pool else zf i (XO w.fs i t).xs).kind=1;rw[hnp,if_neg (by simp),(hg i).2];exact hk1
  ·obtain ⟨q1,q2,q3,q4⟩:=h.kept k hk;refine ⟨q1,?_,fun hc=>?_,q4⟩
   ·show zk k.ino (XO w.fs i t).xs=true∨_;rw[(hg _).1];exact q2
   ·have:=q3 hc;show (if zk k.ino w.pool=true then zf k.ino w.pool else zf k.ino (XO w.fs i t).xs).kind=1;by_cases hq:zk k.ino w.pool=true
    ·rw[if_pos hq]at this ⊢;exact this
    ·rw[if_neg hq]at this ⊢;rw[(hg _).2];exact this
end
section
theorem zku (hf:FsI f) {p:Lz} (hp:qm p=true) {b:Bool} (h:(isV f p b).2.2=0):may (isV f p b).1.name=true:=by
 have h1:=(zea hf hp (VC h)).2.2.2;unfold qm jE at hp;simp only[Wp]at hp;exact Wt.1 hp.1.2 _ h1
theorem zi1 {o:OpV} (h:kY o=true):(Vz o.kind=true->1<=o.slot/\o.slot<=1073741824)/\(o.kind=4->Qg o.d=true)/\(o.kind=6->JM o.b o.a=false):=by
 unfold kY at h;simp only[Wp,WU]at h;obtain ⟨⟨⟨⟨⟨⟨h1,h2⟩,h3⟩,h4⟩,h5⟩,h6⟩,h7⟩:=h;refine ⟨fun q=>?_,fun q=>?_,fun q=>?_⟩
 ·rw[if_pos q]at h4;simpa using h4
 ·rw[if_pos q]at h6;exact h6
 ·rw[Wn q]at h7;simp at h7;exact h7.2
theorem zek {t:Lz} (h:Qg t=true):1<=t.length/\t.length<=4095/\∀ b∈t,b≠0:=by
 unfold Qg at h;simp only[Wp,Ab,Oc,WU]at h;obtain ⟨⟨h1,h2⟩,h3⟩:=h;refine ⟨WG.2 h1,h2,fun b hb e=>?_⟩;rw[Ob]at h3;exact h3 b hb (by simpa using e)
theorem zhE {s:zH} (hs:jY f s) {i:Int} (hh:zk i f.xs=true) (m:Int):zk m (kj f s i).xs=zk m f.xs/\(zf m (kj f s i).xs).kind=(zf m f.xs).kind:=by
 have hx:=zj hh;constructor
 ·show zk m (qp _ _)=_;rw[qT,zM hs.has];show (decide ((zf i f.xs).ino=m)||_)=_;rw[hx.2.2];by_cases e:i=m
  ·subst e;rw[hh];simp
  ·simp[e]
 ·show (zf m (qp _ _)).kind=_;rw[qD];split
  ·rename_i e;have e:(zf i f.xs).ino=m:=e;rw[hx.2.2]at e;subst e;rfl
  ·exact (jA hs.has).1
theorem Zj (hi:FsI f) {a b:zH} (ha:zu f a) (hb:jY f b) (m:Int):zk m (jx f a b).xs=zk m f.xs/\(zf m (jx f a b).xs).kind=(zf m f.xs).kind:=by
 have hb1:zk b.dir (ql a.dir (zi a.name) f.xs)=true:=by rw[zM ha.has];exact hb.has
 have hh:∀ m,zk m (ql b.dir (zU b.name a.ino) (ql a.dir (zi a.name) f.xs))=zk m f.xs:=fun m=>by rw[zM hb1,zM ha.has]
 have hg:=zgS ha hb;unfold jx;simp only;generalize ql b.dir (zU b.name a.ino) (ql a.dir (zi a.name) f.xs)=g at hh hg;split
 ·have hx:=zj (show zk a.ino g=true by rw[hh];exact zu.ino hi ha);constructor
  ·show zk m (qp _ _)=_;rw[qT];show (decide ((zf a.ino g).ino=m)||_)=_;rw[hx.2.2,hh];by_cases e:a.ino=m
   ·subst e;rw[zu.ino hi ha];simp
   ·simp[e]
  ·show (zf m (qp _ _)).kind=_;rw[qD];split
   ·rename_i e;have e:(zf a.ino g).ino=m:=e;rw[hx.2.2]at e;subst e;exact (hg _).1
   ·exact (hg m).1
 ·exact ⟨hh m,(hg m).1⟩
theorem zsC (hi:Uh w) (h:yw w) (o:OpV) (hk7:o.kind<=7):yw (doV w o).1:=by
 unfold doV;cases hm:kY o with
 | false=>exact h
 | true =>
  obtain ⟨p1,p2,k1,_⟩:=YV hm;obtain ⟨m1,m2,m3⟩:=zi1 hm;rw[if_neg (by simp)];by_cases h1:o.kind=1
  ·rw[if_pos h1];exact zdf hi h p1 (.inr (.inl rfl)) (fun _=>rfl) (fun q=>by cases q)
  rw[if_neg h1];by_cases h2:o.kind=2
  ·rw[if_pos h2];unfold Vk;split
   ·exact h
   ·exact zdf hi h (p2 (by rw[h2];rfl)) (.inl rfl) (fun q=>by cases q) (fun q=>by cases q)
  rw[if_neg h2];by_cases h3:o.kind=3
  ·rw[if_pos h3];obtain ⟨q1,q2⟩:=m1 (by rw[h3];rfl);exact ze9 hi h p1 (p2 (by rw[h3];rfl)) q1 q2
  rw[if_neg h3];by_cases h4:o.kind=4
  ·rw[if_pos h4];exact zdf hi h p1 (.inr (.inr rfl)) (fun q=>by cases q) (fun _=>zek (m2 h4))
  rw[if_neg h4];by_cases h5:o.kind=5
  ·rw[if_pos h5];have pb:=p2 (by rw[h5];rfl);unfold Vw;simp only;by_cases z1:(isV w.fs o.a true).2.2≠0
   ·rw[if_pos z1];exact h
   rw[if_neg z1];obtain ⟨ht,hn⟩:=jB hi.fs p1 (Ww.1 z1);by_cases z2:(isV w.fs o.a true).2.1.kind=2
   ·rw[if_pos z2];exact h
   rw[if_neg z2];by_cases z3:(isV w.fs o.b false).2.2≠0
   ·rw[if_pos z3];exact h
   rw[if_neg z3];have z3:=Ww.1 z3;have hf:=JZ hi.fs pb z3;have hh:=zu.ino hi.fs ht;rw[hn]at z2 ⊢;rw[(zj hh).2.2];have hg:=zhE hf hh;exact zqG h (zqs hi.fs h.fs hf (zku hi.fs pb z3) hh z2) (Ak _) (fun x hx=>by rw[(hg _).1];exact (hi.apart x hx).1) fun m hmm=>⟨by rw[(hg _).1];exact hmm,(hg _).2⟩
  rw[if_neg h5];by_cases h6:o.kind=6
  ·rw[if_pos h6];have pb:=p2 (by rw[h6];rfl);unfold JN;by_cases z1:(isV w.fs o.a true).2.2≠0
   ·rw[if_pos z1];exact h
   rw[if_neg z1];by_cases z3:(isV w.fs o.b false).2.2≠0
   ·rw[if_pos z3];exact h
   rw[if_neg z3];have z1:=Ww.1 z1;have z3:=Ww.1 z3;have ht:=(jB hi.fs p1 z1).1;have hf:=JZ hi.fs pb z3;have hg:=Zj hi.fs ht hf;refine zqG h (zqg hi.fs h.fs ht hf (zku hi.fs pb z3) fun hk=>zcV hi.fs h.fs p1 pb z1 z3 (m3 h6) hk) ?_ (fun x hx=>by rw[(hg _).1];exact (hi.apart x hx).1) fun m hmm=>⟨by rw[(hg _).1];exact hmm,(hg _).2⟩;unfold jx;simp only;split<;>exact Ak _
  rw[if_neg h6];have h7:o.kind=7:=by omega
  obtain ⟨q1,q2⟩:=m1 (by rw[h7];rfl);unfold qM;simp only;by_cases z1:(isV w.fs o.a true).2.2≠0
  ·rw[if_pos z1];exact h
  rw[if_neg z1];obtain ⟨ht,hn⟩:=jB hi.fs p1 (Ww.1 z1);by_cases z2:(isV w.fs o.a true).2.1.es≠[]
  ·rw[if_pos z2];exact h
  rw[if_neg z2];exact zqf hi h q1 q2 ht (by rw[←hn];exact Ww.1 z2)
theorem kD (w:qN) (p:Lz) (k:Int) (t:Lz):(Vc w p k t).1.fs.next<=w.fs.next+1:=by
 unfold Vc;split
 ·show w.fs.next<=_;omega
 ·show (zcL w.fs (isV w.fs p false).1 k t).1.next<=_;rcases Qw w.fs (isV w.fs p false).1 k t with e | e
  ·rw[e];omega
  ·rw[e];exact Ak _
theorem zld (w:qN) (o:OpV):(doV w o).1.fs.next<=w.fs.next+1:=by
 have h0:w.fs.next<=w.fs.next+1:=by omega
 unfold doV;split
 ·exact h0
 split
 ·exact kD ..
 split
 ·unfold Vk;split
  ·exact h0
  ·exact kD ..
 split
 ·unfold Qj;split
  ·exact h0
  split
  ·exact h0
  split
  ·exact h0
  split
  ·exact h0
  split
  ·exact h0
  ·show (kO w.fs _ _).1.next<=_;unfold kO;split<;>exact h0
 split
 ·exact kD ..
 split
 ·unfold Vw;simp only;split
  ·exact h0
  split
  ·exact h0
  split
  ·exact h0
  ·exact h0
 split
 ·unfold JN;split
  ·exact h0
  split
  ·exact h0
  ·show (jx w.fs _ _).next<=_;unfold jx;simp only;split<;>exact h0
 ·unfold qM;simp only;split
  ·exact h0
  split
  ·exact h0
  ·unfold JT;split
   ·exact h0
   ·show (zp w.fs _).next<=_;rw[Yq];exact h0
end
section
inductive zjQ (w:qN):List OpV->qN->Prop
 | nil:zjQ w [] w
 | snoc {l:List OpV} {v:qN} {o:OpV}:zjQ w l v->(doV v o).2=0->zjQ w (l++[o]) (doV v o).1
structure zsO (w:qN) (d:zY):Prop where
 run:zjQ w d.ops d.w
 may:∀ o∈d.ops,kY o=true/\o.kind<=7
 rise:(zki d.ops).Pairwise (· < ·)
 over:∀ s∈zki d.ops,Ja w.kept<s/\s<=d.slot
 last:Ja w.kept<=d.slot
 stat:(d.status=1)↔d.diags≠[]
 right:yw d.w
end
section
theorem zdd (hi:FsI f) {ns:List Lz} {y:Int} (h:J9 f.xs ns y):∃ d nm,∀ r,atW f.xs (ns++r) ⟨0,[],1⟩=atW f.xs r ⟨d,nm,y⟩:=by
 induction h with
 | root=>exact ⟨0,[],fun r=>rfl⟩
 | step h1 h2 h3 h4 ih =>
  rename_i ns y n m;obtain ⟨d,nm,ih⟩:=ih;refine ⟨y,m,fun r=>?_⟩;rw[WE,ih];show atW f.xs (m :: r) ⟨d,nm,y⟩=_;have hne:y≠0:=XE hi h2;have e1:(zf y f.xs).ino=y:=(zj h2).2.2;have e2:zK m (zf y f.xs).es=n:=by unfold zK;rw[h4]
  rw[atW,if_neg hne,if_neg (fun q=>q h3),e1,e2]
theorem xq {f:FsV} (h:okM f):∀ (m:Nat) (n:Int) (ns:List Lz),J9 f.xs ns n->∀ p∈qR f.xs m n ns,J9 f.xs p.1 p.2.ino
 | 0,n,ns,hl,p,hp=>by unfold qR at hp;cases hp
 | m+1,n,ns,hl,p,hp=>by
  unfold qR at hp;split at hp
  ·rename_i hh;rcases WK.1 hp with rfl | hp
   ·show J9 f.xs ns (zf n f.xs).ino;rw[(zj hh).2.2];exact hl
   ·obtain ⟨e,he,hp⟩:=At.1 hp;have hi:=Zr h.2;refine xq h m e.ino _ (.step hl hh (VW h hh he) ?_) p hp;have hR:=hi.es _ (zj hh).2.1;have hx:Yb e.name (zf n f.xs).es=true:=by
     unfold Yb JB;rw[Ou];exact ⟨e,he,by simp⟩
    have h2:=Yw hx;have h3:=zS h2;have:(⟨e.name,zK e.name (zf n f.xs).es⟩:zO)=e:=by
     obtain ⟨i,hi',ei⟩:=WD h3.2;obtain ⟨j,hj',ej⟩:=WD he;have hp:=WQ.1 hR;rcases Ai i j with q | q | q
     ·have:=hp i j hi' hj' q;rw[ei,ej]at this;exact absurd this (by show ¬Op.bytesLess e.name e.name=true;rw[Z2];simp)
     ·subst q;rw[←ei,ej]
     ·have:=hp j i hj' hi' q;rw[ei,ej]at this;exact absurd this (by show ¬Op.bytesLess e.name e.name=true;rw[Z2];simp)
    rw[h2];have e2:zK e.name (zf n f.xs).es=e.ino:=Wu zO.ino this;rw[e2]
  ·cases hp
theorem Nh (h:okM f) {n:Int} (hh:zk n f.xs=true) (hk:(zf n f.xs).kind=2):∃ ns,(∀ z∈ns,may z=true)/\UU n (trV f.xs 1 [])=some (qq ns)/\J9 f.xs ns n:=by
 obtain ⟨h0,h1,_⟩:=qH h;have hkk:∀ p∈trV f.xs 1 [],p.2.ino=n->p.2.kind=2:=fun p hp hpn=>by
  obtain ⟨_,q⟩:=kK hp;rw[hpn]at q;rw[←q];exact hk
 obtain ⟨p,hp⟩:=Uv (Y4 h _ 1 [] h1.2.2.2.2.2.2.2.1) hkk (zgJ h hh);obtain ⟨q,q1,q2⟩:=Mu h hh hk;have hq:QN n (trV f.xs 1 []) = [qq p.1]:=by unfold QN;rw[hp];rfl
 rw[hq]at q1;have hqe:qq p.1=q:=by simpa using q1
 have hpf:p∈(trV f.xs 1 []).filter (fun p=>decide (p.2.ino=n)):=by rw[hp];exact WY.2 rfl
 obtain ⟨hpm,hpn⟩:=Ov.1 hpf;obtain ⟨zs,z1,z2⟩:=GY (ko h).1 _ 1 [] p hpm;rw[OV]at z1;rw[←z1]at z2;have hl:=xq h _ 1 [] .root p hpm;have hpn:p.2.ino=n:=by simpa using hpn
 rw[hpn]at hl;exact ⟨p.1,z2,by rw[q2,hqe],hl⟩
theorem U9 (hi:FsI f) {ns:List Lz} {n:Int} (hl:J9 f.xs ns n) (hh:zk n f.xs=true) (hk:(zf n f.xs).kind=2) (hn:∀ z∈ns,may z=true) {m:Lz} (hm:may m=true):qm (qq (ns++[m]))=true/\atV f (qq (ns++[m]))=(⟨n,m,zK m (zf n f.xs).es⟩,0):=by
 have hall:∀ z∈ns++[m],may z=true:=fun z hz=>by
  rcases Wz.1 hz with hz | hz
  ·exact hn z hz
  ·rw[WY.1 hz];exact hm
 have hnm:=Xw (ns++[m]) fun z hz=>j8 (hall z hz);have hp:jE (qq (ns++[m]))=true:=by
  unfold jE;rw[hnm,Wn rfl,Or,Wt];exact hall
 refine ⟨by unfold qm;rw[hp,hnm];simp,?_⟩;unfold atV;rw[if_pos hp,hnm];obtain ⟨d,nm,hw⟩:=zdd hi hl;rw[hw];have hne:n≠0:=XE hi hh;rw[atW,if_neg hne,if_neg (fun q=>q hk),(zj hh).2.2]
 rfl
theorem Zm (h:okM f) {s:zH} (hh:zk s.dir f.xs=true) (hk:(zf s.dir f.xs).kind=2) (hm:may s.name=true):qm (zV f s)=true/\atV f (zV f s)=(⟨s.dir,s.name,zK s.name (zf s.dir f.xs).es⟩,0):=by
 obtain ⟨ns,n1,n2,n3⟩:=Nh h hh hk;have e:zV f s=qq (ns++[s.name]):=by
  unfold zV;rw[n2,WS,Y5 ns s.name fun y hy=>(j8 (n1 y hy)).1]
 rw[e];exact U9 (Zr h.2) n3 hh hk n1 hm
end
section
def HC (p:Lz):OpV:=⟨7,0,p,[],[]⟩
structure zsA (f g:FsV):Prop where
 es:∀ n e,e∈(zf n g.xs).es->e∈(zf n f.xs).es
 has:∀ n,zk n g.xs=true->zk n f.xs=true/\(zf n g.xs).kind=(zf n f.xs).kind
def zrU (f g:FsV) (n d:Int):Prop:=∀ y,zk y f.xs=true->(zf y f.xs).kind=2->y≠d->¬Bel f.xs n y->zk y g.xs=true/\(zf y g.xs).kind=2/\(zf y g.xs).es=(zf y f.xs).es
theorem zdq (hi:FsI f) {s:zH} (hs:zu f s) (he:(zf s.ino f.xs).es = []):zsA f (zp f s)/\zrU f (zp f s) s.ino s.dir/\zk s.dir (zp f s).xs=true/\(zf s.dir (zp f s).xs).kind=2/\(zf s.dir (zp f s).xs).es=zi s.name (zf s.dir f.xs).es:=by
 have hh:=zu.ino hi hs;have hx:=zj hh;have hd:=zj hs.has;have hne:s.dir≠s.ino:=fun e=>by
  have:=(zS hs.there).2;rw[e,he]at this;cases this
 have hhas:=Qy hs.has hh
 -- what is there behind it
 have hgot:∀ m,zk m (zp f s).xs=true->(zf m (zp f s).xs).kind=(zf m f.xs).kind/\(zf m (zp f s).xs).es=if m=s.dir then zi s.name (zf s.dir f.xs).es else (zf m f.xs).es:=fun m hm=>by
  unfold zp at hm ⊢;by_cases hl:(zf s.ino f.xs).links-1=0
  ·rw[if_pos hl]at hm ⊢;have hm:zk m (qc _ _)=true:=hm;show (zf m (qc _ _)).kind=_/\(zf m (qc _ _)).es=_;rw[YT]at hm;have hmn:m≠s.ino:=fun e=>by rw[e]at hm;simp at hm
   rw[Zx,if_neg hmn,jI hs.has];by_cases q:s.dir=m
   ·rw[if_pos q,if_pos q.symm];subst q;exact ⟨rfl,rfl⟩
   ·rw[if_neg q,if_neg fun e=>q e.symm];exact ⟨rfl,rfl⟩
  ·rw[if_neg hl];show (zf m (qp _ _)).kind=_/\(zf m (qp _ _)).es=_;rw[qD];split
   ·rename_i e;have e:(zf s.ino f.xs).ino=m:=e;rw[hx.2.2]at e;subst e;rw[if_neg fun e=>hne e.symm];exact ⟨rfl,rfl⟩
   ·rw[jI hs.has];by_cases q:s.dir=m
    ·rw[if_pos q,if_pos q.symm];subst q;exact ⟨rfl,rfl⟩
    ·rw[if_neg q,if_neg fun e=>q e.symm];exact ⟨rfl,rfl⟩
 have hsub:∀ m,zk m (zp f s).xs=true->zk m f.xs=true:=fun m hm=>by
  rw[hhas]at hm;split at hm
  ·rw[Wp]at hm;exact hm.2
  ·exact hm
 have hstay:∀ m,zk m f.xs=true->m≠s.ino->zk m (zp f s).xs=true:=fun m hm hn=>by
  rw[hhas];split
  ·rw[hm,Wj hn];rfl
  ·exact hm
 refine ⟨⟨fun n e hee=>?_,fun n hn=>⟨hsub n hn,(hgot n hn).1⟩⟩,fun y y1 y2 y3 y4=>?_,hstay _ hs.has hne,?_,?_⟩
 ·cases hn:zk n (zp f s).xs with
  | false=>rw[(j4 hn).2]at hee;cases hee
  | true =>
   rw[(hgot n hn).2]at hee;split at hee
   ·subst_vars;exact (qE hee).1
   ·exact hee
 ·have hyn:y≠s.ino:=fun e=>y4 (by rw[e];exact .refl);have h1:=hstay y y1 hyn;obtain ⟨q1,q2⟩:=hgot y h1;rw[if_neg y3]at q2;exact ⟨h1,q1.trans y2,q2⟩
 ·rw[(hgot _ (hstay _ hs.has hne)).1];exact hs.kind
 ·rw[(hgot _ (hstay _ hs.has hne)).2,if_pos rfl]
end
section
open CA CB
open Go.RowKit
theorem zlU (w:qN) (hw:Uh w) (hs:zkF w) (s:Int) (a:Lz) (ha:a.length<=1000000):Fun Tryz.prog GD 129 [Q7 w,.agg (opL ⟨7,s,a,[],[]⟩)] (.tup [Q7 (doV w ⟨7,s,a,[],[]⟩).1,.sc (.int .i64 (doV w ⟨7,s,a,[],[]⟩).2)]) 0:=by
 have ho:zaz ⟨7,s,a,[],[]⟩:=⟨ha,Wd _,Wd _⟩;have hop:=(NV 7 s a [] [] ho).gd1;cases hm:kY ⟨7,s,a,[],[]⟩ with
 | false =>
  have e:doV w ⟨7,s,a,[],[]⟩=(w,12):=by unfold doV;rw[hm];rfl
  rw[hm]at hop;rw[e];unfold opL qZ at hop;unfold opL;refine fof (fun i=>if i=3 then [false,false,false,false,false,false,false,false,false,true] else []) Tryz.func129 ?_;dsimp only[Tryz.f129];push_cast;refine cl hop ?_;push_cast;exact dn
 | true =>
  obtain ⟨p1,_⟩:=YV hm;have e:doV w ⟨7,s,a,[],[]⟩=qM w ⟨7,s,a,[],[]⟩:=by unfold doV;rw[hm];rfl
  have hq:Fun Tryz.prog GD 213 _ _ 0:=(zdZ w hw hs ⟨7,s,a,[],[]⟩ ho p1).g0;rw[hm]at hop;rw[e];unfold opL qZ at hop;unfold opL at hq ⊢;refine fof (fun i=>if i=3 then [false,false,false,false,false,false,false,false,false,true] else []) Tryz.func129 ?_;dsimp only[Tryz.f129];push_cast;refine cl hop ?_;push_cast;refine cl (xz (G:=GD)) ?_;push_cast [zi5,kL,reduceIte,Int.reduceEq,WJ,Oo];refine cl hq ?_;push_cast;exact dn
theorem zou (d:zY) (hd:uH d) (p:Lz) (hp:p.length<=1000000):Fun Tryz.prog GD 75 [HV d,.agg (opL (HC p))] (.tup [HV (Xp d (HC p)).1,.sc (.int .i64 (Xp d (HC p)).2)]) 0:=by
 have hsl:=VQ (G:=GD) ⟨7,0,p,[],[]⟩;rw[Wn (show (7:Int)=3∨(7:Int)=7 by decide)]at hsl;have hb1:=hd.slot.1;have hb2:=hd.slot.2;have hopl:(d.ops.map opL).length=d.ops.length:=We ..;have hol:=hd.ops;have hl5:∀ l:List OpV,∀ r∈l.map opL,r.length=5:=fun l r hr=>by obtain ⟨x,_,rfl⟩:=WP.1 hr;rfl
 have hst:∀ l:List OpV,jn (l.map opL):=fun l r hr=>by obtain ⟨x,_,rfl⟩:=WP.1 hr;rfl
 have hX:=NU (G:=GD) (d.ops.map opL) (([⟨7,d.slot+1,p,[],[]⟩]:List OpV).map opL) (hl5 _) (hl5 _) (hst _) (hst _) (by omega) (by simp) (by simp);rw[←Oa]at hX;have hc:=(hX.fun (r:=.own 0 79 5 ((d.ops++([⟨7,d.slot+1,p,[],[]⟩]:List OpV)).map opL)) (n:=1) (by
  rintro r bx m ⟨rfl,c,B,hB,rfl,rfl⟩;exact ⟨[(0,79,5,(d.ops++([⟨7,d.slot+1,p,[],[]⟩]:List OpV)).map opL,c)],[.inl 0],hB.ok rfl (by simp) (hl5 _),rfl,rfl,by push_cast [ze,zd,CLe,zg,We]⟩)).weak (r':=.sl 5 ((d.ops++([⟨7,d.slot+1,p,[],[]⟩]:List OpV)).map opL)) (by push_cast [ze,zd,CLe,zg])
 have hdo:=zlU d.w hd.wi hd.ws (d.slot+1) p hp;have ea:Xp d (HC p)=if (doV d.w ⟨7,d.slot+1,p,[],[]⟩).2≠0 then (d,(doV d.w ⟨7,d.slot+1,p,[],[]⟩).2) else (⟨(doV d.w ⟨7,d.slot+1,p,[],[]⟩).1,d.ops++[⟨7,d.slot+1,p,[],[]⟩],d.diags,d.status,if 0<d.slot+1 then d.slot+1 else d.slot⟩,0):=by
  unfold Xp;rw[if_neg (show ¬7<(HC p).kind by show ¬(7:Int)<7;decide),show Q5 d (HC p)=⟨7,d.slot+1,p,[],[]⟩ from rfl]
 have hmx:(if d.slot+1>d.slot then d.slot+1 else d.slot)=d.slot+1:=if_pos (by omega);unfold opL at hsl hdo;rw[show opL (HC p) = [.sc (.int .i64 7),.sc (.int .i64 0),.str p,.str [],.str []] from rfl];by_cases hz:(doV d.w ⟨7,d.slot+1,p,[],[]⟩).2=0
 ·rw[ea,if_neg (fun h=>h hz),if_pos (show 0<d.slot+1 by omega)];rw[hz]at hdo;simp only[WC,Oi,zqd]at hc;refine fon Tryz.func75 ?_;dsimp only[Tryz.f75];push_cast;refine cl hsl ?_;push_cast
  repeat refine an ?_
  push_cast;refine cl hdo ?_;push_cast;refine cl hc ?_;push_cast [hmx];exact dn
 ·have hz':=WH hz;rw[ea,if_pos hz];refine fon Tryz.func75 ?_;dsimp only[Tryz.f75];push_cast;refine cl hsl ?_;push_cast
  repeat refine an ?_
  push_cast;refine cl hdo ?_;push_cast [hz'];exact dn
end
section
abbrev Xe:=List Lz
def onL (f:FsV) (follow:Bool) (lk:zl->zl->Xe->Bool->zH×Int):Xe->zH->Bool->zH×Int
 | [],s,dir=>if zk s.ino f.xs=true/\dir=true/\(zf s.ino f.xs).kind≠2 then (jb,3) else (s,0)
 | n :: r,s,dir =>
  if s.ino=0 then (jb,1)
  else if (zf s.ino f.xs).kind≠2 then (jb,3)
  else if n = [46] then onL f follow lk r ⟨0,[],(zf s.ino f.xs).ino⟩ dir
  else if n = [46,46] then onL f follow lk r ⟨0,[],(zf s.ino f.xs).parent⟩ dir
  else if Yb n (zf s.ino f.xs).es=false∨(zf (zK n (zf s.ino f.xs).es) f.xs).kind≠3∨(r = []/\follow=false/\dir=false) then
   onL f follow lk r ⟨(zf s.ino f.xs).ino,n,zK n (zf s.ino f.xs).es⟩ dir
  else lk (zf (zK n (zf s.ino f.xs).es) f.xs) (zf s.ino f.xs) r dir
def jm (p:Lz):Bool:=!decide (zn p = [])&&Lib.hasSuffix p [47]
def xG (p:Lz):Bool:=Lib.hasPrefix p [47]
def onN (f:FsV) (follow:Bool):Nat->Xe->zH->Bool->zH×Int
 | 0=>onL f follow fun _ _ _ _=>(jb,6)
 | k+1=>onL f follow fun x d r dir=>if Zw x.data then (jb,7) else onN f follow k (zn x.data++r) ⟨0,[],if xG x.data then 1 else d.ino⟩ (dir||(jm x.data&&decide (r = [])))
def QE (f:FsV) (b:Lz):Int×Int:=
 if (atV f b).2≠0 then (0,(atV f b).2) else if (atV f b).1.ino=0 then (0,1) else if (zf (atV f b).1.ino f.xs).kind≠2 then (0,3) else ((zf (atV f b).1.ino f.xs).ino,0)
def jl (f:FsV) (p:Lz):zl×Int:=if (atV f p).2≠0 then (Nt,(atV f p).2) else if (atV f p).1.ino=0 then (Nt,1) else (zf (atV f p).1.ino f.xs,0)
def zL (f:FsV) (b p:Lz) (follow:Bool):zH×Int:=
 if p = [] then (jb,1) else if Zw p then (jb,7)
 else if xG p then onN f follow 40 (zn p) ⟨0,[],1⟩ (jm p)
 else if (QE f b).2≠0 then (jb,(QE f b).2) else onN f follow 40 (zn p) ⟨0,[],(QE f b).1⟩ (jm p)
def zb6 (f:FsV) (s:zH):Prop:=s.name = []∨(zk s.dir f.xs=true/\(zf s.dir f.xs).kind=2/\s.ino=zK s.name (zf s.dir f.xs).es)
theorem ZZ (h:(zf n xs).kind=2):zk n xs=true:=by
 cases hh:zk n xs with
 | true=>rfl
 | false=>rw[(j4 hh).2]at h;exact absurd h (by decide)
theorem kG {f:FsV} {P:zH->Prop} {Q:Int->Prop} (hp:∀ m,Q m->P ⟨0,[],m⟩) (hq:∀ m,(zf m f.xs).kind=2->Q m/\Q (zf m f.xs).parent) (hn:∀ m n,(zf m f.xs).kind=2->P ⟨m,n,zK n (zf m f.xs).es⟩)
  {follow:Bool} {lk:zl->zl->Xe->Bool->zH×Int} (hl:∀ x m r dir,(zf m f.xs).kind=2->(lk x (zf m f.xs) r dir).2=0->P (lk x (zf m f.xs) r dir).1):∀ (l:Xe) (s:zH) (dir:Bool),P s->(onL f follow lk l s dir).2=0->P (onL f follow lk l s dir).1
 | [],s,dir,hs,h=>by
  unfold onL at h ⊢;split at h
  ·exact absurd h (show ¬(3:Int)=0 by decide)
  ·rename_i hn;rw[if_neg hn];exact hs
 | n :: r,s,dir,hs,h=>by
  unfold onL at h ⊢;by_cases h1:s.ino=0
  ·rw[if_pos h1]at h;exact absurd h (show ¬(1:Int)=0 by decide)
  rw[if_neg h1]at h ⊢;by_cases h2:(zf s.ino f.xs).kind=2
  case neg=>rw[if_pos h2]at h;exact absurd h (show ¬(3:Int)=0 by decide)
  rw[if_neg (fun q=>q h2)]at h ⊢;have e:=(zj (ZZ h2)).2.2;by_cases h3:n = [46]
  ·rw[if_pos h3]at h ⊢;exact kG hp hq hn hl r _ dir (by rw[e];exact hp _ (hq _ h2).1) h
  rw[if_neg h3]at h ⊢;by_cases h4:n = [46,46]
  ·rw[if_pos h4]at h ⊢;exact kG hp hq hn hl r _ dir (hp _ (hq _ h2).2) h
  rw[if_neg h4]at h ⊢;split at h
  ·rename_i h5;rw[if_pos h5];exact kG hp hq hn hl r _ dir (by rw[e];exact hn _ _ h2) h
  ·rename_i h5;rw[if_neg h5];exact hl _ _ _ _ h2 h
theorem yL {f:FsV} {P:zH->Prop} {Q:Int->Prop} (hp:∀ m,Q m->P ⟨0,[],m⟩) (h1:Q 1) (hq:∀ m,(zf m f.xs).kind=2->Q m/\Q (zf m f.xs).parent) (hn:∀ m n,(zf m f.xs).kind=2->P ⟨m,n,zK n (zf m f.xs).es⟩) {follow:Bool}:∀ (k:Nat) (l:Xe) (s:zH) (dir:Bool),P s->(onN f follow k l s dir).2=0->P (onN f follow k l s dir).1
 | 0,l,s,dir,hs,h=>kG hp hq hn (fun _ _ _ _ _ h=>absurd h (show ¬(6:Int)=0 by decide)) l s dir hs h
 | k+1,l,s,dir,hs,h=>kG hp hq hn (fun x m r dir h2 h=>by
   split at h
   ·exact absurd h (show ¬(7:Int)=0 by decide)
   ·rename_i hg;rw[if_neg hg];refine yL hp h1 hq hn k _ _ _ (hp _ ?_) h;split
    ·exact h1
    ·rw[(zj (ZZ h2)).2.2];exact (hq _ h2).1) l s dir hs h
theorem zhT {P:zH->Prop} {Q:Int->Prop} (hp:∀ m,Q m->P ⟨0,[],m⟩) (h1:Q 1) (hq:∀ m,(zf m f.xs).kind=2->Q m/\Q (zf m f.xs).parent) (hn:∀ m n,(zf m f.xs).kind=2->P ⟨m,n,zK n (zf m f.xs).es⟩) {b p:Lz} {follow:Bool} (h:(zL f b p follow).2=0):P (zL f b p follow).1:=by
 unfold zL at h ⊢;by_cases a:p = []
 ·rw[if_pos a]at h;exact absurd h (show ¬(1:Int)=0 by decide)
 rw[if_neg a]at h ⊢;by_cases c:Zw p=true
 ·rw[if_pos c]at h;exact absurd h (show ¬(7:Int)=0 by decide)
 rw[if_neg c]at h ⊢;by_cases e:xG p=true
 ·rw[if_pos e]at h ⊢;exact yL hp h1 hq hn _ _ _ _ (hp _ h1) h
 rw[if_neg e]at h ⊢;by_cases g:(QE f b).2≠0
 ·rw[if_pos g]at h;exact absurd h g
 rw[if_neg g]at h ⊢;refine yL hp h1 hq hn _ _ _ _ (hp _ ?_) h;have g:=Ww.1 g;unfold QE at g ⊢;by_cases i:(atV f b).2≠0
 ·rw[if_pos i]at g;exact absurd g i
 rw[if_neg i]at g ⊢;by_cases j:(atV f b).1.ino=0
 ·rw[if_pos j]at g;exact absurd g (show ¬(1:Int)=0 by decide)
 rw[if_neg j]at g ⊢;by_cases k:(zf (atV f b).1.ino f.xs).kind=2
 ·rw[if_neg (fun q=>q k)];show Q (zf _ f.xs).ino;rw[(zj (ZZ k)).2.2];exact (hq _ k).1
 ·rw[if_pos k]at g;exact absurd g (show ¬(3:Int)=0 by decide)
theorem xe {p:Lz} {follow:Bool} (h:(zL f b p follow).2=0):zb6 f (zL f b p follow).1:=
 zhT (P:=zb6 f) (Q:=fun _=>True) (fun _ _=>.inl rfl) trivial (fun _ _=>⟨trivial,trivial⟩) (fun m n h=>.inr ⟨ZZ h,h,rfl⟩) h
def lkN (f:FsV) (follow:Bool):Nat->zl->zl->Xe->Bool->zH×Int
 | 0=>fun _ _ _ _=>(jb,6)
 | k+1=>fun x d r dir=>if Zw x.data then (jb,7) else onN f follow k (zn x.data++r) ⟨0,[],if xG x.data then 1 else d.ino⟩ (dir||(jm x.data&&decide (r = [])))
theorem Ht (f:FsV) (follow:Bool) (k:Nat):onN f follow k=onL f follow (lkN f follow k):=by cases k<;>rfl
theorem Qu (f:FsV) (follow:Bool) (k:Nat) (x d:zl) (r:Xe) (dir:Bool):lkN f follow (k+1) x d r dir=if Zw x.data then (jb,7) else onN f follow k (zn x.data++r) ⟨0,[],if xG x.data then 1 else d.ino⟩ (dir||(jm x.data&&decide (r = []))):=rfl
end
section
open Go.RowKit
section
variable {G:zr}
end
end
section
open Go.RowKit
theorem XW {f:FsV} (hs:FsS f) {follow:Bool} {lk:zl->zl->Xe->Bool->zH×Int} (hl:∀ x d r dir,x.data.length<=10000->(∀ y∈r,y.length<=100000)->(lk x d r dir).1.name.length<=100000):∀ (l:Xe) (s:zH) (dir:Bool),(∀ y∈l,y.length<=100000)->s.name.length<=100000->(onL f follow lk l s dir).1.name.length<=100000
 | [],s,dir,hy,h=>by
  unfold onL;split
  ·exact Wd _
  ·exact h
 | n :: r,s,dir,hy,h=>by
  have hr:∀ y∈r,y.length<=100000:=fun y q=>hy y (Wl _ q);unfold onL;split
  ·exact Wd _
  split
  ·exact Wd _
  split
  ·exact XW hs hl r _ dir hr (Wd _)
  split
  ·exact XW hs hl r _ dir hr (Wd _)
  split
  ·exact XW hs hl r _ dir hr (hy n Wi)
  ·rename_i hq;refine hl _ _ _ _ ?_ hr;have hk3:(zf (zK n (zf s.ino f.xs).es) f.xs).kind=3:=Ww.1 fun q=>hq (.inr (.inl q));have hhx:zk (zK n (zf s.ino f.xs).es) f.xs=true:=by
    cases hq2:zk (zK n (zf s.ino f.xs).es) f.xs with
    | true=>rfl
    | false=>rw[(j4 hq2).2]at hk3;exact absurd hk3 (by decide)
   exact (hs.node _ (zj hhx).2.1).2.1
theorem UI {f:FsV} (hs:FsS f) {follow:Bool}:∀ (k:Nat) (l:Xe) (s:zH) (dir:Bool),(∀ y∈l,y.length<=100000)->s.name.length<=100000->(onN f follow k l s dir).1.name.length<=100000
 | 0,l,s,dir,hy,h=>XW hs (fun _ _ _ _ _ _=>Wd _) l s dir hy h
 | k+1,l,s,dir,hy,h=>XW hs (fun x d r dir hx hr=>by
   split
   ·exact Wd _
   ·refine UI hs k _ _ _ (fun y q=>?_) (Wd _);rcases Wz.1 q with q | q
    ·have:=(X3 x.data).2 y q;omega
    ·exact hr y q) l s dir hy h
theorem zbm (hs:FsS f) (b p:Lz) (follow:Bool) (hp:p.length<=100000):(zL f b p follow).1.name.length<=100000:=by
 have hn:∀ y∈zn p,y.length<=100000:=fun y q=>by have:=(X3 p).2 y q;omega
 unfold zL;split
 ·exact Wd _
 split
 ·exact Wd _
 split
 ·exact UI hs _ _ _ _ hn (Wd _)
 split
 ·exact Wd _
 ·exact UI hs _ _ _ _ hn (Wd _)
def Ug (x:zl):Bool:=decide (x.kind=3)&&decide (300<(x.data.length:Int))
def ZJ (f:FsV) (b p:Lz):Bool:=!((f.xs.take 100).any Ug)&&decide ((b.length:Int)<=1000)&&decide ((p.length:Int)<=5000)
theorem zb7 (f:FsV) (b p:Lz):Fun Tryz.prog G0 36 [.agg (fsC f),.str b,.str p] (qZ (ZJ f b p)) 0:=by
 have hll:(zx f.xs).length=f.xs.length:=We ..;refine fon Tryz.func36 ?_;dsimp only[Tryz.f36];push_cast;refine loop (fun i:Nat=>⟨[(1,.str b),(2,.str p),(3,.ptr 0 0),(7,.sc (.int .i64 i))],[fsC f],0,0⟩) (fun i=>i<=100/\∀ t (h:t<f.xs.length),t<i->Ug f.xs[t]=false) (fun i=>100-i) 0 ⟨Wd _,fun t h h'=>absurd h' (OD _)⟩ ?_ ?_
 ·exact wk
 ·rintro i ⟨h1,h2⟩;have hend:¬(i<f.xs.length/\i<100)->(f.xs.take 100).any Ug=false:=fun h=>by
   rw[Ob];intro x hx;obtain ⟨t,ht,rfl⟩:=WD hx;rw[W5]at ht;rw[List.getElem_take,h2 t (by omega) (by omega)];decide
  have stop:¬(i<f.xs.length/\i<100)->(decide ((b.length:Int)<=1000)&&decide ((p.length:Int)<=5000))=ZJ f b p:=fun h=>by
   unfold ZJ;rw[hend h];rfl
  by_cases h:i<f.xs.length
  ·by_cases h100:i<100
   ·have g1:=jt f.xs i h;have h100':(i:Int)<100:=by omega
    have hm:f.xs[i]∈f.xs.take 100:=by
     rw[AD];exact ⟨i,by omega,rfl⟩
    have next:Ug f.xs[i]=false->∀ t (h:t<f.xs.length),t<i+1->Ug f.xs[t]=false:=fun q t ht hlt=>by
     rcases Wq t i with r | r
     ·exact h2 t ht r
     ·have:t=i:=by omega
      subst this;exact q
    by_cases hk:f.xs[i].kind=3
    ·by_cases hd:300<(f.xs[i].data.length:Int)
     ·have hn:ZJ f b p=false:=by
       have:(f.xs.take 100).any Ug=true:=Ou.2 ⟨_,hm,by unfold Ug;rw[Wn hk,Wn hd];rfl⟩;unfold ZJ;rw[this];rfl
      push_cast [hll,h,h100',g1,hk,hd]
      repeat refine an ?_
      exact dn (by push_cast [ze,zd,CLe,zg,hn])
     ·have hq:Ug f.xs[i]=false:=by unfold Ug;rw[Wj hd,O6]
      push_cast [hll,h,h100',g1,hk,hd]
      repeat refine an ?_
      exact ⟨i+1,⟨by omega,next hq⟩,by omega,wk⟩
    ·have hq:Ug f.xs[i]=false:=by unfold Ug;rw[Wj hk,W8]
     push_cast [hll,h,h100',g1,hk]
     repeat refine an ?_
     exact ⟨i+1,⟨by omega,next hq⟩,by omega,wk⟩
   ·have h100':((i:Int)<100)=False:=WH (by omega);have:=(stop (by omega)).symm;by_cases hb:(b.length:Int)<=1000
    ·rw[Wn hb,Or]at this;push_cast [hll,h,h100',hb];exact dn (by push_cast [ze,zd,CLe,zg,this])
    ·rw[Wj hb,W8]at this;push_cast [hll,h,h100',hb];exact dn (by push_cast [ze,zd,CLe,zg,this])
  ·have:=(stop (by omega)).symm;by_cases hb:(b.length:Int)<=1000
   ·rw[Wn hb,Or]at this;push_cast [hll,h,hb];exact dn (by push_cast [ze,zd,CLe,zg,this])
   ·rw[Wj hb,W8]at this;push_cast [hll,h,hb];exact dn (by push_cast [ze,zd,CLe,zg,this])
end
section
theorem zmZ (hi:FsI f) (hr:FsR f) {n:Int} (hh:zk n f.xs=true) (hk:(zf n f.xs).kind=2):zk (zf n f.xs).parent f.xs=true:=by
 have g:=zj hh;by_cases h1:n=1
 ·rw[(hr.node _ g.2.1).top (by rw[g.2.2];exact h1)];exact hi.root
 ·have hl:=(hr.node _ g.2.1).named (by rw[g.2.2];exact h1);rw[FsR.links hi g.2.1,g.2.2]at hl;obtain ⟨p,hp⟩:=zap (n:=n) (l:=qk f.xs) (by omega);obtain ⟨y,hy,e,he,q1,q2⟩:=Vs.1 hp;obtain ⟨rk,hed⟩:=hr.edge;have:=(hed y hy e he (by rw[q1];exact hk)).1;rw[q1]at this;rw[this];exact J6 hy
end
section
def Hm (xs:List zl):Prop:=∀ x∈xs,x.kind=3->x.data.length<=1000
theorem H9 (h:Hm xs) (n:Int):(zf n xs).kind=3->(zf n xs).data.length<=1000:=fun hk=>by
 cases hh:zk n xs with
 | true=>exact h _ (zj hh).2.1 hk
 | false=>rw[(j4 hh).2]at hk;exact absurd hk (by decide)
theorem kP {x:zl} (h:Hm xs) (hx:x.kind=3->x.data.length<=1000):Hm (qp x xs):=fun z hz hk=>by
 rcases zmq hz with rfl | hz
 ·exact hx hk
 ·exact h z hz hk
theorem xQ (h:zk n xs=false):zf n xs=Nt:=by unfold zf;rw[(j4 h).1];rfl
end
section
theorem ki (h:Hm xs) (n:Int) (F:List zO->List zO):Hm (ql n F xs):=kP h (H9 h n)
theorem GL (h:Hm w.fs.xs) {p:Lz} {k:Int} {t:Lz} (ht:k=3->t.length<=1000):Hm (Vc w p k t).1.fs.xs:=by
 unfold Vc;split
 ·exact h
 ·show Hm (zcL _ _ _ _).1.xs;rcases Qw w.fs (isV w.fs p false).1 k t with e | e
  ·rw[e];exact h
  ·rw[e];exact kP (ki h _ _) ht
theorem zbs (s:zH) (h:Hm f.xs):Hm (zp f s).xs:=by
 have hd:Hm (ql s.dir (zi s.name) f.xs):=ki h _ _;unfold zp;split
 ·exact fun z hz hk=>hd z (Y7.1 hz).1 hk
 ·exact kP hd (H9 h s.ino)
theorem ziV (a b:zH) (h:Hm f.xs):Hm (jx f a b).xs:=by
 have hd:=ki (ki h a.dir (zi a.name)) b.dir (zU b.name a.ino);unfold jx;simp only;split
 ·exact kP hd (H9 hd a.ino)
 ·exact hd
theorem zp2 (h:Hm w.fs.xs) (o:OpV) (hd:o.d.length<=1000) (h3:o.kind≠3):Hm (doV w o).1.fs.xs:=by
 unfold doV;by_cases c0:(!kY o)=true
 ·rw[if_pos c0];exact h
 rw[if_neg c0];by_cases c1:o.kind=1
 ·rw[if_pos c1];exact GL h fun q=>by cases q
 rw[if_neg c1];by_cases c2:o.kind=2
 ·rw[if_pos c2];unfold Vk;split
  ·exact h
  ·exact GL h fun q=>by cases q
 rw[if_neg c2,if_neg h3];by_cases c4:o.kind=4
 ·rw[if_pos c4];exact GL h fun _=>hd
 rw[if_neg c4];by_cases c5:o.kind=5
 ·rw[if_pos c5];unfold Vw;simp only;split
  ·exact h
  split
  ·exact h
  split
  ·exact h
  ·exact kP (ki h _ _) (H9 h _)
 rw[if_neg c5];by_cases c6:o.kind=6
 ·rw[if_pos c6];unfold JN;split
  ·exact h
  split
  ·exact h
  ·exact ziV _ _ h
 rw[if_neg c6];unfold qM;simp only;split
 ·exact h
 split
 ·exact h
 ·unfold JT;split
  ·exact h
  ·exact zbs _ h
structure GrD (N:Nat) (d:zY):Prop where
 b:VR N d
 r:yw d.w
 next:d.w.fs.next<=549755813888+N
 dat:Hm d.w.fs.xs
theorem xF.mono {M:Nat} (h:xF N w) (hN:N<=M):xF M w:=by
 have key:∀ x,kS N x->kS M x:=fun x hx=>⟨WM hx.1 hN,hx.2⟩;exact ⟨WM h.len hN,fun x hx=>key x (h.node x hx),WM h.klen hN,h.kdata,WM h.plen hN,fun x hx=>key x (h.pnode x hx),by have:=h.next;omega,h.room⟩
theorem GrD.mono {M:Nat} (h:GrD N d) (hN:N<=M):GrD M d:=
 ⟨⟨h.b.wi,h.b.wb.mono (by omega),WM h.b.ops hN,WM h.b.diags hN,h.b.slot.1,by have:=h.b.slot.2;omega⟩,h.r,by have:=h.next;omega,h.dat⟩
theorem GrD.add (h:GrD N d) {o:OpV} (ho:o.d.length<=1000) (h3:o.kind≠3):GrD (N+1) (Xp d o).1:=by
 have hB:=zoC h.b (o:=o) (by omega);by_cases hz:(Xp d o).2=0
 case neg=>rw[NP hz]at hB ⊢;exact ⟨hB,h.r,by have:=h.next;omega,h.dat⟩
 unfold Xp at hz hB ⊢;split at hz
 ·exact absurd hz (show ¬(12:Int)=0 by decide)
 rename_i hk;rw[if_neg hk]at hB ⊢;split at hz
 ·rename_i hd;exact absurd hz hd
 rename_i hd;rw[if_neg hd]at hB ⊢;have hk7:(Q5 d o).kind<=7:=by show o.kind<=7;omega
 have hn:=zld d.w (Q5 d o);have hx:=h.next;exact ⟨hB,zsC h.b.wi h.r _ hk7,by show (doV d.w (Q5 d o)).1.fs.next<=_;omega,zp2 h.dat _ ho h3⟩
theorem GrD.tell (h:GrD N d) (x:Lz):GrD (N+1) (YM d x):=by
 have hB:=h.b.up;exact ⟨⟨hB.wi,hB.wb,hB.ops,by show (d.diags++[x]).length<=N+1;rw[Wk,OM];have:=h.b.diags;omega,hB.slot⟩,h.r,by have:=h.next;show d.w.fs.next<=_;omega,h.dat⟩
theorem GrD.ok (h:GrD N d) (hN:N<=3200):okM d.w.fs:=
 ⟨⟨by have:=h.b.wb.len;omega,fun x hx=>by obtain ⟨q1,q2,q3⟩:=h.b.wb.node x hx;exact ⟨q2,by omega,q3⟩⟩,h.r.fs.check h.b.wi.fs (by have:=h.next;omega)⟩
theorem zko (h:okW w) (hd:Hm w.fs.xs) (hn:w.fs.next<=549755813888) (hl:Ja w.kept<=536870912):GrD 0 (Nj w):=
 ⟨⟨zrK h,zdU h,Wb _,Wb _,(QZ h.2.2.2.2.1).1,by show Ja w.kept<=_;omega⟩,zq8 h,by show w.fs.next<=_;omega,hd⟩
theorem ux (h:okM f) {s:zH} (hh:zk s.dir f.xs=true) (hk:(zf s.dir f.xs).kind=2) (hm:may s.name=true):(zV f s).length<=990000:=by
 obtain ⟨ns,n1,n2,n3,n4,n5⟩:=zkt h hh hk;have hml:=GQ hm;have hjw:=X5 ns;have hjl:(qq ns).length<=980001:=by unfold qq;split<;>simp<;>omega
 have e:zV f s=Jf (qq ns) s.name:=by unfold zV;rw[n5];rfl
 have:=N0 (qq ns) s.name;rw[e];omega
theorem zdX (hi:FsI f) {s:zH} (h:zb6 f s) (h0:s.ino=0) (hm:may s.name=true):jY f s:=by
 rcases h with h | ⟨h1,h2,h3⟩
 ·rw[h]at hm;exact absurd hm (by decide)
 ·refine ⟨h1,h2,?_⟩;cases hq:Yb s.name (zf s.dir f.xs).es with
  | false=>rfl
  | true=>exact absurd (h3.symm.trans h0) (XE hi (X8 hi h1 hq))
theorem VD {s:zH} (h:zb6 f s) (hi:FsI f) (h0:zk s.ino f.xs=true) (hn:s.name≠[]):zu f s:=by
 rcases h with h | ⟨h1,h2,h3⟩
 ·exact absurd h hn
 ·have h0:=XE hi h0;refine ⟨h1,h2,?_⟩;have he:Yb s.name (zf s.dir f.xs).es=true:=by
   unfold Yb;rw[qh];cases hq:qA zO.name s.name (zf s.dir f.xs).es with
   | some e=>rfl
   | none=>unfold zK at h3;rw[hq]at h3;exact absurd h3 h0
  rw[Yw he,←h3]
theorem Zn (hr:FsR f) {s:zH} (hs:zu f s):may s.name=true:=(hr.node _ (zj hs.has).2.1).nam ⟨s.name,s.ino⟩ (zS hs.there).2
end
section
def ZM (f:FsV) (b p:Lz):Bool:=decide ((zL f b p true).2=0)&&decide ((zf (zL f b p true).1.ino f.xs).kind=2)
def zei (f:FsV) (b:Lz) (k:Int) (o p:Lz):Bool:=decide (k=3)&&decide ((110:UInt8)∈o)&&decide ((zL f b p false).2=0)&&decide ((zf (zL f b p false).1.ino f.xs).kind=3)
def zcx (f:FsV) (b:Lz) (k:Int) (o:Lz) (ops:List Lz):Bool:=
 !decide (ops.length<2)&&!decide ((84:UInt8)∈o)&&!zei f b k o (ops.getLastD [])&&ZM f b (ops.getLastD [])
def j0 (f:FsV) (b:Lz) (k:Int) (o:Lz) (ops:List Lz):Option (List Lz):=
 if ops.length=1 then some [Z1 (ops.headD [])] else if zcx f b k o ops then some (ops.dropLast.map fun p=>Vh (ops.getLastD []) (Z1 p))
 else if ops.length=2 then some [ops.getLastD []] else none
theorem xM (p:Lz):(Z1 p).length<=p.length+1:=by
 unfold Z1;rcases Ap (zn p) with e | ⟨l,x,e⟩
 ·rw[e];show (if Lib.hasPrefix p [47] then [47] else ([]:Lz)).length<=_;split<;>simp
 ·have:=(X3 p).2 x (by rw[e,Aa];simp);rw[e,Aa,List.getLastD_concat];omega
theorem zbG {k:Int} {o:Lz} {ops ps:List Lz} (h:j0 f b k o ops=some ps) (hp:∀ x∈ops,x.length<=1000):ps.length<=ops.length/\∀ x∈ps,x.length<=2003:=by
 have hl:(ops.getLastD []).length<=1000:=by
  rcases Ap ops with e | ⟨l,x,e⟩
  ·rw[e];exact Wd _
  ·rw[e,Aa,List.getLastD_eq_getLast?,BG];simp;exact hp x (by rw[e];simp)
 unfold j0 at h;split at h
 ·cases h;have hh:(ops.headD []).length<=1000:=by
   cases ops with
   | nil=>exact Wd _
   | cons x r=>exact hp x Wi
  have:=xM (ops.headD []);exact ⟨by simp;omega,fun x hx=>by rw[WY.1 hx];omega⟩
 split at h
 ·cases h;refine ⟨by simp,fun x hx=>?_⟩;obtain ⟨y,hy,rfl⟩:=WP.1 hx;have h1:=hp y (List.dropLast_subset _ hy);have h2:=xM y;generalize ops.getLastD []=z at *;unfold Vh;split<;>simp<;>omega
 split at h
 ·cases h;exact ⟨by simp;omega,fun x hx=>by rw[WY.1 hx];omega⟩
 ·cases h
def kX (xs:List zl):Nat->Int->Int->Bool
 | 0,_,_=>false
 | m+1,d,o=>if d=o then true else if d=1 then false else kX xs m (zf d xs).parent o
end
section
def mvS (f:FsV) (b u v:Lz):Option (Int×Int):=
 if (zL f b u false).2≠0 then some (11,(zL f b u false).2) else if zk (zL f b u false).1.ino f.xs=false then some (11,1) else if (zL f b u false).1.name = [] then some (15,10)
 else if (zL f b v false).2≠0 then some (15,(zL f b v false).2) else if (zL f b v false).1.name = [] then some (15,10) else none
def mvJ (f:FsV) (o:Lz) (a t:zH) (v:Lz):(Int×Int)×Bool:=
 if zk t.ino f.xs=true/\(110:UInt8)∈o then ((0,0),false)
 else if zk t.ino f.xs=true/\a.ino=t.ino then ((9,0),false)
 else if (zf a.ino f.xs).kind=2/\kX f.xs f.xs.length t.dir a.ino=true then ((14,0),false)
 else if zk t.ino f.xs=true then
  (if (zf a.ino f.xs).kind=2/\(zf t.ino f.xs).kind≠2 then ((12,0),false) else if (zf a.ino f.xs).kind≠2/\(zf t.ino f.xs).kind=2 then ((13,0),false) else ((15,5),decide ((zf t.ino f.xs).es = [])))
 else if jm v=true/\(zf a.ino f.xs).kind≠2 then ((15,3),false) else if may t.name=false then ((15,9),false) else ((0,0),true)
def JU (p q:Lz):OpV:=⟨6,0,p,q,[]⟩
def zcK (d:zY) (a t:zH):zY:=
 (Xp (if zk t.ino d.w.fs.xs then (Xp d (HC (zV d.w.fs t))).1 else d) (JU (zV d.w.fs a) (zV d.w.fs t))).1
def Va (b o:Lz) (d:zY) (u v:Lz):zY:=
 match mvS d.w.fs b u v with
 | some e=>YM d (XQ 4 e.1 u v e.2)
 | none =>
  if (mvJ d.w.fs o (zL d.w.fs b u false).1 (zL d.w.fs b v false).1 v).2 then zcK d (zL d.w.fs b u false).1 (zL d.w.fs b v false).1
  else if (mvJ d.w.fs o (zL d.w.fs b u false).1 (zL d.w.fs b v false).1 v).1.1=0 then d
  else YM d (XQ 4 (mvJ d.w.fs o (zL d.w.fs b u false).1 (zL d.w.fs b v false).1 v).1.1 u v (mvJ d.w.fs o (zL d.w.fs b u false).1 (zL d.w.fs b v false).1 v).1.2)
def zm7 (b o:Lz) (l:List (Lz×Lz)) (d:zY):zY:=l.foldl (fun d p=>Va b o d p.1 p.2) d
def xO (k:Int) (b o:Lz) (ops:List Lz) (d:zY):zY:=
 match j0 d.w.fs b k o ops with
 | none=>YM d (XQ k 10 (ops.getLastD []) [] 0)
 | some ps=>zm7 b o (ops.zip ps) d
theorem zkl (h:GrD N d) (a t:zH):GrD (N+2) (zcK d a t):=by
 unfold zcK;have h1:GrD (N+1) (if zk t.ino d.w.fs.xs then (Xp d (HC (zV d.w.fs t))).1 else d):=by
  split
  ·exact h.add (Wd _) (show ¬(7:Int)=3 by decide)
  ·exact h.mono (Nat.le_succ _)
 exact h1.add (Wd _) (show ¬(6:Int)=3 by decide)
theorem zmm (h:GrD N d) (b o u v:Lz):GrD (N+2) (Va b o d u v):=by
 unfold Va;split
 ·exact (h.tell _).mono (by omega)
 ·split
  ·exact zkl h _ _
  ·split
   ·exact h.mono (by omega)
   ·exact (h.tell _).mono (by omega)
theorem zoZ {u:Lz} (h:mvS f b u v=none):(zL f b u false).2=0/\zk (zL f b u false).1.ino f.xs=true/\(zL f b u false).1.name≠[]/\(zL f b v false).2=0/\(zL f b v false).1.name≠[]:=by
 unfold mvS at h;by_cases h1:(zL f b u false).2≠0
 ·rw[if_pos h1]at h;cases h
 rw[if_neg h1]at h;by_cases h2:zk (zL f b u false).1.ino f.xs=false
 ·rw[if_pos h2]at h;cases h
 rw[if_neg h2]at h;by_cases h3:(zL f b u false).1.name = []
 ·rw[if_pos h3]at h;cases h
 rw[if_neg h3]at h;by_cases h4:(zL f b v false).2≠0
 ·rw[if_pos h4]at h;cases h
 rw[if_neg h4]at h;by_cases h5:(zL f b v false).1.name = []
 ·rw[if_pos h5]at h;cases h
 exact ⟨Ww.1 h1,by simpa using h2,h3,Ww.1 h4,h5⟩
theorem zkz {o:Lz} {a t:zH} (h:(mvJ f o a t v).2=true):(zk t.ino f.xs=true->a.ino≠t.ino/\(zf t.ino f.xs).es = []/\((zf a.ino f.xs).kind=2↔(zf t.ino f.xs).kind=2))/\(zk t.ino f.xs=false->may t.name=true/\(jm v=true->(zf a.ino f.xs).kind=2))/\((zf a.ino f.xs).kind=2->kX f.xs f.xs.length t.dir a.ino=false):=by
 unfold mvJ at h;by_cases h1:zk t.ino f.xs=true/\(110:UInt8)∈o
 ·rw[if_pos h1]at h;cases h
 rw[if_neg h1]at h;by_cases h2:zk t.ino f.xs=true/\a.ino=t.ino
 ·rw[if_pos h2]at h;cases h
 rw[if_neg h2]at h;by_cases h3:(zf a.ino f.xs).kind=2/\kX f.xs f.xs.length t.dir a.ino=true
 ·rw[if_pos h3]at h;cases h
 rw[if_neg h3]at h;have g3:(zf a.ino f.xs).kind=2->kX f.xs f.xs.length t.dir a.ino=false:=fun q=>by
  cases hq:kX f.xs f.xs.length t.dir a.ino with
  | false=>rfl
  | true=>exact absurd ⟨q,hq⟩ h3
 by_cases h4:zk t.ino f.xs=true
 ·rw[if_pos h4]at h;by_cases h5:(zf a.ino f.xs).kind=2/\(zf t.ino f.xs).kind≠2
  ·rw[if_pos h5]at h;cases h
  rw[if_neg h5]at h;by_cases h6:(zf a.ino f.xs).kind≠2/\(zf t.ino f.xs).kind=2
  ·rw[if_pos h6]at h;cases h
  rw[if_neg h6]at h;refine ⟨fun _=>⟨fun q=>h2 ⟨h4,q⟩,WN h,⟨fun q=>OO fun z=>h5 ⟨q,z⟩,fun q=>OO fun z=>h6 ⟨z,q⟩⟩⟩,fun q=>(by rw[h4]at q;cases q),g3⟩
 ·rw[if_neg h4]at h;by_cases h5:jm v=true/\(zf a.ino f.xs).kind≠2
  ·rw[if_pos h5]at h;cases h
  rw[if_neg h5]at h;by_cases h6:may t.name=false
  ·rw[if_pos h6]at h;cases h
  exact ⟨fun q=>absurd q h4,fun _=>⟨by simpa using h6,fun q=>OO fun z=>h5 ⟨q,z⟩⟩,g3⟩
theorem zpN {u:Lz} {e:Int×Int} (h:mvS f b u v=some e):e.1≠0:=by
 unfold mvS at h;split at h
 ·cases h;exact show ¬(11:Int)=0 by decide
 split at h
 ·cases h;exact show ¬(11:Int)=0 by decide
 split at h
 ·cases h;exact show ¬(15:Int)=0 by decide
 split at h
 ·cases h;exact show ¬(15:Int)=0 by decide
 split at h
 ·cases h;exact show ¬(15:Int)=0 by decide
 ·cases h
end
section
open CA CB
open Go.RowKit
theorem zmj (w:qN) (hw:Uh w) (hs:zkF w) (a b:Lz) (ha:a.length<=1000000) (hb:b.length<=1000000):Fun Tryz.prog GD 129 [Q7 w,.agg (opL (JU a b))] (.tup [Q7 (doV w (JU a b)).1,.sc (.int .i64 (doV w (JU a b)).2)]) 0:=by
 have ho:zaz ⟨6,0,a,b,[]⟩:=⟨ha,hb,Wd _⟩;have hop:=(NV 6 0 a b [] ho).gd1;unfold JU;cases hm:kY ⟨6,0,a,b,[]⟩ with
 | false =>
  have e:doV w ⟨6,0,a,b,[]⟩=(w,12):=by unfold doV;rw[hm];rfl
  rw[hm]at hop;rw[e];unfold opL qZ at hop;unfold opL;refine fof (fun i=>if i=3 then [false,false,false,false,false,false,false,false,false,true] else []) Tryz.func129 ?_;dsimp only[Tryz.f129];push_cast;refine cl hop ?_;push_cast;exact dn
 | true =>
  obtain ⟨p1,p2,_⟩:=YV hm;have e:doV w ⟨6,0,a,b,[]⟩=JN w ⟨6,0,a,b,[]⟩:=by unfold doV;rw[hm];rfl
  have hq:Fun Tryz.prog GD 212 _ _ 0:=(zeL w hw hs ⟨6,0,a,b,[]⟩ ho p1 (p2 rfl)).g0;rw[hm]at hop;rw[e];unfold opL qZ at hop;unfold opL at hq ⊢;refine fof (fun i=>if i=3 then [false,false,false,false,false,false,false,false,false,true] else []) Tryz.func129 ?_;dsimp only[Tryz.f129];push_cast;refine cl hop ?_;push_cast;refine cl (xz (G:=GD)) ?_;push_cast [zi5,kL,reduceIte,Int.reduceEq,WJ,Oo];refine cl hq ?_;push_cast;exact dn
theorem zkA (d:zY) (hd:uH d) (p q:Lz) (hp:p.length<=1000000) (hq:q.length<=1000000):Fun Tryz.prog GD 75 [HV d,.agg (opL (JU p q))] (.tup [HV (Xp d (JU p q)).1,.sc (.int .i64 (Xp d (JU p q)).2)]) 0:=by
 have hsl:=VQ (G:=GD) (JU p q);rw[show decide ((JU p q).kind=3∨(JU p q).kind=7)=false from Wj (show ¬((6:Int)=3∨(6:Int)=7) by decide)]at hsl;have hb1:=hd.slot.1;have hb2:=hd.slot.2;have hopl:(d.ops.map opL).length=d.ops.length:=We ..;have hol:=hd.ops;have hl5:∀ l:List OpV,∀ r∈l.map opL,r.length=5:=fun l r hr=>by obtain ⟨x,_,rfl⟩:=WP.1 hr;rfl
 have hst:∀ l:List OpV,jn (l.map opL):=fun l r hr=>by obtain ⟨x,_,rfl⟩:=WP.1 hr;rfl
 have hX:=NU (G:=GD) (d.ops.map opL) (([JU p q]:List OpV).map opL) (hl5 _) (hl5 _) (hst _) (hst _) (by omega) (by simp) (by simp);rw[←Oa]at hX;have hc:=(hX.fun (r:=.own 0 79 5 ((d.ops++([JU p q]:List OpV)).map opL)) (n:=1) (by
  rintro r bx m ⟨rfl,c,B,hB,rfl,rfl⟩;exact ⟨[(0,79,5,(d.ops++([JU p q]:List OpV)).map opL,c)],[.inl 0],hB.ok rfl (by simp) (hl5 _),rfl,rfl,by push_cast [ze,zd,CLe,zg,We]⟩)).weak (r':=.sl 5 ((d.ops++([JU p q]:List OpV)).map opL)) (by push_cast [ze,zd,CLe,zg])
 have hdo:=zmj d.w hd.wi hd.ws p q hp hq;have ea:Xp d (JU p q)=if (doV d.w (JU p q)).2≠0 then (d,(doV d.w (JU p q)).2) else (⟨(doV d.w (JU p q)).1,d.ops++[JU p q],d.diags,d.status,d.slot⟩,0):=by
  have e:Q5 d (JU p q)=JU p q:=rfl;unfold Xp;rw[if_neg (show ¬7<(JU p q).kind by show ¬(7:Int)<6;decide),e]
  rfl
 have hmx:¬(0>d.slot):=by omega
 rw[ea];have eo:opL (JU p q) = [.sc (.int .i64 6),.sc (.int .i64 0),.str p,.str q,.str []]:=rfl;unfold opL at hsl;rw[show (JU p q).kind=6 from rfl,show (JU p q).slot=0 from rfl,show (JU p q).a=p from rfl,show (JU p q).b=q from rfl,show (JU p q).d = [] from rfl]at hsl;rw[eo]at hdo ⊢;simp only[WC,Oi,eo]at hc;by_cases hz:(doV d.w (JU p q)).2=0
 ·rw[if_neg (fun h=>h hz)];rw[hz]at hdo;refine fon Tryz.func75 ?_;dsimp only[Tryz.f75];push_cast;refine cl hsl ?_;push_cast;refine cl hdo ?_;push_cast;refine cl hc ?_;push_cast [WH hmx];exact dn
 ·have hz':=WH hz;rw[if_pos hz];refine fon Tryz.func75 ?_;dsimp only[Tryz.f75];push_cast;refine cl hsl ?_;push_cast;refine cl hdo ?_;push_cast [hz'];exact dn
end
section
open CA CB
open Go.RowKit
theorem zci (f:FsV) (hf:FsI f) (hs:FsS f) (p:Lz) (hp:p.length<=100000):Fun Tryz.prog G0 223 [.agg (fsC f),.str p] (.tup [.agg (Yf (jl f p).1),.sc (.int .i64 (jl f p).2)]) 0:=by
 have h1:=Nl f hf hs p (by omega);have h2:=je (G:=G0) f (atV f p).1.ino (by have:=hs.len;omega) hf.rises;by_cases c1:(atV f p).2=0
 ·have c1':=eq_true c1;cases hh:zk (atV f p).1.ino f.xs with
  | false =>
   have h0:(atV f p).1.ino=0:=OO fun hne=>by
    have:zk (atV f p).1.ino f.xs=true:=by
     unfold atV at hne ⊢;split at hne
     ·rename_i q;rw[if_pos q];exact vR hf _ _ (fun _=>hf.root) hne
     ·exact absurd rfl hne
    rw[this]at hh;cases hh
   have e:jl f p=(Nt,1):=by unfold jl;rw[if_neg (fun h=>h c1),if_pos h0]
   rw[c1]at h1;rw[hh]at h2;refine fon Tryz.func223 ?_;dsimp only[Tryz.f223];push_cast;refine cl h1 ?_;push_cast;refine cl h2 ?_;push_cast;exact dn (by push_cast [ze,zd,CLe,zg,e,Nt])
  | true =>
   have h0:=XE hf hh;have e:jl f p=(zf (atV f p).1.ino f.xs,0):=by unfold jl;rw[if_neg (fun h=>h c1),if_neg h0]
   rw[c1]at h1;rw[hh]at h2;refine fon Tryz.func223 ?_;dsimp only[Tryz.f223];push_cast;refine cl h1 ?_;push_cast;refine cl h2 ?_;push_cast;exact dn (by push_cast [ze,zd,CLe,zg,e])
 ·have e:jl f p=(Nt,(atV f p).2):=by unfold jl;rw[if_pos c1]
  refine fon Tryz.func223 ?_;dsimp only[Tryz.f223];push_cast;refine cl h1 ?_;push_cast [c1];exact dn (by push_cast [ze,zd,CLe,zg,e,Nt])
theorem zdm (f:FsV) (hf:FsI f) (hs:FsS f) (p:Lz) (hp:p.length<=100000):Fun Tryz.prog G0 176 [.agg (fsC f),.str p] (.tup [.sc (.int .i64 (QE f p).1),.sc (.int .i64 (QE f p).2)]) 0:=by
 have h1:=zci f hf hs p hp;by_cases c1:(jl f p).2=0
 ·have d1:(atV f p).2=0/\(atV f p).1.ino≠0/\(jl f p).1=zf (atV f p).1.ino f.xs:=by
   unfold jl at c1 ⊢;split at c1
   ·rename_i h;exact absurd c1 h
   ·rename_i h;split at c1
    ·exact absurd c1 (show ¬(1:Int)=0 by decide)
    ·rename_i h';rw[if_neg h,if_neg h'];exact ⟨Ww.1 h,h',rfl⟩
  rw[c1]at h1;by_cases c2:(jl f p).1.kind=2
  ·have e:QE f p=((jl f p).1.ino,0):=by unfold QE;rw[if_neg (fun h=>h d1.1),if_neg d1.2.1,if_neg (by rw[←d1.2.2];exact fun h=>h c2),d1.2.2]
   refine fon Tryz.func176 ?_;dsimp only[Tryz.f176];push_cast;refine cl h1 ?_;push_cast [c2];exact dn (by push_cast [ze,zd,CLe,zg,e])
  ·have e:QE f p=(0,3):=by unfold QE;rw[if_neg (fun h=>h d1.1),if_neg d1.2.1,if_pos (by rw[←d1.2.2];exact c2)]
   refine fon Tryz.func176 ?_;dsimp only[Tryz.f176];push_cast;refine cl h1 ?_;push_cast [c2];exact dn (by push_cast [ze,zd,CLe,zg,e])
 ·have e:QE f p=(0,(jl f p).2):=by
   unfold QE jl;unfold jl at c1;split
   ·rfl
   ·rename_i h;rw[if_neg h]at c1;split
    ·rfl
    ·rename_i h';rw[if_neg h']at c1;exact absurd rfl c1
  refine fon Tryz.func176 ?_;dsimp only[Tryz.f176];push_cast;refine cl h1 ?_;push_cast [c1];exact dn (by push_cast [ze,zd,CLe,zg,e])
theorem zgn {G:zr} (a b:List Lz) (la:a.length<=90000) (lb:b.length<=90000):Fun Tryz.prog G 70 [.sl 1 [[.sl 1 (qg a)],[.sl 1 (qg b)]]] (.sl 1 (qg (a++b))) 0:=by
 have hl:∀ l:List Lz,∀ r∈qg l,r.length=1:=fun l r hr=>by obtain ⟨x,_,rfl⟩:=WP.1 hr;rfl
 have hs:∀ l:List Lz,jn (qg l):=fun l r hr=>by obtain ⟨x,_,rfl⟩:=WP.1 hr;rfl
 have hla:(qg a).length=a.length:=We ..;have hlb:(qg b).length=b.length:=We ..;by_cases h0:0<a.length+b.length
 ·have h:=MX (G:=G) (qg a) (qg b) (hl a) (hl b) (hs a) (hs b) (by omega) (by omega) (by omega);have e:qg a++qg b=qg (a++b):=Oa.symm;rw[e]at h;refine (h.fun (r:=.own 0 9 1 (qg (a++b))) (n:=1) (by
   rintro r bx m ⟨rfl,c,B,hB,rfl,rfl⟩;exact ⟨[(0,9,1,qg (a++b),c)],[.inl 0],hB.ok rfl (by rw[We,Wk];exact h0) (hl _),rfl,rfl,by push_cast [ze,zd,CLe,zg,We]⟩)).weak (by push_cast [ze,zd,CLe,zg])
 ·have ha:a = []:=WZ (by omega);have hb:b = []:=WZ (by omega);subst ha hb;exact xc
end
section
open CA CB
open Go.RowKit
abbrev zkI (f:FsV) (fol dir:Bool) (todo:Xe) (s:zH) (n:Int):List C:=[.sc (.int .i64 f.maxI),.sc (.int .i64 f.maxB),.sc (.int .i64 f.next),.sl 6 (zx f.xs),.sc (.bool fol),.sc (.bool dir),.sl 1 (qg todo),.sc (.int .i64 s.dir),.str s.name,.sc (.int .i64 s.ino),.sc (.int .i64 n)]
abbrev Xd:List C:=[.any,.any,.any,.any,.any,.any,.any,.any,.any,.any,.any]
theorem G4 (f:FsV) (fol dir:Bool) (todo:Xe) (s:zH) (n:Nat) (x d:zl) (hx:x.data.length<=10000) (ht:todo.length<=80000) (hn:n<=40):YH Tryz.prog G0 178 [.ptr 0 0,.agg (Yf x),.agg (Yf d)] [zkI f fol dir todo s n] 0 (fun r bx m=>m=0 /\
  ((n=40/\r = .sc (.int .i64 6)/\bx = [Xd])∨(n<40/\Zw x.data=true/\r = .sc (.int .i64 7)/\bx = [Xd])∨(n<40/\Zw x.data=false/\r = .sc (.int .i64 0)/\bx = [zkI f fol (dir||(jm x.data&&decide (todo = []))) (zn x.data++todo) ⟨0,[],if xG x.data then 1 else d.ino⟩ (n+1:Nat)]))):=by
 by_cases h40:n=40
 ·have hc:((40:Int)<(n:Int)+1)=True:=eq_true (by omega);refine foX (fun _=>[]) Tryz.func178 ?_;dsimp only[Tryz.f178];push_cast [hc]
  repeat refine an ?_
  exact ⟨_,[Xd],0,⟨⟨rfl,.inl ⟨h40,rfl,rfl⟩⟩,Wb _⟩,[],rfl,rfl,by push_cast [ze,zd,CLe,zg],by push_cast [ze,zd,CLe,zg]⟩
 have hc:((40:Int)<(n:Int)+1)=False:=WH (by omega);have hlg:=uR x.data (by omega);cases hl:Zw x.data with
 | true =>
  rw[hl]at hlg;refine foX (fun _=>[]) Tryz.func178 ?_;dsimp only[Tryz.f178];push_cast [hc]
  repeat refine an ?_
  refine cl hlg ?_;push_cast;exact ⟨_,[Xd],0,⟨⟨rfl,.inr (.inl ⟨by omega,rfl,rfl⟩)⟩,Wb _⟩,[],rfl,rfl,by push_cast [ze,zd,CLe,zg],by push_cast [ze,zd,CLe,zg]⟩
 | false =>
  rw[hl]at hlg;have hrd:Fun Tryz.prog G0 125 [.str x.data] (.agg [qZ (xG x.data),.own 0 9 1 (qg (zn x.data)),qZ (jm x.data)]) 1:=Uw x.data (by omega);have hnl:=qJ x.data;have hcc:=zgn (G:=G0) (zn x.data) todo (by omega) (by omega);have htl:(qg todo).length=todo.length:=We ..;have hte:((todo.length:Int)=0)=(todo = []):=propext ⟨fun h=>WZ (by omega),fun h=>by rw[h];rfl⟩;generalize zn x.data=nm at hrd hcc;have fin:∀ (b a:Bool),(dir||(jm x.data&&decide (todo = [])))=b->xG x.data=a->YH Tryz.prog G0 178 [.ptr 0 0,.agg (Yf x),.agg (Yf d)] [zkI f fol dir todo s n] 0 (fun r bx m=>m=0/\r = .sc (.int .i64 0)/\bx = [zkI f fol b (nm++todo) ⟨0,[],if a then 1 else d.ino⟩ (n+1:Nat)]):=fun b a hb ha=>by
   rw[ha]at hrd;by_cases ht0:todo = []
   ·have ht0':=eq_true ht0;cases dir<;>cases hs:jm x.data<;>rw[hs]at hrd hb<;>cases a
    all_goals
     simp[ht0]at hb;subst hb;refine foX (fun i=>if i=8 then [false,false,false,false,false,false,false,false,false,false,false,true] else []) Tryz.func178 ?_;dsimp only[Tryz.f178];push_cast [hc]
     repeat refine an ?_
     refine cl hlg ?_;push_cast;refine cl hrd ?_;push_cast [htl,hte,ht0'];refine cl hcc ?_;push_cast;exact ⟨_,_,0,⟨⟨rfl,rfl,rfl⟩,Wb _⟩,[],rfl,rfl,by push_cast [ze,zd,CLe,zg],by push_cast [ze,zd,CLe,zg]⟩
   ·have ht0':=WH ht0;cases dir<;>cases hs:jm x.data<;>rw[hs]at hrd hb<;>cases a
    all_goals
     simp[ht0]at hb;subst hb;refine foX (fun i=>if i=8 then [false,false,false,false,false,false,false,false,false,false,false,true] else []) Tryz.func178 ?_;dsimp only[Tryz.f178];push_cast [hc]
     repeat refine an ?_
     refine cl hlg ?_;push_cast;refine cl hrd ?_;push_cast [htl,hte,ht0'];refine cl hcc ?_;push_cast;exact ⟨_,_,0,⟨⟨rfl,rfl,rfl⟩,Wb _⟩,[],rfl,rfl,by push_cast [ze,zd,CLe,zg],by push_cast [ze,zd,CLe,zg]⟩
  have h:=fin _ _ rfl rfl;exact ⟨h.1,fun R L vs a1 a2 a3 a4 a5 a6 a7=>(h.2 R L vs a1 a2 a3 a4 a5 a6 a7).mono fun _ _=>by
   rintro ⟨r,bx,m,⟨⟨q1,q2,q3⟩,q4⟩,q5⟩;exact ⟨r,bx,m,⟨⟨q1,.inr (.inr ⟨by omega,rfl,q2,q3⟩)⟩,q4⟩,q5⟩⟩
theorem zhz (f:FsV) (hf:FsI f) (hs:FsS f) (fol dir:Bool) (todo:Xe) (s:zH) (n:Nat) (lk:zl->zl->Xe->Bool->zH×Int):YH Tryz.prog G0 179 [.ptr 0 0] [zkI f fol dir todo s n] 0 (fun r bx m=>m=0/\r = .tup [.agg (X4 (onL f fol lk [] s dir).1),.sc (.int .i64 (onL f fol lk [] s dir).2)]/\bx = [Xd]):=by
 have hg:=je (G:=G0) f s.ino (by have:=hs.len;omega) hf.rises;cases hh:zk s.ino f.xs with
 | false =>
  have e:onL f fol lk [] s dir=(s,0):=by unfold onL;rw[if_neg (fun h=>by rw[hh]at h;cases h.1)]
  rw[hh]at hg;refine foX (fun i=>if i=1 then j9 13 14 else []) Tryz.func179 ?_;dsimp only[Tryz.f179];push_cast;refine cl hg ?_;push_cast;exact ⟨_,[Xd],0,⟨⟨rfl,rfl,rfl⟩,Wb _⟩,[],rfl,rfl,by push_cast [ze,zd,CLe,zg],by push_cast [ze,zd,CLe,zg,e]⟩
 | true =>
  rw[hh]at hg;cases dir with
  | false =>
   have e:onL f fol lk [] s false=(s,0):=by unfold onL;rw[if_neg (fun h=>by cases h.2.1)]
   refine foX (fun i=>if i=1 then j9 13 14 else []) Tryz.func179 ?_;dsimp only[Tryz.f179];push_cast;refine cl hg ?_;push_cast;exact ⟨_,[Xd],0,⟨⟨rfl,rfl,rfl⟩,Wb _⟩,[],rfl,rfl,by push_cast [ze,zd,CLe,zg],by push_cast [ze,zd,CLe,zg,e]⟩
  | true =>
   by_cases hk:(zf s.ino f.xs).kind=2
   ·have e:onL f fol lk [] s true=(s,0):=by unfold onL;rw[if_neg (fun h=>h.2.2 hk)]
    have hk':=eq_true hk;refine foX (fun i=>if i=1 then j9 13 14 else []) Tryz.func179 ?_;dsimp only[Tryz.f179];push_cast;refine cl hg ?_;push_cast [hk'];exact ⟨_,[Xd],0,⟨⟨rfl,rfl,rfl⟩,Wb _⟩,[],rfl,rfl,by push_cast [ze,zd,CLe,zg],by push_cast [ze,zd,CLe,zg,e]⟩
   ·have e:onL f fol lk [] s true=(jb,3):=by unfold onL;rw[if_pos ⟨hh,rfl,hk⟩]
    have hk':=WH hk;refine foX (fun i=>if i=1 then j9 13 14 else []) Tryz.func179 ?_;dsimp only[Tryz.f179];push_cast;refine cl hg ?_;push_cast [hk'];exact ⟨_,[Xd],0,⟨⟨rfl,rfl,rfl⟩,Wb _⟩,[],rfl,rfl,by push_cast [ze,zd,CLe,zg],by push_cast [ze,zd,CLe,zg,e,jb]⟩
theorem ze6 (f:FsV) (hf:FsI f) (hr:FsR f) (hs:FsS f) (fol dir0:Bool) (todo0:Xe) (s0:zH) (ht0:todo0.length<=3000) (hd:∀ x∈f.xs,x.kind=3->x.data.length<=1000) (hs0:s0.ino≠0->zk s0.ino f.xs=true) (R:zH×Int) (hR:onN f fol 40 todo0 s0 dir0=R):YH Tryz.prog G0 147 [.ptr 0 0] [zkI f fol dir0 todo0 s0 (0:Nat)] 0 (fun r bx m=>m=0/\r = .tup [.agg (X4 R.1),.sc (.int .i64 R.2)]/\∃ X,bx = [Xd]++X):=by
 refine foX (fun i=>if i=4 then j9 13 14 else []) Tryz.func147 ?_;dsimp only[Tryz.f147];push_cast;refine loop (fun p:Xe×zH×Bool×Nat=>⟨[(0,.ptr 0 0),(2,.ptr 1 0)],[zkI f fol p.2.2.1 p.1 p.2.1 p.2.2.2,[.any,.any,.any]],0,0⟩)
  (fun p=>onN f fol (40-p.2.2.2) p.1 p.2.1 p.2.2.1=R/\p.2.2.2<=40/\p.1.length<=3000+p.2.2.2*1000/\(p.2.1.ino≠0->zk p.2.1.ino f.xs=true)) (fun p=>(41-p.2.2.2)*100000+p.1.length) (todo0,s0,dir0,0) ⟨hR,Wd _,by dsimp only;omega,hs0⟩ ?_ ?_
 ·exact wk
 rintro ⟨todo,s,dir,n⟩ ⟨hon,hn,htl,hin⟩;dsimp only at hon hn htl hin;rw[Ht]at hon;cases todo with
 | nil =>
  have he:=zhz f hf hs fol dir [] s n (lkN f fol (40-n));rw[hon]at he;push_cast;refine jy [0] [] he rfl (by decide) (by decide) (by simp) (by push_cast) rfl (fun r bx' m hp=>?_);obtain ⟨rfl,rfl,rfl⟩:=hp;push_cast;exact ⟨_,[Xd],0,⟨⟨rfl,rfl,[],rfl⟩,by simp⟩,[],rfl,rfl,by push_cast [ze,zd,CLe,zg],by push_cast [ze,zd,CLe,zg]⟩
 | cons nm rest =>
  have hg:=je (G:=G0) f s.ino (by have:=hs.len;omega) hf.rises;have hpos:((0:Int)<(rest.length:Int)+1)=True:=eq_true (by omega);have hrl:(qg rest).length=rest.length:=We ..;have hl1:((1:Int)<=(rest.length:Int)+1)=True:=eq_true (by omega);rw[Wr]at htl;unfold onL at hon;cases hh:zk s.ino f.xs with
  | false =>
   have h0:s.ino=0:=OO fun q=>by rw[hin q]at hh;cases hh
   rw[if_pos h0]at hon;rw[hh]at hg;rw[←hon];push_cast [hpos,hl1]
   repeat refine an ?_
   refine cl hg ?_;push_cast;exact ⟨_,[Xd],0,⟨⟨rfl,rfl,[],rfl⟩,by simp⟩,[],rfl,rfl,by push_cast [ze,zd,CLe,zg],by push_cast [ze,zd,CLe,zg,jb]⟩
  | true =>
   have hgs:=zj hh;rw[if_neg (XE hf hh)]at hon;rw[hh]at hg;by_cases hk2:(zf s.ino f.xs).kind=2
   case neg =>
    have hk2':=WH hk2;rw[if_pos hk2]at hon;rw[←hon];push_cast [hpos,hl1]
    repeat refine an ?_
    refine cl hg ?_;push_cast [hk2'];exact ⟨_,[Xd],0,⟨⟨rfl,rfl,[],rfl⟩,by simp⟩,[],rfl,rfl,by push_cast [ze,zd,CLe,zg],by push_cast [ze,zd,CLe,zg,jb]⟩
   have hk2':=eq_true hk2;rw[if_neg (fun q=>q hk2)]at hon;by_cases n1:nm = [46]
   ·have n1':=eq_true n1;rw[if_pos n1]at hon;push_cast [hpos,hl1]
    repeat refine an ?_
    refine cl hg ?_;push_cast [hk2',n1'];exact ⟨(rest,⟨0,[],(zf s.ino f.xs).ino⟩,dir,n),⟨by dsimp only;rw[Ht];exact hon,hn,by dsimp only;omega,fun _=>by dsimp only;rw[hgs.2.2];exact hh⟩,by dsimp only;omega,wk⟩
   have n1':=WH n1;rw[if_neg n1]at hon;by_cases n2:nm = [46,46]
   ·have n2':=eq_true n2;rw[if_pos n2]at hon;push_cast [hpos,hl1]
    repeat refine an ?_
    refine cl hg ?_;push_cast [hk2',n1',n2'];exact ⟨(rest,⟨0,[],(zf s.ino f.xs).parent⟩,dir,n),⟨by dsimp only;rw[Ht];exact hon,hn,by dsimp only;omega,fun _=>zmZ hf hr hh hk2⟩,by dsimp only;omega,wk⟩
   have n2':=WH n2;rw[if_neg n2]at hon;have hfd:=MI (G:=G0) (zf s.ino f.xs).es nm (by have:=hs.es hh;omega) (hf.es _ hgs.2.1);have hg2:=je (G:=G0) f (zK nm (zf s.ino f.xs).es) (by have:=hs.len;omega) hf.rises;have hin2:zK nm (zf s.ino f.xs).es≠0->zk (zK nm (zf s.ino f.xs).es) f.xs=true:=fun q=>by
    have hx:Yb nm (zf s.ino f.xs).es=true:=by
     unfold Yb;rw[qh];cases hq:qA zO.name nm (zf s.ino f.xs).es with
     | some e=>rfl
     | none=>unfold zK at q;rw[hq]at q;exact absurd rfl q
    exact X8 hf hh hx
   by_cases hk3:(zf (zK nm (zf s.ino f.xs).es) f.xs).kind=3
   case neg =>
    have hk3':=WH hk3;have hg1:((0:Int)<(rest.length:Int))=((0:Int)<(rest.length:Int)):=rfl;rw[if_pos (.inr (.inl hk3))]at hon;push_cast [hpos,hl1,hk2',n1',n2',hk3']
    repeat refine an ?_
    refine cl hg ?_;push_cast [hk2',n1',n2'];refine cl hfd ?_;push_cast;refine cl hg2 ?_;push_cast [hk3',hrl];exact ⟨(rest,⟨(zf s.ino f.xs).ino,nm,zK nm (zf s.ino f.xs).es⟩,dir,n),⟨by dsimp only;rw[Ht];exact hon,hn,by dsimp only;omega,hin2⟩,by dsimp only;omega,wk⟩
   have hk3':=eq_true hk3;have hx2:zk (zK nm (zf s.ino f.xs).es) f.xs=true:=by
    cases hq:zk (zK nm (zf s.ino f.xs).es) f.xs with
    | true=>rfl
    | false=>rw[(j4 hq).2]at hk3;exact absurd hk3 (by decide)
   have hxe:Yb nm (zf s.ino f.xs).es=true:=by
    cases hq:Yb nm (zf s.ino f.xs).es with
    | true=>rfl
    | false =>
     have e0:zK nm (zf s.ino f.xs).es=0:=by
      unfold zK;unfold Yb at hq;rw[qh]at hq;cases hz:qA zO.name nm (zf s.ino f.xs).es with
      | none=>rfl
      | some e=>rw[hz]at hq;cases hq
     rw[e0]at hx2;exact absurd rfl (XE hf hx2)
   have hxd:=hd _ (zj hx2).2.1 hk3;by_cases hr0:rest = []
   ·have hg1:((0:Int)<(rest.length:Int))=False:=WH (by rw[hr0];simp);cases fol with
    | false =>
     cases dir with
     | false =>
      rw[if_pos (.inr (.inr ⟨hr0,rfl,rfl⟩))]at hon;push_cast [hpos,hl1,hk2',n1',n2',hk3',hg1]
      repeat refine an ?_
      refine cl hg ?_;push_cast [hk2',n1',n2'];refine cl hfd ?_;push_cast;refine cl hg2 ?_;push_cast [hk3',hrl,hg1];exact ⟨(rest,⟨(zf s.ino f.xs).ino,nm,zK nm (zf s.ino f.xs).es⟩,false,n),⟨by dsimp only;rw[Ht];exact hon,hn,by dsimp only;omega,hin2⟩,by dsimp only;omega,wk⟩
     | true =>
      rw[if_neg (by rintro (q | q | q);exact absurd (hxe.symm.trans q) (by simp);exact q hk3;cases q.2.2)]at hon;have hlk:=G4 f false true rest s n (zf (zK nm (zf s.ino f.xs).es) f.xs) (zf s.ino f.xs) (by omega) (by omega) hn;push_cast [hpos,hl1,hk2',n1',n2',hk3',hg1]
      repeat refine an ?_
      refine cl hg ?_;push_cast [hk2',n1',n2'];refine cl hfd ?_;push_cast;refine cl hg2 ?_;push_cast [hk3',hrl,hg1];refine jy [0] [] hlk rfl (by decide) (by decide) (by simp) (by push_cast) (by push_cast) (fun r bx' m hp=>?_);obtain ⟨rfl,⟨q1,rfl,rfl⟩ | ⟨q1,q2,rfl,rfl⟩ | ⟨q1,q2,rfl,rfl⟩⟩:=hp
      ·push_cast;have hk0:40-n=0:=by omega
       rw[hk0]at hon;have hon:(jb,(6:Int))=R:=hon;rw[←hon];exact ⟨_,[Xd],0,⟨⟨rfl,rfl,[],rfl⟩,by simp⟩,[],rfl,rfl,by push_cast [ze,zd,CLe,zg],by push_cast [ze,zd,CLe,zg,jb]⟩
      ·push_cast;have hk0:40-n=(39-n)+1:=by omega
       rw[hk0,Qu,if_pos q2]at hon;rw[←hon];exact ⟨_,[Xd],0,⟨⟨rfl,rfl,[],rfl⟩,by simp⟩,[],rfl,rfl,by push_cast [ze,zd,CLe,zg],by push_cast [ze,zd,CLe,zg,jb]⟩
      ·push_cast;have hk0:40-n=(39-n)+1:=by omega
       have hk1:40-(n+1)=39-n:=by omega
       rw[hk0,Qu,if_neg (by rw[q2];simp)]at hon;have hnl:=qJ (zf (zK nm (zf s.ino f.xs).es) f.xs).data;exact ⟨(zn (zf (zK nm (zf s.ino f.xs).es) f.xs).data++rest,⟨0,[],if xG (zf (zK nm (zf s.ino f.xs).es) f.xs).data then 1 else (zf s.ino f.xs).ino⟩,true||(jm (zf (zK nm (zf s.ino f.xs).es) f.xs).data&&decide (rest = [])),n+1),⟨by dsimp only;rw[hk1];exact hon,by dsimp only;omega,by dsimp only;rw[Wk];omega,fun _=>by
        dsimp only;split
        ·exact hf.root
        ·rw[hgs.2.2];exact hh⟩,by dsimp only;rw[Wk];omega,wk⟩
    | true =>
     rw[if_neg (by rintro (q | q | q);exact absurd (hxe.symm.trans q) (by simp);exact q hk3;cases q.2.1)]at hon;have hlk:=G4 f true dir rest s n (zf (zK nm (zf s.ino f.xs).es) f.xs) (zf s.ino f.xs) (by omega) (by omega) hn;push_cast [hpos,hl1,hk2',n1',n2',hk3',hg1]
     repeat refine an ?_
     refine cl hg ?_;push_cast [hk2',n1',n2'];refine cl hfd ?_;push_cast;refine cl hg2 ?_;push_cast [hk3',hrl,hg1];refine jy [0] [] hlk rfl (by decide) (by decide) (by simp) (by push_cast) (by push_cast) (fun r bx' m hp=>?_);obtain ⟨rfl,⟨q1,rfl,rfl⟩ | ⟨q1,q2,rfl,rfl⟩ | ⟨q1,q2,rfl,rfl⟩⟩:=hp
     ·push_cast;have hk0:40-n=0:=by omega
      rw[hk0]at hon;have hon:(jb,(6:Int))=R:=hon;rw[←hon];exact ⟨_,[Xd],0,⟨⟨rfl,rfl,[],rfl⟩,by simp⟩,[],rfl,rfl,by push_cast [ze,zd,CLe,zg],by push_cast [ze,zd,CLe,zg,jb]⟩
     ·push_cast;have hk0:40-n=(39-n)+1:=by omega
      rw[hk0,Qu,if_pos q2]at hon;rw[←hon];exact ⟨_,[Xd],0,⟨⟨rfl,rfl,[],rfl⟩,by simp⟩,[],rfl,rfl,by push_cast [ze,zd,CLe,zg],by push_cast [ze,zd,CLe,zg,jb]⟩
     ·push_cast;have hk0:40-n=(39-n)+1:=by omega
      have hk1:40-(n+1)=39-n:=by omega
      rw[hk0,Qu,if_neg (by rw[q2];simp)]at hon;have hnl:=qJ (zf (zK nm (zf s.ino f.xs).es) f.xs).data;exact ⟨(zn (zf (zK nm (zf s.ino f.xs).es) f.xs).data++rest,⟨0,[],if xG (zf (zK nm (zf s.ino f.xs).es) f.xs).data then 1 else (zf s.ino f.xs).ino⟩,dir||(jm (zf (zK nm (zf s.ino f.xs).es) f.xs).data&&decide (rest = [])),n+1),⟨by dsimp only;rw[hk1];exact hon,by dsimp only;omega,by dsimp only;rw[Wk];omega,fun _=>by
       dsimp only;split
       ·exact hf.root
       ·rw[hgs.2.2];exact hh⟩,by dsimp only;rw[Wk];omega,wk⟩
   ·have hg1:((0:Int)<(rest.length:Int))=True:=eq_true (by have:=WG.2 hr0;omega);rw[if_neg (by rintro (q | q | q);exact absurd (hxe.symm.trans q) (by simp);exact q hk3;exact hr0 q.1)]at hon;have hlk:=G4 f fol dir rest s n (zf (zK nm (zf s.ino f.xs).es) f.xs) (zf s.ino f.xs) (by omega) (by omega) hn;push_cast [hpos,hl1,hk2',n1',n2',hk3',hg1]
    repeat refine an ?_
    refine cl hg ?_;push_cast [hk2',n1',n2'];refine cl hfd ?_;push_cast;refine cl hg2 ?_;push_cast [hk3',hrl,hg1];refine jy [0] [] hlk rfl (by decide) (by decide) (by simp) (by push_cast) (by push_cast) (fun r bx' m hp=>?_);obtain ⟨rfl,⟨q1,rfl,rfl⟩ | ⟨q1,q2,rfl,rfl⟩ | ⟨q1,q2,rfl,rfl⟩⟩:=hp
    ·push_cast;have hk0:40-n=0:=by omega
     rw[hk0]at hon;have hon:(jb,(6:Int))=R:=hon;rw[←hon];exact ⟨_,[Xd],0,⟨⟨rfl,rfl,[],rfl⟩,by simp⟩,[],rfl,rfl,by push_cast [ze,zd,CLe,zg],by push_cast [ze,zd,CLe,zg,jb]⟩
    ·push_cast;have hk0:40-n=(39-n)+1:=by omega
     rw[hk0,Qu,if_pos q2]at hon;rw[←hon];exact ⟨_,[Xd],0,⟨⟨rfl,rfl,[],rfl⟩,by simp⟩,[],rfl,rfl,by push_cast [ze,zd,CLe,zg],by push_cast [ze,zd,CLe,zg,jb]⟩
    ·push_cast;have hk0:40-n=(39-n)+1:=by omega
     have hk1:40-(n+1)=39-n:=by omega
     rw[hk0,Qu,if_neg (by rw[q2];simp)]at hon;have hnl:=qJ (zf (zK nm (zf s.ino f.xs).es) f.xs).data;exact ⟨(zn (zf (zK nm (zf s.ino f.xs).es) f.xs).data++rest,⟨0,[],if xG (zf (zK nm (zf s.ino f.xs).es) f.xs).data then 1 else (zf s.ino f.xs).ino⟩,dir||(jm (zf (zK nm (zf s.ino f.xs).es) f.xs).data&&decide (rest = [])),n+1),⟨by dsimp only;rw[hk1];exact hon,by dsimp only;omega,by dsimp only;rw[Wk];omega,fun _=>by
      dsimp only;split
      ·exact hf.root
      ·rw[hgs.2.2];exact hh⟩,by dsimp only;rw[Wk];omega,wk⟩
end
section
open CA CB
open Go.RowKit
theorem ZH (f:FsV) (hf:FsI f) (hr:FsR f) (hs:FsS f) (hd:∀ x∈f.xs,x.kind=3->x.data.length<=1000) (b p:Lz) (fol:Bool) (hb:b.length<=100000) (hp:p.length<=3000):Fun Tryz.prog G0 99 [.agg (fsC f),.str b,.str p,.sc (.bool fol)] (.tup [.agg (X4 (zL f b p fol).1),.sc (.int .i64 (zL f b p fol).2)]) 0:=by
 have hlo:=uR p (by omega);have hns:=qJ p;have bad:∀ e:Int,e≠0->zL f b p fol=(jb,e)->Fun Tryz.prog G0 146 [.agg (fsC f),.str b,.str p,.sc (.bool fol)] (.tup [.any,.sc (.int .i64 e)]) 0->Fun Tryz.prog G0 99 [.agg (fsC f),.str b,.str p,.sc (.bool fol)] (.tup [.agg (X4 (zL f b p fol).1),.sc (.int .i64 (zL f b p fol).2)]) 0:=fun e he hv hb=>by
  refine fon Tryz.func99 ?_;dsimp only[Tryz.f99];push_cast;refine cl hb ?_;push_cast [he];exact dn (by push_cast [ze,zd,CLe,zg,hv,jb])
 by_cases h1:p = []
 ·subst h1;refine bad 1 (by decide) (by unfold zL;rw[if_pos rfl]) ?_;refine fon Tryz.func146 ?_;dsimp only[Tryz.f146];push_cast;exact dn
 have h1':=WH h1;cases h2:Zw p with
 | true =>
  rw[h2]at hlo;refine bad 7 (by decide) (by unfold zL;rw[if_neg h1,if_pos h2]) ?_;refine fon Tryz.func146 ?_;dsimp only[Tryz.f146];push_cast [h1'];refine cl hlo ?_;push_cast;exact dn
 | false =>
 rw[h2]at hlo;have hre:Fun Tryz.prog G0 125 [.str p] (.agg [qZ (xG p),.own 0 9 1 (qg (zn p)),qZ (jm p)]) 1:=Uw p (by omega);have good:∀ h:Int,zL f b p fol=onN f fol 40 (zn p) ⟨0,[],h⟩ (jm p)->(h≠0->zk h f.xs=true)->YH Tryz.prog G0 146 [.agg (fsC f),.str b,.str p,.sc (.bool fol)] [] 0 (fun r bx m=>m=0/\r = .tup [.ptr 2 0,.sc (.int .i64 0)]/\bx = [[.any,.any,.any,.any],[.any,.any,.any],zkI f fol (jm p) (zn p) ⟨0,[],h⟩ (0:Nat)])->Fun Tryz.prog G0 99 [.agg (fsC f),.str b,.str p,.sc (.bool fol)] (.tup [.agg (X4 (zL f b p fol).1),.sc (.int .i64 (zL f b p fol).2)]) 0:=fun h hv hh hbg=>by
  have hgo:=ze6 f hf hr hs fol (jm p) (zn p) ⟨0,[],h⟩ (by omega) hd hh _ hv.symm;refine fon Tryz.func99 ?_;dsimp only[Tryz.f99];push_cast;refine jy [] [] hbg rfl (by decide) (by decide) (by simp) (by push_cast) rfl (fun r bx' m hp=>?_);obtain ⟨rfl,rfl,rfl⟩:=hp;push_cast;refine jy [4] [] hgo rfl (by decide) (by decide) (by simp) (by push_cast) rfl (fun r bx' m hp=>?_);obtain ⟨rfl,rfl,X,rfl⟩:=hp;push_cast;exact dn
 cases h3:xG p with
 | true =>
  rw[h3]at hre;refine good 1 (by unfold zL;rw[if_neg h1,if_neg (by rw[h2];decide),if_pos h3]) (fun _=>hf.root) ?_;refine foX (fun _=>[]) Tryz.func146 ?_;dsimp only[Tryz.f146];push_cast [h1'];refine cl hlo ?_;push_cast;refine cl hre ?_;push_cast;exact ⟨_,[_,_,_],0,⟨⟨rfl,rfl,rfl⟩,Wd _⟩,[],rfl,rfl,by push_cast [ze,zd,CLe,zg],by push_cast [ze,zd,CLe,zg]⟩
 | false =>
  rw[h3]at hre;have hh:=zdm f hf hs b hb;by_cases h4:(QE f b).2=0
  ·rw[h4]at hh;refine good (QE f b).1 (by unfold zL;rw[if_neg h1,if_neg (by rw[h2];decide),if_neg (by rw[h3];decide),if_neg (fun q=>q h4)]) (fun hne=>?_) ?_
   ·unfold QE at hne h4 ⊢;split at hne
    ·exact absurd rfl hne
    rename_i c1;rw[if_neg c1]at h4 ⊢;split at hne
    ·exact absurd rfl hne
    rename_i c2;rw[if_neg c2]at h4 ⊢;split at hne
    ·exact absurd rfl hne
    rename_i c3;rw[if_neg c3];have q:=ZZ (Ww.1 c3);rw[(zj q).2.2];exact q
   ·refine foX (fun _=>[]) Tryz.func146 ?_;dsimp only[Tryz.f146];push_cast [h1'];refine cl hlo ?_;push_cast;refine cl hre ?_;push_cast;refine cl hh ?_;push_cast;exact ⟨_,[_,_,_],0,⟨⟨rfl,rfl,rfl⟩,Wd _⟩,[],rfl,rfl,by push_cast [ze,zd,CLe,zg],by push_cast [ze,zd,CLe,zg]⟩
  ·refine bad _ h4 (by unfold zL;rw[if_neg h1,if_neg (by rw[h2];decide),if_neg (by rw[h3];decide),if_pos h4]) ?_;refine fon Tryz.func146 ?_;dsimp only[Tryz.f146];push_cast [h1'];refine cl hlo ?_;push_cast;refine cl hre ?_;push_cast;refine cl hh ?_;push_cast [h4];exact dn
end
section
open CA CB
open Go.RowKit QuotePlain
abbrev u8C (b:UInt8):C:=.sc (.int .u8 (b.toNat:Int))
theorem GN (l:Lz) (c:UInt8):(Lib.indexByte l c<0)↔c∉l:=by
 constructor
 ·intro h hc;have h1:=Lib.indexByte_ge l c;obtain ⟨k,hk,e⟩:=WD hc;exact Lib.indexByte_none (show Lib.indexByte l c = -1 by omega) k (by rw[Wa hk,e])
 ·intro h;rcases Int.lt_or_le (Lib.indexByte l c) 0 with h1 | h1
  ·exact h1
  ·obtain ⟨o,ho⟩:∃ o:Nat,Lib.indexByte l c=o:=⟨(Lib.indexByte l c).toNat,by omega⟩;obtain ⟨h2,_⟩:=Lib.indexByte_some ho;exact absurd (Wf h2) h
theorem xI (k:Int) (o:Lz) (ops:C) (c:UInt8) (hops:ops.cellB=true):Fun Tryz.prog G0 98 [.agg [.sc (.int .i64 k),.str o,ops],u8C c] (.sc (.bool (decide (c∈o)))) 0:=by
 refine fon Tryz.func98 ?_;dsimp only[Tryz.f98];push_cast [hops];refine cl (Zb o c) ?_;push_cast;have e:decide (0<=Lib.indexByte o c)=decide (c∈o):=by
  have:=GN o c;by_cases h:c∈o
  ·have h2:¬Lib.indexByte o c<0:=fun h3=>this.1 h3 h;simp[h];omega
  ·have h2:=this.2 h;simp[h];omega
 exact dn (by push_cast [ze,zd,CLe,zg,e])
structure zs6 where
 kind:Int
 opts:Lz
 operands:List Lz
end
section
open CA CB
open Go.RowKit
abbrev znE (k:Int) (o:Lz) (ops:List Lz):List C:=[.sc (.int .i64 k),.str o,.sl 1 (qg ops)]
theorem zdk (d:zY) (hd:d.diags.length<=80000) (k w:Int) (a b:Lz) (e:Int) (ha:a.length<=3000) (hb:b.length<=3000):Fun Tryz.prog GD 40 [HV d,.sc (.int .i64 k),.sc (.int .i64 w),.str a,.str b,.sc (.int .i64 e)] (HV (YM d (XQ k w a b e))) 0:=
 (ze5 d hd k w a b e ha hb).weak (by push_cast [ze,zd,CLe,zg,YM])
end
section
open CA CB
open Go.RowKit
theorem zje {p:Lz} (h:zk (zL f b p true).1.ino f.xs=false):ZM f b p=false:=by
 unfold ZM;rw[xQ h,An];exact .inr rfl
theorem zhC (f:FsV) (hf:FsI f) (hr:FsR f) (hs:FsS f) (hd:Hm f.xs) (b p:Lz) (hb:b.length<=100000) (hp:p.length<=3000):Fun Tryz.prog G0 114 [.agg (fsC f),.str b,.str p] (.sc (.bool (ZM f b p))) 0:=by
 have hsk:=ZH f hf hr hs hd b p true hb hp;have hg:=je (G:=G0) f (zL f b p true).1.ino (by have:=hs.len;omega) hf.rises;have e:ZM f b p=(decide ((zL f b p true).2=0)&&decide ((zf (zL f b p true).1.ino f.xs).kind=2)):=rfl;have hno:=zje (f:=f) (b:=b) (p:=p);by_cases h1:(zL f b p true).2=0
 ·have h1':=eq_true h1;rw[Wn h1,Or]at e;cases hh:zk (zL f b p true).1.ino f.xs with
  | false =>
   rw[hh]at hg;rw[hno hh];refine fon Tryz.func114 ?_;dsimp only[Tryz.f114];push_cast;refine cl hsk ?_;push_cast [h1'];refine cl hg ?_;push_cast [h1'];exact dn
  | true =>
   rw[hh]at hg;rw[e];refine fon Tryz.func114 ?_;dsimp only[Tryz.f114];push_cast;refine cl hsk ?_;push_cast [h1'];refine cl hg ?_;push_cast [h1'];exact dn
 ·have h1':=WH h1;rw[Wj h1,W8]at e;rw[e];refine fon Tryz.func114 ?_;dsimp only[Tryz.f114];push_cast;refine cl hsk ?_;push_cast [h1'];refine cl hg ?_;push_cast [h1'];exact dn
theorem Up {ops:List Lz} (h:0<ops.length):ops[ops.length-1]?=some (ops.getLastD []):=by
 rcases Ap ops with e | ⟨l,x,e⟩
 ·rw[e]at h;exact absurd h (Nat.lt_irrefl 0)
 ·rw[e,Aa,List.getLastD_concat];simp
theorem zg3 (f:FsV) (hf:FsI f) (hr:FsR f) (hs:FsS f) (hd:Hm f.xs) (b:Lz) (hb:b.length<=100000) (k:Int) (o:Lz) (ops:List Lz) (hn:ops.length<=1000) (hp:∀ x∈ops,x.length<=1000):Fun Tryz.prog G0 68 [.agg (fsC f),.str b,.agg (znE k o ops)] (.sc (.bool (zcx f b k o ops))) 0:=by
 have hll:(qg ops).length=ops.length:=We ..;have e:zcx f b k o ops=(!decide (ops.length<2)&&!decide ((84:UInt8)∈o)&&!zei f b k o (ops.getLastD [])&&ZM f b (ops.getLastD [])):=rfl;have h84:=xI k o (.sl 1 (qg ops)) 84 rfl;have h110:=xI k o (.sl 1 (qg ops)) 110 rfl;by_cases c1:ops.length<2
 ·have c1':=eq_true (show (ops.length:Int)<2 by omega);rw[Wn c1]at e;rw[e];refine fon Tryz.func68 ?_;dsimp only[Tryz.f68];push_cast [hll,c1'];exact dn (by push_cast [ze,zd,CLe,zg,AK,W8])
 have c1':=WH (show ¬(ops.length:Int)<2 by omega);rw[Wj c1]at e;by_cases c2:(84:UInt8)∈o
 ·rw[Wn c2]at e h84;rw[e];refine fon Tryz.func68 ?_;dsimp only[Tryz.f68];push_cast [hll,c1'];refine cl h84 ?_;push_cast;exact dn (by push_cast [ze,zd,CLe,zg,AK,W8,O6])
 rw[Wj c2]at e h84;have hlg:=Up (ops:=ops) (by omega);have hla:(qg ops)[ops.length-1]?=some [.str (ops.getLastD [])]:=by rw[Wv,hlg];rfl
 have hlx:((ops.length:Int)-1).toNat=ops.length-1:=by omega
 have hll2:(ops.getLastD []).length<=1000:=hp _ (Wf hlg);have hdi:=zhC f hf hr hs hd b (ops.getLastD []) hb (by omega);have hsk:=ZH f hf hr hs hd b (ops.getLastD []) false hb (by omega);have hg:=je (G:=G0) f (zL f b (ops.getLastD []) false).1.ino (by have:=hs.len;omega) hf.rises;have el:zei f b k o (ops.getLastD [])=(decide (k=3)&&decide ((110:UInt8)∈o)&&decide ((zL f b (ops.getLastD []) false).2=0)&&decide ((zf (zL f b (ops.getLastD []) false).1.ino f.xs).kind=3)):=rfl;clear hlg;generalize ops.getLastD []=p at *;have hno:zk (zL f b p false).1.ino f.xs=false->(zf (zL f b p false).1.ino f.xs).kind≠3:=fun q=>by rw[xQ q];exact show ¬(0:Int)=3 by decide
 generalize zL f b p false=T at *;by_cases c3:k=3
 ·have c3':=eq_true c3;by_cases c4:(110:UInt8)∈o
  ·rw[Wn c4]at h110 el;rw[Wn c3]at el;by_cases c5:T.2=0
   ·have c5':=eq_true c5;rw[Wn c5]at el;cases c6:zk T.1.ino f.xs with
    | false =>
     rw[c6]at hg;rw[Wj (hno c6)]at el;rw[el]at e;rw[e];refine fon Tryz.func68 ?_;dsimp only[Tryz.f68];push_cast [hll,c1'];refine cl h84 ?_;push_cast;push_cast [hll,hla,hlx,c3']
     repeat refine an ?_
     refine cl h110 ?_;push_cast;refine cl hsk ?_;push_cast [c5'];refine cl hg ?_;push_cast [c5'];refine cl hdi ?_;push_cast;exact dn (by push_cast [ze,zd,CLe,zg,O6,Aq,Or])
    | true =>
     rw[c6]at hg;by_cases c7:(zf T.1.ino f.xs).kind=3
     ·have c7':=eq_true c7;rw[Wn c7]at el;rw[el]at e;rw[e];refine fon Tryz.func68 ?_;dsimp only[Tryz.f68];push_cast [hll,c1'];refine cl h84 ?_;push_cast;push_cast [hll,hla,hlx,c3']
      repeat refine an ?_
      refine cl h110 ?_;push_cast;refine cl hsk ?_;push_cast [c5'];refine cl hg ?_;push_cast [c5',c7'];exact dn (by push_cast [ze,zd,CLe,zg,Bl,AK,O6,W8])
     ·have c7':=WH c7;rw[Wj c7]at el;rw[el]at e;rw[e];refine fon Tryz.func68 ?_;dsimp only[Tryz.f68];push_cast [hll,c1'];refine cl h84 ?_;push_cast;push_cast [hll,hla,hlx,c3']
      repeat refine an ?_
      refine cl h110 ?_;push_cast;refine cl hsk ?_;push_cast [c5'];refine cl hg ?_;push_cast [c5',c7'];refine cl hdi ?_;push_cast;exact dn (by push_cast [ze,zd,CLe,zg,O6,Aq,Or])
   ·have c5':=WH c5;rw[Wj c5,O6,W8]at el;rw[el]at e;rw[e];refine fon Tryz.func68 ?_;dsimp only[Tryz.f68];push_cast [hll,c1'];refine cl h84 ?_;push_cast;push_cast [hll,hla,hlx,c3']
    repeat refine an ?_
    refine cl h110 ?_;push_cast;refine cl hsk ?_;push_cast [c5'];refine cl hg ?_;push_cast [c5'];refine cl hdi ?_;push_cast;exact dn (by push_cast [ze,zd,CLe,zg,O6,Aq,Or])
  ·rw[Wj c4]at h110 el;rw[O6,W8,W8]at el;rw[el]at e;rw[e];refine fon Tryz.func68 ?_;dsimp only[Tryz.f68];push_cast [hll,c1'];refine cl h84 ?_;push_cast;push_cast [hll,hla,hlx,c3']
   repeat refine an ?_
   refine cl h110 ?_;push_cast;refine cl hdi ?_;push_cast;exact dn (by push_cast [ze,zd,CLe,zg,O6,Aq,Or])
 ·have c3':=WH c3;rw[Wj c3,W8,W8,W8]at el;rw[el]at e;rw[e];refine fon Tryz.func68 ?_;dsimp only[Tryz.f68];push_cast [hll,c1'];refine cl h84 ?_;push_cast;push_cast [hll,hla,hlx,c3']
  repeat refine an ?_
  refine cl hdi ?_;push_cast;exact dn (by push_cast [ze,zd,CLe,zg,O6,Aq,Or])
end
section
open CA CB
open Go.RowKit
theorem zbe (f:FsV) (hf:FsI f) (hr:FsR f) (hs:FsS f) (hd:Hm f.xs) (b:Lz) (hb:b.length<=100000) (k:Int) (o:Lz) (ops:List Lz) (hn:ops.length<=1000) (hp:∀ x∈ops,x.length<=1000):Fun Tryz.prog G0 39 [.agg (fsC f),.str b,.agg (znE k o ops)] (.tup [.sl 1 (qg ((j0 f b k o ops).getD [])),.sc (.bool (j0 f b k o ops).isSome)]) 0:=by
 have hll:(qg ops).length=ops.length:=We ..;have hin:=zg3 f hf hr hs hd b hb k o ops hn hp;by_cases c1:ops.length=1
 ·have c1':=eq_true (show (ops.length:Int)=1 by omega);obtain ⟨p,rfl⟩:=List.length_eq_one_iff.1 c1;have e:j0 f b k o [p]=some [Z1 p]:=rfl;have hba:=uy p (by have:=hp p Wi;omega);rw[e];refine fon Tryz.func39 ?_;dsimp only[Tryz.f39];push_cast [qg,WC,Oi,Wr,OC]
  repeat refine an ?_
  refine cl hba ?_;push_cast;exact dn (by push_cast [ze,zd,CLe,zg,WS,AW,qg,WC,Oi])
 have c1':=WH (show ¬(ops.length:Int)=1 by omega);cases c2:zcx f b k o ops with
 | true =>
  rw[c2]at hin;have e:j0 f b k o ops=some (ops.dropLast.map fun p=>Vh (ops.getLastD []) (Z1 p)):=by unfold j0;rw[if_neg c1,if_pos c2]
  have hn2:¬ops.length<2:=fun q=>by
   unfold zcx at c2;rw[Wn q]at c2;cases c2
  have hlg:=Up (ops:=ops) (by omega);have hla:(qg ops)[ops.length-1]?=some [.str (ops.getLastD [])]:=by rw[Wv,hlg];rfl
  have hlx:((ops.length:Int)-1).toNat=ops.length-1:=by omega
  have hl2:(ops.getLastD []).length<=1000:=hp _ (Wf hlg);have hdl:ops.take (ops.length-1)=ops.dropLast:=List.dropLast_eq_take.symm;have hpd:∀ x∈ops.dropLast,x.length<=1000:=fun x hx=>hp x (List.dropLast_subset _ hx);have hdn:ops.dropLast.length=ops.length-1:=List.length_dropLast;clear hlg hp;rw[e];generalize ops.getLastD []=z at *;generalize ops.dropLast=dl at *;have hdll:(qg dl).length=dl.length:=We ..;have hdc:((ops.length:Int)-1)=(dl.length:Int):=by omega
  refine fof (fun i=>if i=9 then [false,false,false,false,false,false,false,false,false,false,false,true] else []) Tryz.func39 ?_;dsimp only[Tryz.f39];push_cast [hll,c1'];refine cl hin ?_;push_cast;push_cast [hll,hlx,hdl,hdll]
  repeat refine an ?_
  push_cast [hll,hlx,hdl,hdll];refine loop (fun i:Nat=>⟨[(5,.ptr 1 0),(8,.sc (.int .i64 (ops.length:Nat))),(9,.own 0 9 1 (qg ((dl.take i).map fun p=>Vh z (Z1 p)))),(33,.sl 1 (qg dl)),(34,.sc (.int .i64 (dl.length:Nat))),(35,.sc (.int .i64 i))],[[.any,.any,.any,.any],znE k o ops],1,0⟩) (fun i=>i<=dl.length) (fun i=>dl.length-i) 0 (Wd _) ?_ ?_
  ·exact wks [.inr (9,1)] (h4:=by push_cast [ze,zd,CLe,zg,Oy,Oi,qg,hdl])
  intro i hi;by_cases hlt:i<dl.length
  ·have hlt':=eq_true (show (i:Int)<dl.length by omega);have hgi:(qg dl)[i]?=some [.str dl[i]]:=by simp[qg,hlt]
   have hx:=hpd _ (WB hlt);have ht:qg ((dl.take (i+1)).map fun p=>Vh z (Z1 p))=qg ((dl.take i).map fun p=>Vh z (Z1 p))++[[.str (Vh z (Z1 dl[i]))]]:=by
    rw[AB hlt,Oa];exact Oa
   generalize dl[i]=p at *;have hba:=uy p (by omega);have hbl:=xM p;have hj:=zgz z (Z1 p) (by omega) (by omega);have htl:(qg ((dl.take i).map fun p=>Vh z (Z1 p))).length=i:=by simp[qg];omega
   push_cast [hlt',hgi,hll,hla,hlx,Aj]
   repeat refine an ?_
   refine cl hba ?_;push_cast [hll,hla,hlx]
   repeat refine an ?_
   refine cl hj ?_;push_cast [htl]
   repeat refine an ?_
   exact ⟨i+1,by omega,by omega,wks [.inl 0] (h4:=by push_cast [ze,zd,CLe,zg,ht])⟩
  ·have hlt':=WH (show ¬(i:Int)<dl.length by omega);have hil:i=dl.length:=by omega
   rw[hil]at hlt' ⊢;rw[Og];push_cast [hlt'];exact dn (by push_cast [ze,zd,CLe,zg,WS,AW])
 | false =>
  rw[c2]at hin;by_cases c3:ops.length=2
  ·have c3':=eq_true (show (ops.length:Int)=2 by omega);have e:j0 f b k o ops=some [ops.getLastD []]:=by unfold j0;rw[if_neg c1,if_neg (by rw[c2];decide),if_pos c3]
   have hlg:=Up (ops:=ops) (by omega);have hla:(qg ops)[1]?=some [.str (ops.getLastD [])]:=by rw[Wv,show (1:Nat)=ops.length-1 by omega,hlg];rfl
   rw[e];refine fon Tryz.func39 ?_;dsimp only[Tryz.f39];push_cast [hll,c1'];refine cl hin ?_;push_cast [hll,c3',hla]
   repeat refine an ?_
   exact dn (by push_cast [ze,zd,CLe,zg,WS,AW,qg,WC,Oi])
  ·have c3':=WH (show ¬(ops.length:Int)=2 by omega);have e:j0 f b k o ops=none:=by unfold j0;rw[if_neg c1,if_neg (by rw[c2];decide),if_neg c3]
   rw[e];refine fon Tryz.func39 ?_;dsimp only[Tryz.f39];push_cast [hll,c1'];refine cl hin ?_;push_cast [hll,c3'];exact dn (by push_cast [ze,zd,CLe,zg,Ol,Br,qg,Oi])
end
section
open CA CB
open Go.RowKit
theorem zcH (f:FsV) (hf:FsI f) (hs:FsS f) (d o:Int):Fun Tryz.prog G0 123 [.agg (fsC f),.sc (.int .i64 d),.sc (.int .i64 o)] (.sc (.bool (kX f.xs f.xs.length d o))) 0:=by
 have hll:(zx f.xs).length=f.xs.length:=We ..;have hlen:=hs.len;refine fon Tryz.func123 ?_;dsimp only[Tryz.f123];push_cast;refine loop (fun p:Nat×Int=>⟨[(1,.sc (.int .i64 p.2)),(2,.sc (.int .i64 o)),(3,.ptr 0 0),(7,.sc (.bool false)),(12,.sc (.int .i64 (f.xs.length:Nat))),(13,.sc (.int .i64 p.1))],[fsC f],0,0⟩) (fun p=>p.1<=f.xs.length/\kX f.xs f.xs.length d o=kX f.xs (f.xs.length-p.1) p.2 o) (fun p=>f.xs.length-p.1) (0,d) ⟨Wd _,rfl⟩ ?_ ?_
 ·exact wk (h4:=by push_cast [ze,zd,CLe,zg,hll])
 rintro ⟨i,c⟩ ⟨h1,h2⟩;dsimp only at h1 h2;by_cases hi:i<f.xs.length
 ·have hi':=eq_true (show (i:Int)<f.xs.length by omega);have hg:=je (G:=G0) f c (by omega) hf.rises;have e:kX f.xs (f.xs.length-i) c o=if c=o then true else if c=1 then false else kX f.xs (f.xs.length-(i+1)) (zf c f.xs).parent o:=by
   rw[show f.xs.length-i=(f.xs.length-(i+1))+1 by omega];rfl
  rw[e]at h2;by_cases c1:c=o
  ·have c1':=eq_true c1;rw[if_pos c1]at h2;rw[h2];push_cast [hi'];refine cl hg ?_;push_cast [c1'];exact dn
  ·have c1':=WH c1;rw[if_neg c1]at h2;by_cases c2:c=1
   ·have c2':=eq_true c2;rw[if_pos c2]at h2;rw[h2];push_cast [hi'];refine cl hg ?_;push_cast [c1',c2'];exact dn
   ·have c2':=WH c2;rw[if_neg c2]at h2;push_cast [hi'];refine cl hg ?_;push_cast [c1',c2']
    repeat refine an ?_
    exact ⟨(i+1,(zf c f.xs).parent),⟨by dsimp only;omega,h2⟩,by dsimp only;omega,wk⟩
 ·have hi':=WH (show ¬(i:Int)<f.xs.length by omega);have e:kX f.xs (f.xs.length-i) c o=false:=by rw[show f.xs.length-i=0 by omega];rfl
  rw[h2,e];push_cast [hi'];exact dn
abbrev znT (a t:zH) (x y:zl) (th:Bool):List C:=[.sc (.int .i64 a.dir),.str a.name,.sc (.int .i64 a.ino),.sc (.int .i64 t.dir),.str t.name,.sc (.int .i64 t.ino),.sc (.int .i64 x.ino),.sc (.int .i64 x.kind),.sc (.int .i64 x.links),.str x.data,.sc (.int .i64 x.parent),.sl 2 (zQ x.es),.sc (.int .i64 y.ino),.sc (.int .i64 y.kind),.sc (.int .i64 y.links),.str y.data,.sc (.int .i64 y.parent),.sl 2 (zQ y.es),.sc (.bool th)]
abbrev zkW:List C:=[.sc (.int .i64 0),.str [],.sc (.int .i64 0),.sc (.int .i64 0),.str [],.sc (.int .i64 0),.sc (.int .i64 0),.sc (.int .i64 0),.sc (.int .i64 0),.str [],.sc (.int .i64 0),.sc (.slice none 0 0),.sc (.int .i64 0),.sc (.int .i64 0),.sc (.int .i64 0),.str [],.sc (.int .i64 0),.sc (.slice none 0 0),.sc (.bool false)]
abbrev vu (e:List C) (d:zY) (k:Int) (o:Lz) (ops:List Lz) (u v:Lz):List C:=e++(zqH d++(znE k o ops++[.str u,.str v]))
abbrev zds (e:Int×Int) (ok:Bool):C:=.tup [.agg [.sc (.int .i64 e.1),.sc (.int .i64 e.2)],.sc (.bool ok)]
end
section
open CA CB
open Go.RowKit
theorem GrD.s (h:GrD N d) (hN:N<=9000):uH d:=h.b.s hN
theorem zcc (h:GrD N d) (hN:N<=3000) (b:Lz) (hb:b.length<=100000) (k:Int) (o:Lz) (ops:List Lz) (u v:Lz) (hu:u.length<=3000) (hv:v.length<=3000) :
  YH Tryz.prog GD 72 [.ptr 0 0,.str b] [vu zkW d k o ops u v] 0 (fun r bx' n=>n=0/\r=zds ((mvS d.w.fs b u v).getD (0,0)) (mvS d.w.fs b u v).isNone/\bx' = [vu (match mvS d.w.fs b u v with | some _=>zkW | none=>znT (zL d.w.fs b u false).1 (zL d.w.fs b v false).1 (zf (zL d.w.fs b u false).1.ino d.w.fs.xs) (zf (zL d.w.fs b v false).1.ino d.w.fs.xs) (zk (zL d.w.fs b v false).1.ino d.w.fs.xs)) d k o ops u v]):=by
 have hs:=(h.s (by omega)).ws.fs;have hs1:=(ZH d.w.fs h.b.wi.fs h.r.fs hs h.dat b u false hb hu).g0 (G':=GD);have hs2:=(ZH d.w.fs h.b.wi.fs h.r.fs hs h.dat b v false hb hv).g0 (G':=GD);have hg1:=je (G:=GD) d.w.fs (zL d.w.fs b u false).1.ino (by have:=hs.len;omega) h.b.wi.fs.rises;have hg2:=je (G:=GD) d.w.fs (zL d.w.fs b v false).1.ino (by have:=hs.len;omega) h.b.wi.fs.rises;have e:mvS d.w.fs b u v=if (zL d.w.fs b u false).2≠0 then some (11,(zL d.w.fs b u false).2) else if zk (zL d.w.fs b u false).1.ino d.w.fs.xs=false then some (11,1) else if (zL d.w.fs b u false).1.name = [] then some (15,10)
  else if (zL d.w.fs b v false).2≠0 then some (15,(zL d.w.fs b v false).2) else if (zL d.w.fs b v false).1.name = [] then some (15,10) else none:=rfl
 generalize mvS d.w.fs b u v=M at *;generalize zL d.w.fs b u false=A at *;generalize zL d.w.fs b v false=T at *;generalize zf A.1.ino d.w.fs.xs=X at *;generalize zf T.1.ino d.w.fs.xs=Y at *;by_cases h1:A.2=0
 case neg =>
  have h1':=WH h1;rw[if_pos h1]at e;subst e;simp only[WS,O4,Ol,O3];refine foX (fun i=>if i=2 then j9 10 11 else if i=10 then j9 10 11 else if i=15 then QW [(0,.pure),(1,.pure),(2,.pure),(3,.pure),(4,.pure),(5,.pure),(6,.pure),(7,.pure),(8,.pure),(9,.flt [1,2,4,5]),(10,.pure),(11,.pure),(12,.pure),(13,.flt [2,5]),(14,.pure),(15,.pure),(16,.pure),(17,.flt [])] else []) Tryz.func72 ?_;dsimp only[Tryz.f72];push_cast;refine cl hs1 ?_;push_cast [h1'];refine cl hg1 ?_;push_cast [h1'];exact ⟨_,[_],0,⟨⟨rfl,rfl,rfl⟩,Wb _⟩,[],rfl,rfl,by push_cast [ze,zd,CLe,zg],by push_cast [ze,zd,CLe,zg]⟩
 have h1':=eq_true h1;rw[if_neg (fun q=>q h1)]at e;cases h2:zk A.1.ino d.w.fs.xs with
 | false =>
  rw[h2]at hg1 e;rw[if_pos rfl]at e;subst e;simp only[WS,O4,Ol,O3];refine foX (fun i=>if i=2 then j9 10 11 else if i=10 then j9 10 11 else if i=15 then QW [(0,.pure),(1,.pure),(2,.pure),(3,.pure),(4,.pure),(5,.pure),(6,.pure),(7,.pure),(8,.pure),(9,.flt [1,2,4,5]),(10,.pure),(11,.pure),(12,.pure),(13,.flt [2,5]),(14,.pure),(15,.pure),(16,.pure),(17,.flt [])] else []) Tryz.func72 ?_;dsimp only[Tryz.f72];push_cast;refine cl hs1 ?_;push_cast [h1'];refine cl hg1 ?_;push_cast [h1'];exact ⟨_,[_],0,⟨⟨rfl,rfl,rfl⟩,Wb _⟩,[],rfl,rfl,by push_cast [ze,zd,CLe,zg],by push_cast [ze,zd,CLe,zg]⟩
 | true =>
  rw[h2]at hg1 e;rw[if_neg (by decide)]at e;by_cases h3:A.1.name = []
  ·have h3':=eq_true h3;rw[if_pos h3]at e;subst e;simp only[WS,O4,Ol,O3];refine foX (fun i=>if i=2 then j9 10 11 else if i=10 then j9 10 11 else if i=15 then QW [(0,.pure),(1,.pure),(2,.pure),(3,.pure),(4,.pure),(5,.pure),(6,.pure),(7,.pure),(8,.pure),(9,.flt [1,2,4,5]),(10,.pure),(11,.pure),(12,.pure),(13,.flt [2,5]),(14,.pure),(15,.pure),(16,.pure),(17,.flt [])] else []) Tryz.func72 ?_;dsimp only[Tryz.f72];push_cast;refine cl hs1 ?_;push_cast [h1'];refine cl hg1 ?_;push_cast [h1',h3'];exact ⟨_,[_],0,⟨⟨rfl,rfl,rfl⟩,Wb _⟩,[],rfl,rfl,by push_cast [ze,zd,CLe,zg],by push_cast [ze,zd,CLe,zg]⟩
  have h3':=WH h3;rw[if_neg h3]at e;by_cases h4:T.2=0
  case neg =>
   have h4':=WH h4;rw[if_pos h4]at e;subst e;simp only[WS,O4,Ol,O3];refine foX (fun i=>if i=2 then j9 10 11 else if i=10 then j9 10 11 else if i=15 then QW [(0,.pure),(1,.pure),(2,.pure),(3,.pure),(4,.pure),(5,.pure),(6,.pure),(7,.pure),(8,.pure),(9,.flt [1,2,4,5]),(10,.pure),(11,.pure),(12,.pure),(13,.flt [2,5]),(14,.pure),(15,.pure),(16,.pure),(17,.flt [])] else []) Tryz.func72 ?_;dsimp only[Tryz.f72];push_cast;refine cl hs1 ?_;push_cast [h1'];refine cl hg1 ?_;push_cast [h1',h3'];refine cl hs2 ?_;push_cast [h4'];exact ⟨_,[_],0,⟨⟨rfl,rfl,rfl⟩,Wb _⟩,[],rfl,rfl,by push_cast [ze,zd,CLe,zg],by push_cast [ze,zd,CLe,zg]⟩
  have h4':=eq_true h4;rw[if_neg (fun q=>q h4)]at e;by_cases h5:T.1.name = []
  ·have h5':=eq_true h5;rw[if_pos h5]at e;subst e;simp only[WS,O4,Ol,O3];refine foX (fun i=>if i=2 then j9 10 11 else if i=10 then j9 10 11 else if i=15 then QW [(0,.pure),(1,.pure),(2,.pure),(3,.pure),(4,.pure),(5,.pure),(6,.pure),(7,.pure),(8,.pure),(9,.flt [1,2,4,5]),(10,.pure),(11,.pure),(12,.pure),(13,.flt [2,5]),(14,.pure),(15,.pure),(16,.pure),(17,.flt [])] else []) Tryz.func72 ?_;dsimp only[Tryz.f72];push_cast;refine cl hs1 ?_;push_cast [h1'];refine cl hg1 ?_;push_cast [h1',h3'];refine cl hs2 ?_;push_cast [h4',h5'];exact ⟨_,[_],0,⟨⟨rfl,rfl,rfl⟩,Wb _⟩,[],rfl,rfl,by push_cast [ze,zd,CLe,zg],by push_cast [ze,zd,CLe,zg]⟩
  have h5':=WH h5;rw[if_neg h5]at e;subst e;simp only[WS,O4,Ol,O3];refine foX (fun i=>if i=2 then j9 10 11 else if i=10 then j9 10 11 else if i=15 then QW [(0,.pure),(1,.pure),(2,.pure),(3,.pure),(4,.pure),(5,.pure),(6,.pure),(7,.pure),(8,.pure),(9,.flt [1,2,4,5]),(10,.pure),(11,.pure),(12,.pure),(13,.flt [2,5]),(14,.pure),(15,.pure),(16,.pure),(17,.flt [])] else []) Tryz.func72 ?_;dsimp only[Tryz.f72];push_cast;refine cl hs1 ?_;push_cast [h1'];refine cl hg1 ?_;push_cast [h1',h3'];refine cl hs2 ?_;push_cast [h4',h5'];refine cl hg2 ?_;push_cast;exact ⟨_,[_],0,⟨⟨rfl,rfl,rfl⟩,Wb _⟩,[],rfl,rfl,by push_cast [ze,zd,CLe,zg],by push_cast [ze,zd,CLe,zg]⟩
end
section
open CA CB
open Go.RowKit
def Hi (x y:zl):(Int×Int)×Bool:=if x.kind=2/\y.kind≠2 then ((12,0),false) else if x.kind≠2/\y.kind=2 then ((13,0),false) else ((15,5),decide (y.es = []))
theorem zjx (a t:zH) (x y:zl) (th:Bool) (d:zY) (k:Int) (o:Lz) (ops:List Lz) (u v:Lz) (hy:y.es.length<=100000):Nr Tryz.prog GD 124 [.ptr 0 0] [vu (znT a t x y th) d k o ops u v] 0 (zds (Hi x y).1 (Hi x y).2) [vu (znT a t x y th) d k o ops u v] 0:=by
 have hel:(zQ y.es).length=y.es.length:=We ..;by_cases c1:x.kind=2<;>by_cases c2:y.kind=2
 ·have c1':=eq_true c1;have c2':=eq_true c2;have e:Hi x y=((15,5),decide (y.es = [])):=by unfold Hi;rw[if_neg (fun q=>q.2 c2),if_neg (fun q=>q.1 c1)]
  rw[e];by_cases c3:y.es = []
  ·have c3':((y.es.length:Int)=0)=True:=eq_true (by rw[c3];rfl);rw[Wn c3];refine foB (fun i=>if i=1 then j9 15 16 else if i=6 then QW [(0,.pure),(1,.pure),(2,.pure),(3,.pure),(4,.pure),(5,.pure),(6,.pure),(7,.pure),(8,.pure),(9,.flt [1,2,3,4,5,6,7,8]),(10,.pure)] else []) Tryz.func124 ?_;dsimp only[Tryz.f124];push_cast [c1',c2',hel,c3'];exact ⟨[],rfl,rfl,by push_cast [ze,zd,CLe,zg],by push_cast [ze,zd,CLe,zg]⟩
  ·have c3':((y.es.length:Int)=0)=False:=WH (by have:=WG.2 c3;omega);rw[Wj c3];refine foB (fun i=>if i=1 then j9 15 16 else if i=6 then QW [(0,.pure),(1,.pure),(2,.pure),(3,.pure),(4,.pure),(5,.pure),(6,.pure),(7,.pure),(8,.pure),(9,.flt [1,2,3,4,5,6,7,8]),(10,.pure)] else []) Tryz.func124 ?_;dsimp only[Tryz.f124];push_cast [c1',c2',hel,c3'];exact ⟨[],rfl,rfl,by push_cast [ze,zd,CLe,zg],by push_cast [ze,zd,CLe,zg]⟩
 ·have c1':=eq_true c1;have c2':=WH c2;have e:Hi x y=((12,0),false):=if_pos ⟨c1,c2⟩;rw[e];refine foB (fun i=>if i=1 then j9 15 16 else if i=6 then QW [(0,.pure),(1,.pure),(2,.pure),(3,.pure),(4,.pure),(5,.pure),(6,.pure),(7,.pure),(8,.pure),(9,.flt [1,2,3,4,5,6,7,8]),(10,.pure)] else []) Tryz.func124 ?_;dsimp only[Tryz.f124];push_cast [c1',c2',hel];exact ⟨[],rfl,rfl,by push_cast [ze,zd,CLe,zg],by push_cast [ze,zd,CLe,zg]⟩
 ·have c1':=WH c1;have c2':=eq_true c2;have e:Hi x y=((13,0),false):=by unfold Hi;rw[if_neg (fun q=>c1 q.1),if_pos ⟨c1,c2⟩]
  rw[e];refine foB (fun i=>if i=1 then j9 15 16 else if i=6 then QW [(0,.pure),(1,.pure),(2,.pure),(3,.pure),(4,.pure),(5,.pure),(6,.pure),(7,.pure),(8,.pure),(9,.flt [1,2,3,4,5,6,7,8]),(10,.pure)] else []) Tryz.func124 ?_;dsimp only[Tryz.f124];push_cast [c1',c2',hel];exact ⟨[],rfl,rfl,by push_cast [ze,zd,CLe,zg],by push_cast [ze,zd,CLe,zg]⟩
 ·have c1':=WH c1;have c2':=WH c2;have e:Hi x y=((15,5),decide (y.es = [])):=by unfold Hi;rw[if_neg (fun q=>c1 q.1),if_neg (fun q=>c2 q.2)]
  rw[e];by_cases c3:y.es = []
  ·have c3':((y.es.length:Int)=0)=True:=eq_true (by rw[c3];rfl);rw[Wn c3];refine foB (fun i=>if i=1 then j9 15 16 else if i=6 then QW [(0,.pure),(1,.pure),(2,.pure),(3,.pure),(4,.pure),(5,.pure),(6,.pure),(7,.pure),(8,.pure),(9,.flt [1,2,3,4,5,6,7,8]),(10,.pure)] else []) Tryz.func124 ?_;dsimp only[Tryz.f124];push_cast [c1',c2',hel,c3'];exact ⟨[],rfl,rfl,by push_cast [ze,zd,CLe,zg],by push_cast [ze,zd,CLe,zg]⟩
  ·have c3':((y.es.length:Int)=0)=False:=WH (by have:=WG.2 c3;omega);rw[Wj c3];refine foB (fun i=>if i=1 then j9 15 16 else if i=6 then QW [(0,.pure),(1,.pure),(2,.pure),(3,.pure),(4,.pure),(5,.pure),(6,.pure),(7,.pure),(8,.pure),(9,.flt [1,2,3,4,5,6,7,8]),(10,.pure)] else []) Tryz.func124 ?_;dsimp only[Tryz.f124];push_cast [c1',c2',hel,c3'];exact ⟨[],rfl,rfl,by push_cast [ze,zd,CLe,zg],by push_cast [ze,zd,CLe,zg]⟩
theorem zaV (h:GrD N d) (hN:N<=3000) (a t:zH) (k:Int) (o:Lz) (ops:List Lz) (u v:Lz) (hv:v.length<=3000) (ht:t.name.length<=100000) :
  Nr Tryz.prog GD 73 [.ptr 0 0] [vu (znT a t (zf a.ino d.w.fs.xs) (zf t.ino d.w.fs.xs) (zk t.ino d.w.fs.xs)) d k o ops u v] 0 (zds (mvJ d.w.fs o a t v).1 (mvJ d.w.fs o a t v).2) [vu (znT a t (zf a.ino d.w.fs.xs) (zf t.ino d.w.fs.xs) (zk t.ino d.w.fs.xs)) d k o ops u v] 0:=by
 have hs:=(h.s (by omega)).ws.fs;have hha:=(xI k o (.sl 1 (qg ops)) 110 rfl).g0 (G':=GD);have hin:=(zcH d.w.fs h.b.wi.fs hs t.dir a.ino).g0 (G':=GD);have hre:Fun Tryz.prog GD 125 [.str v] (.agg [qZ (xG v),.own 0 9 1 (qg (zn v)),qZ (jm v)]) 1:=(Uw v (by omega)).g0;have hma:=(zfq t.name (by omega)).g0 (G':=GD);have hye:(zf t.ino d.w.fs.xs).es.length<=100000:=by
  cases hq:zk t.ino d.w.fs.xs with
  | true=>have:=hs.es hq;omega
  | false=>rw[xQ hq];exact Wd _
 have hov:=zjx a t (zf a.ino d.w.fs.xs) (zf t.ino d.w.fs.xs) true d k o ops u v hye;have e:mvJ d.w.fs o a t v=if zk t.ino d.w.fs.xs=true/\(110:UInt8)∈o then ((0,0),false)
  else if zk t.ino d.w.fs.xs=true/\a.ino=t.ino then ((9,0),false)
  else if (zf a.ino d.w.fs.xs).kind=2/\kX d.w.fs.xs d.w.fs.xs.length t.dir a.ino=true then ((14,0),false)
  else if zk t.ino d.w.fs.xs=true then Hi (zf a.ino d.w.fs.xs) (zf t.ino d.w.fs.xs)
  else if jm v=true/\(zf a.ino d.w.fs.xs).kind≠2 then ((15,3),false) else if may t.name=false then ((15,9),false) else ((0,0),true):=rfl
 generalize mvJ d.w.fs o a t v=J at *;generalize kX d.w.fs.xs d.w.fs.xs.length t.dir a.ino=I at *;generalize zf a.ino d.w.fs.xs=X at *;generalize zf t.ino d.w.fs.xs=Y at *;cases hT:zk t.ino d.w.fs.xs with
 | true =>
  rw[hT]at e;by_cases c1:(110:UInt8)∈o
  ·rw[if_pos ⟨rfl,c1⟩]at e;rw[Wn c1]at hha;subst e;refine foB (fun _=>[]) Tryz.func73 ?_;dsimp only[Tryz.f73];push_cast;refine cl hha ?_;push_cast;exact ⟨[],rfl,rfl,by push_cast [ze,zd,CLe,zg],by push_cast [ze,zd,CLe,zg]⟩
  rw[if_neg (fun q=>c1 q.2)]at e;rw[Wj c1]at hha;by_cases c2:a.ino=t.ino
  ·have c2':=eq_true c2;rw[if_pos ⟨rfl,c2⟩]at e;subst e;refine foB (fun _=>[]) Tryz.func73 ?_;dsimp only[Tryz.f73];push_cast;refine cl hha ?_;push_cast [c2'];exact ⟨[],rfl,rfl,by push_cast [ze,zd,CLe,zg],by push_cast [ze,zd,CLe,zg]⟩
  have c2':=WH c2;rw[if_neg (fun q=>c2 q.2)]at e;by_cases c3:X.kind=2
  ·have c3':=eq_true c3;cases hI:I with
   | true =>
    rw[hI]at hin e;rw[if_pos ⟨c3,rfl⟩]at e;subst e;refine foB (fun _=>[]) Tryz.func73 ?_;dsimp only[Tryz.f73];push_cast;refine cl hha ?_;push_cast [c2',c3'];refine cl hin ?_;push_cast [c2',c3'];exact ⟨[],rfl,rfl,by push_cast [ze,zd,CLe,zg],by push_cast [ze,zd,CLe,zg]⟩
   | false =>
    rw[hI]at hin e;rw[if_neg (fun q=>by cases q.2),if_pos rfl]at e;subst e;refine foB (fun _=>[]) Tryz.func73 ?_;dsimp only[Tryz.f73];push_cast;refine cl hha ?_;push_cast [c2',c3'];refine cl hin ?_;push_cast [c2',c3'];refine VK [0] [] hov rfl (by decide) (by decide) (by simp) (by push_cast) (by push_cast) ?_;push_cast;exact ⟨[],rfl,rfl,by push_cast [ze,zd,CLe,zg],by push_cast [ze,zd,CLe,zg]⟩
  ·have c3':=WH c3;rw[if_neg (fun q=>c3 q.1),if_pos rfl]at e;subst e;refine foB (fun _=>[]) Tryz.func73 ?_;dsimp only[Tryz.f73];push_cast;refine cl hha ?_;push_cast [c2',c3'];refine VK [0] [] hov rfl (by decide) (by decide) (by simp) (by push_cast) (by push_cast) ?_;push_cast;exact ⟨[],rfl,rfl,by push_cast [ze,zd,CLe,zg],by push_cast [ze,zd,CLe,zg]⟩
 | false =>
  rw[hT]at e;rw[if_neg (fun q=>by cases q.1),if_neg (fun q=>by cases q.1)]at e;by_cases c3:X.kind=2
  ·have c3':=eq_true c3;cases hI:I with
   | true =>
    rw[hI]at hin e;rw[if_pos ⟨c3,rfl⟩]at e;subst e;refine foB (fun _=>[]) Tryz.func73 ?_;dsimp only[Tryz.f73];push_cast [c3'];refine cl hin ?_;push_cast [c3'];exact ⟨[],rfl,rfl,by push_cast [ze,zd,CLe,zg],by push_cast [ze,zd,CLe,zg]⟩
   | false =>
    rw[hI]at hin e;rw[if_neg (fun q=>by cases q.2),if_neg (by decide),if_neg (fun q=>q.2 c3)]at e;cases hS:jm v
    all_goals
     rw[hS]at hre;cases hM:may t.name
     all_goals
      rw[hM]at hma e
      first | rw[if_pos rfl]at e | rw[if_neg (by decide)]at e
      subst e;refine foB (fun _=>[]) Tryz.func73 ?_;dsimp only[Tryz.f73];push_cast [c3'];refine cl hin ?_;push_cast [c3'];refine cl hre ?_;push_cast [c3'];refine cl hma ?_;push_cast;exact ⟨[],rfl,rfl,by push_cast [ze,zd,CLe,zg],by push_cast [ze,zd,CLe,zg]⟩
  ·have c3':=WH c3;rw[if_neg (fun q=>c3 q.1),if_neg (by decide)]at e;cases hS:jm v with
   | true =>
    rw[hS]at hre e;rw[if_pos ⟨rfl,c3⟩]at e;subst e;refine foB (fun _=>[]) Tryz.func73 ?_;dsimp only[Tryz.f73];push_cast [c3'];refine cl hre ?_;push_cast [c3'];exact ⟨[],rfl,rfl,by push_cast [ze,zd,CLe,zg],by push_cast [ze,zd,CLe,zg]⟩
   | false =>
    rw[hS]at hre e;rw[if_neg (fun q=>by cases q.1)]at e;cases hM:may t.name
    all_goals
     rw[hM]at hma e
     first | rw[if_pos rfl]at e | rw[if_neg (by decide)]at e
     subst e;refine foB (fun _=>[]) Tryz.func73 ?_;dsimp only[Tryz.f73];push_cast [c3'];refine cl hre ?_;push_cast [c3'];refine cl hma ?_;push_cast;exact ⟨[],rfl,rfl,by push_cast [ze,zd,CLe,zg],by push_cast [ze,zd,CLe,zg]⟩
end
section
open CA CB
open Go.RowKit
abbrev xb:List C:=[.any,.any,.any,.any,.any,.any,.any,.any,.any,.any,.any,.any,.any,.any,.any,.any,.any,.any,.any,.any,.any,.any,.any,.any,.any,.any,.any,.any,.any,.any,.any,.any,.any,.any]
theorem zfC (h:GrD N d) (hN:N<=3000) (b:Lz) (hb:b.length<=100000) (k:Int) (o:Lz) (ops:List Lz) (u v:Lz) (hu:u.length<=3000) (hv:v.length<=3000) :
  YH Tryz.prog GD 41 [.ptr 0 0,.str b] [vu zkW d k o ops u v] 0 (fun r bx' n=>n=0/\r=HV (Va b o d u v)/\∃ X,bx' = [X]):=by
 have hso:=zcc h hN b hb k o ops u v hu hv;have hdl:d.diags.length<=80000:=by have:=h.b.diags;omega
 have htl:=fun w e:Int=>zdk d hdl 4 w u v e hu hv;cases hM:mvS d.w.fs b u v with
 | some e =>
  have eo:Va b o d u v=YM d (XQ 4 e.1 u v e.2):=by unfold Va;rw[hM]
  have hne:=WH (zpN hM);rw[hM]at hso;simp only[WS,O4]at hso;have ht:=htl e.1 e.2;rw[eo];refine foX (fun i=>if i=7 then [false,false,false,false,false,false,false,false,false,false,false,false,false,false,false,false,false,true] else []) Tryz.func41 ?_;dsimp only[Tryz.f41];push_cast;refine jy [0] [] hso rfl (by decide) (by decide) (by simp) (by push_cast) (by push_cast) (fun r bx' m hp=>?_);obtain ⟨rfl,rfl,rfl⟩:=hp;push_cast [hne];refine cl ht ?_;push_cast;exact ⟨_,[xb],0,⟨⟨rfl,rfl,_,rfl⟩,Wb _⟩,[],rfl,rfl,by push_cast [ze,zd,CLe,zg,YM],by push_cast [ze,zd,CLe,zg]⟩
 | none =>
  obtain ⟨s1,s2,s3,s4,s5⟩:=zoZ hM;have hi:=h.b.wi.fs;have hr:=h.r.fs;have hok:=h.ok (by omega);have hS:=(h.s (by omega)).ws.fs;have eo:Va b o d u v=if (mvJ d.w.fs o (zL d.w.fs b u false).1 (zL d.w.fs b v false).1 v).2 then zcK d (zL d.w.fs b u false).1 (zL d.w.fs b v false).1
   else if (mvJ d.w.fs o (zL d.w.fs b u false).1 (zL d.w.fs b v false).1 v).1.1=0 then d
   else YM d (XQ 4 (mvJ d.w.fs o (zL d.w.fs b u false).1 (zL d.w.fs b v false).1 v).1.1 u v (mvJ d.w.fs o (zL d.w.fs b u false).1 (zL d.w.fs b v false).1 v).1.2):=by
   show (match mvS d.w.fs b u v with | some e=>_ | none=>_)=_
   rw[hM]
  have hjd:=zaV h hN (zL d.w.fs b u false).1 (zL d.w.fs b v false).1 k o ops u v hv (zbm hS b v false (by omega));rw[hM]at hso;simp only[Ol,O3]at hso;have ha:=VD (xe s1) hi s2 s3;have hgt:=xe s4;have ma:=Zn hr ha;have hjo:=zkz (f:=d.w.fs) (o:=o) (a:=(zL d.w.fs b u false).1) (t:=(zL d.w.fs b v false).1) (v:=v);have hpa:=(Mo d.w.fs hok (zL d.w.fs b u false).1 ha.has ha.kind ma).g0 (G':=GD);have hla:=ux hok ha.has ha.kind ma;generalize (zL d.w.fs b u false).1=A at *;generalize (zL d.w.fs b v false).1=T at *;cases hJ2:(mvJ d.w.fs o A T v).2 with
  | false =>
   rw[hJ2]at hjd eo;rw[if_neg (by decide)]at eo;have ht:=htl (mvJ d.w.fs o A T v).1.1 (mvJ d.w.fs o A T v).1.2;generalize (mvJ d.w.fs o A T v).1=J at *;by_cases h0:J.1=0
   ·have h0':=eq_true h0;rw[if_pos h0]at eo;rw[eo];refine foX (fun i=>if i=7 then [false,false,false,false,false,false,false,false,false,false,false,false,false,false,false,false,false,true] else []) Tryz.func41 ?_;dsimp only[Tryz.f41];push_cast;refine jy [0] [] hso rfl (by decide) (by decide) (by simp) (by push_cast) (by push_cast) (fun r bx' m hp=>?_);obtain ⟨rfl,rfl,rfl⟩:=hp;push_cast;refine VK [0] [] hjd rfl (by decide) (by decide) (by simp) (by push_cast) (by push_cast) ?_;push_cast [h0'];exact ⟨_,[xb],0,⟨⟨rfl,rfl,_,rfl⟩,Wb _⟩,[],rfl,rfl,by push_cast [ze,zd,CLe,zg],by push_cast [ze,zd,CLe,zg]⟩
   ·have h0':=WH h0;rw[if_neg h0]at eo;rw[eo];refine foX (fun i=>if i=7 then [false,false,false,false,false,false,false,false,false,false,false,false,false,false,false,false,false,true] else []) Tryz.func41 ?_;dsimp only[Tryz.f41];push_cast;refine jy [0] [] hso rfl (by decide) (by decide) (by simp) (by push_cast) (by push_cast) (fun r bx' m hp=>?_);obtain ⟨rfl,rfl,rfl⟩:=hp;push_cast;refine VK [0] [] hjd rfl (by decide) (by decide) (by simp) (by push_cast) (by push_cast) ?_;push_cast [h0'];refine cl ht ?_;push_cast;exact ⟨_,[xb],0,⟨⟨rfl,rfl,_,rfl⟩,Wb _⟩,[],rfl,rfl,by push_cast [ze,zd,CLe,zg,YM],by push_cast [ze,zd,CLe,zg]⟩
  | true =>
   rw[hJ2]at hjd eo;rw[if_pos rfl]at eo;obtain ⟨j1,j2,_⟩:=hjo hJ2;have gT:zk T.dir d.w.fs.xs=true/\(zf T.dir d.w.fs.xs).kind=2/\T.ino=zK T.name (zf T.dir d.w.fs.xs).es:=hgt.resolve_left s5;have mt:may T.name=true:=by
    cases hq:zk T.ino d.w.fs.xs with
    | true=>exact Zn hr (VD hgt hi hq s5)
    | false=>exact (j2 hq).1
   have hpt:=(Mo d.w.fs hok T gT.1 gT.2.1 mt).g0 (G':=GD);have hlt:=ux hok gT.1 gT.2.1 mt;have eg:zcK d A T=(Xp (if zk T.ino d.w.fs.xs then (Xp d (HC (zV d.w.fs T))).1 else d) (JU (zV d.w.fs A) (zV d.w.fs T))).1:=rfl;have hrm:=zou d (h.s (by omega)) (zV d.w.fs T) (by omega);have h1:=h.add (o:=HC (zV d.w.fs T)) (Wd _) (show ¬(7:Int)=3 by decide);rw[show opL (HC (zV d.w.fs T)) = [.sc (.int .i64 7),.sc (.int .i64 0),.str (zV d.w.fs T),.str [],.str []] from rfl]at hrm;cases hT:zk T.ino d.w.fs.xs with
   | true =>
    rw[hT,if_pos rfl]at eg;rw[hT]at hso hjd;have hmv:=zkA _ (h1.s (by omega)) (zV d.w.fs A) (zV d.w.fs T) (by omega) (by omega);rw[show opL (JU (zV d.w.fs A) (zV d.w.fs T)) = [.sc (.int .i64 6),.sc (.int .i64 0),.str (zV d.w.fs A),.str (zV d.w.fs T),.str []] from rfl]at hmv;rw[eo,eg];generalize (Xp d (HC (zV d.w.fs T)))=R1 at *;generalize (Xp R1.1 (JU (zV d.w.fs A) (zV d.w.fs T)))=R2 at *;refine foX (fun i=>if i=7 then [false,false,false,false,false,false,false,false,false,false,false,false,false,false,false,false,false,true] else []) Tryz.func41 ?_;dsimp only[Tryz.f41];push_cast;refine jy [0] [] hso rfl (by decide) (by decide) (by simp) (by push_cast) (by push_cast) (fun r bx' m hp=>?_);obtain ⟨rfl,rfl,rfl⟩:=hp;push_cast;refine VK [0] [] hjd rfl (by decide) (by decide) (by simp) (by push_cast) (by push_cast) ?_;push_cast;refine cl hpa ?_;push_cast;refine cl hpt ?_;push_cast;refine cl hrm ?_;push_cast;refine cl hmv ?_;push_cast;exact ⟨_,[xb],0,⟨⟨rfl,rfl,_,rfl⟩,Wb _⟩,[],rfl,rfl,by push_cast [ze,zd,CLe,zg],by push_cast [ze,zd,CLe,zg]⟩
   | false =>
    rw[hT,if_neg (by decide)]at eg;rw[hT]at hso hjd;have hmv:=zkA d (h.s (by omega)) (zV d.w.fs A) (zV d.w.fs T) (by omega) (by omega);rw[show opL (JU (zV d.w.fs A) (zV d.w.fs T)) = [.sc (.int .i64 6),.sc (.int .i64 0),.str (zV d.w.fs A),.str (zV d.w.fs T),.str []] from rfl]at hmv;rw[eo,eg];generalize (Xp d (JU (zV d.w.fs A) (zV d.w.fs T)))=R2 at *;refine foX (fun i=>if i=7 then [false,false,false,false,false,false,false,false,false,false,false,false,false,false,false,false,false,true] else []) Tryz.func41 ?_;dsimp only[Tryz.f41];push_cast;refine jy [0] [] hso rfl (by decide) (by decide) (by simp) (by push_cast) (by push_cast) (fun r bx' m hp=>?_);obtain ⟨rfl,rfl,rfl⟩:=hp;push_cast;refine VK [0] [] hjd rfl (by decide) (by decide) (by simp) (by push_cast) (by push_cast) ?_;push_cast;refine cl hpa ?_;push_cast;refine cl hpt ?_;push_cast;refine cl hmv ?_;push_cast;exact ⟨_,[xb],0,⟨⟨rfl,rfl,_,rfl⟩,Wb _⟩,[],rfl,rfl,by push_cast [ze,zd,CLe,zg],by push_cast [ze,zd,CLe,zg]⟩
end
section
open CA CB
open Go.RowKit
theorem Zy (k:Int) (b o:Lz) (ops:List Lz) {N:Nat} {d:zY} (h:GrD N d) (hN:N+2*ops.length+2<=2000) (hb:b.length<=1000) (hp:∀ x∈ops,x.length<=1000) (h1:0<ops.length):Fun Tryz.prog GD 12 [HV d,.str b,.agg (znE k o ops)] (HV (xO k b o ops d)) 0:=by
 have hll:(qg ops).length=ops.length:=We ..;have hS:=(h.s (by omega)).ws.fs;have hpl:=(zbe d.w.fs h.b.wi.fs h.r.fs hS h.dat b (by omega) k o ops (by omega) hp).g0 (G':=GD);have e:xO k b o ops d=match j0 d.w.fs b k o ops with | none=>YM d (XQ k 10 (ops.getLastD []) [] 0) | some ps=>zm7 b o (ops.zip ps) d:=rfl
 cases hP:j0 d.w.fs b k o ops with
 | none =>
  rw[hP]at hpl e;simp only[Ol,Br]at hpl;have hlg:=Up h1;have hla:(qg ops)[ops.length-1]?=some [.str (ops.getLastD [])]:=by rw[Wv,hlg];rfl
  have hlx:((ops.length:Int)-1).toNat=ops.length-1:=by omega
  have hl2:(ops.getLastD []).length<=1000:=hp _ (Wf hlg);have ht:=zdk d (by have:=h.b.diags;omega) k 10 (ops.getLastD []) [] 0 (by omega) (Wd _);rw[e];refine fof (fun i=>if i=3 then [false,false,false,false,false,false,false,false,false,false,false,false,true] else if i=7 then [false,false,false,false,false,false,false,false,false,true] else []) Tryz.func12 ?_;dsimp only[Tryz.f12];push_cast;refine cl hpl ?_;push_cast [hll,hla,hlx]
  repeat refine an ?_
  refine cl ht ?_;push_cast;exact dn (by push_cast [ze,zd,CLe,zg,YM])
 | some ps =>
  rw[hP]at hpl e;simp only[WS,AW]at hpl;obtain ⟨p1,p2⟩:=zbG hP hp;have hpsl:(qg ps).length=ps.length:=We ..;have hz:(ops.zip ps).length=ps.length:=by rw[List.length_zip];omega
  have e:xO k b o ops d=zm7 b o (ops.zip ps) d:=e;rw[e];refine fof (fun i=>if i=3 then [false,false,false,false,false,false,false,false,false,false,false,false,true] else if i=7 then [false,false,false,false,false,false,false,false,false,true] else []) Tryz.func12 ?_;dsimp only[Tryz.f12];push_cast;refine cl hpl ?_;push_cast [hpsl];refine loop (fun q:Nat×zY=>⟨[(1,.str b),(3,.ptr 0 0),(5,.ptr 1 0),(6,.ptr 2 0),(35,.sl 1 (qg ps)),(36,.sc (.int .i64 (ps.length:Nat))),(37,.sc (.int .i64 q.1))],[zqH q.2,znE k o ops,Mx],0,0⟩) (fun q=>q.1<=ps.length/\q.2=zm7 b o ((ops.zip ps).take q.1) d/\GrD (N+2*q.1) q.2) (fun q=>ps.length-q.1) (0,d) ⟨Wd _,rfl,h⟩ ?_ ?_
  ·exact wk (h4:=by push_cast [ze,zd,CLe,zg,hpsl])
  rintro ⟨i,D⟩ ⟨i1,i2,i3⟩;dsimp only at i1 i2 i3;by_cases hi:i<ps.length
  case neg =>
   have hil:i=ps.length:=by omega
   have hi':=WH (show ¬(i:Int)<ps.length by omega);rw[hil,←hz,Og]at i2;push_cast [hi'];rw[←i2];exact dn
  have hi':=eq_true (show (i:Int)<ps.length by omega);have hio:i<ops.length:=by omega
  have hgp:(qg ps)[i]?=some [.str ps[i]]:=by simp[qg,hi]
  have hgo:(qg ops)[i]?=some [.str ops[i]]:=by simp[qg,hio]
  have hlp:=p2 _ (WB hi);have hlo:=hp _ (WB hio);have hst:Va b o D ops[i] ps[i]=zm7 b o ((ops.zip ps).take (i+1)) d:=by
   have hzi:i<(ops.zip ps).length:=by omega
   rw[AB hzi];unfold zm7;rw[List.foldl_append];show Va b o D ops[i] ps[i]=Va b o (zm7 b o ((ops.zip ps).take i) d) (ops.zip ps)[i].1 (ops.zip ps)[i].2;rw[←i2,List.getElem_zip]
  have hG:=zmm i3 b o ops[i] ps[i];have hg:=zfC i3 (by omega) b (by omega) k o ops ops[i] ps[i] (by omega) (by omega);generalize ops[i]=u at *;generalize ps[i]=v at *;generalize Va b o D u v=D2 at *;push_cast [hi',hgp,hgo,hll,hpsl,Aj]
  repeat refine an ?_
  push_cast [hi',hgp,hgo,hll,hpsl,Aj]
  repeat refine an ?_
  refine jy [3] [] hg rfl (by decide) (by decide) (by simp) (by push_cast) (by push_cast) (fun r bx' m hp=>?_);obtain ⟨rfl,rfl,X,rfl⟩:=hp;push_cast
  repeat refine an ?_
  exact ⟨(i+1,D2),⟨by dsimp only;omega,hst,by rw[show N+2*(i+1)=N+2*i+2 by omega];exact hG⟩,by dsimp only;omega,wk⟩
end
section
open CA CB
open Go.RowKit
theorem za7 (f:FsV) (hf:FsI f) (hs:FsS f) (p:Lz) (hp:p.length<=100000):Fun Tryz.prog G0 24 [.agg (fsC f),.str p] (.tup [.agg (Yf (jl f p).1),.sc (.int .i64 (jl f p).2)]) 0:=by
 have h1:=Nf f hf hs p (by omega);have h2:=JK (G:=G0) f (atV f p).1.ino (by have:=hs.len;omega);by_cases c1:(atV f p).2=0
 ·by_cases c2:(atV f p).1.ino=0
  ·have e:jl f p=(Nt,1):=by unfold jl;rw[if_neg (fun h=>h c1),if_pos c2]
   rw[c1]at h1;refine fon Tryz.func24 ?_;dsimp only[Tryz.f24];push_cast;refine cl h1 ?_;push_cast [c2];exact dn (by push_cast [ze,zd,CLe,zg,e,Nt])
  ·have e:jl f p=(zf (atV f p).1.ino f.xs,0):=by unfold jl;rw[if_neg (fun h=>h c1),if_neg c2]
   rw[c1]at h1;refine fon Tryz.func24 ?_;dsimp only[Tryz.f24];push_cast;refine cl h1 ?_;push_cast [c2];refine cl h2 ?_;push_cast;exact dn (by push_cast [ze,zd,CLe,zg,e])
 ·have e:jl f p=(Nt,(atV f p).2):=by unfold jl;rw[if_pos c1]
  refine fon Tryz.func24 ?_;dsimp only[Tryz.f24];push_cast;refine cl h1 ?_;push_cast [c1];exact dn (by push_cast [ze,zd,CLe,zg,e,Nt])
end
section
open CA CB
open Go.RowKit
end
section
open CA CB
open Go.RowKit
def YK (w:qN) (b:Lz) (l:List Lz):Prop:=(∀ x∈l.take 20,x.length<=1000)/\okW w/\w.fs.next<549755813888/\Ja w.kept<536870912/\ZJ w.fs b []=true/\jE b=true/\l.length<=6
instance (w:qN) (b:Lz) (l:List Lz):Decidable (YK w b l):=by unfold YK;infer_instance
theorem zaL (w:qN) (b:Lz) (l:List Lz) (hb:b.length<=2000000):Fun Tryz.prog G0 10 [Q7 w,.str b,.sl 1 (qg l)] (qZ (decide (YK w b l))) 0:=by
 have hll:(qg l).length=l.length:=We ..;have hpl:=VX b hb;unfold Yv at hpl;have hok:=zfB w;have hsh:=zb7 w.fs b [];refine fon Tryz.func10 ?_;dsimp only[Tryz.f10];push_cast;refine cl hpl ?_;push_cast;refine loop (fun i:Nat=>⟨[(1,.str b),(2,.sl 1 (qg l)),(3,.ptr 0 0),(8,.sc (.bool (jE b))),(9,.sc (.int .i64 i))],[Nw w],0,0⟩) (fun i=>i<=l.length/\i<=20/\∀ x∈l.take i,x.length<=1000) (fun i=>l.length-i) 0 ⟨Wd _,Wd _,fun x hx=>by rw[Oy]at hx;cases hx⟩ ?_ ?_
 ·exact wk
 rintro i ⟨h1,h2,h3⟩;by_cases hi:i<l.length
 ·have hi':=eq_true (show (i:Int)<l.length by omega);by_cases h20:i<20
  ·have h20':=eq_true (show (i:Int)<20 by omega);have hgi:(qg l)[i]?=some [.str l[i]]:=by simp[qg,hi]
   have ht:l.take (i+1)=l.take i++[l[i]]:=AB hi;by_cases hx:l[i].length<=1000
   ·have hx':=WH (show ¬(1000:Int)<l[i].length by omega);push_cast [hi',h20',hgi,hll,hx',Aj]
    repeat refine an ?_
    exact ⟨i+1,⟨by omega,by omega,fun x hm=>by
     rw[ht]at hm;rcases Wz.1 hm with hm | hm
     ·exact h3 x hm
     ·rw[WY.1 hm];exact hx⟩,by omega,wk⟩
   ·have hx':=eq_true (show (1000:Int)<l[i].length by omega);have hn:¬YK w b l:=fun h=>hx (h.1 _ (AD.2 ⟨i,by omega,rfl⟩));push_cast [hi',h20',hgi,hll,hx',Aj]
    repeat refine an ?_
    exact dn (by push_cast [ze,zd,CLe,zg,hn])
  ·have h20':=WH (show ¬(i:Int)<20 by omega);have hx:∀ x∈l.take 20,x.length<=1000:=by rw[show i=20 by omega]at h3;exact h3
   by_cases k1:okW w
   case neg =>
    have hn:¬YK w b l:=fun h=>k1 h.2.1;rw[Wj k1]at hok;push_cast [hi',h20',hll];refine cl hok ?_;push_cast;exact dn (by push_cast [ze,zd,CLe,zg,hn])
   rw[Wn k1]at hok;have hs:=k1.2.2.2.2.1;have hla:=UZ (G:=G0) w (by have:=(zdU k1).klen;omega) hs.1 hs.2;by_cases k2:w.fs.next<549755813888
   case neg =>
    have hn:¬YK w b l:=fun h=>k2 h.2.2.1;have k2':=WH k2;push_cast [hi',h20',hll];refine cl hok ?_;push_cast [k2'];exact dn (by push_cast [ze,zd,CLe,zg,hn])
   have k2':=eq_true k2;by_cases k3:Ja w.kept<536870912
   case neg =>
    have hn:¬YK w b l:=fun h=>k3 h.2.2.2.1;have k3':=WH k3;push_cast [hi',h20',hll];refine cl hok ?_;push_cast [k2'];refine cl hla ?_;push_cast [k3'];exact dn (by push_cast [ze,zd,CLe,zg,hn])
   have k3':=eq_true k3;cases k4:ZJ w.fs b []
   case false =>
    have hn:¬YK w b l:=fun h=>by rw[h.2.2.2.2.1]at k4;cases k4
    rw[k4]at hsh;push_cast [hi',h20',hll];refine cl hok ?_;push_cast [k2'];refine cl hla ?_;push_cast [k3'];refine cl hsh ?_;push_cast;exact dn (by push_cast [ze,zd,CLe,zg,hn])
   rw[k4]at hsh;cases k5:jE b
   case false =>
    have hn:¬YK w b l:=fun h=>by rw[h.2.2.2.2.2.1]at k5;cases k5
    push_cast [hi',h20',hll];refine cl hok ?_;push_cast [k2'];refine cl hla ?_;push_cast [k3'];refine cl hsh ?_;push_cast;exact dn (by push_cast [ze,zd,CLe,zg,hn])
   by_cases k6:l.length<=6
   ·have hn:YK w b l:=⟨hx,k1,k2,k3,k4,k5,k6⟩;have k6':=eq_true (show (l.length:Int)<=6 by omega);push_cast [hi',h20',hll];refine cl hok ?_;push_cast [k2'];refine cl hla ?_;push_cast [k3'];refine cl hsh ?_;push_cast [hll,k6'];exact dn (by push_cast [ze,zd,CLe,zg,hn])
   ·have hn:¬YK w b l:=fun h=>k6 h.2.2.2.2.2.2;have k6':=WH (show ¬(l.length:Int)<=6 by omega);push_cast [hi',h20',hll];refine cl hok ?_;push_cast [k2'];refine cl hla ?_;push_cast [k3'];refine cl hsh ?_;push_cast [hll,k6'];exact dn (by push_cast [ze,zd,CLe,zg,hn])
 ·have hi':=WH (show ¬(i:Int)<l.length by omega);have hx:∀ x∈l.take 20,x.length<=1000:=by
   rw[show i=l.length by omega,Og]at h3;exact fun x hm=>h3 x (Wx hm)
  by_cases k1:okW w
  case neg =>
   have hn:¬YK w b l:=fun h=>k1 h.2.1;rw[Wj k1]at hok;push_cast [hi',hll];refine cl hok ?_;push_cast;exact dn (by push_cast [ze,zd,CLe,zg,hn])
  rw[Wn k1]at hok;have hs:=k1.2.2.2.2.1;have hla:=UZ (G:=G0) w (by have:=(zdU k1).klen;omega) hs.1 hs.2;by_cases k2:w.fs.next<549755813888
  case neg =>
   have hn:¬YK w b l:=fun h=>k2 h.2.2.1;have k2':=WH k2;push_cast [hi',hll];refine cl hok ?_;push_cast [k2'];exact dn (by push_cast [ze,zd,CLe,zg,hn])
  have k2':=eq_true k2;by_cases k3:Ja w.kept<536870912
  case neg =>
   have hn:¬YK w b l:=fun h=>k3 h.2.2.2.1;have k3':=WH k3;push_cast [hi',hll];refine cl hok ?_;push_cast [k2'];refine cl hla ?_;push_cast [k3'];exact dn (by push_cast [ze,zd,CLe,zg,hn])
  have k3':=eq_true k3;cases k4:ZJ w.fs b []
  case false =>
   have hn:¬YK w b l:=fun h=>by rw[h.2.2.2.2.1]at k4;cases k4
   rw[k4]at hsh;push_cast [hi',hll];refine cl hok ?_;push_cast [k2'];refine cl hla ?_;push_cast [k3'];refine cl hsh ?_;push_cast;exact dn (by push_cast [ze,zd,CLe,zg,hn])
  rw[k4]at hsh;cases k5:jE b
  case false =>
   have hn:¬YK w b l:=fun h=>by rw[h.2.2.2.2.2.1]at k5;cases k5
   push_cast [hi',hll];refine cl hok ?_;push_cast [k2'];refine cl hla ?_;push_cast [k3'];refine cl hsh ?_;push_cast;exact dn (by push_cast [ze,zd,CLe,zg,hn])
  by_cases k6:l.length<=6
  ·have hn:YK w b l:=⟨hx,k1,k2,k3,k4,k5,k6⟩;have k6':=eq_true (show (l.length:Int)<=6 by omega);push_cast [hi',hll];refine cl hok ?_;push_cast [k2'];refine cl hla ?_;push_cast [k3'];refine cl hsh ?_;push_cast [hll,k6'];exact dn (by push_cast [ze,zd,CLe,zg,hn])
  ·have hn:¬YK w b l:=fun h=>k6 h.2.2.2.2.2.2;have k6':=WH (show ¬(l.length:Int)<=6 by omega);push_cast [hi',hll];refine cl hok ?_;push_cast [k2'];refine cl hla ?_;push_cast [k3'];refine cl hsh ?_;push_cast [hll,k6'];exact dn (by push_cast [ze,zd,CLe,zg,hn])
end
section
theorem ziX {l:List Lz} (h:YK w b l):Hm w.fs.xs/\b.length<=1000:=by
 have hs:=h.2.2.2.2.1;have hl:=(zdU h.2.1).len;unfold ZJ at hs;simp only[Wp,WU,Ab,Ob]at hs;obtain ⟨⟨h1,h2⟩,_⟩:=hs;rw[Wg (by omega)]at h1;refine ⟨fun x hx hk=>?_,by omega⟩;have:=h1 x hx;unfold Ug at this;simp only[Wp,WU,not_and]at this;have:=this hk;omega
theorem Vp {l:List Lz} (h:YK w b l):∀ x∈l,x.length<=1000:=by
 have h1:=h.1;rw[Wg (by have:=h.2.2.2.2.2.2;omega)]at h1;exact h1
end
end Go.Proofs.YtnpdbhbmakdklaaGreatDoor.Vcg
