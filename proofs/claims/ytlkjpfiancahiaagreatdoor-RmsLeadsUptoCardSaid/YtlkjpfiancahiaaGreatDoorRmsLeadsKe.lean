/- What the proof of RmsLeads leans on, part 5: Diag1 Spl Diag2 Diag3 Diag4 Dra3 Ref19b Ref19c Rf11 Ref8 Wlk1 Wlk2 Tree1 Mak0 Tree2 Tree3 Tree4 Tree5 Tree6 Tree7 Dra4 Mak1 Mak2 Mak3 OpenD Sk0 Slc2 Sk2 Rgt0 SekP SekL Rgt1 Rgt2 Rgt3 Rgt4 Rgt5 Rgt6 PthL Rms0 Rms1 Rms2 Rms3 Rms4 Rms5 Do7 Sek1 Sek2 Sek3 Rmv Rea Rml Rpl0 Rpl Rrm Sk1 Sk3 Ron Rdo Rfi Rsm Rtr. No condition beyond what each theorem states. -/
import Derived.Test.YtlkjpfiancahiaaGreatDoorRmsLeadsKd
import Derived.Shelf.Strings.SlTrimAscii
import Derived.Sort.Walk0
import Derived.Lib.IndexLaws
set_option linter.unusedVariables false
set_option linter.unusedSimpArgs false
set_option linter.unusedSectionVars false
set_option maxRecDepth 100000
set_option maxHeartbeats 4000000
namespace Go.Proofs.YtlkjpfiancahiaaGreatDoor.Vcg
section
open Go.RowKit
def phr:List (List UInt8):=[[],[99,97,110,110,111,116,32,99,114,101,97,116,101,32,100,105,114,101,99,116,111,114,121,32,65,58,32,69],[99,97,110,110,111,116,32,114,101,109,111,118,101,32,65,58,32,69],[114,101,102,117,115,105,110,103,32,116,111,32,114,101,109,111,118,101,32,34,46,34,32,111,114,32,34,46,46,34,32,100,105,114,101,99,116,111,114,121,58,32,115,107,105,112,112,105,110,103,32,65],[105,116,32,105,115,32,100,97,110,103,101,114,111,117,115,32,116,111,32,111,112,101,114,97,116,101,32,114,101,99,117,114,115,105,118,101,108,121,32,111,110,32,65],[102,97,105,108,101,100,32,116,111,32,97,99,99,101,115,115,32,65,58,32,69],[65,58,32,104,97,114,100,32,108,105,110,107,32,110,111,116,32,97,108,108,111,119,101,100,32,102,111,114,32,100,105,114,101,99,116,111,114,121],[102,97,105,108,101,100,32,116,111,32,99,114,101,97,116,101,32,104,97,114,100,32,108,105,110,107,32,66,58,32,69],[102,97,105,108,101,100,32,116,111,32,99,114,101,97,116,101,32,115,121,109,98,111,108,105,99,32,108,105,110,107,32,66,58,32,69],[65,32,97,110,100,32,66,32,97,114,101,32,116,104,101,32,115,97,109,101,32,102,105,108,101],[116,97,114,103,101,116,32,65,32,105,115,32,110,111,116,32,97,32,100,105,114,101,99,116,111,114,121],[99,97,110,110,111,116,32,115,116,97,116,32,65,58,32,69],[99,97,110,110,111,116,32,111,118,101,114,119,114,105,116,101,32,110,111,110,45,100,105,114,101,99,116,111,114,121,32,66,32,119,105,116,104,32,100,105,114,101,99,116,111,114,121,32,65],[99,97,110,110,111,116,32,111,118,101,114,119,114,105,116,101,32,100,105,114,101,99,116,111,114,121,32,66,32,119,105,116,104,32,110,111,110,45,100,105,114,101,99,116,111,114,121,32,65],[99,97,110,110,111,116,32,109,111,118,101,32,65,32,116,111,32,97,32,115,117,98,100,105,114,101,99,116,111,114,121,32,111,102,32,105,116,115,101,108,102,44,32,66],[99,97,110,110,111,116,32,109,111,118,101,32,65,32,116,111,32,66,58,32,69],[45,114,32,110,111,116,32,115,112,101,99,105,102,105,101,100,59,32,111,109,105,116,116,105,110,103,32,100,105,114,101,99,116,111,114,121,32,65],[99,97,110,110,111,116,32,99,114,101,97,116,101,32,114,101,103,117,108,97,114,32,102,105,108,101,32,66,58,32,69],[99,97,110,110,111,116,32,99,114,101,97,116,101,32,115,121,109,98,111,108,105,99,32,108,105,110,107,32,66,58,32,69],[99,97,110,110,111,116,32,99,111,112,121,32,97,32,100,105,114,101,99,116,111,114,121,44,32,65,44,32,105,110,116,111,32,105,116,115,101,108,102,44,32,66],[110,111,116,32,119,114,105,116,105,110,103,32,116,104,114,111,117,103,104,32,100,97,110,103,108,105,110,103,32,115,121,109,108,105,110,107,32,66],[101,114,114,111,114,32,119,114,105,116,105,110,103,32,66,58,32,69],[99,97,110,110,111,116,32,99,114,101,97,116,101,32,100,105,114,101,99,116,111,114,121,32,66,58,32,69]]
def zsg:List (List UInt8):=[[83,117,99,99,101,115,115],[78,111,32,115,117,99,104,32,102,105,108,101,32,111,114,32,100,105,114,101,99,116,111,114,121],[70,105,108,101,32,101,120,105,115,116,115],[78,111,116,32,97,32,100,105,114,101,99,116,111,114,121],[73,115,32,97,32,100,105,114,101,99,116,111,114,121],[68,105,114,101,99,116,111,114,121,32,110,111,116,32,101,109,112,116,121],[84,111,111,32,109,97,110,121,32,108,101,118,101,108,115,32,111,102,32,115,121,109,98,111,108,105,99,32,108,105,110,107,115],[70,105,108,101,32,110,97,109,101,32,116,111,111,32,108,111,110,103],[78,111,32,115,112,97,99,101,32,108,101,102,116,32,111,110,32,100,101,118,105,99,101],[73,110,118,97,108,105,100,32,97,114,103,117,109,101,110,116],[68,101,118,105,99,101,32,111,114,32,114,101,115,111,117,114,99,101,32,98,117,115,121],[79,112,101,114,97,116,105,111,110,32,110,111,116,32,112,101,114,109,105,116,116,101,100],[77,97,108,102,111,114,109,101,100,32,116,101,120,116],[78,111,116,32,105,110,32,116,104,101,32,115,116,97,115,104]]
def zpi:List Value:=[.string ⟨#[]⟩,.string ⟨#[]⟩,.int .i64 0,.string ⟨#[109,107,100,105,114]⟩,.string ⟨#[112]⟩,.int .i64 1,.string ⟨#[114,109]⟩,.string ⟨#[82,100,102,114]⟩,.int .i64 1,.string ⟨#[108,110]⟩,.string ⟨#[84,102,110,115]⟩,.int .i64 1,.string ⟨#[109,118]⟩,.string ⟨#[84,102,110]⟩,.int .i64 2,.string ⟨#[99,112]⟩,.string ⟨#[80,82,84,102,110,114]⟩,.int .i64 2]
def G2:zo:=fun g=>if g=1 then some (phr.map C.str) else if g=0 then some (zpi.map zy) else if g=2 then some (zsg.map C.str) else none
theorem zoY:G2 1=some [.str [],.str [99,97,110,110,111,116,32,99,114,101,97,116,101,32,100,105,114,101,99,116,111,114,121,32,65,58,32,69],.str [99,97,110,110,111,116,32,114,101,109,111,118,101,32,65,58,32,69],.str [114,101,102,117,115,105,110,103,32,116,111,32,114,101,109,111,118,101,32,34,46,34,32,111,114,32,34,46,46,34,32,100,105,114,101,99,116,111,114,121,58,32,115,107,105,112,112,105,110,103,32,65],.str [105,116,32,105,115,32,100,97,110,103,101,114,111,117,115,32,116,111,32,111,112,101,114,97,116,101,32,114,101,99,117,114,115,105,118,101,108,121,32,111,110,32,65],.str [102,97,105,108,101,100,32,116,111,32,97,99,99,101,115,115,32,65,58,32,69],.str [65,58,32,104,97,114,100,32,108,105,110,107,32,110,111,116,32,97,108,108,111,119,101,100,32,102,111,114,32,100,105,114,101,99,116,111,114,121],.str [102,97,105,108,101,100,32,116,111,32,99,114,101,97,116,101,32,104,97,114,100,32,108,105,110,107,32,66,58,32,69],.str [102,97,105,108,101,100,32,116,111,32,99,114,101,97,116,101,32,115,121,109,98,111,108,105,99,32,108,105,110,107,32,66,58,32,69],.str [65,32,97,110,100,32,66,32,97,114,101,32,116,104,101,32,115,97,109,101,32,102,105,108,101],.str [116,97,114,103,101,116,32,65,32,105,115,32,110,111,116,32,97,32,100,105,114,101,99,116,111,114,121],.str [99,97,110,110,111,116,32,115,116,97,116,32,65,58,32,69],.str [99,97,110,110,111,116,32,111,118,101,114,119,114,105,116,101,32,110,111,110,45,100,105,114,101,99,116,111,114,121,32,66,32,119,105,116,104,32,100,105,114,101,99,116,111,114,121,32,65],.str [99,97,110,110,111,116,32,111,118,101,114,119,114,105,116,101,32,100,105,114,101,99,116,111,114,121,32,66,32,119,105,116,104,32,110,111,110,45,100,105,114,101,99,116,111,114,121,32,65],.str [99,97,110,110,111,116,32,109,111,118,101,32,65,32,116,111,32,97,32,115,117,98,100,105,114,101,99,116,111,114,121,32,111,102,32,105,116,115,101,108,102,44,32,66],.str [99,97,110,110,111,116,32,109,111,118,101,32,65,32,116,111,32,66,58,32,69],.str [45,114,32,110,111,116,32,115,112,101,99,105,102,105,101,100,59,32,111,109,105,116,116,105,110,103,32,100,105,114,101,99,116,111,114,121,32,65],.str [99,97,110,110,111,116,32,99,114,101,97,116,101,32,114,101,103,117,108,97,114,32,102,105,108,101,32,66,58,32,69],.str [99,97,110,110,111,116,32,99,114,101,97,116,101,32,115,121,109,98,111,108,105,99,32,108,105,110,107,32,66,58,32,69],.str [99,97,110,110,111,116,32,99,111,112,121,32,97,32,100,105,114,101,99,116,111,114,121,44,32,65,44,32,105,110,116,111,32,105,116,115,101,108,102,44,32,66],.str [110,111,116,32,119,114,105,116,105,110,103,32,116,104,114,111,117,103,104,32,100,97,110,103,108,105,110,103,32,115,121,109,108,105,110,107,32,66],.str [101,114,114,111,114,32,119,114,105,116,105,110,103,32,66,58,32,69],.str [99,97,110,110,111,116,32,99,114,101,97,116,101,32,100,105,114,101,99,116,111,114,121,32,66,58,32,69]]:=rfl
theorem zjy:G2 0=some [.str [],.str [],.sc (.int .i64 0),.str [109,107,100,105,114],.str [112],.sc (.int .i64 1),.str [114,109],.str [82,100,102,114],.sc (.int .i64 1),.str [108,110],.str [84,102,110,115],.sc (.int .i64 1),.str [109,118],.str [84,102,110],.sc (.int .i64 2),.str [99,112],.str [80,82,84,102,110,114],.sc (.int .i64 2)]:=rfl
theorem zlu:G2 2=some [.str [83,117,99,99,101,115,115],.str [78,111,32,115,117,99,104,32,102,105,108,101,32,111,114,32,100,105,114,101,99,116,111,114,121],.str [70,105,108,101,32,101,120,105,115,116,115],.str [78,111,116,32,97,32,100,105,114,101,99,116,111,114,121],.str [73,115,32,97,32,100,105,114,101,99,116,111,114,121],.str [68,105,114,101,99,116,111,114,121,32,110,111,116,32,101,109,112,116,121],.str [84,111,111,32,109,97,110,121,32,108,101,118,101,108,115,32,111,102,32,115,121,109,98,111,108,105,99,32,108,105,110,107,115],.str [70,105,108,101,32,110,97,109,101,32,116,111,111,32,108,111,110,103],.str [78,111,32,115,112,97,99,101,32,108,101,102,116,32,111,110,32,100,101,118,105,99,101],.str [73,110,118,97,108,105,100,32,97,114,103,117,109,101,110,116],.str [68,101,118,105,99,101,32,111,114,32,114,101,115,111,117,114,99,101,32,98,117,115,121],.str [79,112,101,114,97,116,105,111,110,32,110,111,116,32,112,101,114,109,105,116,116,101,100],.str [77,97,108,102,111,114,109,101,100,32,116,101,120,116],.str [78,111,116,32,105,110,32,116,104,101,32,115,116,97,115,104]]:=rfl
attribute [push_cast] zoY zjy zlu
def Ju (k:Int):List UInt8:=if k=1 then [109,107,100,105,114] else if k=2 then [114,109] else if k=3 then [108,110] else if k=4 then [109,118] else if k=5 then [99,112] else []
def qG (k:Int):List UInt8:=if k=1 then [99,97,110,110,111,116,32,99,114,101,97,116,101,32,100,105,114,101,99,116,111,114,121,32,65,58,32,69] else if k=2 then [99,97,110,110,111,116,32,114,101,109,111,118,101,32,65,58,32,69] else if k=3 then [114,101,102,117,115,105,110,103,32,116,111,32,114,101,109,111,118,101,32,34,46,34,32,111,114,32,34,46,46,34,32,100,105,114,101,99,116,111,114,121,58,32,115,107,105,112,112,105,110,103,32,65] else if k=4 then [105,116,32,105,115,32,100,97,110,103,101,114,111,117,115,32,116,111,32,111,112,101,114,97,116,101,32,114,101,99,117,114,115,105,118,101,108,121,32,111,110,32,65] else if k=5 then [102,97,105,108,101,100,32,116,111,32,97,99,99,101,115,115,32,65,58,32,69] else if k=6 then [65,58,32,104,97,114,100,32,108,105,110,107,32,110,111,116,32,97,108,108,111,119,101,100,32,102,111,114,32,100,105,114,101,99,116,111,114,121] else if k=7 then [102,97,105,108,101,100,32,116,111,32,99,114,101,97,116,101,32,104,97,114,100,32,108,105,110,107,32,66,58,32,69] else if k=8 then [102,97,105,108,101,100,32,116,111,32,99,114,101,97,116,101,32,115,121,109,98,111,108,105,99,32,108,105,110,107,32,66,58,32,69] else if k=9 then [65,32,97,110,100,32,66,32,97,114,101,32,116,104,101,32,115,97,109,101,32,102,105,108,101] else if k=10 then [116,97,114,103,101,116,32,65,32,105,115,32,110,111,116,32,97,32,100,105,114,101,99,116,111,114,121] else if k=11 then [99,97,110,110,111,116,32,115,116,97,116,32,65,58,32,69] else if k=12 then [99,97,110,110,111,116,32,111,118,101,114,119,114,105,116,101,32,110,111,110,45,100,105,114,101,99,116,111,114,121,32,66,32,119,105,116,104,32,100,105,114,101,99,116,111,114,121,32,65] else if k=13 then [99,97,110,110,111,116,32,111,118,101,114,119,114,105,116,101,32,100,105,114,101,99,116,111,114,121,32,66,32,119,105,116,104,32,110,111,110,45,100,105,114,101,99,116,111,114,121,32,65] else if k=14 then [99,97,110,110,111,116,32,109,111,118,101,32,65,32,116,111,32,97,32,115,117,98,100,105,114,101,99,116,111,114,121,32,111,102,32,105,116,115,101,108,102,44,32,66] else if k=15 then [99,97,110,110,111,116,32,109,111,118,101,32,65,32,116,111,32,66,58,32,69] else if k=16 then [45,114,32,110,111,116,32,115,112,101,99,105,102,105,101,100,59,32,111,109,105,116,116,105,110,103,32,100,105,114,101,99,116,111,114,121,32,65] else if k=17 then [99,97,110,110,111,116,32,99,114,101,97,116,101,32,114,101,103,117,108,97,114,32,102,105,108,101,32,66,58,32,69] else if k=18 then [99,97,110,110,111,116,32,99,114,101,97,116,101,32,115,121,109,98,111,108,105,99,32,108,105,110,107,32,66,58,32,69] else if k=19 then [99,97,110,110,111,116,32,99,111,112,121,32,97,32,100,105,114,101,99,116,111,114,121,44,32,65,44,32,105,110,116,111,32,105,116,115,101,108,102,44,32,66] else if k=20 then [110,111,116,32,119,114,105,116,105,110,103,32,116,104,114,111,117,103,104,32,100,97,110,103,108,105,110,103,32,115,121,109,108,105,110,107,32,66] else if k=21 then [101,114,114,111,114,32,119,114,105,116,105,110,103,32,66,58,32,69] else if k=22 then [99,97,110,110,111,116,32,99,114,101,97,116,101,32,100,105,114,101,99,116,111,114,121,32,66,58,32,69] else []
def xF (k:Int):List UInt8:=if k=0 then [83,117,99,99,101,115,115] else if k=1 then [78,111,32,115,117,99,104,32,102,105,108,101,32,111,114,32,100,105,114,101,99,116,111,114,121] else if k=2 then [70,105,108,101,32,101,120,105,115,116,115] else if k=3 then [78,111,116,32,97,32,100,105,114,101,99,116,111,114,121] else if k=4 then [73,115,32,97,32,100,105,114,101,99,116,111,114,121] else if k=5 then [68,105,114,101,99,116,111,114,121,32,110,111,116,32,101,109,112,116,121] else if k=6 then [84,111,111,32,109,97,110,121,32,108,101,118,101,108,115,32,111,102,32,115,121,109,98,111,108,105,99,32,108,105,110,107,115] else if k=7 then [70,105,108,101,32,110,97,109,101,32,116,111,111,32,108,111,110,103] else if k=8 then [78,111,32,115,112,97,99,101,32,108,101,102,116,32,111,110,32,100,101,118,105,99,101] else if k=9 then [73,110,118,97,108,105,100,32,97,114,103,117,109,101,110,116] else if k=10 then [68,101,118,105,99,101,32,111,114,32,114,101,115,111,117,114,99,101,32,98,117,115,121] else if k=11 then [79,112,101,114,97,116,105,111,110,32,110,111,116,32,112,101,114,109,105,116,116,101,100] else if k=12 then [77,97,108,102,111,114,109,101,100,32,116,101,120,116] else if k=13 then [78,111,116,32,105,110,32,116,104,101,32,115,116,97,115,104] else [85,110,107,110,111,119,110,32,101,114,114,111,114]
theorem NQ (k:Int):Fun Tryz.prog G2 104 [.sc (.int .i64 k)] (.str (Ju k)) 0:=by
 by_cases h1:1<=k
 ·by_cases h2:k<=5
  ·have hc:k=1∨k=2∨k=3∨k=4∨k=5:=by omega
   clear h1 h2
   rcases hc with rfl | rfl | rfl | rfl | rfl
   all_goals
    refine fon Tryz.func104 ?_;dsimp only[Tryz.f104]
    push_cast -dsimp
    exact ⟨[],rfl,rfl,by simp only[Ju];push_cast -dsimp [zb,za,CLe,zd]<;>rfl⟩
  ·have n1:¬k=1:=(by omega);have n2:¬k=2:=(by omega);have n3:¬k=3:=(by omega);have n4:¬k=4:=(by omega);have n5:¬k=5:=(by omega)
   have f1:¬k<1:=(by omega);have f2:6<=k:=(by omega);have f3:5<k:=(by omega)
   refine fon Tryz.func104 ?_;dsimp only[Tryz.f104]
   push_cast -dsimp [f1,f2,f3,n1,n2,n3,n4,n5]
   exact ⟨[],rfl,rfl,by push_cast -dsimp [zb,za,CLe,zd]<;>simp[Ju,n1,n2,n3,n4,n5]⟩
 ·have n1:¬k=1:=(by omega);have n2:¬k=2:=(by omega);have n3:¬k=3:=(by omega);have n4:¬k=4:=(by omega);have n5:¬k=5:=(by omega)
  have f1:k<1:=by omega
  refine fon Tryz.func104 ?_;dsimp only[Tryz.f104]
  push_cast -dsimp [f1,n1,n2,n3,n4,n5]
  exact ⟨[],rfl,rfl,by push_cast -dsimp [zb,za,CLe,zd]<;>simp[Ju,n1,n2,n3,n4,n5]⟩
theorem M4 (k:Int):Fun Tryz.prog G0 26 [.sc (.int .i64 k)] (.str (Ju k)) 0:=by
 by_cases h1:1<=k
 ·by_cases h2:k<=5
  ·have hc:k=1∨k=2∨k=3∨k=4∨k=5:=by omega
   clear h1 h2
   rcases hc with rfl | rfl | rfl | rfl | rfl
   all_goals
    refine fon Tryz.func26 ?_;dsimp only[Tryz.f26]
    push_cast -dsimp
    exact ⟨[],rfl,rfl,by simp only[Ju];push_cast -dsimp [zb,za,CLe,zd]<;>rfl⟩
  ·have n1:¬k=1:=(by omega);have n2:¬k=2:=(by omega);have n3:¬k=3:=(by omega);have n4:¬k=4:=(by omega);have n5:¬k=5:=(by omega)
   have f1:¬k<1:=(by omega);have f2:6<=k:=(by omega);have f3:5<k:=(by omega)
   refine fon Tryz.func26 ?_;dsimp only[Tryz.f26]
   push_cast -dsimp [f1,f2,f3,n1,n2,n3,n4,n5]
   exact ⟨[],rfl,rfl,by push_cast -dsimp [zb,za,CLe,zd]<;>simp[Ju,n1,n2,n3,n4,n5]⟩
 ·have n1:¬k=1:=(by omega);have n2:¬k=2:=(by omega);have n3:¬k=3:=(by omega);have n4:¬k=4:=(by omega);have n5:¬k=5:=(by omega)
  have f1:k<1:=by omega
  refine fon Tryz.func26 ?_;dsimp only[Tryz.f26]
  push_cast -dsimp [f1,n1,n2,n3,n4,n5]
  exact ⟨[],rfl,rfl,by push_cast -dsimp [zb,za,CLe,zd]<;>simp[Ju,n1,n2,n3,n4,n5]⟩
theorem zaX (k:Int):Fun Tryz.prog G2 105 [.sc (.int .i64 k)] (.str (qG k)) 0:=by
 by_cases h1:0<=k
 ·by_cases h2:k<=22
  ·have hc:k=0∨k=1∨k=2∨k=3∨k=4∨k=5∨k=6∨k=7∨k=8∨k=9∨k=10∨k=11∨k=12∨k=13∨k=14∨k=15∨k=16∨k=17∨k=18∨k=19∨k=20∨k=21∨k=22:=by omega
   clear h1 h2
   rcases hc with rfl | rfl | rfl | rfl | rfl | rfl | rfl | rfl | rfl | rfl | rfl | rfl | rfl | rfl | rfl | rfl | rfl | rfl | rfl | rfl | rfl | rfl | rfl
   all_goals
    refine fon Tryz.func105 ?_;dsimp only[Tryz.f105]
    push_cast -dsimp
    exact ⟨[],rfl,rfl,by simp only[qG];push_cast -dsimp [zb,za,CLe,zd]<;>rfl⟩
  ·have n1:¬k=1:=(by omega);have n2:¬k=2:=(by omega);have n3:¬k=3:=(by omega);have n4:¬k=4:=(by omega);have n5:¬k=5:=(by omega);have n6:¬k=6:=(by omega);have n7:¬k=7:=(by omega);have n8:¬k=8:=(by omega);have n9:¬k=9:=(by omega);have n10:¬k=10:=(by omega);have n11:¬k=11:=(by omega);have n12:¬k=12:=(by omega);have n13:¬k=13:=(by omega);have n14:¬k=14:=(by omega);have n15:¬k=15:=(by omega);have n16:¬k=16:=(by omega);have n17:¬k=17:=(by omega);have n18:¬k=18:=(by omega);have n19:¬k=19:=(by omega);have n20:¬k=20:=(by omega);have n21:¬k=21:=(by omega);have n22:¬k=22:=(by omega)
   have f1:¬k<0:=(by omega);have f2:23<=k:=(by omega);have f3:22<k:=(by omega)
   refine fon Tryz.func105 ?_;dsimp only[Tryz.f105]
   push_cast -dsimp [f1,f2,f3,n1,n2,n3,n4,n5,n6,n7,n8,n9,n10,n11,n12,n13,n14,n15,n16,n17,n18,n19,n20,n21,n22]
   exact ⟨[],rfl,rfl,by push_cast -dsimp [zb,za,CLe,zd]<;>simp[qG,n1,n2,n3,n4,n5,n6,n7,n8,n9,n10,n11,n12,n13,n14,n15,n16,n17,n18,n19,n20,n21,n22]⟩
 ·have n1:¬k=1:=(by omega);have n2:¬k=2:=(by omega);have n3:¬k=3:=(by omega);have n4:¬k=4:=(by omega);have n5:¬k=5:=(by omega);have n6:¬k=6:=(by omega);have n7:¬k=7:=(by omega);have n8:¬k=8:=(by omega);have n9:¬k=9:=(by omega);have n10:¬k=10:=(by omega);have n11:¬k=11:=(by omega);have n12:¬k=12:=(by omega);have n13:¬k=13:=(by omega);have n14:¬k=14:=(by omega);have n15:¬k=15:=(by omega);have n16:¬k=16:=(by omega);have n17:¬k=17:=(by omega);have n18:¬k=18:=(by omega);have n19:¬k=19:=(by omega);have n20:¬k=20:=(by omega);have n21:¬k=21:=(by omega);have n22:¬k=22:=(by omega)
  have f1:k<0:=by omega
  refine fon Tryz.func105 ?_;dsimp only[Tryz.f105]
  push_cast -dsimp [f1,n1,n2,n3,n4,n5,n6,n7,n8,n9,n10,n11,n12,n13,n14,n15,n16,n17,n18,n19,n20,n21,n22]
  exact ⟨[],rfl,rfl,by push_cast -dsimp [zb,za,CLe,zd]<;>simp[qG,n1,n2,n3,n4,n5,n6,n7,n8,n9,n10,n11,n12,n13,n14,n15,n16,n17,n18,n19,n20,n21,n22]⟩
theorem vq (k:Int):Fun Tryz.prog G2 149 [.sc (.int .i64 k)] (.str (xF k)) 0:=by
 by_cases h1:0<=k
 ·by_cases h2:k<=13
  ·have hc:k=0∨k=1∨k=2∨k=3∨k=4∨k=5∨k=6∨k=7∨k=8∨k=9∨k=10∨k=11∨k=12∨k=13:=by omega
   clear h1 h2
   rcases hc with rfl | rfl | rfl | rfl | rfl | rfl | rfl | rfl | rfl | rfl | rfl | rfl | rfl | rfl
   all_goals
    refine fon Tryz.func149 ?_;dsimp only[Tryz.f149]
    push_cast -dsimp
    exact ⟨[],rfl,rfl,by simp only[xF];push_cast -dsimp [zb,za,CLe,zd]<;>rfl⟩
  ·have n0:¬k=0:=(by omega);have n1:¬k=1:=(by omega);have n2:¬k=2:=(by omega);have n3:¬k=3:=(by omega);have n4:¬k=4:=(by omega);have n5:¬k=5:=(by omega);have n6:¬k=6:=(by omega);have n7:¬k=7:=(by omega);have n8:¬k=8:=(by omega);have n9:¬k=9:=(by omega);have n10:¬k=10:=(by omega);have n11:¬k=11:=(by omega);have n12:¬k=12:=(by omega);have n13:¬k=13:=(by omega)
   have f1:¬k<0:=(by omega);have f2:14<=k:=(by omega);have f3:13<k:=(by omega)
   refine fon Tryz.func149 ?_;dsimp only[Tryz.f149]
   push_cast -dsimp [f1,f2,f3,n0,n1,n2,n3,n4,n5,n6,n7,n8,n9,n10,n11,n12,n13]
   exact ⟨[],rfl,rfl,by push_cast -dsimp [zb,za,CLe,zd]<;>simp[xF,n0,n1,n2,n3,n4,n5,n6,n7,n8,n9,n10,n11,n12,n13]⟩
 ·have n0:¬k=0:=(by omega);have n1:¬k=1:=(by omega);have n2:¬k=2:=(by omega);have n3:¬k=3:=(by omega);have n4:¬k=4:=(by omega);have n5:¬k=5:=(by omega);have n6:¬k=6:=(by omega);have n7:¬k=7:=(by omega);have n8:¬k=8:=(by omega);have n9:¬k=9:=(by omega);have n10:¬k=10:=(by omega);have n11:¬k=11:=(by omega);have n12:¬k=12:=(by omega);have n13:¬k=13:=(by omega)
  have f1:k<0:=by omega
  refine fon Tryz.func149 ?_;dsimp only[Tryz.f149]
  push_cast -dsimp [f1,n0,n1,n2,n3,n4,n5,n6,n7,n8,n9,n10,n11,n12,n13]
  exact ⟨[],rfl,rfl,by push_cast -dsimp [zb,za,CLe,zd]<;>simp[xF,n0,n1,n2,n3,n4,n5,n6,n7,n8,n9,n10,n11,n12,n13]⟩
open QuotePlain in
theorem Nq (l:List UInt8) (hl:l.length<=1000000):Fun Tryz.prog G0 148 [.str l] (.str (qm l)) 0:=by
 refine Fun.wrap (by kernel_rfl) fun R vs h=>?_
 obtain ⟨v1,us1,rfl,h1,h⟩:=ze.1 h
 rw[zj]at h
 subst h
 rw[zN]at h1
 subst h1
 refine (QuoteWalk.quote_walk ⟨l.toArray⟩ R.w (by simp[ByteArray.size];omega)).mono ?_
 rintro e w' ⟨rfl,hb⟩
 exact ⟨_,rfl,hb,fun R' _=>zN.2 (by simp[Kit.ofL,Kit.toL])⟩
open QuotePlain in
theorem X2 (l:List UInt8) (hl:l.length<=1000000):Fun Tryz.prog G0 52 [.str l] (.str (qm l)) 0:=by
 refine Fun.wrap (by kernel_rfl) fun R vs h=>?_
 obtain ⟨v1,us1,rfl,h1,h⟩:=ze.1 h
 rw[zj]at h
 subst h
 rw[zN]at h1
 subst h1
 refine (QuoteWalk.refQuote_walk ⟨l.toArray⟩ R.w (by simp[ByteArray.size];omega)).mono ?_
 rintro e w' ⟨rfl,hb⟩
 exact ⟨_,rfl,hb,fun R' _=>zN.2 (by simp[Kit.ofL,Kit.toL])⟩
end
section
open Go.RowKit
theorem Fun.res {P:Program} {G:zo} {f:FuncId} {args:List C} {r r':C} {n:Nat} (h:Fun P G f args r n) (e:r=r'):Fun P G f args r' n:=e▸h
theorem MV.glob0 {P:Program} {G':zo} {f:FuncId} {args:List C} {bx bx':List (List C)} {q:Nat} {r:C} {n:Nat} (h:MV P G0 f args bx q r bx' n):MV P G' f args bx q r bx' n:=
 ⟨h.1,fun R L vs hg=>h.2 R L vs fun g cs e=>by cases e⟩
theorem xr.glob0 {P:Program} {G':zo} {f:FuncId} {first cap:List C} {bx items:List (List C)} (h:xr P G0 f first cap bx items):xr P G' f first cap bx items:=
 ⟨h.1,fun l st J R L us vs hg=>h.2 l st J R L us vs fun g cs e=>by cases e⟩
def QM (c:UInt8):List UInt8->List (List UInt8)
 | []=>[[]]
 | b :: l=>if b=c then [] :: QM c l else match QM c l with
  | []=>[[b]]
  | x :: r=>(b :: x) :: r
theorem UG (c:UInt8):∀ l:List UInt8,Lib.indexByte l c<0->QM c l = [l]
 | [],_=>rfl
 | b :: l,h=>by
  unfold Lib.indexByte at h
  by_cases hb:b=c
  ·subst hb;simp at h
  ·have hb':(b==c)=false:=by simpa using hb
   rw[hb']at h
   simp only[Bool.false_eq_true,if_false]at h
   have hl:Lib.indexByte l c<0:=by
    split at h
    ·rename_i g;have:=beq_iff_eq.1 g;omega
    ·omega
   unfold QM
   rw[if_neg hb,UG c l hl]
theorem U5 (c:UInt8):∀ l:List UInt8,-1<=Lib.indexByte l c
 | []=>Int.le_refl _
 | b :: l=>by
  have:=U5 c l
  unfold Lib.indexByte
  split
  ·decide
  ·split
   ·decide
   ·omega
theorem Ni (c:UInt8):∀ (l:List UInt8) (i:Nat),Lib.indexByte l c=(i:Int)->i<l.length/\QM c l=l.take i :: QM c (l.drop (i+1))
 | [],i,h=>by
  have h:(-1:Int)=(i:Int):=h
  omega
 | b :: l,i,h=>by
  unfold Lib.indexByte at h
  by_cases hb:b=c
  ·subst hb
   simp at h
   obtain rfl:i=0:=by omega
   refine ⟨by simp,?_⟩
   conv=>lhs;unfold QM
   simp
  ·have hb':(b==c)=false:=by simpa using hb
   rw[hb']at h
   simp only[Bool.false_eq_true,if_false]at h
   split at h
   ·omega
   ·rename_i g
    have g':Lib.indexByte l c≠-1:=by simpa using g
    have hg:=U5 c l
    obtain ⟨j,rfl⟩:∃ j,i=j+1:=⟨i-1,by omega⟩
    have hj:Lib.indexByte l c=(j:Int):=by omega
    obtain ⟨h1,h2⟩:=Ni c l j hj
    refine ⟨by simp;omega,?_⟩
    conv=>lhs;unfold QM
    rw[if_neg hb,h2]
    simp
theorem vH (c:UInt8) (l:List UInt8):(QM c l).length<=l.length+1:=by
 induction l with
 | nil=>simp[QM]
 | cons b l ih =>
  unfold QM
  split
  ·simp;omega
  ·split
   ·simp
   ·rename_i x r h
    rw[h]at ih
    simp at ih ⊢;omega
theorem zcl (c:UInt8) (l:List UInt8):Fun Tryz.prog G0 170 [.str l,.str [c]] (.sc (.int .i64 (Lib.indexByte l c))) 0:=by
 refine Fun.wrap (by kernel_rfl) fun R vs h=>?_
 obtain ⟨v1,us1,rfl,h1,h⟩:=ze.1 h
 obtain ⟨v2,us2,rfl,h2,h⟩:=ze.1 h
 rw[zj]at h
 subst h
 rw[zN]at h1 h2
 subst h1 h2
 refine (Tryz.strings_Index_one ⟨l.toArray⟩ c R.w).mono ?_
 rintro e w' ⟨rfl,rfl⟩
 exact ⟨_,rfl,Below.refl _ _,fun R' _=>zm.2 (by simp)⟩
theorem xk (c:UInt8) (s:List UInt8) (hs:s.length<=1000000):xr Tryz.prog G0 168 [] [.ptr 1 0,.ptr 0 0,.ptr 2 0] [[.str s],[.str [c]],[.sc (.int .i64 0)]] (zQ (QM c s)):=by
 refine foI (fun _=>[]) Tryz.func168 ?_;dsimp only[Tryz.f168]
 intro l sf
 push_cast -dsimp
 refine loop (fun x:List UInt8×Nat=>⟨[(0,.sc (.func (.yield l) #[] #[])),(1,.ptr 1 0),(2,.ptr 0 0),(3,.ptr 2 0)],[[.str x.1],[.str [c]],[.sc (.int .i64 0)]],0,x.2⟩)
  (fun x=>x.1.length<=1000000/\(∃ done,QM c s=done++QM c x.1/\done.length=x.2)/\∀ j,j<x.2->sf j=false) (fun x=>x.1.length) (s,0) ⟨hs,⟨[],rfl,rfl⟩,fun j hj=>by omega⟩ ?_ ?_
 ·refine Ji.mk [] rfl rfl (Nat.zero_le _) rfl ?_ ?_<;>push_cast -dsimp [zb,za,CLe,zd]<;>omega
 ·rintro ⟨r,k⟩ hx
  simp only at hx ⊢
  have hr:=hx.1
  have hsf:=hx.2.2
  obtain ⟨done,hd,hdl⟩:=hx.2.1
  clear hx
  push_cast -dsimp
  refine call (zcl c r) ?_
  push_cast -dsimp
  by_cases hi:Lib.indexByte r c<0
  ·push_cast -dsimp [hi]
   have hk:(zQ (QM c s))[k]?=some [.str r]:=by
    rw[hd,UG c r hi];simp[←hdl]
   rw[hk]
   push_cast -dsimp
   refine ⟨by push_cast -dsimp [zb,za,CLe,zd],hsf,?_⟩
   cases hk2:sf k with
   | true=>exact .inr ⟨Nat.succ_pos k,hk2⟩
   | false =>
    refine .inl ⟨?_,fun j (hj:j<k+1)=>?_⟩
    ·rw[hd,UG c r hi];simp[hdl]
    ·rcases Nat.lt_or_ge j k with g | g
     ·exact hsf j g
     ·rw[show j=k by omega];exact hk2
  ·have hg:=U5 c r
   obtain ⟨i,hii⟩:∃ i:Nat,Lib.indexByte r c=(i:Int):=⟨(Lib.indexByte r c).toNat,by omega⟩
   obtain ⟨hir,hsp⟩:=Ni c r i hii
   have hk:(zQ (QM c s))[k]?=some [.str (r.take i)]:=by
    rw[hd,hsp];simp[←hdl]
   rw[hii]at hi ⊢
   push_cast -dsimp [hi]
   rw[hk]
   push_cast -dsimp
   refine ⟨by omega,by omega,by push_cast -dsimp [zb,za,CLe,zd],hsf,br (fun hk2=>?_) (fun hk2=>?_)⟩
   ·push_cast -dsimp
    exact .inr ⟨Nat.succ_pos k,hk2⟩
   ·push_cast -dsimp
    refine ⟨by omega,by omega,(r.drop (i+1),k+1),⟨by simp;omega,⟨done++[r.take i],by rw[hd,hsp];simp,by simp[hdl]⟩,fun j (hj:j<k+1)=>?_⟩,by simp;omega,Ji.mk [] rfl rfl (Nat.zero_le _) rfl ?_ ?_⟩
    ·rcases Nat.lt_or_ge j k with g | g
     ·exact hsf j g
     ·rw[show j=k by omega];exact hk2
    ·push_cast -dsimp [zb,za,CLe,zd]
    ·push_cast -dsimp [zb,za,CLe,zd]
theorem Gj (c:UInt8) (s:List UInt8):MV Tryz.prog G0 146 [.str s,.str [c],.sc (.int .i64 0)] [] 0 (.clo (.func 168) [] [.ptr 1 0,.ptr 0 0,.ptr 2 0]) [[.str s],[.str [c]],[.sc (.int .i64 0)]] 0:=by
 refine foB (fun _=>[]) Tryz.func146 ?_;dsimp only[Tryz.f146]
 push_cast -dsimp
 exact ⟨[],rfl,rfl,by push_cast -dsimp [zb,za,CLe,zd],by push_cast -dsimp [zb,za,CLe,zd]⟩
theorem H4 (c:UInt8) (s:List UInt8):MV Tryz.prog G0 102 [.str s,.str [c]] [] 0 (.clo (.func 168) [] [.ptr 1 0,.ptr 0 0,.ptr 2 0]) [[.str s],[.str [c]],[.sc (.int .i64 0)]] 0:=by
 refine foB (fun _=>[]) Tryz.func102 ?_;dsimp only[Tryz.f102]
 push_cast -dsimp
 refine Qz [] [] (Gj c s) rfl (by simp) (by simp) (fun i hi=>by cases hi) (by push_cast -dsimp) rfl ?_
 push_cast -dsimp
 exact ⟨[],rfl,rfl,by push_cast -dsimp [zb,za,CLe,zd],by push_cast -dsimp [zb,za,CLe,zd]⟩
end
section
open CA CB
open Go.RowKit QuotePlain
def YM (l:List UInt8):List UInt8:=Lib.trimRightS l [58,44]
theorem zf4 (l:List UInt8):(YM l).length<=l.length:=by
 unfold YM Lib.trimRightS
 rw[List.length_reverse]
 have:=(List.dropWhile_sublist (([58,44]:List UInt8).contains ·) (l:=l.reverse)).length_le
 rw[List.length_reverse]at this
 exact this
theorem zhR (l:List UInt8) (h0:l≠[]) (hl:l.length<=1000000):Fun Tryz.prog G0 147 [.str l,.str [58,44]] (.str (YM l)) 0:=by
 refine Fun.wrap (by kernel_rfl) fun R vs h=>?_
 obtain ⟨v1,us1,rfl,h1,h⟩:=ze.1 h
 obtain ⟨v2,us2,rfl,h2,h⟩:=ze.1 h
 rw[zj]at h
 subst h
 rw[zN]at h1 h2
 subst h1 h2
 have hpos:=List.length_pos_iff.2 h0
 refine (Any.strings_TrimRight_set Tryz.lays162 kT (by kernel_rfl) ⟨l.toArray⟩ ⟨#[58,44]⟩ R.w (by decide) (by simpa [ByteArray.size] using hpos) (by simp[ByteArray.size];omega) (by decide) (fun j b hb=>?_)).mono ?_
 ·match j,hb with
  | 0,hb=>cases hb;decide
  | 1,hb=>cases hb;decide
  | j+2,hb=>simp at hb
 ·rintro e w' ⟨rfl,rfl⟩
  exact ⟨_,rfl,((Below.refl _ _).alloc (Nat.le_refl _) _).alloc (by simp) _,fun R' _=>zN.2 (by simp[YM])⟩
def Q4 (w qa qb m:List UInt8):List UInt8:=
 if YM w = [65] then qa++w.drop (YM w).length else if YM w = [66] then qb++w.drop (YM w).length else if YM w = [69] then m++w.drop (YM w).length else w
theorem X7 (l:List UInt8):(qm l).length<=4*l.length+2:=by
 have:=QuoteWalk.mid_len l
 simp only[qm,List.length_cons,List.length_append,List.length_nil]
 omega
theorem zak (e:Int):(xF e).length<=100:=by
 have key:∀ (c:Prop) [Decidable c] (x y:List UInt8),x.length<=100->y.length<=100->(if c then x else y).length<=100:=fun c _ x y hx hy=>by
  by_cases h:c
  ·rw[if_pos h];exact hx
  ·rw[if_neg h];exact hy
 unfold xF
 repeat' (first | decide | refine key _ _ _ (by decide) ?_)
theorem zgo (w a b:List UInt8) (e:Int) (ha:a.length<=1000) (hb:b.length<=1000):(Q4 w (qm a) (qm b) (xF e)).length<=w.length+5000:=by
 have h1:=X7 a
 have h2:=X7 b
 have h3:=zak e
 unfold Q4
 repeat' split
 all_goals (try simp only[List.length_append,List.length_drop]);omega
theorem zh6 (w a b:List UInt8) (e:Int) (h0:w≠[]) (hw:w.length<=1000) (ha:a.length<=1000) (hb:b.length<=1000):Fun Tryz.prog G2 106 [.str w,.str a,.str b,.sc (.int .i64 e)] (.str (Q4 w (qm a) (qm b) (xF e))) 0:=by
 have h1:=(zhR w h0 (by omega)).glob0 (G':=G2)
 have h2:=(Nq a (by omega)).glob0 (G':=G2)
 have h3:=(Nq b (by omega)).glob0 (G':=G2)
 have h4:=vq e
 have hl:=zf4 w
 have l1:=X7 a
 have l2:=X7 b
 have l3:=zak e
 by_cases hA:YM w = [65]
 ·refine fon Tryz.func106 ?_;dsimp only[Tryz.f106]
  push_cast -dsimp
  refine cl (h1) ?_;push_cast -dsimp
  repeat refine an ?_
  push_cast -dsimp [hA]
  refine cl (h2) ?_;push_cast -dsimp
  repeat refine an ?_
  exact ⟨[],rfl,rfl,by push_cast -dsimp [zb,za,CLe,zd]<;>simp[Q4,hA]⟩
 ·by_cases hB:YM w = [66]
  ·have hA':¬([66]:List UInt8) = [65]:=by decide
   refine fon Tryz.func106 ?_;dsimp only[Tryz.f106]
   push_cast -dsimp
   refine cl (h1) ?_;push_cast -dsimp
   repeat refine an ?_
   push_cast -dsimp [hB,hA']
   refine cl (h3) ?_;push_cast -dsimp
   repeat refine an ?_
   exact ⟨[],rfl,rfl,by push_cast -dsimp [zb,za,CLe,zd]<;>simp[Q4,hB]⟩
  ·by_cases hE:YM w = [69]
   ·have hA':¬([69]:List UInt8) = [65]:=by decide
    have hB':¬([69]:List UInt8) = [66]:=by decide
    refine fon Tryz.func106 ?_;dsimp only[Tryz.f106]
    push_cast -dsimp
    refine cl (h1) ?_;push_cast -dsimp
    repeat refine an ?_
    push_cast -dsimp [hE,hA',hB']
    refine cl (h4) ?_;push_cast -dsimp
    repeat refine an ?_
    exact ⟨[],rfl,rfl,by push_cast -dsimp [zb,za,CLe,zd]<;>simp[Q4,hE]⟩
   ·refine fon Tryz.func106 ?_;dsimp only[Tryz.f106]
    push_cast -dsimp
    refine cl (h1) ?_;push_cast -dsimp
    repeat refine an ?_
    push_cast -dsimp [hA,hB,hE]
    exact ⟨[],rfl,rfl,by push_cast -dsimp [zb,za,CLe,zd]<;>simp[Q4,hA,hB,hE]⟩
theorem zil (xs:List (List UInt8)) (hx:xs.length<=1000001) (hl:(Lib.join xs [58,32]).length<=100000000):Fun Tryz.prog G0 107 [.sl 1 (zQ xs)] (.str (Lib.join xs [58,32])) 0:=by
 refine fon Tryz.func107 ?_;dsimp only[Tryz.f107]
 push_cast -dsimp
 refine cl (V3 xs [58,32] hx hl) ?_;push_cast -dsimp
 exact dn
end
section
open CA CB
open Go.RowKit QuotePlain
abbrev Atm:=Nat ⊕ UInt8
def zq2 (w:List UInt8):List Atm:=
 if YM w = [65] then .inl 0 :: (w.drop (YM w).length).map .inr else if YM w = [66] then .inl 1 :: (w.drop (YM w).length).map .inr else if YM w = [69] then .inl 2 :: (w.drop (YM w).length).map .inr else w.map .inr
def vA (qa qb m:List UInt8):Atm->List UInt8
 | .inl 0=>qa
 | .inl 1=>qb
 | .inl _=>m
 | .inr b=>[b]
def flA (qa qb m:List UInt8):List Atm->List UInt8
 | []=>[]
 | [a]=>vA qa qb m a
 | a :: b :: r=>vA qa qb m a++flA qa qb m (b :: r)
theorem Y6 (qa qb m:List UInt8):∀ l:List Atm,flA qa qb m l=l.flatMap (vA qa qb m)
 | []=>rfl
 | [a]=>by simp[flA]
 | a :: b :: r=>by rw[flA,Y6 qa qb m (b :: r)];rfl
def zez (k:Int):List Atm:=List.intercalate [.inr 32] ((QM 32 (qG k)).map zq2)
def zqD (k:Int) (qa qb m:List UInt8):List UInt8:=flA qa qb m (zez k)
theorem zgY (qa qb m l:List UInt8):flA qa qb m (l.map .inr)=l:=by
 rw[Y6]
 induction l with
 | nil=>rfl
 | cons b r ih=>exact congrArg (b :: ·) ih
theorem Gs (qa qb m:List UInt8) (a:Atm) (l:List Atm):flA qa qb m (a :: l)=vA qa qb m a++flA qa qb m l:=by rw[Y6,Y6];rfl
theorem zgX (w qa qb m:List UInt8):Q4 w qa qb m=flA qa qb m (zq2 w):=by
 have h:=fun l=>zgY qa qb m l
 unfold Q4 zq2
 split
 ·rw[Gs,h];rfl
 ·split
  ·rw[Gs,h];rfl
  ·split
   ·rw[Gs,h];rfl
   ·rw[h]
theorem zeQ (qa qb m:List UInt8) (a b:List Atm):flA qa qb m (a++b)=flA qa qb m a++flA qa qb m b:=by rw[Y6,Y6,Y6];exact List.flatMap_append
theorem zad (qa qb m:List UInt8):∀ ws:List (List Atm),flA qa qb m (List.intercalate [.inr 32] ws)=List.intercalate [32] (ws.map (flA qa qb m))
 | []=>rfl
 | [w]=>by simp[List.intercalate,List.intersperse]
 | w :: v :: r=>by
  have ih:=zad qa qb m (v :: r)
  have e1:List.intercalate [(.inr 32:Atm)] (w :: v :: r)=w++([.inr 32]++List.intercalate [.inr 32] (v :: r)):=by simp[List.intercalate,List.intersperse]
  have e2:List.intercalate [(32:UInt8)] ((w :: v :: r).map (flA qa qb m))=flA qa qb m w++([32]++List.intercalate [32] ((v :: r).map (flA qa qb m))):=by simp[List.intercalate,List.intersperse]
  rw[e1,e2,zeQ,zeQ,ih]
  rfl
theorem zhW (k:Int) (qa qb m:List UInt8):Lib.join ((QM 32 (qG k)).map fun w=>Q4 w qa qb m) [32]=zqD k qa qb m:=by
 unfold zqD zez
 rw[zad,List.map_map]
 show List.intercalate [32] _=_
 congr 1
 exact List.map_congr_left fun w _=>zgX w qa qb m
theorem x0 (k:Int) (h:¬(1<=k/\k<=22)):qG k = []:=by
 have n1:¬k=1:=by omega
 have n2:¬k=2:=by omega
 have n3:¬k=3:=by omega
 have n4:¬k=4:=by omega
 have n5:¬k=5:=by omega
 have n6:¬k=6:=by omega
 have n7:¬k=7:=by omega
 have n8:¬k=8:=by omega
 have n9:¬k=9:=by omega
 have n10:¬k=10:=by omega
 have n11:¬k=11:=by omega
 have n12:¬k=12:=by omega
 have n13:¬k=13:=by omega
 have n14:¬k=14:=by omega
 have n15:¬k=15:=by omega
 have n16:¬k=16:=by omega
 have n17:¬k=17:=by omega
 have n18:¬k=18:=by omega
 have n19:¬k=19:=by omega
 have n20:¬k=20:=by omega
 have n21:¬k=21:=by omega
 have n22:¬k=22:=by omega
 simp only[qG,n1,n2,n3,n4,n5,n6,n7,n8,n9,n10,n11,n12,n13,n14,n15,n16,n17,n18,n19,n20,n21,n22,if_false]
theorem Mg (k:Int):qG k = []∨((∀ x∈QM 32 (qG k),x≠[]/\x.length<=100)/\(qG k).length<=100):=by
 by_cases h:1<=k/\k<=22
 ·refine .inr ?_
  have hc:k=1∨k=2∨k=3∨k=4∨k=5∨k=6∨k=7∨k=8∨k=9∨k=10∨k=11∨k=12∨k=13∨k=14∨k=15∨k=16∨k=17∨k=18∨k=19∨k=20∨k=21∨k=22:=by omega
  clear h
  rcases hc with rfl | rfl | rfl | rfl | rfl | rfl | rfl | rfl | rfl | rfl | rfl | rfl | rfl | rfl | rfl | rfl | rfl | rfl | rfl | rfl | rfl | rfl<;>exact ⟨by decide +kernel,by decide +kernel⟩
 ·exact .inl (x0 k h)
theorem MM (f:List UInt8->List UInt8) (n:Nat):∀ xs:List (List UInt8),(∀ x∈xs,(f x).length<=n)->((xs.map f).map fun x=>x.length+1).sum<=xs.length*(n+1)
 | [],_=>by simp
 | x :: r,h=>by
  have ih:=MM f n r fun y hy=>h y (List.mem_cons_of_mem _ hy)
  have:=h x List.mem_cons_self
  simp only[List.map_cons,List.sum_cons,List.length_cons,Nat.add_mul]
  omega
theorem zbi (xs:List (List UInt8)) (sep:List UInt8) (n:Nat) (hs:sep.length<=1) (h:(xs.map fun x=>x.length+1).sum<=n):(Lib.join xs sep).length<=n:=by
 have key:∀ xs:List (List UInt8),(Lib.join xs sep).length<=(xs.map fun x=>x.length+1).sum:=by
  intro xs
  match xs with
  | []=>simp[Lib.join]
  | [x]=>simp[Lib.join_one]
  | x :: y :: r =>
   have ih:∀ (zs:List (List UInt8)) (z:List UInt8),(Lib.join (z :: zs) sep).length<=((z :: zs).map fun x=>x.length+1).sum:=by
    intro zs
    induction zs with
    | nil=>intro z;simp[Lib.join_one]
    | cons u t iht =>
     intro z
     rw[jf]
     have:=iht u
     simp only[List.length_append,List.map_cons,List.sum_cons]at this ⊢
     omega
   exact ih (y :: r) x
 exact Nat.le_trans (key xs) h
def Xo (k w:Int) (a b:List UInt8) (e:Int):List UInt8:=
 if Ju k = [] then [] else if qG w = [] then [] else Ju k++[58,32]++zqD w (qm a) (qm b) (xF e)
theorem zcG (k:Int):(Ju k).length<=10:=by
 have key:∀ (c:Prop) [Decidable c] (x y:List UInt8),x.length<=10->y.length<=10->(if c then x else y).length<=10:=fun c _ x y hx hy=>by
  by_cases h:c
  ·rw[if_pos h];exact hx
  ·rw[if_neg h];exact hy
 unfold Ju
 repeat' (first | decide | refine key _ _ _ (by decide) ?_)
theorem zjp (k w:Int) (a b:List UInt8) (e:Int) (ha:a.length<=1000) (hb:b.length<=1000):Fun Tryz.prog G2 59 [.sc (.int .i64 k),.sc (.int .i64 w),.str a,.str b,.sc (.int .i64 e)] (.str (Xo k w a b e)) 0:=by
 have h1:=NQ k
 have h2:=zaX w
 have hnl:=zcG k
 by_cases hn:Ju k = []
 ·rw[hn]at h1
  refine fon Tryz.func59 ?_;dsimp only[Tryz.f59]
  push_cast -dsimp
  refine cl (h1) ?_;push_cast -dsimp
  refine cl (h2) ?_;push_cast -dsimp
  exact ⟨[],rfl,rfl,by push_cast -dsimp [zb,za,CLe,zd]<;>simp[Xo,hn]⟩
 by_cases hp:qG w = []
 ·rw[hp]at h2
  refine fon Tryz.func59 ?_;dsimp only[Tryz.f59]
  push_cast -dsimp
  refine cl (h1) ?_;push_cast -dsimp
  refine cl (h2) ?_;push_cast -dsimp [hn]
  exact ⟨[],rfl,rfl,by push_cast -dsimp [zb,za,CLe,zd]<;>simp[Xo,hn,hp]⟩
 obtain ⟨hws,hpl⟩:(∀ x∈QM 32 (qG w),x≠[]/\x.length<=100)/\(qG w).length<=100:=(Mg w).resolve_left hp
 have hpw:=hp
 have hsay:=zhW w (qm a) (qm b) (xF e)
 have hsl:=vH 32 (qG w)
 have hsum:=MM (fun x=>Q4 x (qm a) (qm b) (xF e)) 5100 (QM 32 (qG w)) fun x hx=>by
  have:=zgo x a b e ha hb
  have:=(hws x hx).2
  omega
 have hjl:=zbi ((QM 32 (qG w)).map fun x=>Q4 x (qm a) (qm b) (xF e)) [32] 600000 (by decide) (by
  have:(QM 32 (qG w)).length*(5100+1)<=101*5101:=Nat.mul_le_mul_right _ (by omega)
  omega)
 have hit:=xk 32 (qG w) (by omega)
 generalize qG w=P at h2 hp hws hpl hsay hsl hsum hjl hit
 rw[hsay]at hjl
 refine fof (fun i=>if i=7 then [false,false,false,false,false,false,false,true,true] else []) Tryz.func59 ?_;dsimp only[Tryz.f59]
 push_cast -dsimp
 refine cl (h1) ?_;push_cast -dsimp
 refine cl (h2) ?_;push_cast -dsimp [hn,hp]
 refine Qz [] [] ((H4 32 P).glob0) rfl (by simp) (by simp) (fun i hi=>by cases hi) (by push_cast -dsimp) rfl ?_
 push_cast -dsimp
 refine range (zQ (QM 32 P)) (fun _=>false) 4 (fun j=>⟨[],[[.str a],[.str b],[.sc (.int .i64 e)],[.own 0 9 1 (zQ (((QM 32 P).take j).map fun x=>Q4 x (qm a) (qm b) (xF e)))]],1,0⟩) hit.glob0 (by push_cast -dsimp) (by push_cast -dsimp) (by push_cast -dsimp) (Nat.zero_le _) (by push_cast -dsimp) (fun it h=>?_) (fun j _=>rfl) ?_ (fun j it hj hsf=>?_) (fun hsf=>?_)
 ·obtain ⟨x,_,rfl⟩:=List.mem_map.1 h;rfl
 ·exact wks [.inr (9,1)]
 ·obtain ⟨x,hx,rfl⟩:=Qb hj
  have hjl2:j<(QM 32 P).length:=(List.getElem?_eq_some_iff.1 hx).1
  have hxw:=hws x (List.mem_of_getElem? hx)
  have hs1:=zh6 x a b e hxw.1 (by omega) ha hb
  push_cast -dsimp
  refine cl (hs1) ?_;push_cast -dsimp
  repeat refine an ?_
  refine Ji.mk [.inl 0] rfl rfl (Nat.le_refl _) rfl (by push_cast -dsimp [zb,za,CLe,zd]) ?_
  push_cast -dsimp [zb,za,CLe,zd]
  rw[List.take_add_one,hx]
  simp
 ·have htk:(QM 32 P).take (QM 32 P).length=QM 32 P:=List.take_length
  have j1:=((V3 ((QM 32 P).map fun x=>Q4 x (qm a) (qm b) (xF e)) [32] (by rw[List.length_map];omega) (by rw[hsay];omega)).res (congrArg C.str hsay)).glob0 (G':=G2)
  have j2:=((zil [Ju k,zqD w (qm a) (qm b) (xF e)] (by simp) (by rw[jf,Lib.join_one];simp only[List.length_append,List.length_cons,List.length_nil];omega)).res (congrArg C.str (show _=Xo k w a b e by rw[jf,Lib.join_one,Xo,if_neg hn,if_neg hpw]))).glob0 (G':=G2)
  push_cast -dsimp [htk]
  refine cl (j1) ?_;push_cast -dsimp
  refine cl (j2) ?_;push_cast -dsimp
  exact dn
end
section
open CA CB
open Go.RowKit QuotePlain
end
section
open CA CB
open Go.RowKit
def GD:zo:=fun g=>if g=4 then G1 g else G2 g
theorem zsZ (g:Nat) (cs:List C) (h:G1 g=some cs):GD g=some cs:=by
 unfold GD
 by_cases hg:g=4
 ·rw[if_pos hg];exact h
 ·unfold G1 at h
  rw[if_neg hg]at h
  cases h
theorem zsi (g:Nat) (cs:List C) (h:G2 g=some cs):GD g=some cs:=by
 unfold GD
 by_cases hg:g=4
 ·subst hg
  have q:G2 4=none:=rfl
  rw[q]at h;cases h
 ·rw[if_neg hg];exact h
theorem Fun.gd1 {f:FuncId} {args:List C} {r:C} {n:Nat} (h:Fun Tryz.prog G1 f args r n):Fun Tryz.prog GD f args r n:=h.glob zsZ
theorem Fun.gd2 {f:FuncId} {args:List C} {r:C} {n:Nat} (h:Fun Tryz.prog G2 f args r n):Fun Tryz.prog GD f args r n:=h.glob zsi
abbrev zr4 (d:zD) (ops diags:C):C:=.agg [.sc (.int .i64 d.w.fs.maxI),.sc (.int .i64 d.w.fs.maxB),.sc (.int .i64 d.w.fs.next),.sl 6 (zp d.w.fs.xs),.sl 4 (zC d.w.kept),.sl 6 (zp d.w.pool),ops,diags,.sc (.int .i64 d.status),.sc (.int .i64 d.slot)]
structure zkt (d:zD):Prop where
 wi:H6 d.w
 ws:zkA d.w
 ops:d.ops.length<=80000
 diags:d.diags.length<=80000
 slot:0<=d.slot/\d.slot<=4000000000000000000
theorem zdI (o:OpV):opL o = [.sc (.int .i64 o.kind),.sc (.int .i64 o.slot),.str o.a,.str o.b,.str o.d]:=rfl
abbrev kX:List C:=[.any,.any,.any,.any,.any,.any,.any,.any,.any,.any]
def j6 (d:zD) (x:List UInt8):zD:={ d with diags:=d.diags++[x],status:=1 }
theorem zmE (d:zD) (hd:d.diags.length<=80000) (k w:Int) (a b:List UInt8) (e:Int) (ha:a.length<=1000) (hb:b.length<=1000) :
  Xc Tryz.prog GD 29 [kI d,.sc (.int .i64 k),.sc (.int .i64 w),.str a,.str b,.sc (.int .i64 e)] [] 0 (fun r bx n=>n=0/\∃ c B,zn8 1 c (zQ (j6 d (Xo k w a b e)).diags) B/\r=zr4 (j6 d (Xo k w a b e)) (.sl 5 (d.ops.map opL)) (.bs 2 0 1 (d.diags.length+1) c)/\bx = [kX,kX,B]):=by
 have ht:=(zjp k w a b e ha hb).gd2
 generalize Xo k w a b e=x at ht ⊢
 have hsl:(zQ d.diags).length=d.diags.length:=List.length_map ..
 have hc:=Mh (G:=GD) (zQ d.diags) [[.str x]] (fun r hr=>by obtain ⟨x,_,rfl⟩:=List.mem_map.1 hr;rfl) (fun r hr=>by rw[List.mem_singleton.1 hr];rfl) (fun r hr=>by obtain ⟨x,_,rfl⟩:=List.mem_map.1 hr;rfl) (fun r hr=>by rw[List.mem_singleton.1 hr];rfl) (by omega) (by simp) (by simp)
 refine foX (fun i=>if i=1 then [false,false,false,false,false,false,false,false,false,false,false,true,false,false,true] else []) Tryz.func29 ?_;dsimp only[Tryz.f29]
 push_cast -dsimp
 refine cl (ht) ?_;push_cast -dsimp
 refine j7 [] [] hc rfl (by decide) (by decide) (by simp) (by push_cast -dsimp) (by push_cast -dsimp) (fun r bx' m hp=>?_)
 obtain ⟨rfl,c,B,hB,rfl,rfl⟩:=hp
 have hre:∀ fp fo,C.reL fp fo B=B:=fun fp fo=>zE hB.stay
 push_cast -dsimp [hre]
 have hm:zQ (j6 d x).diags=zQ d.diags++[[.str x]]:=List.map_append
 exact ⟨_,[kX,kX,B],0,⟨⟨rfl,c,B,by rw[hm];exact hB,rfl,rfl⟩,Nat.zero_le _⟩,[],rfl,rfl,by (push_cast -dsimp [zb,za,CLe,zd];exact zO hB.stay),by push_cast -dsimp [zb,za,CLe,zd,j6,List.length_append,hsl]⟩
theorem zdk (d:zD) (hd:d.diags.length<=80000) (k w:Int) (a b:List UInt8) (e:Int) (ha:a.length<=1000) (hb:b.length<=1000) :
  Fun Tryz.prog GD 29 [kI d,.sc (.int .i64 k),.sc (.int .i64 w),.str a,.str b,.sc (.int .i64 e)] (zr4 (j6 d (Xo k w a b e)) (.sl 5 (d.ops.map opL)) (.own 0 9 1 (zQ (j6 d (Xo k w a b e)).diags))) 1:=
 (zmE d hd k w a b e ha hb).fun (by
  rintro r bx m ⟨rfl,c,B,hB,rfl,rfl⟩
  exact ⟨[(2,9,1,zQ (j6 d (Xo k w a b e)).diags,c)],[.inl 0],hB.ok rfl (by simp[j6]) (fun r hr=>by obtain ⟨x,_,rfl⟩:=List.mem_map.1 hr;rfl),rfl,rfl,by push_cast -dsimp [zb,za,CLe,zd,List.length_map,List.length_append,j6]⟩)
end
section
open CA CB
open Go.RowKit
theorem znH (n m:Int):znA n m=1↔m<n:=by
 unfold znA
 split
 ·omega
 ·split<;>omega
theorem MG (w:Int):∀ (l:List Int) (n:Int),uq w (l++[n])=(uq w l&&(match l.getLast? with | none=>true | some m=>decide (znA n m=w)))
 | [],n=>by simp[uq]
 | [a],n=>by simp[uq]
 | a :: b :: r,n=>by
  have ih:=MG w (b :: r) n
  simp only[List.cons_append,uq]at ih ⊢
  rw[ih,List.getLast?_cons_cons,Bool.and_assoc]
theorem UD (w:Int):∀ (l r:List Int),uq w (l++r)=true->uq w l=true
 | [],r,_=>rfl
 | [a],r,_=>rfl
 | a :: b :: l,r,h=>by
  simp only[List.cons_append,uq,Bool.and_eq_true]at h ⊢
  exact ⟨h.1,UD w (b :: l) r h.2⟩
theorem GT (a b:List OpV):jj (a++b)=jj a++jj b:=by simp[jj]
theorem zjW {f:OpV->Bool} {l:List OpV} (k:Nat) (h:l.any f=false):(l.take k).any f=false:=List.any_eq_false.2 fun x hx=>List.any_eq_false.1 h x (List.mem_of_mem_take hx)
theorem zci {l:List OpV} (k:Nat) (h:XM l=true):XM (l.take k)=true:=by
 simp only[XM,Bool.and_eq_true,Bool.not_eq_true']at h ⊢
 refine ⟨zjW k h.1,UD 1 _ (jj (l.drop k)) ?_⟩
 rw[←GT,List.take_append_drop];exact h.2
theorem ziF {o:OpV} (h:QL o=true) (hs:jZ o.kind=true):1<=o.slot/\o.slot<=1073741824:=by
 simp only[QL,hs,Bool.and_eq_true,if_true,decide_eq_true_eq]at h
 exact h.1.1.1.2
theorem uj (f:OpV->Bool) (l:List OpV) (k:Nat) (h:k<l.length):(l.take (k+1)).any f=((l.take k).any f||f (l[k]'h)):=by
 rw[List.take_add_one,List.getElem?_eq_getElem h,List.any_append]
 simp
theorem zeh {l:List Int} {d:Int} (h:l.getLast?=none):l.getLastD d=d:=by rw[List.getLastD_eq_getLast?,h];rfl
theorem zd4 {l:List Int} {d m:Int} (h:l.getLast?=some m):l.getLastD d=m:=by rw[List.getLastD_eq_getLast?,h];rfl
theorem zbW (l:List OpV) (k:Nat) (h:k<l.length) (hp:XM (l.take k)=true) (hb:XL (l[k]'h)=false):XM (l.take (k+1))=(!jZ (l[k]'h).kind||decide ((jj (l.take k)).getLastD 0<(l[k]'h).slot)):=by
 simp only[XM,Bool.and_eq_true,Bool.not_eq_true']at hp ⊢
 rw[uj _ l k h,hp.1,hb,U6 l k h]
 cases hs:jZ (l[k]'h).kind with
 | false=>simp[hp.2]
 | true =>
  have hm:QL (l[k]'h)=true:=by simp only[XL,Bool.or_eq_false_iff,Bool.not_eq_false']at hb;exact hb.1
  have:=ziF hm hs
  rw[if_pos rfl,MG,hp.2]
  cases hl:(jj (l.take k)).getLast? with
  | none=>rw[zeh hl];simp;omega
  | some m=>rw[zd4 hl];simp[znH]
theorem zfr (l:List Int) (n d:Int):(l++[n]).getLastD d=n:=by simp
theorem zfM:XM []=true:=rfl
theorem zgM (l:List OpV) (hx:l.length<=100000) (hl:zoI l):Fun Tryz.prog G0 15 [.sl 5 (zcv l)] (qt (XM l)) 0:=by
 refine fon Tryz.func15 ?_;dsimp only[Tryz.f15]
 push_cast -dsimp
 refine loop (fun k:Nat=>⟨[(0,.sl 5 (zcv l)),(3,.sc (.int .i64 ((jj (l.take k)).getLastD 0))),(4,.sc (.int .i64 k))],[],0,0⟩) (fun k=>k<=l.length/\XM (l.take k)=true) (fun k=>l.length-k) 0 ⟨Nat.zero_le _,zfM⟩ ?_ ?_
 ·exact Ji.mk [] rfl rfl (Nat.zero_le _) rfl (by push_cast -dsimp [zb,za,CLe,zd]<;>rfl) (by push_cast -dsimp [zb,za,CLe,zd])
 ·intro k hk
  have hk1:=hk.1
  have hk2:=hk.2
  by_cases h:k<l.length
  ·have hg:=vz l k h
   have hsh:=hl _ (List.getElem_mem h)
   have hstep:=zbW l k h hk2
   have hst:=U6 l k h
   have hfail:XM (l.take (k+1))=false->XM l=false:=fun e=>by
    cases hq:XM l with
    | false=>rfl
    | true=>rw[zci (k+1) hq]at e;cases e
   have hbadf:XL (l[k]'h)=true->XM l=false:=fun e=>hfail (by simp[XM,uj,h,e])
   cases ho:l[k]'h with
   | mk kd s a b d =>
    rw[ho]at hg hsh hstep hst hbadf
    simp only[opL]at hg
    simp only at hst hstep
    have h1:=ux kd s a b d hsh
    have h2:=Uh kd
    simp only[opL]at h1
    cases hm:QL ⟨kd,s,a,b,d⟩ with
    | false =>
     have hp:=hbadf (by simp[XL,hm])
     rw[hm]at h1
     push_cast -dsimp [h,hg]
     refine ⟨by omega,?_⟩
     refine cl (h1) ?_;push_cast -dsimp
     exact ⟨[],rfl,rfl,by push_cast -dsimp [zb,za,CLe,zd];simp[hp]⟩
    | true =>
     rw[hm]at h1
     by_cases h7:7<kd
     ·have hp:=hbadf (by simp[XL,hm,h7])
      push_cast -dsimp [h,hg]
      refine ⟨by omega,?_⟩
      refine cl (h1) ?_;push_cast -dsimp [hg,h7]
      repeat refine an ?_
      exact ⟨[],rfl,rfl,by push_cast -dsimp [zb,za,CLe,zd];simp[hp]⟩
     ·have hstep:=hstep (by simp[XL,hm,h7])
      cases hs:jZ kd with
      | false =>
       rw[hs]at h2 hstep hst
       rw[if_neg (by simp)]at hst
       push_cast -dsimp [h,hg]
       refine ⟨by omega,?_⟩
       refine cl (h1) ?_;push_cast -dsimp [hg,h7]
       repeat refine an ?_
       refine cl (h2) ?_;push_cast -dsimp
       repeat refine an ?_
       refine ⟨k+1,⟨by omega,by simpa using hstep⟩,by omega,wk (by push_cast -dsimp [zb,za,CLe,zd,hst])⟩
      | true =>
       rw[hs]at h2 hstep hst
       rw[if_pos rfl]at hst
       by_cases hlt:s<=(jj (l.take k)).getLastD 0
       ·have hp:=hfail (by rw[hstep,decide_eq_false (by omega)];rfl)
        push_cast -dsimp [h,hg]
        refine ⟨by omega,?_⟩
        refine cl (h1) ?_;push_cast -dsimp [hg,h7]
        repeat refine an ?_
        refine cl (h2) ?_;push_cast -dsimp [hg,hlt]
        repeat refine an ?_
        exact ⟨[],rfl,rfl,by push_cast -dsimp [zb,za,CLe,zd];simp[hp]⟩
       ·have hn:XM (l.take (k+1))=true:=by rw[hstep,decide_eq_true (by omega)];rfl
        have hlast:=zfr (jj (l.take k)) s 0
        push_cast -dsimp [h,hg]
        refine ⟨by omega,?_⟩
        refine cl (h1) ?_;push_cast -dsimp [hg,h7]
        repeat refine an ?_
        refine cl (h2) ?_;push_cast -dsimp [hg,hlt]
        repeat refine an ?_
        refine ⟨k+1,⟨by omega,hn⟩,by omega,wk (by push_cast -dsimp [zb,za,CLe,zd,hst,hlast])⟩
  ·obtain rfl:k=l.length:=by omega
   rw[List.take_length]at hk2
   push_cast -dsimp [h]
   exact ⟨[],rfl,rfl,by push_cast -dsimp [zb,za,CLe,zd];simp[hk2]⟩
end
section
open Go.RowKit
theorem zgi (a b:List OpV) (ha:a.length<=100000):Fun Tryz.prog G0 20 [.sl 5 (zcv a),.sl 5 (zcv b)] (qt (JH a b)) 0:=by
 by_cases hl:a.length=b.length
 ·refine fon Tryz.func20 ?_;dsimp only[Tryz.f20]
  push_cast -dsimp [hl]
  refine loop (fun k:Nat=>⟨[(0,.sl 5 (zcv a)),(1,.sl 5 (zcv b)),(5,.sc (.int .i64 k))],[],0,0⟩) (fun k=>k<=a.length/\∀ (j:Nat) (h:j<a.length) (h':j<b.length),j<k->znr (a[j]'h) (b[j]'h')=true) (fun k=>a.length-k) 0 ⟨Nat.zero_le _,fun j _ _ hj=>by omega⟩ ?_ ?_
  ·exact wk (by push_cast -dsimp [zb,za,CLe,zd,hl])
  ·intro k hk
   have hk1:=hk.1
   have hk2:=hk.2
   by_cases h:k<a.length
   ·have hga:=vz a k h
    have hgb:=vz b k (by omega)
    have heq:znr (a[k]'h) (b[k]'(by omega))=znr (a[k]'h) (b[k]'(by omega)):=rfl
    simp only[opL]at hga hgb
    conv at heq=>lhs;unfold znr
    cases he:znr (a[k]'h) (b[k]'(by omega)) with
    | true =>
     rw[he]at heq
     push_cast -dsimp [h,hga,hgb,heq]
     repeat refine an ?_
     refine ⟨k+1,⟨by omega,fun j hj hj' hjk=>?_⟩,by omega,wk⟩
     rcases Nat.lt_or_ge j k with g | g
     ·exact hk2 j hj hj' g
     ·have:j=k:=by omega
      subst this;exact he
    | false =>
     rw[he]at heq
     push_cast -dsimp [h,hga,hgb,heq]
     repeat refine an ?_
     refine ⟨[],rfl,rfl,?_⟩
     push_cast -dsimp [zb,za,CLe,zd]
     have:¬JH a b=true:=fun e=>by
      have:=((YP a b).1 e).2 k h (by omega)
      rw[he]at this;cases this
     simp[this]
   ·push_cast -dsimp [h]
    refine ⟨[],rfl,rfl,?_⟩
    push_cast -dsimp [zb,za,CLe,zd]
    have:JH a b=true:=(YP a b).2 ⟨hl,fun j hj hj'=>hk2 j hj hj' (by omega)⟩
    simp[this]
 ·refine fon Tryz.func20 ?_;dsimp only[Tryz.f20]
  push_cast -dsimp [hl]
  refine ⟨[],rfl,rfl,?_⟩
  push_cast -dsimp [zb,za,CLe,zd]
  have:¬JH a b=true:=fun e=>hl ((YP a b).1 e).1
  simp[this]
end
section
open CA CB
open Go.RowKit
theorem znp (a b:zK):(decide (a.slot=b.slot)&&decide (a.ino=b.ino)&&a.content==b.content&&decide (a.data=b.data))=decide (a=b):=by
 obtain ⟨a1,a2,a3,a4⟩:=a
 obtain ⟨b1,b2,b3,b4⟩:=b
 rw[Bool.eq_iff_iff]
 simp[and_assoc]
theorem zed (x y:qk) (hx:x.fs.xs.length<=100000) (hp:x.pool.length<=100000) (hk:x.kept.length<=100000) (he:∀ z∈x.fs.xs,z.es.length<=9223372036854775807) (hep:∀ z∈x.pool,z.es.length<=9223372036854775807):Fun Tryz.prog G0 16 [Yp x,Yp y] (qt (decide (x=y))) 0:=by
 obtain ⟨f,a,p⟩:=x
 obtain ⟨g,b,q⟩:=y
 have hk:a.length<=100000:=hk
 have hla:(zC a).length=a.length:=List.length_map ..
 have hlb:(zC b).length=b.length:=List.length_map ..
 have h1:=zfE (G:=G0) f g hx he
 have h2:=GR (G:=G0) p q hp hep
 have hw:(⟨f,a,p⟩:qk)=⟨g,b,q⟩↔f=g/\p=q/\a=b:=by simp only[qk.mk.injEq];exact ⟨fun h=>⟨h.1,h.2.2,h.2.1⟩,fun h=>⟨h.1,h.2.2,h.2.1⟩⟩
 by_cases c1:f=g
 case neg =>
  have hn:¬(⟨f,a,p⟩:qk)=⟨g,b,q⟩:=fun h=>c1 (hw.1 h).1
  rw[decide_eq_false c1]at h1
  refine fon Tryz.func16 ?_;dsimp only[Tryz.f16]
  push_cast -dsimp
  refine cl (h1) ?_;push_cast -dsimp
  exact dn (by push_cast -dsimp [zb,za,CLe,zd,hn])
 rw[decide_eq_true c1]at h1
 by_cases c2:p=q
 case neg =>
  have hn:¬(⟨f,a,p⟩:qk)=⟨g,b,q⟩:=fun h=>c2 (hw.1 h).2.1
  rw[decide_eq_false c2]at h2
  refine fon Tryz.func16 ?_;dsimp only[Tryz.f16]
  push_cast -dsimp
  refine cl (h1) ?_;push_cast -dsimp
  refine cl (h2) ?_;push_cast -dsimp
  exact dn (by push_cast -dsimp [zb,za,CLe,zd,hn])
 rw[decide_eq_true c2]at h2
 by_cases c3:a.length=b.length
 case neg =>
  have hn:¬(⟨f,a,p⟩:qk)=⟨g,b,q⟩:=fun h=>c3 (by rw[(hw.1 h).2.2])
  have c3':((a.length:Int)=b.length)=False:=eq_false (by omega)
  refine fon Tryz.func16 ?_;dsimp only[Tryz.f16]
  push_cast -dsimp
  refine cl (h1) ?_;push_cast -dsimp
  refine cl (h2) ?_;push_cast -dsimp [hla,hlb,c3']
  exact dn (by push_cast -dsimp [zb,za,CLe,zd,hn])
 have c3':((a.length:Int)=b.length)=True:=eq_true (by omega)
 refine fon Tryz.func16 ?_;dsimp only[Tryz.f16]
 push_cast -dsimp
 refine cl (h1) ?_;push_cast -dsimp
 refine cl (h2) ?_;push_cast -dsimp [hla,hlb,c3']
 refine loop (fun i:Nat=>⟨[(2,.ptr 0 0),(3,.ptr 1 0),(5,.sc (.int .i64 i))],[QJ ⟨f,a,p⟩,QJ ⟨g,b,q⟩],0,0⟩) (fun i=>i<=a.length/\a.take i=b.take i) (fun i=>a.length-i) 0 ⟨Nat.zero_le _,rfl⟩ ?_ ?_
 ·exact wk
 rintro i ⟨i1,i2⟩
 by_cases h:i<a.length
 ·have hb:i<b.length:=by omega
  have g1:=ji a i h
  have g2:=ji b i hb
  have hd:=znp a[i] b[i]
  by_cases hab:a[i]=b[i]
  ·rw[decide_eq_true hab]at hd
   push_cast -dsimp [hla,hlb,h,hb,g1,g2,hd]
   repeat refine an ?_
   repeat refine an ?_
   exact ⟨i+1,⟨h,(Xs (by omega) hb i2).2 hab⟩,by omega,wk⟩
  ·rw[decide_eq_false hab]at hd
   have hn:¬(⟨f,a,p⟩:qk)=⟨g,b,q⟩:=fun h=>hab (by have:=(hw.1 h).2.2;subst this;rfl)
   push_cast -dsimp [hla,hlb,h,hb,g1,g2,hd]
   repeat refine an ?_
   exact dn (by push_cast -dsimp [zb,za,CLe,zd,hn])
 ·have hab:a=b:=by rw[←List.take_of_length_le (l:=a) (i:=i) (by omega),i2,List.take_of_length_le (by omega)]
  have hn:=hw.2 ⟨c1,c2,hab⟩
  push_cast -dsimp [hla,h]
  exact dn (by push_cast -dsimp [zb,za,CLe,zd,hn])
theorem Me (w:qk) (hk:w.kept.length<=100000) (hs:Xz w.kept):Fun Tryz.prog G0 10 [Yp w] (kI (Zz w)) 0:=by
 have h:=UN (G:=G0) w hk hs.1 hs.2
 refine fof (fun i=>if i=1 then [false,false,false,false,true] else []) Tryz.func10 ?_;dsimp only[Tryz.f10]
 push_cast -dsimp
 refine cl (h) ?_;push_cast -dsimp
 exact dn (by push_cast -dsimp [zb,za,CLe,zd,Zz])
end
section
open Go.RowKit
structure zta where
 path:List UInt8
 ino:Int
deriving DecidableEq,Inhabited
def QN (p n:List UInt8):List UInt8:=if p = [47] then p++n else p++[47]++n
theorem zgA (p n:List UInt8):(QN p n).length<=p.length+1+n.length:=by
 unfold QN
 split<;>simp<;>omega
section
variable {G:zo}
end
end
section
open CA CB
open Go.RowKit
abbrev Jk:=List (List (List UInt8)×zn)
structure uy (f:FsV) (tr:Int->List (List UInt8)->Jk):Prop where
 has:∀ n ns,zt n f.xs=true->tr n ns=(ns,zf n f.xs) :: (zf n f.xs).es.flatMap fun e=>tr e.ino (ns++[e.name])
 not:∀ n ns,zt n f.xs=false->tr n ns = []
abbrev UC (p:List (List UInt8)×zn):List C:=[.str (zS p.1),.agg (Js p.2)]
def zbT (tr:Int->List (List UInt8)->Jk) (ns:List (List UInt8)) (es:List zX):Jk:=es.flatMap fun e=>tr e.ino (ns++[e.name])
def XU (tr:Int->List (List UInt8)->Jk) (S:List (List (List UInt8)×List zX)):Jk:=S.flatMap fun p=>zbT tr p.1 p.2
abbrev lvC (p:List (List UInt8)×List zX):List C:=[.sl 1 (zQ p.1),.sl 2 (zW p.2)]
def kE (S:List (List (List UInt8)×List zX)):List C:=(S.reverse.map lvC).flatten
theorem znb (S:List (List (List UInt8)×List zX)):(kE S).length=S.length*2:=by
 unfold kE
 rw[qu (k:=2) fun r hr=>by obtain ⟨p,_,rfl⟩:=List.mem_map.1 hr;rfl]
 simp
theorem vK (p:List (List UInt8)×List zX) (S:List (List (List UInt8)×List zX)):kE (p :: S)=kE S++lvC p:=by
 unfold kE;simp
def Vc (p:List (List UInt8)×zn):Prop:=p.1.length<=1000000/\(Lib.join p.1 [47]).length<=1000000
structure Yg (f:FsV) (tr:Int->List (List UInt8)->Jk) (IT:List (List C)) (sf:Nat->Bool) (S:List (List (List UInt8)×List zX)) (k cap:Nat):Prop where
 rest:IT.drop k=(XU tr S).map UC
 bound:∀ p∈XU tr S,Vc p
 le:k<=IT.length
 go:∀ j,j<k->sf j=false
 pos:S.length<=k
 room:S.length<=cap
 roomM:cap<=9223372036854775807
 has:∀ p∈S,p.2.length<=40/\∀ e∈p.2,zt e.ino f.xs=true
theorem Zn (S:List (List (List UInt8)×List zX)):((kE S).all C.stayB)=true:=Qe fun r hr=>by
 obtain ⟨p,_,rfl⟩:=List.mem_map.1 hr;rfl
theorem Yg.pop {f:FsV} {tr:Int->List (List UInt8)->Jk} {IT:List (List C)} {sf:Nat->Bool} {S:List (List (List UInt8)×List zX)} {ns:List (List UInt8)} {k cap:Nat} (h:Yg f tr IT sf ((ns,[]) :: S) k cap):Yg f tr IT sf S k cap:=by
 have e:XU tr ((ns,[]) :: S)=XU tr S:=by simp[XU,zbT]
 exact ⟨by rw[←e];exact h.rest,fun p hp=>h.bound p (by rw[e];exact hp),h.le,h.go,by have:=h.pos;rw[List.length_cons]at this;omega,by have:=h.room;rw[List.length_cons]at this;omega,h.roomM,fun p hp=>h.has p (List.mem_cons_of_mem _ hp)⟩
theorem Yg.next {f:FsV} {tr:Int->List (List UInt8)->Jk} {IT:List (List C)} {sf:Nat->Bool} {S:List (List (List UInt8)×List zX)} {ns:List (List UInt8)} {e:zX} {r:List zX} {k cap:Nat} (h:Yg f tr IT sf ((ns,e :: r) :: S) k cap) (ht:uy f tr) (hf:Vf f.xs) (h3:Ya f) :
  ∃ y,y=zf e.ino f.xs/\y∈f.xs/\IT[k]?=some (UC (ns++[e.name],y))/\Vc (ns++[e.name],y)/\(sf k=false->(∀ c,S.length+2<=c->c<=9223372036854775807->Yg f tr IT sf ((ns++[e.name],y.es) :: (ns,r) :: S) (k+1) c)/\(y.es = []->Yg f tr IT sf ((ns,r) :: S) (k+1) cap)):=by
 have hh:zt e.ino f.xs=true:=(h.has (ns,e :: r) List.mem_cons_self).2 e List.mem_cons_self
 obtain ⟨hm,hi⟩:=qX hh
 have hu:=ht.has e.ino (ns++[e.name]) hh
 have hrest:XU tr ((ns,e :: r) :: S)=(ns++[e.name],zf e.ino f.xs) :: XU tr ((ns++[e.name],(zf e.ino f.xs).es) :: (ns,r) :: S):=by
  simp only[XU,zbT,List.flatMap_cons,hu,List.cons_append,List.append_assoc]
 refine ⟨_,rfl,hm,?_,h.bound _ (by rw[hrest];exact List.mem_cons_self),fun hs=>?_⟩
 ·have:=h.rest
  rw[hrest]at this
  have:=congrArg (·[0]?) this
  simpa using this
 ·have hd:IT.drop (k+1)=(XU tr ((ns++[e.name],(zf e.ino f.xs).es) :: (ns,r) :: S)).map UC:=by
   rw[←List.drop_drop,h.rest,hrest];rfl
  have hb:∀ p∈XU tr ((ns++[e.name],(zf e.ino f.xs).es) :: (ns,r) :: S),Vc p:=fun p hp=>h.bound p (by rw[hrest];exact List.mem_cons_of_mem _ hp)
  have hkl:k+1<=IT.length:=by
   rcases Nat.lt_or_ge k IT.length with g | g
   ·exact g
   ·have:=h.rest
    rw[List.drop_eq_nil_of_le g,hrest]at this;cases this
  have hgo:∀ j,j<k+1->sf j=false:=fun j hj=>by
   rcases Nat.lt_or_ge j k with g | g
   ·exact h.go j g
   ·rw[show j=k by omega];exact hs
  have hp:=h.pos
  have hro:=h.room
  have hrm:=h.roomM
  rw[List.length_cons]at hp hro
  have h0:=h.has (ns,e :: r) List.mem_cons_self
  have hr0:r.length<=40/\∀ e'∈r,zt e'.ino f.xs=true:=⟨by have:=h0.1;simp at this;omega,fun e' he=>h0.2 e' (List.mem_cons_of_mem _ he)⟩
  refine ⟨fun c h1 h2=>⟨hd,hb,hkl,hgo,by simp;omega,by simp;omega,h2,fun p hp=>?_⟩,fun hne=>?_⟩
  ·rcases List.mem_cons.1 hp with rfl | hp
   ·exact ⟨(hf.2 _ hm).2.1,fun e' he=>h3 _ hm e' he⟩
   ·rcases List.mem_cons.1 hp with rfl | hp
    ·exact hr0
    ·exact h.has p (List.mem_cons_of_mem _ hp)
  ·have hz:XU tr ((ns++[e.name],(zf e.ino f.xs).es) :: (ns,r) :: S)=XU tr ((ns,r) :: S):=by rw[hne];simp[XU,zbT]
   rw[hz]at hd hb
   exact ⟨hd,hb,hkl,hgo,by simp;omega,by simp;omega,hrm,fun p hp=>by
    rcases List.mem_cons.1 hp with rfl | hp
    ·exact hr0
    ·exact h.has p (List.mem_cons_of_mem _ hp)⟩
theorem zce (f:FsV) (ino:Int) (ns:List (List UInt8)) (tr:Int->List (List UInt8)->Jk) (ht:uy f tr) (hf:Vf f.xs) (hR:z8 f.xs) (h3:Ya f) (h2:∀ x∈f.xs,x.kind≠2->x.es = []) (hl:(tr ino ns).length<=1000000) (hb:∀ p∈tr ino ns,Vc p) :
  xr Tryz.prog G0 202 [] [.row (fsC f),.row [.sc (.int .i64 ino)],.row [.sl 1 (zQ ns)]] [] ((tr ino ns).map UC):=by
 have h40:=hf.1
 refine foI (fun i=>if i=1000000+246 then [true] else if i=1 then [false,false,false,false,false,false,false,true] else if i=10 then [false,false,false,false,true] else []) Tryz.func202 ?_;dsimp only[Tryz.f202]
 intro l sf
 push_cast -dsimp
 refine cl (jH f ino (by omega) hR) ?_;push_cast -dsimp
 cases hh:zt ino f.xs with
 | false =>
  have hn:=ht.not ino ns hh
  push_cast -dsimp
  rw[hn]
  exact .inl ⟨rfl,fun j hj=>absurd hj (Nat.not_lt_zero _)⟩
 | true =>
  have hn:=ht.has ino ns hh
  have q:Vc (ns,zf ino f.xs):=hb _ (by rw[hn];exact List.mem_cons_self)
  have h0:((tr ino ns).map UC)[0]?=some (UC (ns,zf ino f.xs)):=by rw[hn];rfl
  obtain ⟨hm,hino⟩:=qX hh
  generalize zf ino f.xs=x at hn h0 hm hino
  have hITl:((tr ino ns).map UC).length<=1000000:=by rw[List.length_map];exact hl
  generalize hIT:(tr ino ns).map UC=IT at h0 hITl
  push_cast -dsimp
  refine cl (XC ns (by have:=q.1;dsimp only at this;omega) (by have:=q.2;dsimp only at this;omega)) ?_;push_cast -dsimp [h0]
  refine ⟨by push_cast -dsimp [zb,za,CLe,zd],fun j hj=>absurd hj (Nat.not_lt_zero _),br (fun hs=>?_) (fun hs=>?_)⟩
  ·push_cast -dsimp
   exact .inr ⟨Nat.succ_pos _,hs⟩
  ·push_cast -dsimp
   refine loop (fun p:List (List (List UInt8)×List zX)×Nat×Nat=>⟨[(0,.sc (.func (.yield l) #[] #[])),(1,.row (fsC f)),(7,.bs 1 0 2 p.1.length p.2.2)],[[.any,.any,.any,.any,.any,.any],kE p.1++List.replicate ((p.2.2-p.1.length)*2) .any],0,p.2.1⟩) (fun p=>Yg f tr IT sf p.1 p.2.1 p.2.2) (fun p=>2*(IT.length-p.2.1)+p.1.length) ([(ns,x.es)],1,1) ?_ ?_ ?_
   ·have hdr:IT.drop 1=(XU tr [(ns,x.es)]).map UC:=by
     rw[←hIT,hn]
     simp[XU,zbT]
    show Yg f tr IT sf [(ns,x.es)] 1 1
    exact ⟨hdr,fun p hp=>hb p (by rw[hn];exact List.mem_cons_of_mem _ (by simpa [XU,zbT] using hp)),by have:=(List.getElem?_eq_some_iff.1 h0).1;omega,fun j hj=>by rw[show j=0 by omega];exact hs,Nat.le_refl _,Nat.le_refl _,by omega,fun p hp=>by
     rw[List.mem_singleton]at hp;subst hp
     exact ⟨(hf.2 x hm).2.1,fun e he=>h3 x hm e he⟩⟩
   ·have hl1:kE [(ns,x.es)] = [.sl 1 (zQ ns),.sl 2 (zW x.es)]:=rfl
    exact wk (h5:=by push_cast -dsimp [zb,za,CLe,zd,hl1])
   ·rintro ⟨S,k,cap⟩ hS
    dsimp only at hS ⊢
    cases S with
    | nil =>
     push_cast -dsimp
     have hr:=hS.rest
     have he:IT.length<=k:=by
      rcases Nat.lt_or_ge k IT.length with g | g
      ·have:=congrArg List.length hr
       simp[XU]at this;omega
      ·exact g
     exact .inl ⟨by have:=hS.le;omega,hS.go⟩
    | cons p S' =>
     obtain ⟨ns1,es1⟩:=p
     have hL:=znb S'
     have hd0:∀ X,(kE S'++X).drop (S'.length*2)=X:=fun X=>List.drop_left' hL
     have hd1:∀ X,(kE S'++X).drop (S'.length*2+1)=X.drop 1:=fun X=>by rw[←List.drop_drop,hd0]
     have hd2:∀ X,(kE S'++X).drop (S'.length*2+2)=X.drop 2:=fun X=>by rw[←List.drop_drop,hd0]
     have ht0:∀ X,(kE S'++X).take (S'.length*2)=kE S':=fun X=>List.take_left' hL
     have ht1:∀ X,(kE S'++X).take (S'.length*2+1)=kE S'++X.take 1:=fun X=>by
      rw[List.take_append,List.take_of_length_le (by omega),hL];congr 2;omega
     have hpos:((0:Int)<(S'.length:Int)+1)=True:=eq_true (by omega)
     have hroom:=hS.room
     have hroomM:=hS.roomM
     rw[List.length_cons]at hroom
     have hlc:(((S'.length:Int)+1-1)=(S'.length:Int)):=by omega
     push_cast -dsimp [vK,hlc,hpos]
     repeat refine an ?_
     generalize hpad:List.replicate ((cap-(S'.length+1))*2) C.any=pad
     have hps:(pad.all C.stayB)=true:=by rw[←hpad];simp[List.all_replicate,C.stayB]
     have hst1:((kE S'++(lvC (ns1,es1)++pad)).all C.stayB)=true:=by rw[List.all_append,Zn,List.all_append,hps];rfl
     have hpl:pad.length=(cap-(S'.length+1))*2:=by rw[←hpad];simp
     refine loop (fun p:List zX×Nat=>⟨[(0,.sc (.func (.yield l) #[] #[])),(1,.row (fsC f)),(7,.bs 1 0 2 (S'.length+1) cap),(8,.ptr 1 (S'.length*2))],[[.any,.any,.any,.any,.any,.any],kE S'++([.sl 1 (zQ ns1),.sl 2 (zW p.1)]++pad)],0,p.2⟩) (fun p=>Yg f tr IT sf ((ns1,p.1) :: S') p.2 cap/\2*(IT.length-p.2)<=2*(IT.length-k)) (fun p=>p.1.length) (es1,k) ⟨hS,Nat.le_refl _⟩ ?_ ?_
     ·exact Ji.mk [] rfl rfl (Nat.zero_le _) rfl (by push_cast -dsimp [zb,za,CLe,zd]) (by push_cast -dsimp [zb,za,CLe,zd,List.append_assoc];exact zO hst1)
     ·rintro ⟨es,k1⟩ ⟨hT,hkk⟩
      dsimp only at hT hkk ⊢
      cases es with
      | nil =>
       push_cast -dsimp [hd0,hd1,hd2,ht0,ht1,hlc]
       refine ⟨by omega,by omega,⟨by omega,by omega⟩,(S',k1,cap),hT.pop,by dsimp only;omega,Ji.mk [] rfl rfl (Nat.zero_le _) rfl (by push_cast -dsimp [zb,za,CLe,zd]) ?_⟩
       push_cast -dsimp [zb,za,CLe,zd]
       exact zeK (zO (Zn S')) (Qy (by simp[hpl];omega))
      | cons e r =>
       obtain ⟨y,hy,hym,hk1,hbd,hnext⟩:=hT.next ht hf h3
       have hrl:((0:Int)<(r.length:Int)+1)=True:=eq_true (by omega)
       have hlr:(zW r).length=r.length:=List.length_map ..
       have hhe:zt e.ino f.xs=true:=(hT.has (ns1,e :: r) List.mem_cons_self).2 e List.mem_cons_self
       have hgy:zf e.ino f.xs=y:=hy.symm
       have hb1:ns1.length+1<=1000000:=by have:=hbd.1;simpa using this
       have hb2:(Lib.join (ns1++[e.name]) [47]).length<=1000000:=hbd.2
       have hst2:(zQ ns1).length=ns1.length:=List.length_map ..
       push_cast -dsimp [hd0,hd1,hd2,ht0,ht1,hlc,hlr,hrl,hst2,List.append_assoc,List.take_length]
       repeat refine an ?_
       refine cl (jH f e.ino (by omega) hR) ?_;push_cast -dsimp [hgy,hhe]
       refine cl (XC (ns1++[e.name]) (by simp;omega) (by omega)) ?_;push_cast -dsimp [hk1]
       refine ⟨by push_cast -dsimp [zb,za,CLe,zd],hT.go,br (fun hs1=>?_) (fun hs1=>?_)⟩
       ·push_cast -dsimp
        exact .inr ⟨Nat.succ_pos _,hs1⟩
       ·obtain ⟨w1,w2⟩:=hnext hs1
        by_cases k2:y.kind=2
        ·have hSk:=hT.pos
         have hkl:=hT.le
         rw[List.length_cons]at hSk
         have hc1:(kE S'++C.sl 1 (zQ ns1) :: C.sl 2 (List.map zj7 r) :: pad).length=cap*2:=by
          rw[List.length_append,hL,List.length_cons,List.length_cons,hpl];omega
         have hc2:(kE S'++C.sl 1 (zQ ns1) :: C.sl 2 (List.map zj7 r) :: pad).take ((S'.length+1)*2)=kE S'++[C.sl 1 (zQ ns1),C.sl 2 (List.map zj7 r)]:=by
          rw[List.take_append,List.take_of_length_le (by omega),hL,show (S'.length+1)*2-S'.length*2=2 by omega];rfl
         push_cast -dsimp [k2]
         refine zqL (kE S'++[C.sl 1 (zQ ns1),C.sl 2 (List.map zj7 r)]++[C.sl 1 (zQ (ns1++[e.name])),C.sl 2 (zW y.es)]) rfl rfl (by decide) rfl (by decide) (Nat.zero_le _) hc1 hroom hroomM (by omega) (by omega) (by rw[hc2];exact zE (by rw[List.all_append,List.all_append,Zn];rfl)) (fun c' g1 g2=>?_)
         have hw:=w1 c' (by omega) g2
         have hwl:=hw.le
         push_cast -dsimp [k2]
         refine ⟨((ns1++[e.name],y.es) :: (ns1,r) :: S',k1+1,c'),hw,by simp only[List.length_cons];omega,Ji.mk [] rfl rfl (Nat.zero_le _) rfl (by push_cast -dsimp [zb,za,CLe,zd]) ?_⟩
         push_cast -dsimp [zb,za,CLe,zd,vK,List.append_assoc]
         exact zO (by rw[List.all_append,Zn];simp[List.all_replicate,C.stayB])
        ·push_cast -dsimp [k2]
         have hz:=w2 (h2 y hym k2)
         have hle:=hz.le
         refine ⟨(r,k1+1),⟨hz,by dsimp only;omega⟩,by dsimp only;simp,Ji.mk [] rfl rfl (Nat.zero_le _) rfl (by push_cast -dsimp [zb,za,CLe,zd]) ?_⟩
         push_cast -dsimp [zb,za,CLe,zd,List.append_assoc]
         exact zO (by rw[List.all_append,Zn,List.all_cons,List.all_cons,hps];rfl)
end
section
open CA CB
open Go.RowKit
structure zfL (f:FsV) (tr:Int->List (List UInt8)->Jk):Prop where
 tree:uy f tr
 few:Vf f.xs
 rise:z8 f.xs
 third:Ya f
 leaf:∀ x∈f.xs,x.kind≠2->x.es = []
structure yz (tr:Int->List (List UInt8)->Jk) (ino:Int) (ns:List (List UInt8)):Prop where
 len:(tr ino ns).length<=1000000
 bound:∀ p∈tr ino ns,Vc p
abbrev zfb (l:Jk):List (List C):=l.map UC
theorem zg1 {l:Jk} {k:Nat} {it:List C} (h:(zfb l)[k]?=some it):∃ p,l[k]?=some p/\it=UC p:=by
 rw[List.getElem?_map]at h
 cases hq:l[k]? with
 | none=>rw[hq]at h;cases h
 | some x=>rw[hq]at h;cases h;exact ⟨x,rfl,rfl⟩
theorem zli {f:FsV} {tr:Int->List (List UInt8)->Jk} {ino:Int} {ns:List (List UInt8)} (hw:zfL f tr) (hs:yz tr ino ns):xr Tryz.prog G0 202 [] [.row (fsC f),.row [.sc (.int .i64 ino)],.row [.sl 1 (zQ ns)]] [] (zfb (tr ino ns)):=
 zce f ino ns tr hw.tree hw.few hw.rise hw.third hw.leaf hs.len hs.bound
theorem zh1 (f:FsV) (ino:Int) (ns:List (List UInt8)):Fun Tryz.prog G0 162 [.agg (fsC f),.sc (.int .i64 ino),.sl 1 (zQ ns)] (.clo (.func 202) [] [.row (fsC f),.row [.sc (.int .i64 ino)],.row [.sl 1 (zQ ns)]]) 0:=by
 refine fon Tryz.func162 ?_;dsimp only[Tryz.f162]
 push_cast -dsimp
 exact dn
theorem zlp (f:FsV):Fun Tryz.prog G0 124 [.agg (fsC f)] (.clo (.func 202) [] [.row (fsC f),.row [.sc (.int .i64 1)],.row [.sl 1 (zQ [])]]) 0:=by
 refine fon Tryz.func124 ?_;dsimp only[Tryz.f124]
 push_cast -dsimp
 refine call (Fun.less (zh1 f 1 []) (by push_cast -dsimp [zb,za,CLe,zd])) ?_
 push_cast -dsimp
 exact dn
def Qv (n:Int) (l:Jk):List (List UInt8):=(l.filter fun p=>decide (p.2.ino=n)).map fun p=>zS p.1
def Uy (n:Int) (l:Jk):Option (List UInt8):=(l.find? fun p=>decide (p.2.ino=n)&&decide (p.2.kind=2)).map fun p=>zS p.1
theorem yc (f:FsV) (n:Int) (tr:Int->List (List UInt8)->Jk) (hw:zfL f tr) (hs:yz tr 1 []) :
  Fun Tryz.prog G0 68 [.agg (fsC f),.sc (.int .i64 n)] (.tup [.str ((Uy n (tr 1 [])).getD []),.sc (.bool (Uy n (tr 1 [])).isSome)]) 0:=by
 refine fon Tryz.func68 ?_;dsimp only[Tryz.f68]
 push_cast -dsimp
 refine cl (zlp f) ?_;push_cast -dsimp
 have hl:=hs.len
 have hit:=zli hw hs
 generalize tr 1 []=l at hit hl
 refine range (zfb l) (fun k=>match l[k]? with | some p=>decide (p.2.ino=n)&&decide (p.2.kind=2) | none=>false) 4 (fun k=>⟨[],[[.any,.any,.any,.any],[.sc (.int .i64 n)],[.any],[.any]],0,0⟩) hit (by push_cast -dsimp) (by push_cast -dsimp) (by push_cast -dsimp) (Nat.zero_le _) (by push_cast -dsimp) (fun it h=>?_) (fun k _=>rfl) ?_ (fun k it hk hsf=>?_) (fun hsf=>?_)
 ·obtain ⟨x,_,rfl⟩:=List.mem_map.1 h;rfl
 ·exact wk
 ·obtain ⟨x,hx2,rfl⟩:=zg1 hk
  have hfirst:(decide (x.2.ino=n)&&decide (x.2.kind=2))=true->Uy n l=some (zS x.1):=fun hb=>by
   obtain ⟨hkl,hxe⟩:=List.getElem?_eq_some_iff.1 hx2
   unfold Uy
   rw[List.find?_eq_some_iff_getElem (b:=x) |>.2 ⟨hb,k,hkl,hxe,fun j hj=>?_⟩]
   ·rfl
   ·have:=hsf j hj
    rw[List.getElem?_eq_getElem (by omega)]at this
    simp only[this];rfl
  by_cases c1:x.2.ino=n
  ·by_cases c2:x.2.kind=2
   ·have hd:=hfirst (by simp[c1,c2])
    push_cast -dsimp [c1,c2]
    refine ⟨by rw[hx2];simp[c1,c2],⟨[],[[.any,.any,.any,.any],[.sc (.int .i64 n)],[.str (zS x.1)],[.sc (.bool true)]],0,0⟩,rfl,wk,?_⟩
    push_cast -dsimp [hd]
    exact dn (by push_cast -dsimp [zb,za,CLe,zd,hd,Option.getD_some,Option.isSome_some])
   ·push_cast -dsimp [c1,c2]
    refine ⟨by rw[hx2];simp[c2],wk⟩
  ·push_cast -dsimp [c1]
   refine ⟨by rw[hx2];simp[c1],wk⟩
 ·have hnone:Uy n l=none:=by
   unfold Uy
   rw[Option.map_eq_none_iff,List.find?_eq_none]
   intro x hx
   obtain ⟨k,hk,rfl⟩:=List.getElem_of_mem hx
   have:=hsf k (by simpa using hk)
   rw[List.getElem?_eq_getElem hk]at this
   simpa only[Bool.not_eq_true] using this
  push_cast -dsimp [hnone]
  exact dn (by push_cast -dsimp [zb,za,CLe,zd,Option.getD_none,Option.isSome_none])
end
section
inductive Dep (xs:List zn):Nat->Int->Prop
 | root:Dep xs 0 1
 | step {k:Nat} {n:Int} {e:zX}:Dep xs k n->zt n xs=true->e∈(zf n xs).es->Dep xs (k+1) e.ino
theorem qx {f:FsV} (h:okV f):Vf f.xs/\Jb f/\Yf f/\Ya f/\Ye f/\Qo f/\kJ f:=by
 obtain ⟨h0,h⟩:=h
 unfold Jn at h
 refine ⟨h0,?_⟩
 split at h
 ·split at h
  ·split at h
   ·split at h
    ·split at h
     ·split at h
      ·exact ⟨by assumption,by assumption,by assumption,by assumption,by assumption,by assumption⟩
      ·cases h
     ·cases h
    ·cases h
   ·cases h
  ·cases h
 ·cases h
theorem HR {es:List zX}:∀ {S:List Int} {n:Int},n∈kp S es↔n∈S∨∃ e∈es,e.ino=n:=by
 induction es with
 | nil=>intro S n;simp[kp]
 | cons e r ih =>
  intro S n
  show n∈kp (J5 S e.ino) r↔_
  rw[ih,Ho]
  constructor
  ·rintro ((h | h) | ⟨e',he,h⟩)
   ·exact .inl h
   ·exact .inr ⟨e,List.mem_cons_self,h.symm⟩
   ·exact .inr ⟨e',List.mem_cons_of_mem _ he,h⟩
  ·rintro (h | ⟨e',he,h⟩)
   ·exact .inl (.inl h)
   ·rcases List.mem_cons.1 he with rfl | he
    ·exact .inl (.inr h.symm)
    ·exact .inr ⟨e',he,h⟩
theorem NS {xs:List zn} {es:List zX}:∀ {S:List Int},Yc xs S->(∀ e∈es,zt e.ino xs=true)->Yc xs (kp S es):=by
 induction es with
 | nil=>intro S h _;exact h
 | cons e r ih=>intro S h he;exact ih (h.one (he e List.mem_cons_self)) fun e' h'=>he e' (List.mem_cons_of_mem _ h')
theorem Gw {xs:List zn} (h3:∀ x∈xs,∀ e∈x.es,zt e.ino xs=true):∀ (m i:Nat) (S:List Int),Yc xs S->(∀ n∈S,∃ k,Dep xs k n)->Yc xs (Qp xs m i S)/\∀ n∈Qp xs m i S,∃ k,Dep xs k n
 | 0,i,S,h,hd=>by unfold Qp;exact ⟨h,hd⟩
 | m+1,i,S,h,hd=>by
  unfold Qp
  split
  ·rename_i n hn
   have hmem:=List.mem_of_getElem? hn
   have hh:=h.has n hmem
   obtain ⟨hm,_⟩:=qX hh
   obtain ⟨k,hk⟩:=hd n hmem
   refine Gw h3 m (i+1) _ (NS h fun e he=>h3 _ hm e he) fun n' hn'=>?_
   rcases HR.1 hn' with h' | ⟨e,he,rfl⟩
   ·exact hd n' h'
   ·exact ⟨k+1,.step hk hh he⟩
  ·exact ⟨h,hd⟩
theorem zcL {S T:List Int} (hS:S.Nodup) (hs:∀ n∈S,n∈T) (hl:T.length<=S.length):∀ n∈T,n∈S:=by
 intro n hn
 by_cases h:n∈S
 ·exact h
 ·exfalso
  have:=V6 (S:=n :: S) (T:=T) (List.nodup_cons.2 ⟨h,hS⟩) fun m hm=>by
   rcases List.mem_cons.1 hm with rfl | hm
   ·exact hn
   ·exact hs m hm
  rw[List.length_cons]at this;omega
theorem HM {f:FsV} (h:okV f) {n:Int} (hn:zt n f.xs=true):∃ k,Dep f.xs k n:=by
 obtain ⟨_,h1,_,h3,_,h5,_⟩:=qx h
 have hroot:Yc f.xs [1]:=⟨by simp,fun n hn=>by simp at hn;subst hn;exact h1.2.2.2.2.2.2.2.1⟩
 obtain ⟨g1,g2⟩:=Gw h3 (f.xs.length+1) 0 [1] hroot fun n hn=>by simp at hn;subst hn;exact ⟨0,.root⟩
 have hS:=zcL (T:=f.xs.map (·.ino)) g1.nodup (fun m hm=>GE.1 (g1.has m hm)) (by rw[List.length_map];exact Nat.le_of_eq h5.symm) n (GE.1 hn)
 exact g2 n hS
theorem Ze {xs:List zn} {n:Int} {e:zX} (hh:zt n xs=true) (he:e∈(zf n xs).es):(e.ino,n)∈qc xs:=by
 obtain ⟨hm,hi⟩:=qX hh
 unfold qc
 exact List.mem_flatMap.2 ⟨_,hm,List.mem_map.2 ⟨e,he,by rw[hi]⟩⟩
theorem zlH {n p:Int} {l:List (Int×Int)} (h:(n,p)∈l):1<=QK n l:=by
 unfold QK
 exact List.length_pos_iff.2 (List.ne_nil_of_mem (List.mem_filter.2 ⟨h,by simp⟩))
theorem xX {n p q:Int} {l:List (Int×Int)} (hp:(n,p)∈l) (hq:(n,q)∈l) (h:QK n l=1):p=q:=by
 unfold QK at h
 obtain ⟨x,hx⟩:=List.length_eq_one_iff.1 h
 have h1:(n,p)∈l.filter fun p=>p.1==n:=List.mem_filter.2 ⟨hp,by simp⟩
 have h2:(n,q)∈l.filter fun p=>p.1==n:=List.mem_filter.2 ⟨hq,by simp⟩
 rw[hx]at h1 h2
 simp only[List.mem_singleton]at h1 h2
 exact congrArg Prod.snd (h1.trans h2.symm)
theorem U3 {f:FsV} (h:okV f) {n:Int} (hh:zt n f.xs=true) {e:zX} (he:e∈(zf n f.xs).es):(zf n f.xs).kind=2:=by
 obtain ⟨_,_,h2,_⟩:=qx h
 obtain ⟨hm,_⟩:=qX hh
 by_cases hk:(zf n f.xs).kind=2
 ·exact hk
 ·have:=((h2 _ hm).2.1 hk).1
  rw[this]at he;cases he
theorem jL {f:FsV} (h:okV f) {n:Int} (hh:zt n f.xs=true) {e:zX} (he:e∈(zf n f.xs).es):e.ino≠1:=fun h1=>by
 obtain ⟨_,hf,_,_,h4,_⟩:=qx h
 obtain ⟨hm,hi⟩:=qX hf.2.2.2.2.2.2.2.1
 have hq:=(h4 _ hm).2
 rw[if_pos hi,hi]at hq
 have:=zlH (Ze hh he)
 rw[h1]at this;omega
theorem ZT {f:FsV} (h:okV f):∀ (k k':Nat) (n:Int),Dep f.xs k n->Dep f.xs k' n->zt n f.xs=true->(zf n f.xs).kind=2->k=k'
 | 0,0,_,_,_,_,_=>rfl
 | 0,k'+1,_,h1,h2,hh,hk=>by
  cases h1
  generalize hn:(1:Int)=n at h2
  cases h2 with
  | step a b c=>exact absurd hn.symm (jL h b c)
 | k+1,0,_,h1,h2,hh,hk=>by
  cases h2
  generalize hn:(1:Int)=n at h1
  cases h1 with
  | step a b c=>exact absurd hn.symm (jL h b c)
 | k+1,k'+1,n,h1,h2,hh,hk=>by
  obtain ⟨_,hf,_,_,h4,_⟩:=qx h
  cases h1 with
  | @step _ p e a b c =>
   generalize hn:e.ino=n at h2 hh hk
   cases h2 with
   | @step _ p' e' a' b' c' =>
    have hp:=Ze b c
    have hp':=Ze b' c'
    rw[hn]at hp
    obtain ⟨hm,hi⟩:=qX hh
    have hq:=(h4 _ hm).2
    rw[hi]at hq
    have hne:e'.ino≠1:=jL h b' c'
    rw[if_neg hne]at hq
    have:=xX hp hp' (hq.2 hk).1
    subst this
    rw[ZT h k k' p a a' b (U3 h b c)]
end
section
theorem XW (n:Int):∀ xs:List zn,QK n (qc xs)=VH n xs
 | []=>rfl
 | x :: r=>by
  have ih:=XW n r
  unfold VH jP at ih ⊢
  unfold qc at ih ⊢
  rw[List.flatMap_cons,List.map_cons,List.sum_cons,←ih]
  unfold QK Hw
  rw[List.filter_append,List.length_append]
  congr 1
  induction x.es with
  | nil=>rfl
  | cons e es ie =>
   unfold ZF at ie ⊢
   rw[List.map_cons,List.filter_cons,List.filter_cons]
   by_cases h:e.ino=n
   ·simp only[h,beq_self_eq_true,if_true,decide_true,List.length_cons,ie]
   ·simp only[show (e.ino==n)=false from beq_eq_false_iff_ne.2 h,decide_eq_false h,Bool.false_eq_true,if_false,ie]
theorem Vr {f:FsV} (h:Jn f=0):Jb f/\Yf f/\Ya f/\Ye f/\Qo f/\kJ f:=by
 unfold Jn at h
 split at h
 ·split at h
  ·split at h
   ·split at h
    ·split at h
     ·split at h
      ·exact ⟨by assumption,by assumption,by assumption,by assumption,by assumption,by assumption⟩
      ·cases h
     ·cases h
    ·cases h
   ·cases h
  ·cases h
 ·cases h
theorem MA {es:List zX} (h:YB es):XO es:=by
 have hadj:∀ i (h1:i+1<es.length),Op.bytesLess es[i].name es[i+1].name=true:=fun i h1=>(h (i+1) h1).2.2 (by omega)
 have key:∀ (d i:Nat) (h1:i+d+1<es.length),Op.bytesLess (es[i]'(by omega)).name es[i+d+1].name=true:=by
  intro d
  induction d with
  | zero=>intro i h1;exact hadj i h1
  | succ d ih=>intro i h1;exact GW (ih i (by omega)) (hadj (i+d+1) (by omega))
 refine List.pairwise_iff_getElem.2 fun i j hi hj hij=>?_
 have:=key (j-i-1) i (by omega)
 have e:i+(j-i-1)+1=j:=by omega
 simp only[e]at this
 exact this
theorem XN {f:FsV} (h:Jn f=0):FsI f:=by
 obtain ⟨h1,h2,h3,h4,h5,h6⟩:=Vr h
 obtain ⟨a1,a2,a3,a4,a5,a6,a7,a8,a9⟩:=h1
 refine ⟨a7,a6,fun x hx=>(h2 x hx).1,fun x hx=>?_,fun x hx hk=>((h2 x hx).2.1 hk).1,h3,fun x hx=>?_,a8,a9,?_⟩
 ·by_cases hk:x.kind=2
  ·exact MA ((h2 x hx).2.2.1 hk).2
  ·rw[((h2 x hx).2.1 hk).1];exact List.Pairwise.nil
 ·rw[(h4 x hx).1,XW]
 ·obtain ⟨b1,b2⟩:=qX a8
  have q:=(h4 _ b1).2
  rw[b2,if_pos rfl,XW]at q
  exact q.1
theorem zoG {w:qk} (h:okW w):H6 w:=by
 obtain ⟨h1,h2,h3,h4,h5⟩:=h.2
 exact ⟨XN h1,h4.1,h2,fun x hx=>⟨(h3 x hx).1,(h3 x hx).2.2.1⟩⟩
theorem Gf {w:qk} (h:okW w):zr3 40 w:=by
 obtain ⟨⟨g1,g2,g3,g4⟩,h1,_⟩:=h
 obtain ⟨a1,a2,a3,a4,a5,_⟩:=(Vr h1).1
 exact ⟨g2.1,fun x hx=>by obtain ⟨q1,q2,q3⟩:=g2.2 x hx;exact ⟨q2,q1,q3⟩,g4,g1,g3.1,fun x hx=>by obtain ⟨q1,q2,q3⟩:=g3.2 x hx;exact ⟨q2,q1,q3⟩,by omega,by omega⟩
structure OpS (o:OpV):Prop where
 a:o.a.length<=1000
 b:o.b.length<=1000
 d:o.d.length<=5000
structure zr9 (N:Nat) (d:zD):Prop where
 wi:H6 d.w
 wb:zr3 (40+N) d.w
 ops:d.ops.length<=N
 diags:d.diags.length<=N
 slot:0<=d.slot/\d.slot<=1073741824+N
theorem US {d:zD} {o:OpV} (h:(YV d o).2≠0):(YV d o).1=d:=by
 unfold YV at h ⊢
 split
 ·rfl
 ·split
  ·rfl
  ·rename_i h1 h2;rw[if_neg h1,if_neg h2]at h;exact absurd rfl h
end
section
theorem xq {f:FsV} (h:okV f):∀ (k:Nat) (n:Int),Dep f.xs k n->zt n f.xs=true->(zf n f.xs).kind=2->∃ L:List Int,L.length=k+1/\L.Nodup/\(∀ m∈L,zt m f.xs=true)/\∀ m∈L,(zf m f.xs).kind=2/\∃ j,j<=k/\Dep f.xs j m
 | 0,n,hd,hh,hk=>⟨[n],rfl,by simp,fun m hm=>by simp at hm;subst hm;exact hh,fun m hm=>by simp at hm;subst hm;exact ⟨hk,0,Nat.le_refl _,hd⟩⟩
 | k+1,_,hd,hh,hk=>by
  generalize hn:k+1=k1 at hd
  cases hd with
  | root=>cases hn
  | @step k0 p e a b c =>
   obtain rfl:k=k0:=by omega
   obtain ⟨L,l1,l2,l3,l4⟩:=xq h k p a b (U3 h b c)
   refine ⟨e.ino :: L,by simp[l1],List.nodup_cons.2 ⟨fun hm=>?_,l2⟩,fun m hm=>?_,fun m hm=>?_⟩
   ·obtain ⟨_,j,hj,hd⟩:=l4 _ hm
    have:=ZT h _ _ _ hd (.step a b c) hh hk
    omega
   ·rcases List.mem_cons.1 hm with rfl | hm
    ·exact hh
    ·exact l3 m hm
   ·rcases List.mem_cons.1 hm with rfl | hm
    ·exact ⟨hk,k+1,Nat.le_refl _,.step a b c⟩
    ·obtain ⟨q1,j,q2,q3⟩:=l4 m hm
     exact ⟨q1,j,by omega,q3⟩
theorem zaj {f:FsV} (h:okV f) {k:Nat} {n:Int} (hd:Dep f.xs k n) (hh:zt n f.xs=true) (hk:(zf n f.xs).kind=2):k<f.xs.length:=by
 obtain ⟨L,l1,l2,l3,_⟩:=xq h k n hd hh hk
 have:=Q9 l2 l3
 omega
def qM (xs:List zn):Nat->Int->List (List UInt8)->Jk
 | 0,_,_=>[]
 | m+1,n,ns=>if zt n xs then (ns,zf n xs) :: (zf n xs).es.flatMap (fun e=>qM xs m e.ino (ns++[e.name])) else []
theorem Qn {α β:Type} {l:List α} {g g':α->List β} (h:∀ a∈l,g a=g' a):l.flatMap g=l.flatMap g':=by
 induction l with
 | nil=>rfl
 | cons a r ih=>rw[List.flatMap_cons,List.flatMap_cons,h a List.mem_cons_self,ih fun b hb=>h b (List.mem_cons_of_mem _ hb)]
theorem xj {f:FsV} (h:okV f):∀ (m m' k:Nat) (n:Int) (ns:List (List UInt8)),Dep f.xs k n->k<=f.xs.length->f.xs.length+1<=m+k->f.xs.length+1<=m'+k->qM f.xs m n ns=qM f.xs m' n ns
 | 0,m',k,n,ns,hd,hk,h1,h2=>by omega
 | m+1,0,k,n,ns,hd,hk,h1,h2=>by omega
 | m+1,m'+1,k,n,ns,hd,hk,h1,h2=>by
  unfold qM
  split
  ·rename_i hh
   congr 1
   refine Qn fun e he=>?_
   have hdir:=U3 h hh he
   have hlt:=zaj h hd hh hdir
   exact xj h m m' (k+1) e.ino _ (.step hd hh he) (by omega) (by omega) (by omega)
  ·rfl
abbrev trV (xs:List zn):Int->List (List UInt8)->Jk:=qM xs (xs.length+1)
theorem zj9 {f:FsV} (h:okV f) {n:Int} (hh:zt n f.xs=true):∃ k,k<=f.xs.length/\Dep f.xs k n:=by
 obtain ⟨k,hd⟩:=HM h hh
 refine ⟨k,?_,hd⟩
 cases hd with
 | root=>exact Nat.zero_le _
 | step a b c=>exact zaj h a b (U3 h b c)
theorem zlW {f:FsV} (h:okV f):uy f (trV f.xs):=⟨fun n ns hh=>by
 obtain ⟨k,hk,hd⟩:=zj9 h hh
 show qM f.xs (f.xs.length+1) n ns=_
 rw[qM,if_pos hh]
 congr 1
 refine Qn fun e he=>?_
 have hlt:=zaj h hd hh (U3 h hh he)
 exact xj h _ _ (k+1) e.ino _ (.step hd hh he) (by omega) (by omega) (by omega),fun n ns hh=>by
 show qM f.xs (f.xs.length+1) n ns=_
 rw[qM,if_neg (by rw[hh];decide)]⟩
theorem zl7 {f:FsV} (h:okV f):zfL f (trV f.xs):=by
 obtain ⟨p0,p1,p2,p3,_⟩:=qx h
 exact ⟨zlW h,p0,p1.2.2.2.2.2.2.1,p3,fun x hx hk=>((p2 x hx).2.1 hk).1⟩
end
section
theorem ZI (ns:List (List UInt8)) (x:List UInt8) (hne:∀ y∈ns,y≠[]):zS (ns++[x])=QN (zS ns) x:=by
 have hj:=NJ (ns++[x]) ns.length x (by simp)
 rw[List.take_of_length_le (by simp),List.take_left' rfl]at hj
 unfold zS
 rw[if_neg (by simp),hj]
 by_cases h:ns = []
 ·subst h;rfl
 ·have hl:ns.length≠0:=fun h0=>h (List.eq_nil_of_length_eq_zero h0)
  rw[if_neg hl,if_neg h]
  have hne47:(47 :: Lib.join ns [47])≠[47]:=fun he=>by
   have h1:Lib.join ns [47] = []:=(List.cons.inj he).2
   have h2:=YN ns h
   rw[h1]at h2
   cases ns with
   | nil=>exact h rfl
   | cons y r =>
    have:=List.length_pos_iff.2 (hne y List.mem_cons_self)
    simp at h2;omega
  unfold QN
  rw[if_neg hne47]
  simp
end
section
inductive Anc (xs:List zn) (n:Int):Nat->Int->Prop
 | same:Anc xs n 0 n
 | step {j:Nat} {p:Int} {e:zX}:Anc xs n j p->zt p xs=true->e∈(zf p xs).es->Anc xs n (j+1) e.ino
theorem Anc.dep {xs:List zn} {n:Int} {k:Nat} (hd:Dep xs k n):∀ {j:Nat} {d:Int},Anc xs n j d->Dep xs (k+j) d
 | _,_,.same=>hd
 | _,_,.step a b c=>.step (a.dep hd) b c
theorem Anc.up {xs:List zn} {n:Int} {e:zX} (hh:zt n xs=true) (he:e∈(zf n xs).es):∀ {j:Nat} {d:Int},Anc xs e.ino j d->Anc xs n (j+1) d
 | _,_,.same=>.step .same hh he
 | _,_,.step a b c=>.step (a.up hh he) b c
theorem YR {xs:List zn}:∀ (m:Nat) (n:Int) (ns:List (List UInt8)),∀ p∈qM xs m n ns,∃ j,Anc xs n j p.2.ino/\zt p.2.ino xs=true/\zf p.2.ino xs=p.2
 | 0,n,ns,p,hp=>by cases hp
 | m+1,n,ns,p,hp=>by
  unfold qM at hp
  split at hp
  ·rename_i hh
   obtain ⟨_,hi⟩:=qX hh
   rcases List.mem_cons.1 hp with rfl | hp
   ·exact ⟨0,by rw[hi];exact .same,by rw[hi];exact hh,by rw[hi]⟩
   ·obtain ⟨e,he,hp⟩:=List.mem_flatMap.1 hp
    obtain ⟨j,q1,q2⟩:=YR m _ _ p hp
    exact ⟨j+1,q1.up hh he,q2⟩
  ·cases hp
theorem zae {f:FsV} (h:okV f) {a b:Int}:∀ (j:Nat) (d:Int),Anc f.xs a j d->Anc f.xs b j d->zt d f.xs=true->(zf d f.xs).kind=2->a=b/\zt a f.xs=true/\(zf a f.xs).kind=2
 | 0,d,h1,h2,hh,hk=>by
  cases h1;cases h2
  exact ⟨rfl,hh,hk⟩
 | j+1,d,h1,h2,hh,hk=>by
  obtain ⟨_,_,_,_,h4,_⟩:=qx h
  cases h1 with
  | @step _ p e x y z =>
   generalize hn:e.ino=d at h2 hh hk
   cases h2 with
   | @step _ p' e' x' y' z' =>
    have hp:=Ze y z
    have hp':=Ze y' z'
    rw[hn]at hp
    obtain ⟨hm,hi⟩:=qX hh
    have hq:=(h4 _ hm).2
    rw[hi,if_neg (jL h y' z')]at hq
    have:=xX hp hp' (hq.2 hk).1
    subst this
    exact zae h j p x x' y (U3 h y z)
theorem zlf {xs:List zn} {n:Int} {e e':zX} (hh:zt n xs=true) (hs:[e,e'].Sublist (zf n xs).es) (hi:e.ino=e'.ino):2<=QK e.ino (qc xs):=by
 obtain ⟨hm,hino⟩:=qX hh
 have h1:([e,e'].map fun e=>(e.ino,(zf n xs).ino)).Sublist (ZF (zf n xs) (zf n xs).es):=hs.map _
 obtain ⟨i,hi',hx⟩:=List.getElem_of_mem hm
 have h2:(ZF (zf n xs) (zf n xs).es).Sublist (qc xs):=by
  obtain ⟨s,t,hst⟩:=List.append_of_mem hm
  unfold qc
  conv=>rhs;rw[hst]
  rw[List.flatMap_append,List.flatMap_cons]
  exact (List.sublist_append_left _ _).trans (List.sublist_append_right _ _)
 have h3:=((h1.trans h2).filter fun p=>p.1==e.ino).length_le
 unfold QK
 simpa [hi] using h3
abbrev Ym (l:Jk):List Int:=(l.filter fun p=>decide (p.2.kind=2)).map fun p=>p.2.ino
theorem V5 {l:Jk} {d:Int} (h:d∈Ym l):∃ p∈l,p.2.kind=2/\p.2.ino=d:=by
 obtain ⟨p,hp,rfl⟩:=List.mem_map.1 h
 obtain ⟨h1,h2⟩:=List.mem_filter.1 hp
 exact ⟨p,h1,of_decide_eq_true h2,rfl⟩
theorem YF {f:FsV} (h:okV f):∀ (m:Nat) (n:Int) (ns:List (List UInt8)),zt n f.xs=true->(Ym (qM f.xs m n ns)).Nodup
 | 0,n,ns,_=>List.nodup_nil
 | m+1,n,ns,hh=>by
  obtain ⟨k,hd⟩:=HM h hh
  obtain ⟨_,_,_,h3,h4,_⟩:=qx h
  obtain ⟨hm,hi⟩:=qX hh
  have key:∀ L:List zX,L.Sublist (zf n f.xs).es->(Ym (L.flatMap fun e=>qM f.xs m e.ino (ns++[e.name]))).Nodup:=by
   intro L
   induction L with
   | nil=>intro _;exact List.nodup_nil
   | cons e r ih =>
    intro hs
    have he:e∈(zf n f.xs).es:=hs.subset List.mem_cons_self
    have hr:r.Sublist (zf n f.xs).es:=(List.sublist_cons_self e r).trans hs
    have hap:Ym ((e :: r).flatMap fun e=>qM f.xs m e.ino (ns++[e.name]))=Ym (qM f.xs m e.ino (ns++[e.name]))++Ym (r.flatMap fun e=>qM f.xs m e.ino (ns++[e.name])):=by
     rw[List.flatMap_cons];unfold Ym;rw[List.filter_append,List.map_append]
    rw[hap,List.nodup_append]
    refine ⟨YF h m e.ino _ (h3 _ hm e he),ih hr,fun d hd1 d' hd2 hdd=>?_⟩
    subst hdd
    obtain ⟨p,p1,p2,rfl⟩:=V5 hd1
    obtain ⟨p',p1',p2',p3'⟩:=V5 hd2
    obtain ⟨e',he',p1'⟩:=List.mem_flatMap.1 p1'
    obtain ⟨j,a1,a2,a3⟩:=YR m _ _ p p1
    obtain ⟨j',b1,b2,b3⟩:=YR m _ _ p' p1'
    rw[p3']at b1
    have hk:(zf p.2.ino f.xs).kind=2:=by rw[a3];exact p2
    have hdep:=ZT h _ _ _ (a1.dep (.step hd hh he)) (b1.dep (.step hd hh (hr.subset he'))) a2 hk
    obtain rfl:j=j':=by omega
    obtain ⟨q1,q2,q3⟩:=zae h j _ a1 b1 a2 hk
    have hs2:[e,e'].Sublist (zf n f.xs).es:=(List.Sublist.cons_cons e (List.singleton_sublist.2 he')).trans hs
    have h2:=zlf hh hs2 q1
    obtain ⟨hm2,hi2⟩:=qX q2
    have hq:=(h4 _ hm2).2
    rw[hi2,if_neg (jL h hh he)]at hq
    have:=(hq.2 q3).1
    omega
  unfold qM
  rw[if_pos hh]
  by_cases hk:(zf n f.xs).kind=2
  ·have hc:Ym ((ns,zf n f.xs) :: (zf n f.xs).es.flatMap fun e=>qM f.xs m e.ino (ns++[e.name]))=n :: Ym ((zf n f.xs).es.flatMap fun e=>qM f.xs m e.ino (ns++[e.name])):=by
    unfold Ym
    rw[List.filter_cons_of_pos (by simpa using hk),List.map_cons,hi]
   rw[hc,List.nodup_cons]
   refine ⟨fun hmem=>?_,key _ (List.Sublist.refl _)⟩
   obtain ⟨p,p1,p2,p3⟩:=V5 hmem
   obtain ⟨e,he,p1⟩:=List.mem_flatMap.1 p1
   obtain ⟨j,a1,a2,a3⟩:=YR m _ _ p p1
   rw[p3]at a1
   have:=ZT h _ _ _ (a1.dep (.step hd hh he)) hd hh hk
   omega
  ·have hc:Ym ((ns,zf n f.xs) :: (zf n f.xs).es.flatMap fun e=>qM f.xs m e.ino (ns++[e.name]))=Ym ((zf n f.xs).es.flatMap fun e=>qM f.xs m e.ino (ns++[e.name])):=by
    unfold Ym
    rw[List.filter_cons_of_neg (by simpa using hk)]
   rw[hc]
   exact key _ (List.Sublist.refl _)
end
section
def UK (l:Jk):Nat:=(l.map fun p=>p.2.es.length).sum
theorem zfy (a b:Jk):UK (a++b)=UK a+UK b:=by unfold UK;rw[List.map_append,List.sum_append]
theorem uR {xs:List zn}:∀ (m:Nat) (n:Int) (ns:List (List UInt8)),(qM xs m n ns).length<=1+UK (qM xs m n ns)
 | 0,n,ns=>Nat.zero_le _
 | m+1,n,ns=>by
  unfold qM
  split
  ·have key:∀ L:List zX,(L.flatMap fun e=>qM xs m e.ino (ns++[e.name])).length<=L.length+UK (L.flatMap fun e=>qM xs m e.ino (ns++[e.name])):=by
    intro L
    induction L with
    | nil=>exact Nat.le_refl _
    | cons e r ih =>
     rw[List.flatMap_cons,List.length_append,zfy,List.length_cons]
     have:=uR (xs:=xs) m e.ino (ns++[e.name])
     omega
   have:=key (zf n xs).es
   have hs:∀ l:Jk,UK ((ns,zf n xs) :: l)=(zf n xs).es.length+UK l:=fun l=>by unfold UK;rw[List.map_cons,List.sum_cons]
   rw[List.length_cons,hs]
   omega
  ·exact Nat.zero_le _
theorem zih {l:Jk} (h:∀ p∈l,p.2.es.length<=40/\(p.2.kind≠2->p.2.es = [])):UK l<=40*(Ym l).length:=by
 induction l with
 | nil=>exact Nat.zero_le _
 | cons p r ih =>
  have hp:=h p List.mem_cons_self
  have ih:=ih fun q hq=>h q (List.mem_cons_of_mem _ hq)
  unfold UK at ih ⊢
  rw[List.map_cons,List.sum_cons]
  unfold Ym at ih ⊢
  by_cases hk:p.2.kind=2
  ·rw[List.filter_cons_of_pos (by simpa using hk),List.map_cons,List.length_cons];omega
  ·rw[List.filter_cons_of_neg (by simpa using hk),hp.2 hk]
   simpa using ih
theorem ziV {f:FsV} (h:okV f) (m:Nat) (n:Int) (ns:List (List UInt8)):(qM f.xs m n ns).length<=1601:=by
 obtain ⟨h0,_,h2,_⟩:=qx h
 cases hh:zt n f.xs with
 | false =>
  cases m with
  | zero=>exact Nat.zero_le _
  | succ m=>unfold qM;rw[hh];exact Nat.zero_le _
 | true =>
  have h1:=uR (xs:=f.xs) m n ns
  have hg:∀ p∈qM f.xs m n ns,p.2∈f.xs:=fun p hp=>by
   obtain ⟨j,_,q2,q3⟩:=YR m n ns p hp
   rw[←q3];exact (qX q2).1
  have hs:=zih (l:=qM f.xs m n ns) fun p hp=>⟨(h0.2 _ (hg p hp)).2.1,fun hk=>((h2 _ (hg p hp)).2.1 hk).1⟩
  have hd:=Q9 (YF h m n ns hh) fun d hd=>by
   obtain ⟨p,p1,_,rfl⟩:=V5 hd
   obtain ⟨_,_,q2,_⟩:=YR m n ns p p1
   exact q2
  have:=h0.1
  omega
def yP (ns:List (List UInt8)):Nat:=(ns.map fun x=>x.length+1).sum
theorem Md (ns:List (List UInt8)) (x:List UInt8):yP (ns++[x])=yP ns+(x.length+1):=by
 unfold yP;rw[List.map_append,List.sum_append];simp
theorem ZQ {xs:List zn} (h0:Vf xs):∀ (m:Nat) (n:Int) (ns:List (List UInt8)),∀ p∈qM xs m n ns,p.1.length<=ns.length+m/\yP p.1<=yP ns+m*301
 | 0,n,ns,p,hp=>by cases hp
 | m+1,n,ns,p,hp=>by
  unfold qM at hp
  split at hp
  ·rename_i hh
   obtain ⟨hm,_⟩:=qX hh
   rcases List.mem_cons.1 hp with rfl | hp
   ·exact ⟨Nat.le_add_right _ _,Nat.le_add_right _ _⟩
   ·obtain ⟨e,he,hp⟩:=List.mem_flatMap.1 hp
    obtain ⟨q1,q2⟩:=ZQ h0 m _ _ p hp
    have:=(h0.2 _ hm).2.2 e he
    rw[Md]at q2
    rw[List.length_append,List.length_singleton]at q1
    exact ⟨by omega,by omega⟩
  ·cases hp
theorem XR (ns:List (List UInt8)):(Lib.join ns [47]).length<=yP ns:=by
 by_cases h:ns = []
 ·subst h;exact Nat.zero_le _
 ·have:=YN ns h
  unfold yP;omega
theorem zjA {f:FsV} (h:okV f) (n:Int) (ns:List (List UInt8)) (h1:ns.length<=100000) (h2:yP ns<=100000):yz (trV f.xs) n ns:=by
 obtain ⟨h0,_⟩:=qx h
 refine ⟨Nat.le_trans (ziV h _ n ns) (by decide),fun p hp=>?_⟩
 obtain ⟨q1,q2⟩:=ZQ h0 _ n ns p hp
 have:=XR p.1
 have:=h0.1
 exact ⟨by omega,by omega⟩
end
section
theorem kV {xs:List zn}:∀ (m:Nat) (n:Int) (ns:List (List UInt8)) (j:Nat) (d:Int),Anc xs n j d->j<m->zt n xs=true->(∀ x∈xs,∀ e∈x.es,zt e.ino xs=true)->∃ p∈qM xs m n ns,p.2.ino=d
 | 0,n,ns,j,d,ha,hj,hh,h3=>by omega
 | m+1,n,ns,0,d,ha,hj,hh,h3=>by
  cases ha
  obtain ⟨_,hi⟩:=qX hh
  refine ⟨(ns,zf n xs),?_,hi⟩
  unfold qM
  rw[if_pos hh]
  exact List.mem_cons_self
 | m+1,n,ns,j+1,d,ha,hj,hh,h3=>by
  have key:∀ (j:Nat) (d:Int),Anc xs n (j+1) d->∃ e∈(zf n xs).es,Anc xs e.ino j d:=by
   intro j
   induction j with
   | zero =>
    intro d ha
    cases ha with
    | step a b c=>cases a;exact ⟨_,c,.same⟩
   | succ j ih =>
    intro d ha
    cases ha with
    | step a b c =>
     obtain ⟨e,he,h⟩:=ih _ a
     exact ⟨e,he,.step h b c⟩
  obtain ⟨e,he,h⟩:=key j d ha
  obtain ⟨hm,_⟩:=qX hh
  obtain ⟨p,p1,p2⟩:=kV m e.ino (ns++[e.name]) j d h (by omega) (h3 _ hm e he) h3
  refine ⟨p,?_,p2⟩
  unfold qM
  rw[if_pos hh]
  exact List.mem_cons_of_mem _ (List.mem_flatMap.2 ⟨e,he,p1⟩)
theorem zeT {xs:List zn}:∀ {k:Nat} {n:Int},Dep xs k n->Anc xs 1 k n
 | _,_,.root=>.same
 | _,_,.step a b c=>.step (zeT a) b c
theorem zf5 {f:FsV} (h:okV f) {n:Int} (hh:zt n f.xs=true):∃ p∈trV f.xs 1 [],p.2.ino=n:=by
 obtain ⟨_,h1,_,h3,_⟩:=qx h
 obtain ⟨k,hk,hd⟩:=zj9 h hh
 exact kV _ 1 [] k n (zeT hd) (by omega) h1.2.2.2.2.2.2.2.1 h3
theorem Ud {f:FsV} {m:Nat} {n:Int} {ns:List (List UInt8)} {p:List (List UInt8)×zn} (hp:p∈qM f.xs m n ns):zt p.2.ino f.xs=true/\zf p.2.ino f.xs=p.2:=by
 obtain ⟨_,_,q⟩:=YR m n ns p hp
 exact q
theorem V7:∀ {l:Jk} {n:Int},(Ym l).Nodup->(∀ p∈l,p.2.ino=n->p.2.kind=2)->(∃ p∈l,p.2.ino=n)->∃ p,l.filter (fun p=>decide (p.2.ino=n)) = [p]
 | [],n,_,_,⟨p,hp,_⟩=>by cases hp
 | q :: l,n,hn,hk,hex=>by
  have hk':∀ p∈l,p.2.ino=n->p.2.kind=2:=fun p hp=>hk p (List.mem_cons_of_mem _ hp)
  by_cases hq:q.2.ino=n
  ·have hk2:=hk q List.mem_cons_self hq
   have hc:Ym (q :: l)=q.2.ino :: Ym l:=by
    unfold Ym;rw[List.filter_cons_of_pos (by simpa using hk2),List.map_cons]
   rw[hc,List.nodup_cons,hq]at hn
   have he:l.filter (fun p=>decide (p.2.ino=n)) = []:=by
    rw[List.filter_eq_nil_iff]
    intro p hp hpn
    have hpn:=of_decide_eq_true hpn
    refine hn.1 ?_
    exact List.mem_map.2 ⟨p,List.mem_filter.2 ⟨hp,by simpa using hk' p hp hpn⟩,hpn⟩
   exact ⟨q,by rw[List.filter_cons_of_pos (by simpa using hq),he]⟩
  ·have hn':(Ym l).Nodup:=by
    unfold Ym at hn ⊢
    by_cases hk2:q.2.kind=2
    ·rw[List.filter_cons_of_pos (by simpa using hk2),List.map_cons,List.nodup_cons]at hn;exact hn.2
    ·rw[List.filter_cons_of_neg (by simpa using hk2)]at hn;exact hn
   obtain ⟨p,hp,hpn⟩:=hex
   have hpl:p∈l:=by
    rcases List.mem_cons.1 hp with rfl | hp
    ·exact absurd hpn hq
    ·exact hp
   obtain ⟨p',h⟩:=V7 hn' hk' ⟨p,hpl,hpn⟩
   exact ⟨p',by rw[List.filter_cons_of_neg (by simpa using hq)];exact h⟩
theorem Nv {f:FsV} (h:okV f) {n:Int} (hh:zt n f.xs=true) (hk:(zf n f.xs).kind=2):∃ p,Qv n (trV f.xs 1 []) = [p]/\Uy n (trV f.xs 1 [])=some p:=by
 obtain ⟨_,h1,_⟩:=qx h
 have hkk:∀ p∈trV f.xs 1 [],p.2.ino=n->p.2.kind=2:=fun p hp hpn=>by
  obtain ⟨_,q⟩:=Ud hp
  rw[hpn]at q;rw[←q];exact hk
 obtain ⟨p,hp⟩:=V7 (YF h _ 1 [] h1.2.2.2.2.2.2.2.1) hkk (zf5 h hh)
 refine ⟨zS p.1,by unfold Qv;rw[hp];rfl,?_⟩
 unfold Uy
 have he:(fun q:List (List UInt8)×zn=>decide (q.2.ino=n)&&decide (q.2.kind=2))=fun q=>decide (q.2.ino=n)&&decide (q.2.kind=2):=rfl
 rw[←List.head?_filter]
 have hf:(trV f.xs 1 []).filter (fun q=>decide (q.2.ino=n)&&decide (q.2.kind=2))=(trV f.xs 1 []).filter fun q=>decide (q.2.ino=n):=by
  refine List.filter_congr fun q hq=>?_
  by_cases hqn:q.2.ino=n
  ·simp[hqn,hkk q hq hqn]
  ·simp[hqn]
 rw[hf,hp];rfl
end
section
theorem GB {xs:List zn} (hm:∀ x∈xs,∀ e∈x.es,may e.name=true):∀ (m:Nat) (n:Int) (ns:List (List UInt8)),∀ p∈qM xs m n ns,∃ zs,p.1=ns++zs/\∀ z∈zs,may z=true
 | 0,n,ns,p,hp=>by unfold qM at hp;cases hp
 | m+1,n,ns,p,hp=>by
  unfold qM at hp
  split at hp
  ·rename_i hh
   rcases List.mem_cons.1 hp with rfl | hp
   ·exact ⟨[],by simp,fun z hz=>by cases hz⟩
   ·obtain ⟨e,he,hp⟩:=List.mem_flatMap.1 hp
    obtain ⟨zs,h1,h2⟩:=GB hm m e.ino _ p hp
    refine ⟨e.name :: zs,by rw[h1,List.append_assoc];rfl,fun z hz=>?_⟩
    rcases List.mem_cons.1 hz with rfl | hz
    ·exact hm _ (qX hh).1 e he
    ·exact h2 z hz
  ·cases hp
theorem zdu {es:List zX} (h:YB es):es.Pairwise fun a b=>a.name≠b.name:=by
 have key:∀ (d i:Nat) (hj:i+d+1<es.length),es[i].name<es[i+d+1].name:=by
  intro d
  induction d with
  | zero =>
   intro i hj
   have h1:=(h (i+1) hj).2.2 (by omega)
   rw[bytesLess_eq]at h1
   exact of_decide_eq_true h1
  | succ d ih =>
   intro i hj
   have h1:=(h (i+(d+1)+1) hj).2.2 (by omega)
   rw[bytesLess_eq]at h1
   have h1:=of_decide_eq_true h1
   have h2:=ih i (by omega)
   exact List.lt_trans h2 h1
 refine List.pairwise_iff_getElem.2 fun i j hi hj hij he=>?_
 obtain ⟨d,rfl⟩:∃ d,j=i+d+1:=⟨j-i-1,by omega⟩
 have h1:=key d i hj
 rw[he]at h1
 exact List.lt_irrefl _ h1
theorem Uw {f:FsV} (h:okV f):(∀ x∈f.xs,∀ e∈x.es,may e.name=true)/\∀ x∈f.xs,x.es.Pairwise fun a b=>a.name≠b.name:=by
 obtain ⟨_,_,h2,_⟩:=qx h
 have key:∀ x∈f.xs,YB x.es:=fun x hx=>by
  by_cases hk:x.kind=2
  ·exact ((h2 x hx).2.2.1 hk).2
  ·rw[((h2 x hx).2.1 hk).1];intro i hi;simp at hi
 refine ⟨fun x hx e he=>?_,fun x hx=>zdu (key x hx)⟩
 obtain ⟨i,hi,rfl⟩:=List.getElem_of_mem he
 exact (key x hx i hi).1
end
section
open CA CB
open Go.RowKit
def jg (p n:List UInt8):List UInt8:=if Lib.hasSuffix p [47] then p++n else p++[47]++n
theorem zgN (p n:List UInt8) (hp:p.length<=1000000) (hn:n.length<=1000000):Fun Tryz.prog G0 66 [.str p,.str n] (.str (jg p n)) 0:=by
 have h:=QZ p [47] hp
 cases hs:Lib.hasSuffix p [47] with
 | true =>
  have e:jg p n=p++n:=by unfold jg;rw[hs,if_pos rfl]
  rw[hs]at h
  refine fon Tryz.func66 ?_;dsimp only[Tryz.f66]
  push_cast -dsimp
  refine cl (h) ?_;push_cast -dsimp
  repeat refine an ?_
  exact dn (by push_cast -dsimp [zb,za,CLe,zd,e])
 | false =>
  have e:jg p n=p++[47]++n:=by unfold jg;rw[hs];rfl
  rw[hs]at h
  refine fon Tryz.func66 ?_;dsimp only[Tryz.f66]
  push_cast -dsimp
  refine cl (h) ?_;push_cast -dsimp
  repeat refine an ?_
  exact dn (by push_cast -dsimp [zb,za,CLe,zd,e])
theorem zkj {f:FsV} (h:okV f) {n:Int} (hh:zt n f.xs=true) (hk:(zf n f.xs).kind=2) :
  ∃ ns,(∀ z∈ns,may z=true)/\ns.length<=41/\yP ns<=20000/\Qv n (trV f.xs 1 []) = [zS ns]/\Uy n (trV f.xs 1 [])=some (zS ns):=by
 obtain ⟨h0,h1,_⟩:=qx h
 have hkk:∀ p∈trV f.xs 1 [],p.2.ino=n->p.2.kind=2:=fun p hp hpn=>by
  obtain ⟨_,q⟩:=Ud hp
  rw[hpn]at q;rw[←q];exact hk
 obtain ⟨p,hp⟩:=V7 (YF h _ 1 [] h1.2.2.2.2.2.2.2.1) hkk (zf5 h hh)
 obtain ⟨q,q1,q2⟩:=Nv h hh hk
 have hq:Qv n (trV f.xs 1 []) = [zS p.1]:=by unfold Qv;rw[hp];rfl
 rw[hq]at q1
 have hqe:zS p.1=q:=by simpa using q1
 have hpm:p∈trV f.xs 1 []:=(List.mem_filter.1 (by rw[hp];exact List.mem_singleton.2 rfl)).1
 obtain ⟨zs,z1,z2⟩:=GB (Uw h).1 _ 1 [] p hpm
 obtain ⟨t1,t2⟩:=ZQ h0 _ 1 [] p hpm
 have t3:=XR p.1
 have t4:yP []=0:=rfl
 have h40:=h0.1
 rw[List.nil_append]at z1
 rw[←z1]at z2
 simp only[List.length_nil,t4]at t1 t2
 exact ⟨p.1,z2,by omega,by omega,hq,by rw[q2,hqe]⟩
theorem yy (ns:List (List UInt8)) (x:List UInt8) (h:∀ z∈ns,may z=true):jg (zS ns) x=QN (zS ns) x:=by
 by_cases h0:ns = []
 ·subst h0;rfl
 ·have hs:Lib.hasSuffix (zS ns) [47]=false:=by
   have:=MW true ns false fun z hz=>X1 (h z hz)
   have e:put true ns false=zS ns:=by unfold put zS;rw[if_neg h0];simp
   rw[e,decide_eq_false h0]at this
   simpa using this
  have hne:zS ns≠[47]:=fun e=>by
   rw[e]at hs
   exact absurd hs (by decide)
  unfold jg QN
  rw[hs,if_neg hne];rfl
def YE (f:FsV) (s:zZ):List UInt8:=QN ((Uy s.dir (trV f.xs 1 [])).getD []) s.name
theorem zcM (f:FsV) (h:okV f) (s:zZ) (hh:zt s.dir f.xs=true) (hk:(zf s.dir f.xs).kind=2) (hm:may s.name=true):Fun Tryz.prog G0 36 [.agg (fsC f),.agg (XT s)] (.str (YE f s)) 0:=by
 obtain ⟨ns,n1,n2,n3,n4,n5⟩:=zkj h hh hk
 have hp:=yc f s.dir _ (zl7 h) (zjA h 1 [] (by decide) (by decide))
 have hml:=zeY hm
 have hjw:=XR ns
 have hjl:(zS ns).length<=20001:=by unfold zS;split<;>simp<;>omega
 have hr:=Zk (zS ns) (by omega)
 unfold zhd at hr
 rw[YS ns fun z hz=>X1 (n1 z hz)]at hr
 have hj:=XC (ns++[s.name]) (by simp;omega) (by
  have a1:=XR (ns++[s.name])
  rw[Md]at a1
  omega)
 rw[ZI ns s.name fun y hy=>(X1 (n1 y hy)).1]at hj
 have e:YE f s=QN (zS ns) s.name:=by unfold YE;rw[n5];rfl
 rw[n5]at hp
 have hsl:(zQ ns).length=ns.length:=List.length_map ..
 refine fof (fun i=>if i=2 then [false,false,false,false,false,false,true,false,false] else []) Tryz.func36 ?_;dsimp only[Tryz.f36]
 push_cast -dsimp
 refine cl (hp) ?_;push_cast -dsimp [Option.getD_some,Option.isSome_some]
 refine cl (hr) ?_;push_cast -dsimp
 repeat refine an ?_
 refine cl (hj) ?_;push_cast -dsimp
 exact dn (by push_cast -dsimp [zb,za,CLe,zd,e])
end
section
open Go.RowKit
end
section
open Go.RowKit
end
section
open CA CB
open Go.RowKit
end
section
open Go.RowKit Go.ChangeMaps Go.ChangeShapes Go.WideShapes Go.Deep Go.Joins
section
variable {H:Type} {enc:TypeId×Value->H} {W:World}
end
theorem zrL {W:World} {l:List (String×DataW Unit)} (h:laidMetH Tryz.prog l W) (hp:(l.filter fun x=>x.2.handleName?.isSome) = []) (hm:("drayman/op.has",Rows.laid_drayman_op_has)∈l):Xd G1 (M5 W):=fun g cs hc=>by
 unfold G1 at hc
 split at hc
 ·rename_i hg
  subst hg
  cases hc
  exact Jg (t:=237) h hp hm (by kernel_rfl) (by kernel_rfl) (m:=4) (by kernel_rfl) (by kernel_rfl) (by kernel_rfl)
 ·cases hc
theorem zqZ {W:World} {l:List (String×DataW Unit)} (h:laidMetH Tryz.prog l W) (hp:(l.filter fun x=>x.2.handleName?.isSome) = []) (hm1:("drayman/diag.phrases",Rows.laid_drayman_diag_phrases)∈l) (hm2:("drayman/args.kinds",Rows.laid_drayman_args_kinds)∈l) (hm3:("drayman/errs.messages",Rows.laid_drayman_errs_messages)∈l):Xd G2 (M5 W):=fun g cs hc=>by
 unfold G2 at hc
 split at hc
 ·rename_i hg
  subst hg
  cases hc
  exact Jg (t:=195) h hp hm1 (by kernel_rfl) (by kernel_rfl) (m:=4) (vs:=phr.map fun l=>Value.string ⟨l.toArray⟩) (by kernel_rfl) (by kernel_rfl) (by kernel_rfl)
 ·split at hc
  ·rename_i hg
   subst hg
   cases hc
   exact Jg (t:=194) h hp hm2 (by kernel_rfl) (by kernel_rfl) (m:=4) (by kernel_rfl) (by kernel_rfl) (by kernel_rfl)
  ·split at hc
   ·rename_i hg
    subst hg
    cases hc
    exact Jg (t:=230) h hp hm3 (by kernel_rfl) (by kernel_rfl) (m:=4) (vs:=zsg.map fun l=>Value.string ⟨l.toArray⟩) (by kernel_rfl) (by kernel_rfl) (by kernel_rfl)
   ·cases hc
theorem zq6 {W:World} {l:List (String×DataW Unit)} (h:laidMetH Tryz.prog l W) (hp:(l.filter fun x=>x.2.handleName?.isSome) = []) (hm:("drayman/op.has",Rows.laid_drayman_op_has)∈l) (hm1:("drayman/diag.phrases",Rows.laid_drayman_diag_phrases)∈l) (hm2:("drayman/args.kinds",Rows.laid_drayman_args_kinds)∈l) (hm3:("drayman/errs.messages",Rows.laid_drayman_errs_messages)∈l):Xd GD (M5 W):=fun g cs hc=>by
 unfold GD at hc
 split at hc
 ·exact zrL h hp hm g cs hc
 ·exact zqZ h hp hm1 hm2 hm3 g cs hc
end
section
abbrev Zu:=List (List UInt8)
def onL (f:FsV) (follow:Bool) (lk:zn->zn->Zu->Bool->zZ×Int):Zu->zZ->Bool->zZ×Int
 | [],s,dir=>if zt s.ino f.xs=true/\dir=true/\(zf s.ino f.xs).kind≠2 then (qL,3) else (s,0)
 | n :: r,s,dir =>
  if s.ino=0 then (qL,1)
  else if (zf s.ino f.xs).kind≠2 then (qL,3)
  else if n = [46] then onL f follow lk r ⟨0,[],(zf s.ino f.xs).ino⟩ dir
  else if n = [46,46] then onL f follow lk r ⟨0,[],(zf s.ino f.xs).parent⟩ dir
  else if Xv n (zf s.ino f.xs).es=false∨(zf (zM n (zf s.ino f.xs).es) f.xs).kind≠3∨(r = []/\follow=false/\dir=false) then
   onL f follow lk r ⟨(zf s.ino f.xs).ino,n,zM n (zf s.ino f.xs).es⟩ dir
  else lk (zf (zM n (zf s.ino f.xs).es) f.xs) (zf s.ino f.xs) r dir
def qQ (p:List UInt8):Bool:=!decide (zk p = [])&&Lib.hasSuffix p [47]
def QS (p:List UInt8):Bool:=Lib.hasPrefix p [47]
def onN (f:FsV) (follow:Bool):Nat->Zu->zZ->Bool->zZ×Int
 | 0=>onL f follow fun _ _ _ _=>(qL,6)
 | k+1=>onL f follow fun x d r dir=>if Qi x.data then (qL,7) else onN f follow k (zk x.data++r) ⟨0,[],if QS x.data then 1 else d.ino⟩ (dir||(qQ x.data&&decide (r = [])))
def Xn (f:FsV) (b:List UInt8):Int×Int:=
 if (atV f b).2≠0 then (0,(atV f b).2) else if (atV f b).1.ino=0 then (0,1) else if (zf (atV f b).1.ino f.xs).kind≠2 then (0,3) else ((zf (atV f b).1.ino f.xs).ino,0)
def Jw (f:FsV) (p:List UInt8):zn×Int:=if (atV f p).2≠0 then (vh,(atV f p).2) else if (atV f p).1.ino=0 then (vh,1) else (zf (atV f p).1.ino f.xs,0)
def z7 (f:FsV) (b p:List UInt8) (follow:Bool):zZ×Int:=
 if p = [] then (qL,1) else if Qi p then (qL,7)
 else if QS p then onN f follow 40 (zk p) ⟨0,[],1⟩ (qQ p)
 else if (Xn f b).2≠0 then (qL,(Xn f b).2) else onN f follow 40 (zk p) ⟨0,[],(Xn f b).1⟩ (qQ p)
theorem uJ {xs:List zn} {n:Int} (h:(zf n xs).kind=2):zt n xs=true:=by
 cases hh:zt n xs with
 | true=>rfl
 | false=>rw[(YD hh).2]at h;exact absurd h (by decide)
def lkN (f:FsV) (follow:Bool):Nat->zn->zn->Zu->Bool->zZ×Int
 | 0=>fun _ _ _ _=>(qL,6)
 | k+1=>fun x d r dir=>if Qi x.data then (qL,7) else onN f follow k (zk x.data++r) ⟨0,[],if QS x.data then 1 else d.ino⟩ (dir||(qQ x.data&&decide (r = [])))
theorem Yz (f:FsV) (follow:Bool) (k:Nat):onN f follow k=onL f follow (lkN f follow k):=by cases k<;>rfl
theorem Jy (f:FsV) (follow:Bool) (k:Nat) (x d:zn) (r:Zu) (dir:Bool):lkN f follow (k+1) x d r dir=if Qi x.data then (qL,7) else onN f follow k (zk x.data++r) ⟨0,[],if QS x.data then 1 else d.ino⟩ (dir||(qQ x.data&&decide (r = []))):=rfl
end
section
open Go.RowKit
section
variable {G:zo}
end
end
section
open Go.RowKit
def VK (x:zn):Bool:=decide (x.kind=3)&&decide (300<(x.data.length:Int))
def QT (f:FsV) (b p:List UInt8):Bool:=!((f.xs.take 100).any VK)&&decide ((b.length:Int)<=1000)&&decide ((p.length:Int)<=5000)
theorem zcj (f:FsV) (b p:List UInt8):Fun Tryz.prog G0 24 [.agg (fsC f),.str b,.str p] (qt (QT f b p)) 0:=by
 have hll:(zp f.xs).length=f.xs.length:=List.length_map ..
 refine fon Tryz.func24 ?_;dsimp only[Tryz.f24]
 push_cast -dsimp
 refine loop (fun i:Nat=>⟨[(1,.str b),(2,.str p),(3,.ptr 0 0),(7,.sc (.int .i64 i))],[fsC f],0,0⟩) (fun i=>i<=100/\∀ t (h:t<f.xs.length),t<i->VK f.xs[t]=false) (fun i=>100-i) 0 ⟨Nat.zero_le _,fun t h h'=>absurd h' (Nat.not_lt_zero _)⟩ ?_ ?_
 ·exact wk
 ·rintro i ⟨h1,h2⟩
  have hend:¬(i<f.xs.length/\i<100)->(f.xs.take 100).any VK=false:=fun h=>by
   rw[List.any_eq_false]
   intro x hx
   obtain ⟨t,ht,rfl⟩:=List.getElem_of_mem hx
   rw[List.length_take]at ht
   rw[List.getElem_take,h2 t (by omega) (by omega)]
   decide
  have stop:¬(i<f.xs.length/\i<100)->(decide ((b.length:Int)<=1000)&&decide ((p.length:Int)<=5000))=QT f b p:=fun h=>by
   unfold QT;rw[hend h];rfl
  by_cases h:i<f.xs.length
  ·by_cases h100:i<100
   ·have g1:=qI f.xs i h
    have h100':(i:Int)<100:=by omega
    have hm:f.xs[i]∈f.xs.take 100:=by
     rw[List.mem_take_iff_getElem]
     exact ⟨i,by omega,rfl⟩
    have next:VK f.xs[i]=false->∀ t (h:t<f.xs.length),t<i+1->VK f.xs[t]=false:=fun q t ht hlt=>by
     rcases Nat.lt_or_ge t i with r | r
     ·exact h2 t ht r
     ·have:t=i:=by omega
      subst this;exact q
    by_cases hk:f.xs[i].kind=3
    ·by_cases hd:300<(f.xs[i].data.length:Int)
     ·have hn:QT f b p=false:=by
       have:(f.xs.take 100).any VK=true:=List.any_eq_true.2 ⟨_,hm,by unfold VK;rw[decide_eq_true hk,decide_eq_true hd];rfl⟩
       unfold QT;rw[this];rfl
      push_cast -dsimp [hll,h,h100',g1,hk,hd]
      repeat refine an ?_
      exact dn (by push_cast -dsimp [zb,za,CLe,zd,hn])
     ·have hq:VK f.xs[i]=false:=by unfold VK;rw[decide_eq_false hd,Bool.and_false]
      push_cast -dsimp [hll,h,h100',g1,hk,hd]
      repeat refine an ?_
      exact ⟨i+1,⟨by omega,next hq⟩,by omega,wk⟩
    ·have hq:VK f.xs[i]=false:=by unfold VK;rw[decide_eq_false hk,Bool.false_and]
     push_cast -dsimp [hll,h,h100',g1,hk]
     repeat refine an ?_
     exact ⟨i+1,⟨by omega,next hq⟩,by omega,wk⟩
   ·have h100':((i:Int)<100)=False:=eq_false (by omega)
    have:=(stop (by omega)).symm
    by_cases hb:(b.length:Int)<=1000
    ·rw[decide_eq_true hb,Bool.true_and]at this
     push_cast -dsimp [hll,h,h100',hb]
     exact dn (by push_cast -dsimp [zb,za,CLe,zd,this])
    ·rw[decide_eq_false hb,Bool.false_and]at this
     push_cast -dsimp [hll,h,h100',hb]
     exact dn (by push_cast -dsimp [zb,za,CLe,zd,this])
  ·have:=(stop (by omega)).symm
   by_cases hb:(b.length:Int)<=1000
   ·rw[decide_eq_true hb,Bool.true_and]at this
    push_cast -dsimp [hll,h,hb]
    exact dn (by push_cast -dsimp [zb,za,CLe,zd,this])
   ·rw[decide_eq_false hb,Bool.false_and]at this
    push_cast -dsimp [hll,h,hb]
    exact dn (by push_cast -dsimp [zb,za,CLe,zd,this])
end
section
structure zny (x:zn):Prop where
 par:x.kind≠2->x.parent=0
 bare:x.kind=2->x.data = []
 nam:∀ e∈x.es,may e.name=true
 lnk:x.kind=3->1<=x.data.length/\x.data.length<=4095/\∀ b∈x.data,b≠0
 named:x.ino≠1->1<=x.links
 one:x.kind=2->x.ino≠1->x.links=1
 top:x.ino=1->x.parent=1
def zl1 (rk:Int->Nat) (xs:List zn):Prop:=∀ y∈xs,∀ e∈y.es,(zf e.ino xs).kind=2->(zf e.ino xs).parent=y.ino/\rk y.ino<rk e.ino
structure FsR (f:FsV):Prop where
 node:∀ x∈f.xs,zny x
 edge:∃ rk,zl1 rk f.xs
 fit:(f.xs.length:Int)<=f.maxI/\(qp f.xs:Int)<=f.maxB
 lim:1<=f.maxI/\f.maxI<=1073741824/\0<=f.maxB/\f.maxB<=1073741824
theorem zgB {xs:List zn} (h:z8 xs) {x y:zn} (hx:x∈xs) (hy:y∈xs) (e:x.ino=y.ino):x=y:=by
 obtain ⟨i,hi,rfl⟩:=List.getElem_of_mem hx
 obtain ⟨j,hj,rfl⟩:=List.getElem_of_mem hy
 have hp:=List.pairwise_iff_getElem.1 h
 rcases Nat.lt_trichotomy i j with q | q | q
 ·have:=hp i j hi hj q;omega
 ·subst q;rfl
 ·have:=hp j i hj hi q;omega
theorem yf {xs:List zn} (h:z8 xs):(xs.map (·.ino)).Nodup:=by
 rw[List.Nodup,List.pairwise_map]
 exact List.Pairwise.imp (fun q e=>by omega) h
theorem Vb {xs:List zn} {n p:Int}:(n,p)∈qc xs↔∃ y∈xs,∃ e∈y.es,e.ino=n/\y.ino=p:=by
 unfold qc
 rw[List.mem_flatMap]
 refine exists_congr fun y=>and_congr_right fun hy=>?_
 unfold ZF
 rw[List.mem_map]
 refine exists_congr fun e=>and_congr_right fun he=>?_
 rw[Prod.mk.injEq]
theorem zgI {n p:Int} {l:List (Int×Int)} (h1:1<=QK n l) (h:∀ q,(n,q)∈l->q=p):VI n l=p:=by
 unfold QK at h1
 unfold VI
 cases hq:(l.filter fun p=>p.1==n).getLast? with
 | none=>rw[List.getLast?_eq_none_iff]at hq;rw[hq]at h1;simp at h1
 | some r =>
  obtain ⟨h2,h3⟩:=List.mem_filter.1 (List.mem_of_getLast? hq)
  have h3:r.1=n:=by simpa using h3
  show r.2=p
  exact h r.2 (by rw[←h3];exact h2)
theorem zhv {es:List zX}:∀ S:List Int,∃ t,kp S es=S++t:=by
 induction es with
 | nil=>exact fun S=>⟨[],by simp[kp]⟩
 | cons e r ih =>
  intro S
  obtain ⟨t,h⟩:=ih (J5 S e.ino)
  show ∃ t,kp (J5 S e.ino) r=S++t
  rw[h]
  unfold J5
  split
  ·exact ⟨t,rfl⟩
  ·exact ⟨e.ino :: t,by simp⟩
theorem kh {xs:List zn} (h3:∀ x∈xs,∀ e∈x.es,zt e.ino xs=true):∀ (m i:Nat) (S:List Int),Yc xs S->(∀ j<i,∀ n,S[j]?=some n->∀ e∈(zf n xs).es,e.ino∈S)->xs.length+1<=m+i ->
  (∀ n∈S,n∈Qp xs m i S)/\∀ n∈Qp xs m i S,∀ e∈(zf n xs).es,e.ino∈Qp xs m i S
 | 0,i,S,hS,hc,hm=>by
  have hl:=Q9 hS.nodup hS.has
  show (∀ n∈S,n∈S)/\∀ n∈S,∀ e∈(zf n xs).es,e.ino∈S
  refine ⟨fun n h=>h,fun n hn e he=>?_⟩
  obtain ⟨j,hj,rfl⟩:=List.getElem_of_mem hn
  exact hc j (by omega) _ (List.getElem?_eq_getElem hj) e he
 | m+1,i,S,hS,hc,hm=>by
  unfold Qp
  cases hg:S[i]? with
  | none =>
   have hi:=List.getElem?_eq_none_iff.1 hg
   show (∀ n∈S,n∈S)/\∀ n∈S,∀ e∈(zf n xs).es,e.ino∈S
   refine ⟨fun n h=>h,fun n hn e he=>?_⟩
   obtain ⟨j,hj,rfl⟩:=List.getElem_of_mem hn
   exact hc j (by omega) _ (List.getElem?_eq_getElem hj) e he
  | some n =>
   have hn:=hS.has n (List.mem_of_getElem? hg)
   have hi:=(List.getElem?_eq_some_iff.1 hg).1
   have hg':=zh hn
   obtain ⟨t,ht⟩:=zhv (es:=(zf n xs).es) S
   have hsub:∀ k∈S,k∈kp S (zf n xs).es:=fun k hk=>HR.2 (.inl hk)
   obtain ⟨r1,r2⟩:=kh h3 m (i+1) (kp S (zf n xs).es) (NS hS fun e he=>h3 _ hg'.2.1 e he) (fun j hj k hk e he=>by
    rcases Nat.lt_or_ge j i with hji | hji
    ·have:S[j]?=some k:=by rw[ht,List.getElem?_append_left (by omega)]at hk;exact hk
     exact hsub _ (hc j hji k this e he)
    ·have:j=i:=by omega
     subst this
     rw[ht,List.getElem?_append_left hi,hg]at hk
     cases hk
     exact HR.2 (.inr ⟨e,he,rfl⟩)) (by omega)
   exact ⟨fun k hk=>r1 k (hsub k hk),r2⟩
theorem uC {n:Int} {l:List (Int×Int)} (h:1<=QK n l):∃ p,(n,p)∈l:=by
 unfold QK at h
 obtain ⟨r,hr⟩:=List.exists_mem_of_length_pos (l:=l.filter fun p=>p.1==n) (by omega)
 obtain ⟨h1,h2⟩:=List.mem_filter.1 hr
 have h2:r.1=n:=by simpa using h2
 exact ⟨r.2,by rw[←h2];exact h1⟩
theorem FsR.links {f:FsV} (hi:FsI f) {x:zn} (hx:x∈f.xs):x.links=(QK x.ino (qc f.xs):Int):=by rw[XW];exact hi.links x hx
theorem ZW {f:FsV} (hi:FsI f) {y:zn} (hy:y∈f.xs) {e:zX} (he:e∈y.es):y.kind=2:=by
 by_cases h:y.kind=2
 ·exact h
 ·rw[hi.file y hy h]at he;cases he
theorem JO {f:FsV} (hi:FsI f) {x:zn} (hx:x∈f.xs):zf x.ino f.xs=x:=by
 have h:=J3 hx
 have h2:=zh h
 exact zgB hi.rises h2.2.1 hx h2.2.2
theorem FsR.come {f:FsV} (hi:FsI f) (h:FsR f) {S:List Int} (h1:(1:Int)∈S) (hc:∀ n∈S,∀ e∈(zf n f.xs).es,e.ino∈S):∀ n,zt n f.xs=true->n∈S:=by
 obtain ⟨rk,hr⟩:=h.edge
 have dirs:∀ (k:Nat) (n:Int),rk n<=k->zt n f.xs=true->(zf n f.xs).kind=2->n∈S:=by
  intro k
  induction k with
  | zero =>
   intro n hk hn hd
   by_cases h0:n=1
   ·rw[h0];exact h1
   obtain ⟨g1,g2,g3⟩:=zh hn
   have hl:=(h.node _ g2).named (by rw[g3];exact h0)
   rw[FsR.links hi g2,g3]at hl
   obtain ⟨p,hp⟩:=uC (n:=n) (l:=qc f.xs) (by omega)
   obtain ⟨y,hy,e,he,q1,q2⟩:=Vb.1 hp
   have:=(hr y hy e he (by rw[q1];exact hd)).2
   rw[q1]at this;omega
  | succ k ih =>
   intro n hk hn hd
   by_cases h0:n=1
   ·rw[h0];exact h1
   obtain ⟨g1,g2,g3⟩:=zh hn
   have hl:=(h.node _ g2).named (by rw[g3];exact h0)
   rw[FsR.links hi g2,g3]at hl
   obtain ⟨p,hp⟩:=uC (n:=n) (l:=qc f.xs) (by omega)
   obtain ⟨y,hy,e,he,q1,q2⟩:=Vb.1 hp
   have hlt:=(hr y hy e he (by rw[q1];exact hd)).2
   rw[q1]at hlt
   have hs:=JO hi hy
   have:=ih y.ino (by omega) (J3 hy) (by rw[hs];exact ZW hi hy he)
   rw[←q1]
   exact hc y.ino this e (by rw[hs];exact he)
 intro n hn
 by_cases h0:n=1
 ·rw[h0];exact h1
 obtain ⟨g1,g2,g3⟩:=zh hn
 have hl:=(h.node _ g2).named (by rw[g3];exact h0)
 rw[FsR.links hi g2,g3]at hl
 obtain ⟨p,hp⟩:=uC (n:=n) (l:=qc f.xs) (by omega)
 obtain ⟨y,hy,e,he,q1,q2⟩:=Vb.1 hp
 have hs:=JO hi hy
 have:=dirs _ y.ino (Nat.le_refl _) (J3 hy) (by rw[hs];exact ZW hi hy he)
 rw[←q1]
 exact hc y.ino this e (by rw[hs];exact he)
theorem xT {es:List zX} (hR:XO es) (h1:∀ e∈es,may e.name=true) (h2:∀ e∈es,1<=e.ino):YB es:=fun i h =>
 ⟨h1 _ (List.getElem_mem h),h2 _ (List.getElem_mem h),fun h0=>List.pairwise_iff_getElem.1 hR (i-1) i (by omega) h (by omega)⟩
theorem FsR.check {f:FsV} (hi:FsI f) (h:FsR f) (hn:f.next<=1099511627776):Jn f=0:=by
 have h1:Jb f:=⟨h.lim.1,h.lim.2.1,h.lim.2.2.1,h.lim.2.2.2,hn,hi.ino,hi.rises,hi.root,hi.base⟩
 have h2:Yf f:=fun x hx=>⟨hi.kind x hx,fun hk=>⟨hi.file x hx hk,(h.node x hx).par hk⟩,fun hk=>⟨(h.node x hx).bare hk,xT (hi.es x hx) (h.node x hx).nam fun e he=>by
  have:=hi.led x hx e he
  have g:=zh this
  have:=(hi.ino _ g.2.1).1
  rw[g.2.2]at this;exact this⟩,(h.node x hx).lnk⟩
 have h3:Ya f:=hi.led
 obtain ⟨rk,hr⟩:=h.edge
 have h4:Ye f:=fun x hx=>by
  have hl:=FsR.links hi hx
  refine ⟨hl,?_⟩
  by_cases h0:x.ino=1
  ·rw[if_pos h0,h0]
   exact ⟨by rw[XW];exact hi.bare,(h.node x hx).top h0⟩
  ·rw[if_neg h0]
   have hk:=(h.node x hx).named h0
   refine ⟨by omega,fun hd=>?_⟩
   have ho:=(h.node x hx).one hd h0
   refine ⟨by omega,(zgI (by omega) fun q hq=>?_).symm⟩
   obtain ⟨y,hy,e,he,q1,q2⟩:=Vb.1 hq
   have:=(hr y hy e he (by rw[q1,JO hi hx];exact hd)).1
   rw[q1,JO hi hx]at this
   rw[←q2,this]
 have h5:Qo f:=by
  have hS:Yc f.xs [1]:=⟨by simp,fun n hn=>by rw[List.mem_singleton.1 hn];exact hi.root⟩
  obtain ⟨r1,r2⟩:=kh hi.led (f.xs.length+1) 0 [1] hS (fun j hj=>absurd hj (Nat.not_lt_zero _)) (by omega)
  have hok:=(Gw hi.led (f.xs.length+1) 0 [1] hS (fun n hn=>by rw[List.mem_singleton.1 hn];exact ⟨0,.root⟩)).1
  have hall:=h.come hi (r1 1 (by simp)) r2
  have q1:=Q9 hok.nodup hok.has
  have q2:=V6 (S:=f.xs.map (·.ino)) (yf hi.rises) fun n hn=>hall n (GE.2 hn)
  rw[List.length_map]at q2
  exact Nat.le_antisymm q1 q2
 unfold Jn
 rw[if_pos h1,if_pos h2,if_pos h3,if_pos h4,if_pos h5,if_pos (show kJ f from h.fit)]
open Classical in
theorem zee {f:FsV} (h:okV f):FsR f:=by
 obtain ⟨h0,h1,h2,h3,h4,h5,h6⟩:=qx h
 have hi:=XN h.2
 refine ⟨fun x hx=>?_,?_,h6,h1.1,h1.2.1,h1.2.2.1,h1.2.2.2.1⟩
 ·obtain ⟨a1,a2,a3,a4⟩:=h2 x hx
  obtain ⟨b1,b2⟩:=h4 x hx
  refine ⟨fun hk=>(a2 hk).2,fun hk=>(a3 hk).1,fun e he=>?_,a4,fun hn=>?_,fun hk hn=>?_,fun hn=>?_⟩
  ·obtain ⟨i,hi',rfl⟩:=List.getElem_of_mem he
   exact ((a3 (ZW hi hx he)).2 i hi').1
  ·rw[if_neg hn]at b2;rw[b1];omega
  ·rw[if_neg hn]at b2;rw[b1,(b2.2 hk).1];rfl
  ·rw[if_pos hn]at b2;exact b2.2
 ·refine ⟨fun n=>if hd:∃ k,Dep f.xs k n then hd.choose else 0,fun y hy e he hk=>?_⟩
  have hs:=JO hi hy
  have hh:=hi.led y hy e he
  have g:=zh hh
  have hyk:=ZW hi hy he
  have hey:e∈(zf y.ino f.xs).es:=by rw[hs];exact he
  have hne:e.ino≠1:=jL h (J3 hy) hey
  constructor
  ·have b:=(h4 _ g.2.1).2
   rw[g.2.2,if_neg hne]at b
   obtain ⟨c1,c2⟩:=b.2 hk
   rw[c2]
   exact zgI (by omega) fun q hq=>(xX (Vb.2 ⟨y,hy,e,he,rfl,rfl⟩) hq c1).symm
  ·obtain ⟨k,hd⟩:=HM h (J3 hy)
   have hd2:=Dep.step hd (J3 hy) hey
   have e1:∃ k,Dep f.xs k y.ino:=⟨k,hd⟩
   have e2:∃ k,Dep f.xs k e.ino:=⟨k+1,hd2⟩
   show (if hd:∃ k,Dep f.xs k y.ino then hd.choose else 0)<if hd:∃ k,Dep f.xs k e.ino then hd.choose else 0
   rw[dif_pos e1,dif_pos e2,ZT h _ _ _ e1.choose_spec hd (J3 hy) (by rw[hs];exact hyk),ZT h _ _ _ e2.choose_spec hd2 hh hk]
   exact Nat.lt_succ_self k
end
section
theorem zfd {f:FsV} (hi:FsI f) (hr:FsR f) {n:Int} (hh:zt n f.xs=true) (hk:(zf n f.xs).kind=2):zt (zf n f.xs).parent f.xs=true:=by
 have g:=zh hh
 by_cases h1:n=1
 ·rw[(hr.node _ g.2.1).top (by rw[g.2.2];exact h1)];exact hi.root
 ·have hl:=(hr.node _ g.2.1).named (by rw[g.2.2];exact h1)
  rw[FsR.links hi g.2.1,g.2.2]at hl
  obtain ⟨p,hp⟩:=uC (n:=n) (l:=qc f.xs) (by omega)
  obtain ⟨y,hy,e,he,q1,q2⟩:=Vb.1 hp
  obtain ⟨rk,hed⟩:=hr.edge
  have:=(hed y hy e he (by rw[q1];exact hk)).1
  rw[q1]at this
  rw[this];exact J3 hy
end
section
theorem Zp {f:FsV} (hi:FsI f) (hr:FsR f) {nm:List UInt8}:∀ (k:Nat) (l:Zu) (s:zZ),(s.ino≠0->zt s.ino f.xs=true) ->
  (∃ e,e≠0/\∀ dir,onN f false k (l++[nm]) s dir=(qL,e))∨∃ k' s',(s'.ino≠0->zt s'.ino f.xs=true)/\∀ dir,onN f false k (l++[nm]) s dir=onN f false k' [nm] s' dir
 | k,[],s,hs=>.inr ⟨k,s,hs,fun _=>rfl⟩
 | k,n :: r,s,hs=>by
  have hne:r++[nm]≠[]:=by simp
  have un:∀ dir,onN f false k (n :: r++[nm]) s dir=onL f false (lkN f false k) (n :: (r++[nm])) s dir:=fun dir=>by rw[Yz];rfl
  by_cases h0:s.ino=0
  ·exact .inl ⟨1,by decide,fun dir=>by rw[un];unfold onL;rw[if_pos h0]⟩
  have hh:=hs h0
  by_cases hk:(zf s.ino f.xs).kind=2
  case neg=>exact .inl ⟨3,by decide,fun dir=>by rw[un];unfold onL;rw[if_neg h0,if_pos hk]⟩
  have hk':¬(zf s.ino f.xs).kind≠2:=fun q=>q hk
  have hg:=zh hh
  by_cases h1:n = [46]
  ·rcases Zp hi hr (nm:=nm) k r ⟨0,[],(zf s.ino f.xs).ino⟩ (fun _=>by show zt (zf s.ino f.xs).ino f.xs=true;rw[hg.2.2];exact hh) with ⟨e,e1,e2⟩ | ⟨k',s',e1,e2⟩
   ·exact .inl ⟨e,e1,fun dir=>by rw[un];unfold onL;rw[if_neg h0,if_neg hk',if_pos h1,←Yz];exact e2 dir⟩
   ·exact .inr ⟨k',s',e1,fun dir=>by rw[un];unfold onL;rw[if_neg h0,if_neg hk',if_pos h1,←Yz];exact e2 dir⟩
  by_cases h2:n = [46,46]
  ·rcases Zp hi hr (nm:=nm) k r ⟨0,[],(zf s.ino f.xs).parent⟩ (fun _=>zfd hi hr hh hk) with ⟨e,e1,e2⟩ | ⟨k',s',e1,e2⟩
   ·exact .inl ⟨e,e1,fun dir=>by rw[un];unfold onL;rw[if_neg h0,if_neg hk',if_neg h1,if_pos h2,←Yz];exact e2 dir⟩
   ·exact .inr ⟨k',s',e1,fun dir=>by rw[un];unfold onL;rw[if_neg h0,if_neg hk',if_neg h1,if_pos h2,←Yz];exact e2 dir⟩
  by_cases h3:Xv n (zf s.ino f.xs).es=false∨(zf (zM n (zf s.ino f.xs).es) f.xs).kind≠3
  ·have hc:∀ dir:Bool,Xv n (zf s.ino f.xs).es=false∨(zf (zM n (zf s.ino f.xs).es) f.xs).kind≠3∨(r++[nm] = []/\false=false/\dir=false):=fun dir=>h3.imp id .inl
   have hin:zM n (zf s.ino f.xs).es≠0->zt (zM n (zf s.ino f.xs).es) f.xs=true:=fun q=>by
    have hx:Xv n (zf s.ino f.xs).es=true:=by
     unfold Xv
     rw[qE]
     cases hq:jl zX.name n (zf s.ino f.xs).es with
     | some e=>rfl
     | none=>unfold zM at q;rw[hq]at q;exact absurd rfl q
    exact HL hi hh hx
   rcases Zp hi hr (nm:=nm) k r ⟨(zf s.ino f.xs).ino,n,zM n (zf s.ino f.xs).es⟩ hin with ⟨e,e1,e2⟩ | ⟨k',s',e1,e2⟩
   ·exact .inl ⟨e,e1,fun dir=>by rw[un];unfold onL;rw[if_neg h0,if_neg hk',if_neg h1,if_neg h2,if_pos (hc dir),←Yz];exact e2 dir⟩
   ·exact .inr ⟨k',s',e1,fun dir=>by rw[un];unfold onL;rw[if_neg h0,if_neg hk',if_neg h1,if_neg h2,if_pos (hc dir),←Yz];exact e2 dir⟩
  ·have hc:∀ dir:Bool,¬(Xv n (zf s.ino f.xs).es=false∨(zf (zM n (zf s.ino f.xs).es) f.xs).kind≠3∨(r++[nm] = []/\false=false/\dir=false)):=fun dir q=>by
    rcases q with q | q | ⟨q,_⟩
    ·exact h3 (.inl q)
    ·exact h3 (.inr q)
    ·exact hne q
   have ul:∀ dir,onN f false k (n :: r++[nm]) s dir=lkN f false k (zf (zM n (zf s.ino f.xs).es) f.xs) (zf s.ino f.xs) (r++[nm]) dir:=fun dir=>by
    rw[un];unfold onL;rw[if_neg h0,if_neg hk',if_neg h1,if_neg h2,if_neg (hc dir)]
   cases k with
   | zero=>exact .inl ⟨6,by decide,fun dir=>by rw[ul];rfl⟩
   | succ k =>
    by_cases hlg:Qi (zf (zM n (zf s.ino f.xs).es) f.xs).data=true
    ·exact .inl ⟨7,by decide,fun dir=>by rw[ul,Jy,if_pos hlg]⟩
    ·have hin:(if QS (zf (zM n (zf s.ino f.xs).es) f.xs).data then (1:Int) else (zf s.ino f.xs).ino)≠0->zt (if QS (zf (zM n (zf s.ino f.xs).es) f.xs).data then (1:Int) else (zf s.ino f.xs).ino) f.xs=true:=fun _=>by
      split
      ·exact hi.root
      ·rw[hg.2.2];exact hh
     rcases Zp hi hr (nm:=nm) k (zk (zf (zM n (zf s.ino f.xs).es) f.xs).data++r) ⟨0,[],if QS (zf (zM n (zf s.ino f.xs).es) f.xs).data then 1 else (zf s.ino f.xs).ino⟩ hin with ⟨e,e1,e2⟩ | ⟨k',s',e1,e2⟩
     ·exact .inl ⟨e,e1,fun dir=>by
       rw[ul,Jy,if_neg hlg,←List.append_assoc,decide_eq_false hne,Bool.and_false,Bool.or_false]
       exact e2 dir⟩
     ·exact .inr ⟨k',s',e1,fun dir=>by
       rw[ul,Jy,if_neg hlg,←List.append_assoc,decide_eq_false hne,Bool.and_false,Bool.or_false]
       exact e2 dir⟩
termination_by k l=>(k,l.length)
theorem zlq {f:FsV} (hi:FsI f) {nm:List UInt8} (n1:nm≠[46]) (n2:nm≠[46,46]) {k:Nat} {s t:zZ} {dir:Bool} (hs:s.ino≠0->zt s.ino f.xs=true) (h:onN f false k [nm] s dir=(t,0)) (ht:t.ino≠0) :
  zH f t∨(dir=true/\∃ u,onN f false k [nm] s false=(u,0)/\(zf u.ino f.xs).kind=3):=by
 rw[Yz]at h ⊢
 unfold onL at h ⊢
 by_cases h0:s.ino=0
 ·rw[if_pos h0]at h;cases h
 rw[if_neg h0]at h ⊢
 have hh:=hs h0
 have hg:=zh hh
 by_cases hk:(zf s.ino f.xs).kind=2
 case neg=>rw[if_pos hk]at h;cases h
 have hk':¬(zf s.ino f.xs).kind≠2:=fun q=>q hk
 rw[if_neg hk',if_neg n1,if_neg n2]at h ⊢
 have hgood:∀ d:Bool,onL f false (lkN f false k) [] ⟨(zf s.ino f.xs).ino,nm,zM nm (zf s.ino f.xs).es⟩ d=(t,0)->zH f t:=fun d q=>by
  unfold onL at q
  split at q
  ·cases q
  ·have q:=(Prod.mk.inj q).1
   subst q
   have hx:Xv nm (zf s.ino f.xs).es=true:=by
    unfold Xv
    rw[qE]
    cases hq:jl zX.name nm (zf s.ino f.xs).es with
    | some e=>rfl
    | none=>exact absurd (by show zM nm (zf s.ino f.xs).es=0;unfold zM;rw[hq]) ht
   have e1:(zf s.ino f.xs).ino=s.ino:=hg.2.2
   refine ⟨by show zt (zf s.ino f.xs).ino f.xs=true;rw[e1];exact hh,by show (zf (zf s.ino f.xs).ino f.xs).kind=2;rw[e1];exact hk,?_⟩
   show jl zX.name nm (zf (zf s.ino f.xs).ino f.xs).es=_
   rw[e1];exact X3 hx
 by_cases hc:Xv nm (zf s.ino f.xs).es=false∨(zf (zM nm (zf s.ino f.xs).es) f.xs).kind≠3∨(([]:Zu) = []/\false=false/\dir=false)
 ·rw[if_pos hc]at h
  exact .inl (hgood _ h)
 ·have hd:dir=true:=by
   cases dir with
   | true=>rfl
   | false=>exact absurd (.inr (.inr ⟨rfl,rfl,rfl⟩)) hc
  refine .inr ⟨hd,⟨(zf s.ino f.xs).ino,nm,zM nm (zf s.ino f.xs).es⟩,?_,Classical.byContradiction fun q=>hc (.inr (.inl q))⟩
  rw[if_pos (.inr (.inr ⟨rfl,rfl,rfl⟩))]
  unfold onL
  rw[if_neg (fun q=>by cases q.2.1)]
end
section
def bN (x:zn):Nat:=if x.kind=1 then x.data.length else 0
theorem JU:∀ xs:List zn,qp xs=jP bN xs
 | []=>rfl
 | x :: r=>by
  have ih:=JU r
  unfold qp jP at ih ⊢
  rw[List.map_cons,List.sum_cons,←ih,List.filter_cons]
  unfold bN
  by_cases h:x.kind=1<;>simp[h]
theorem NV {xs:List zn} (hR:z8 xs) {x:zn} (hh:zt x.ino xs=true):qp (qP x xs)+bN (zf x.ino xs)=qp xs+bN x:=by
 have:=VY bN (x:=x) hR
 rw[(zh hh).1]at this
 rw[JU,JU];exact this
theorem ND {xs:List zn} (hR:z8 xs) {x:zn} (hh:zt x.ino xs=false):qp (qP x xs)=qp xs+bN x:=by
 have:=VY bN (x:=x) hR
 rw[(YD hh).1]at this
 rw[JU,JU];exact this
theorem za3 {xs:List zn} (hR:z8 xs) (n:Int):qp (zT n xs)<=qp xs:=by
 have:=XD bN (n:=n) hR
 rw[JU,JU];omega
theorem Ny {xs:List zn} (hR:z8 xs) {n:Int} {F:List zX->List zX} (hh:zt n xs=true):qp (jk n F xs)=qp xs:=by
 have hg:=zh hh
 have:=NV hR (x:=jS (zf n xs) (F (zf n xs).es)) (by show zt (zf n xs).ino xs=true;rw[hg.2.2];exact hh)
 have e:bN (zf (jS (zf n xs) (F (zf n xs).es)).ino xs)=bN (jS (zf n xs) (F (zf n xs).es)):=by
  show bN (zf (zf n xs).ino xs)=bN (zf n xs)
  rw[hg.2.2]
 rw[e]at this
 exact Nat.add_right_cancel this
theorem zmI {x:zn} {xs:List zn} (hR:z8 xs) (hh:zt x.ino xs=false):(qP x xs).length=xs.length+1:=by rw[←vu hR hh];simp;have:=zf9 x.ino xs;omega
theorem ze5 (n:Int) (xs:List zn):(zT n xs).length<=xs.length:=List.length_filter_le _ _
theorem zny.turn {x:zn} (h:zny x) {es:List zX} (he:∀ e∈es,may e.name=true):zny (jS x es):=⟨h.par,h.bare,he,h.lnk,h.named,h.one,h.top⟩
theorem Qd {xs:List zn} {n m:Int} {F:List zX->List zX} (hh:zt n xs=true):(zf m (jk n F xs)).kind=(zf m xs).kind/\(zf m (jk n F xs)).parent=(zf m xs).parent/\(zf m (jk n F xs)).links=(zf m xs).links:=by
 rw[YQ hh]
 split
 ·subst_vars;exact ⟨rfl,rfl,rfl⟩
 ·exact ⟨rfl,rfl,rfl⟩
theorem FsR.like {f g:FsV} (h:FsR f) (hN:∀ z∈g.xs,zny z) (hE:∀ z∈g.xs,∀ e∈z.es,(zf e.ino g.xs).kind=2->∃ y∈f.xs,y.ino=z.ino/\e∈y.es/\(zf e.ino f.xs).kind=2/\(zf e.ino g.xs).parent=(zf e.ino f.xs).parent)
  (h1:g.maxI=f.maxI) (h2:g.maxB=f.maxB) (hl:g.xs.length<=f.xs.length) (hb:(qp g.xs:Int)<=f.maxB):FsR g:=by
 obtain ⟨rk,hr⟩:=h.edge
 refine ⟨hN,⟨rk,fun z hz e he hk=>?_⟩,?_,by rw[h1,h2];exact h.lim⟩
 ·obtain ⟨y,hy,q1,q2,q3,q4⟩:=hE z hz e he hk
  have:=hr y hy e q2 q3
  rw[q4,←q1];exact this
 ·have:=h.fit
  rw[h1,h2];omega
theorem zis {f:FsV} (hi:FsI f) (h:FsR f) {s:zZ} (hs:zH f s) (he:(zf s.ino f.xs).es = []):FsR (zi f s):=by
 have hok:=Ux hi hs he
 have hd:=zh hs.has
 have hh:=zH.ino hi hs
 have hx:=zh hh
 have hn:=h.node _ hx.2.1
 have hne:s.dir≠s.ino:=fun e=>by
  have:=(qq hs.there).2
  rw[e,he]at this
  cases this
 have hr1:=HE hi hs
 have hR1:z8 (jk s.dir (zg s.name) f.xs):=Jp hi.rises
 have hdn:zny (jS (zf s.dir f.xs) (zg s.name (zf s.dir f.xs).es)):=(h.node _ hd.2.1).turn fun e he=>(h.node _ hd.2.1).nam e (jK he).1
 by_cases hl:(zf s.ino f.xs).links-1=0
 ·have e0:zi f s = { f with xs:=zT s.ino (jk s.dir (zg s.name) f.xs) }:=by unfold zi;rw[if_pos hl]
  rw[e0]at hok ⊢
  refine h.like (fun z hz=>?_) (fun z hz e he hke=>?_) rfl rfl ?_ ?_
  ·rcases (Xw hs.has).1 (JQ.1 hz).1 with rfl | ⟨hz,_⟩
   ·exact hdn
   ·exact h.node z hz
  ·have hee:e.ino≠s.ino:=fun q=>by
    have:=hok.led z hz e he
    rw[YA,q]at this
    simp at this
   have hg:zf e.ino (zT s.ino (jk s.dir (zg s.name) f.xs))=zf e.ino (jk s.dir (zg s.name) f.xs):=by rw[Q3,if_neg hee]
   show ∃ y∈f.xs,y.ino=z.ino/\e∈y.es/\_/\(zf e.ino (zT s.ino _)).parent=_
   have hke:(zf e.ino (zT s.ino (jk s.dir (zg s.name) f.xs))).kind=2:=hke
   rw[hg,(Qd hs.has).1]at hke
   rw[hg,(Qd hs.has).2.1]
   rcases (Xw hs.has).1 (JQ.1 hz).1 with rfl | ⟨hz,_⟩
   ·exact ⟨_,hd.2.1,rfl,(jK he).1,hke,rfl⟩
   ·exact ⟨z,hz,rfl,he,hke,rfl⟩
  ·exact Nat.le_trans (ze5 _ _) (by rw[Z3 hi.rises hs.has];exact Nat.le_refl _)
  ·have:=za3 hR1 s.ino
   rw[Ny hi.rises hs.has]at this
   have:=h.fit.2
   show (qp (zT _ _):Int)<=_
   omega
 ·have e0:zi f s = { f with xs:=qP { zf s.ino f.xs with links:=(zf s.ino f.xs).links-1 } (jk s.dir (zg s.name) f.xs) }:=by unfold zi;rw[if_neg hl]
  rw[e0]at hok ⊢
  have hhi:zt ({ zf s.ino f.xs with links:=(zf s.ino f.xs).links-1 }:zn).ino (jk s.dir (zg s.name) f.xs)=true:=by rw[JN hs.has];show zt (zf s.ino f.xs).ino f.xs=true;rw[hx.2.2];exact hh
  have hgot:∀ m,(zf m (qP { zf s.ino f.xs with links:=(zf s.ino f.xs).links-1 } (jk s.dir (zg s.name) f.xs))).kind=(zf m f.xs).kind/\(zf m (qP { zf s.ino f.xs with links:=(zf s.ino f.xs).links-1 } (jk s.dir (zg s.name) f.xs))).parent=(zf m f.xs).parent:=fun m=>by
   simp only[Y8,hx.2.2]
   split
   ·subst_vars;exact ⟨rfl,rfl⟩
   ·exact ⟨(Qd hs.has).1,(Qd hs.has).2.1⟩
  have hnm:=hn.named (by rw[hx.2.2];exact hr1)
  refine h.like (fun z hz=>?_) (fun z hz e he hke=>?_) rfl rfl ?_ ?_
  ·rcases jY.1 hz with rfl | ⟨hz,_⟩
   ·exact ⟨hn.par,hn.bare,hn.nam,hn.lnk,fun q=>by show 1<=(zf s.ino f.xs).links-1;omega,fun q1 q2=>by have:=hn.one q1 q2;omega,hn.top⟩
   ·rcases (Xw hs.has).1 hz with rfl | ⟨hz,_⟩
    ·exact hdn
    ·exact h.node z hz
  ·have hke:(zf e.ino (qP { zf s.ino f.xs with links:=(zf s.ino f.xs).links-1 } (jk s.dir (zg s.name) f.xs))).kind=2:=hke
   rw[(hgot _).1]at hke
   rcases jY.1 hz with rfl | ⟨hz,_⟩
   ·exact ⟨_,hx.2.1,rfl,he,hke,(hgot _).2⟩
   ·rcases (Xw hs.has).1 hz with rfl | ⟨hz,_⟩
    ·exact ⟨_,hd.2.1,rfl,(jK he).1,hke,(hgot _).2⟩
    ·exact ⟨z,hz,rfl,he,hke,(hgot _).2⟩
  ·show (qP _ _).length<=_
   rw[QQ hR1 hhi,Z3 hi.rises hs.has];exact Nat.le_refl _
  ·have:=NV hR1 hhi
   have e1:bN (zf ({ zf s.ino f.xs with links:=(zf s.ino f.xs).links-1 }:zn).ino (jk s.dir (zg s.name) f.xs))=bN { zf s.ino f.xs with links:=(zf s.ino f.xs).links-1 }:=by
    show bN (zf (zf s.ino f.xs).ino _)=_
    rw[hx.2.2,YQ hs.has,if_neg hne]
    rfl
   rw[e1,Ny hi.rises hs.has]at this
   show (qp (qP _ _):Int)<=_
   have:=h.fit.2
   omega
end
section
inductive Bel (xs:List zn) (x:Int):Int->Prop
 | refl:Bel xs x x
 | step {y n:Int}:Bel xs x y->zt y xs=true->(∃ e∈(zf y xs).es,e.ino=n)->Bel xs x n
end
section
inductive Na (xs:List zn):List (List UInt8)->Int->Prop
 | root:Na xs [] 1
 | step {ns:List (List UInt8)} {y n:Int} {m:List UInt8}:Na xs ns y->zt y xs=true->(zf y xs).kind=2->jl zX.name m (zf y xs).es=some ⟨m,n⟩->Na xs (ns++[m]) n
end
section
structure zn6 (w:qk):Prop where
 fs:FsR w.fs
 pool:∀ x∈w.pool,ql w x
 slots:∀ k∈w.kept,1<=k.slot
 kept:∀ k∈w.kept,Xk w k
theorem zqw {w:qk} (h:okW w):zn6 w:=⟨zee ⟨h.1.2.1,h.2.1⟩,h.2.2.2.1,h.2.2.2.2.1.2,h.2.2.2.2.2⟩
theorem J9 {k z:zK} {ks:List zK}:z∈qi k ks↔z=k∨z∈ks:=GS
theorem MT {w w':qk} {x:zn} (h:ql w x) (h1:zt x.ino w'.fs.xs=false) (h2:w.fs.next<=w'.fs.next) (h3:∀ k∈w.kept,k∈w'.kept):ql w' x:=by
 obtain ⟨q1,q2,q3,q4,q5,q6,q7,q8,q9,q10⟩:=h
 refine ⟨h1,q2,by omega,q4,q5,q6,q7,q8,q9,?_⟩
 rw[List.any_eq_true]at q10 ⊢
 obtain ⟨k,hk,e⟩:=q10
 exact ⟨k,h3 k hk,e⟩
theorem zo7 {w:qk} (hi:H6 w) (h:zn6 w) {n:Int} (h1:1<=n) (h2:n<=1073741824) {s:zZ} (hs:zH w.fs s) (he:(zf s.ino w.fs.xs).es = []):zn6 (qZ w n s).1:=by
 have hI:=xW hi (n:=n) hs he
 unfold qZ at hI ⊢
 cases hn:VS n w.kept with
 | true=>rw[if_pos rfl];exact h
 | false =>
  rw[hn,if_neg (by simp)]at hI
  rw[if_neg (by simp)]
  have hh:=zH.ino hi.fs hs
  have hx:=zh hh
  have hnd:=h.fs.node _ hx.2.1
  have hr:=zis hi.fs h.fs hs he
  have hhas:=Qc hs.has hh
  have hnp:zt s.ino w.pool=false:=by
   rw[Bool.eq_false_iff]
   intro hq
   have:=(hi.apart _ (zh hq).2.1).1
   rw[(zh hq).2.2,hh]at this;cases this
  have hgk:∀ m,zt m (zi w.fs s).xs=true->(zf m (zi w.fs s).xs).kind=(zf m w.fs.xs).kind:=fun m hm=>by
   unfold zi at hm ⊢
   by_cases hl:(zf s.ino w.fs.xs).links-1=0
   ·rw[if_pos hl]at hm ⊢
    have hm:zt m (zT _ _)=true:=hm
    show (zf m (zT _ _)).kind=_
    rw[YA]at hm
    rw[Q3,if_neg (fun e=>by rw[e]at hm;simp at hm)]
    exact (Qd hs.has).1
   ·rw[if_neg hl]
    show (zf m (qP _ _)).kind=_
    rw[Y8]
    split
    ·rename_i e
     have e:(zf s.ino w.fs.xs).ino=m:=e
     rw[hx.2.2]at e;subst e;rfl
    ·exact (Qd hs.has).1
  by_cases hl:(zf s.ino w.fs.xs).links=1
  ·rw[if_pos hl]at hI ⊢
   have hhp:∀ m,zt m (qP { zf s.ino w.fs.xs with links:=0,parent:=0 } w.pool)=(decide (s.ino=m)||zt m w.pool):=fun m=>by
    rw[VN]
    show (decide ((zf s.ino w.fs.xs).ino=m)||_)=_
    rw[hx.2.2]
   refine ⟨hr,fun x hxx=>?_,fun k hk=>?_,fun k hk=>?_⟩
   ·have ha:=(hI.apart x hxx).1
    rcases jY.1 hxx with rfl | ⟨hxp,_⟩
    ·have hir:=hi.fs.ino _ hx.2.1
     refine ⟨ha,hir.1,by show _<(zi w.fs s).next;rw[JK];exact hir.2,rfl,rfl,he,hi.fs.kind (zf s.ino w.fs.xs) hx.2.1,hnd.bare,hnd.lnk,?_⟩
     rw[List.any_eq_true]
     refine ⟨_,J9.2 (.inl rfl),?_⟩
     show (decide (s.ino=(zf s.ino w.fs.xs).ino)&&!false)=true
     rw[hx.2.2];simp
    ·exact MT (h.pool x hxp) ha (by show w.fs.next<=(zi w.fs s).next;rw[JK];exact Int.le_refl _) fun k hk=>J9.2 (.inr hk)
   ·rcases J9.1 hk with rfl | hk
    ·exact h1
    ·exact h.slots k hk
   ·rcases J9.1 hk with rfl | hk
    ·exact ⟨h2,.inr (by show zt s.ino _=true;rw[hhp];simp),fun q=>(by cases q),fun _=>rfl⟩
    ·obtain ⟨q1,q2,q3,q4⟩:=h.kept k hk
     refine ⟨q1,?_,fun hc=>?_,q4⟩
     ·show zt k.ino (zi w.fs s).xs=true∨zt k.ino _=true
      rw[hhp,hhas,if_pos (by omega)]
      by_cases e:k.ino=s.ino
      ·right;rw[e];simp
      ·rcases q2 with q2 | q2
       ·left;rw[q2,decide_eq_false e];rfl
       ·right;rw[q2,Bool.or_true]
     ·have:=q3 hc
      show (if zt k.ino _=true then zf k.ino _ else zf k.ino (zi w.fs s).xs).kind=1
      by_cases e:s.ino=k.ino
      ·rw[if_pos (by rw[hhp,decide_eq_true e];rfl),Y8,if_pos (by rw[←e];exact hx.2.2)]
       rw[←e,hnp,if_neg (by simp)]at this
       exact this
      ·rw[hhp,decide_eq_false e,Bool.false_or]
       have e5:zf k.ino (qP { zf s.ino w.fs.xs with links:=0,parent:=0 } w.pool)=zf k.ino w.pool:=by
        rw[Y8]
        exact if_neg fun q=>e (hx.2.2.symm.trans q)
       rw[e5]
       by_cases hq:zt k.ino w.pool=true
       ·rw[if_pos hq]at this ⊢;exact this
       ·rw[if_neg hq]at this ⊢
        have q5:=q2.resolve_right hq
        rw[hgk _ (by rw[hhas,if_pos (by omega),q5,decide_eq_false (fun q=>e q.symm)];rfl)];exact this
  ·rw[if_neg hl]at hI ⊢
   have hall:∀ m,zt m (zi w.fs s).xs=zt m w.fs.xs:=fun m=>by rw[hhas,if_neg (by omega)]
   refine ⟨hr,fun x hxx=>?_,fun k hk=>?_,fun k hk=>?_⟩
   ·exact MT (h.pool x hxx) (hI.apart x hxx).1 (by show w.fs.next<=(zi w.fs s).next;rw[JK];exact Int.le_refl _) fun k hk=>J9.2 (.inr hk)
   ·rcases J9.1 hk with rfl | hk
    ·exact h1
    ·exact h.slots k hk
   ·rcases J9.1 hk with rfl | hk
    ·exact ⟨h2,.inl (by show zt s.ino (zi w.fs s).xs=true;rw[hall];exact hh),fun q=>(by cases q),fun _=>rfl⟩
    ·obtain ⟨q1,q2,q3,q4⟩:=h.kept k hk
     refine ⟨q1,?_,fun hc=>?_,q4⟩
     ·show zt k.ino (zi w.fs s).xs=true∨_
      rw[hall];exact q2
     ·have:=q3 hc
      show (if zt k.ino w.pool=true then zf k.ino w.pool else zf k.ino (zi w.fs s).xs).kind=1
      by_cases hq:zt k.ino w.pool=true
      ·rw[if_pos hq]at this ⊢;exact this
      ·rw[if_neg hq]at this ⊢
       rw[hgk _ (by rw[hall];exact q2.resolve_right hq)];exact this
end
section
inductive ziW (w:qk):List OpV->qk->Prop
 | nil:ziW w [] w
 | snoc {l:List OpV} {v:qk} {o:OpV}:ziW w l v->(doV v o).2=0->ziW w (l++[o]) (doV v o).1
theorem zkw {w:qk} {o:OpV} (h:(doV w o).2=0):QL o=true:=by
 cases hm:QL o with
 | true=>rfl
 | false=>unfold doV at h;rw[hm,if_pos (by rfl)]at h;exact absurd h (show ¬(12:Int)=0 by decide)
structure zss (w:qk) (d:zD):Prop where
 run:ziW w d.ops d.w
 may:∀ o∈d.ops,QL o=true/\o.kind<=7
 rise:(jj d.ops).Pairwise (· < ·)
 over:∀ s∈jj d.ops,jJ w.kept<s/\s<=d.slot
 last:jJ w.kept<=d.slot
 stat:(d.status=1)↔d.diags≠[]
 right:zn6 d.w
end
section
theorem zd5 {f:FsV} (hi:FsI f) {ns:List (List UInt8)} {y:Int} (h:Na f.xs ns y):∃ d nm,∀ r,atW f.xs (ns++r) ⟨0,[],1⟩=atW f.xs r ⟨d,nm,y⟩:=by
 induction h with
 | root=>exact ⟨0,[],fun r=>rfl⟩
 | step h1 h2 h3 h4 ih =>
  rename_i ns y n m
  obtain ⟨d,nm,ih⟩:=ih
  refine ⟨y,m,fun r=>?_⟩
  rw[List.append_assoc,ih]
  show atW f.xs (m :: r) ⟨d,nm,y⟩=_
  have hne:y≠0:=Ui hi h2
  have e1:(zf y f.xs).ino=y:=(zh h2).2.2
  have e2:zM m (zf y f.xs).es=n:=by unfold zM;rw[h4]
  rw[atW,if_neg hne,if_neg (fun q=>q h3),e1,e2]
theorem N8 {f:FsV} (h:okV f):∀ (m:Nat) (n:Int) (ns:List (List UInt8)),Na f.xs ns n->∀ p∈qM f.xs m n ns,Na f.xs p.1 p.2.ino
 | 0,n,ns,hl,p,hp=>by unfold qM at hp;cases hp
 | m+1,n,ns,hl,p,hp=>by
  unfold qM at hp
  split at hp
  ·rename_i hh
   rcases List.mem_cons.1 hp with rfl | hp
   ·show Na f.xs ns (zf n f.xs).ino
    rw[(zh hh).2.2];exact hl
   ·obtain ⟨e,he,hp⟩:=List.mem_flatMap.1 hp
    have hi:=XN h.2
    refine N8 h m e.ino _ (.step hl hh (U3 h hh he) ?_) p hp
    have hR:=hi.es _ (zh hh).2.1
    have hx:Xv e.name (zf n f.xs).es=true:=by
     unfold Xv JV
     rw[List.any_eq_true]
     exact ⟨e,he,by simp⟩
    have h2:=X3 hx
    have h3:=qq h2
    have:(⟨e.name,zM e.name (zf n f.xs).es⟩:zX)=e:=by
     obtain ⟨i,hi',ei⟩:=List.getElem_of_mem h3.2
     obtain ⟨j,hj',ej⟩:=List.getElem_of_mem he
     have hp:=List.pairwise_iff_getElem.1 hR
     rcases Nat.lt_trichotomy i j with q | q | q
     ·have:=hp i j hi' hj' q
      rw[ei,ej]at this
      exact absurd this (by show ¬Op.bytesLess e.name e.name=true;rw[Xy];simp)
     ·subst q;rw[←ei,ej]
     ·have:=hp j i hj' hi' q
      rw[ei,ej]at this
      exact absurd this (by show ¬Op.bytesLess e.name e.name=true;rw[Xy];simp)
    rw[h2]
    have e2:zM e.name (zf n f.xs).es=e.ino:=congrArg zX.ino this
    rw[e2]
  ·cases hp
theorem ziu {f:FsV} (h:okV f) {n:Int} (hh:zt n f.xs=true) (hk:(zf n f.xs).kind=2):∃ ns,(∀ z∈ns,may z=true)/\Uy n (trV f.xs 1 [])=some (zS ns)/\Na f.xs ns n:=by
 obtain ⟨h0,h1,_⟩:=qx h
 have hkk:∀ p∈trV f.xs 1 [],p.2.ino=n->p.2.kind=2:=fun p hp hpn=>by
  obtain ⟨_,q⟩:=Ud hp
  rw[hpn]at q;rw[←q];exact hk
 obtain ⟨p,hp⟩:=V7 (YF h _ 1 [] h1.2.2.2.2.2.2.2.1) hkk (zf5 h hh)
 obtain ⟨q,q1,q2⟩:=Nv h hh hk
 have hq:Qv n (trV f.xs 1 []) = [zS p.1]:=by unfold Qv;rw[hp];rfl
 rw[hq]at q1
 have hqe:zS p.1=q:=by simpa using q1
 have hpf:p∈(trV f.xs 1 []).filter (fun p=>decide (p.2.ino=n)):=by rw[hp];exact List.mem_singleton.2 rfl
 obtain ⟨hpm,hpn⟩:=List.mem_filter.1 hpf
 obtain ⟨zs,z1,z2⟩:=GB (Uw h).1 _ 1 [] p hpm
 rw[List.nil_append]at z1
 rw[←z1]at z2
 have hl:=N8 h _ 1 [] .root p hpm
 have hpn:p.2.ino=n:=by simpa using hpn
 rw[hpn]at hl
 exact ⟨p.1,z2,by rw[q2,hqe],hl⟩
theorem zmy {f:FsV} (hi:FsI f) {ns:List (List UInt8)} {n:Int} (hl:Na f.xs ns n) (hh:zt n f.xs=true) (hk:(zf n f.xs).kind=2) (hn:∀ z∈ns,may z=true) {m:List UInt8} (hm:may m=true):qD (zS (ns++[m]))=true/\atV f (zS (ns++[m]))=(⟨n,m,zM m (zf n f.xs).es⟩,0):=by
 have hall:∀ z∈ns++[m],may z=true:=fun z hz=>by
  rcases List.mem_append.1 hz with hz | hz
  ·exact hn z hz
  ·rw[List.mem_singleton.1 hz];exact hm
 have hnm:=YS (ns++[m]) fun z hz=>X1 (hall z hz)
 have hp:Jc (zS (ns++[m]))=true:=by
  unfold Jc
  rw[hnm,decide_eq_true rfl,Bool.true_and,List.all_eq_true]
  exact hall
 refine ⟨by unfold qD;rw[hp,hnm];simp,?_⟩
 unfold atV
 rw[if_pos hp,hnm]
 obtain ⟨d,nm,hw⟩:=zd5 hi hl
 rw[hw]
 have hne:n≠0:=Ui hi hh
 rw[atW,if_neg hne,if_neg (fun q=>q hk),(zh hh).2.2]
 rfl
end
section
def YI (p:List UInt8):OpV:=⟨7,0,p,[],[]⟩
def rmD:Nat->zD->List UInt8->Int->zD
 | 0,d,_,_=>d
 | m+1,d,p,n=>(YV ((zf n d.w.fs.xs).es.foldl (fun d e=>rmD m d (jg p e.name) e.ino) d) (YI p)).1
def rmR:Nat->FsV->zZ->FsV
 | 0,f,s=>zi f s
 | m+1,f,s=>zi ((zf s.ino f.xs).es.foldl (fun g e=>rmR m g ⟨s.ino,e.name,e.ino⟩) f) s
def low (xs:List zn):Nat->Int->Prop
 | 0,n=>(zf n xs).es = []
 | m+1,n=>∀ e∈(zf n xs).es,low xs m e.ino
structure G6 (f g:FsV):Prop where
 es:∀ n e,e∈(zf n g.xs).es->e∈(zf n f.xs).es
 has:∀ n,zt n g.xs=true->zt n f.xs=true/\(zf n g.xs).kind=(zf n f.xs).kind
theorem G6.refl (f:FsV):G6 f f:=⟨fun _ _ h=>h,fun _ h=>⟨h,rfl⟩⟩
theorem G6.trans {f g h:FsV} (a:G6 f g) (b:G6 g h):G6 f h:=⟨fun n e q=>a.es n e (b.es n e q),fun n q=>⟨(a.has n (b.has n q).1).1,(b.has n q).2.trans (a.has n (b.has n q).1).2⟩⟩
theorem G6.low {f g:FsV} (h:G6 f g):∀ {m:Nat} {n:Int},low f.xs m n->low g.xs m n
 | 0,n,q=>by
  unfold Vcg.low at q ⊢
  refine List.eq_nil_iff_forall_not_mem.2 fun e he=>?_
  have:=h.es n e he
  rw[q]at this;cases this
 | m+1,n,q=>fun e he=>h.low (q e (h.es n e he))
theorem G6.bel {f g:FsV} (h:G6 f g) {x y:Int} (q:Bel g.xs x y):Bel f.xs x y:=by
 induction q with
 | refl=>exact .refl
 | step a b c ih =>
  obtain ⟨e,he,q⟩:=c
  exact .step ih (h.has _ b).1 ⟨e,h.es _ e he,q⟩
theorem zjb {f:FsV} (hi:FsI f) {rk:Int->Nat} (hr:zl1 rk f.xs) {x y:Int} (h:Bel f.xs x y):(zf y f.xs).kind=2->(zf x f.xs).kind=2/\rk x<=rk y:=by
 induction h with
 | refl=>exact fun h=>⟨h,Nat.le_refl _⟩
 | step a b c ih =>
  intro hk
  obtain ⟨e,he,rfl⟩:=c
  have g:=zh b
  obtain ⟨q1,q2⟩:=ih (ZW hi g.2.1 he)
  have:=(hr _ g.2.1 e he hk).2
  rw[g.2.2]at this
  exact ⟨q1,by omega⟩
def zl2 (f g:FsV) (n d:Int):Prop:=∀ y,zt y f.xs=true->(zf y f.xs).kind=2->y≠d->¬Bel f.xs n y->zt y g.xs=true/\(zf y g.xs).kind=2/\(zf y g.xs).es=(zf y f.xs).es
theorem zfu {f g:FsV} (hi:FsI f) {rk:Int->Nat} (hr:zl1 rk f.xs) {ns:List (List UInt8)} {n:Int} (h:Na f.xs ns n):(∀ y,zt y f.xs=true->(zf y f.xs).kind=2->rk y<rk n->zt y g.xs=true/\(zf y g.xs).kind=2/\(zf y g.xs).es=(zf y f.xs).es)->(zf n f.xs).kind=2->Na g.xs ns n:=by
 induction h with
 | root=>exact fun _ _=>.root
 | step a b c e ih =>
  rename_i ns y n m
  intro hk hd
  have gy:=zh b
  have hlt:=(hr _ gy.2.1 ⟨m,n⟩ (qq e).2 hd).2
  rw[gy.2.2]at hlt
  have hlt:rk y<rk n:=hlt
  obtain ⟨k1,k2,k3⟩:=hk y b c hlt
  exact .step (ih (fun z z1 z2 z3=>hk z z1 z2 (by omega)) c) k1 k2 (by rw[k3];exact e)
theorem xa {f:FsV} (hi:FsI f) {s:zZ} (hs:zH f s) (he:(zf s.ino f.xs).es = []):G6 f (zi f s)/\zl2 f (zi f s) s.ino s.dir/\zt s.dir (zi f s).xs=true/\(zf s.dir (zi f s).xs).kind=2/\(zf s.dir (zi f s).xs).es=zg s.name (zf s.dir f.xs).es:=by
 have hh:=zH.ino hi hs
 have hx:=zh hh
 have hd:=zh hs.has
 have hne:s.dir≠s.ino:=fun e=>by
  have:=(qq hs.there).2
  rw[e,he]at this
  cases this
 have hhas:=Qc hs.has hh
 -- what is there behind it
 have hgot:∀ m,zt m (zi f s).xs=true->(zf m (zi f s).xs).kind=(zf m f.xs).kind/\(zf m (zi f s).xs).es=if m=s.dir then zg s.name (zf s.dir f.xs).es else (zf m f.xs).es:=fun m hm=>by
  unfold zi at hm ⊢
  by_cases hl:(zf s.ino f.xs).links-1=0
  ·rw[if_pos hl]at hm ⊢
   have hm:zt m (zT _ _)=true:=hm
   show (zf m (zT _ _)).kind=_/\(zf m (zT _ _)).es=_
   rw[YA]at hm
   have hmn:m≠s.ino:=fun e=>by rw[e]at hm;simp at hm
   rw[Q3,if_neg hmn,YQ hs.has]
   by_cases q:s.dir=m
   ·rw[if_pos q,if_pos q.symm];subst q;exact ⟨rfl,rfl⟩
   ·rw[if_neg q,if_neg fun e=>q e.symm];exact ⟨rfl,rfl⟩
  ·rw[if_neg hl]
   show (zf m (qP _ _)).kind=_/\(zf m (qP _ _)).es=_
   rw[Y8]
   split
   ·rename_i e
    have e:(zf s.ino f.xs).ino=m:=e
    rw[hx.2.2]at e;subst e
    rw[if_neg fun e=>hne e.symm];exact ⟨rfl,rfl⟩
   ·rw[YQ hs.has]
    by_cases q:s.dir=m
    ·rw[if_pos q,if_pos q.symm];subst q;exact ⟨rfl,rfl⟩
    ·rw[if_neg q,if_neg fun e=>q e.symm];exact ⟨rfl,rfl⟩
 have hsub:∀ m,zt m (zi f s).xs=true->zt m f.xs=true:=fun m hm=>by
  rw[hhas]at hm
  split at hm
  ·rw[Bool.and_eq_true]at hm;exact hm.2
  ·exact hm
 have hstay:∀ m,zt m f.xs=true->m≠s.ino->zt m (zi f s).xs=true:=fun m hm hn=>by
  rw[hhas]
  split
  ·rw[hm,decide_eq_false hn];rfl
  ·exact hm
 refine ⟨⟨fun n e hee=>?_,fun n hn=>⟨hsub n hn,(hgot n hn).1⟩⟩,fun y y1 y2 y3 y4=>?_,hstay _ hs.has hne,?_,?_⟩
 ·cases hn:zt n (zi f s).xs with
  | false=>rw[(YD hn).2]at hee;cases hee
  | true =>
   rw[(hgot n hn).2]at hee
   split at hee
   ·subst_vars;exact (jK hee).1
   ·exact hee
 ·have hyn:y≠s.ino:=fun e=>y4 (by rw[e];exact .refl)
  have h1:=hstay y y1 hyn
  obtain ⟨q1,q2⟩:=hgot y h1
  rw[if_neg y3]at q2
  exact ⟨h1,q1.trans y2,q2⟩
 ·rw[(hgot _ (hstay _ hs.has hne)).1];exact hs.kind
 ·rw[(hgot _ (hstay _ hs.has hne)).2,if_pos rfl]
def esN (x:zn):Nat:=x.es.length
theorem zgt {g:zn->Nat} {xs:List zn} (hR:z8 xs) {x:zn} (hh:zt x.ino xs=true):jP g (qP x xs)+g (zf x.ino xs)=jP g xs+g x:=by
 have:=VY g (x:=x) hR
 rw[(zh hh).1]at this
 exact this
theorem zjL {g:zn->Nat} {xs:List zn} (hR:z8 xs) {n:Int} (hh:zt n xs=true):jP g xs=jP g (zT n xs)+g (zf n xs):=by
 have:=XD g (n:=n) hR
 rw[(zh hh).1]at this
 exact this
theorem QH {f:FsV} (hi:FsI f) {s:zZ} (hs:zH f s) (he:(zf s.ino f.xs).es = []):jP esN (zi f s).xs+1=jP esN f.xs:=by
 have hh:=zH.ino hi hs
 have hx:=zh hh
 have hd:=zh hs.has
 have hne:s.dir≠s.ino:=fun e=>by
  have:=(qq hs.there).2
  rw[e,he]at this
  cases this
 have hR1:z8 (jk s.dir (zg s.name) f.xs):=Jp hi.rises
 have hw:(zf s.dir f.xs).es.length=(zg s.name (zf s.dir f.xs).es).length+1:=by
  have:=NB (fun _=>true) (hi.es _ hd.2.1) hs.there
  rw[List.filter_eq_self.2 fun _ _=>rfl,List.filter_eq_self.2 fun _ _=>rfl,if_pos rfl]at this
  exact this
 have e1:jP esN (jk s.dir (zg s.name) f.xs)+(zf s.dir f.xs).es.length=jP esN f.xs+(zg s.name (zf s.dir f.xs).es).length:=by
  have:=zgt (g:=esN) (x:=jS (zf s.dir f.xs) (zg s.name (zf s.dir f.xs).es)) hi.rises (by show zt (zf s.dir f.xs).ino f.xs=true;rw[hd.2.2];exact hs.has)
  have q:zf (jS (zf s.dir f.xs) (zg s.name (zf s.dir f.xs).es)).ino f.xs=zf s.dir f.xs:=by show zf (zf s.dir f.xs).ino f.xs=_;rw[hd.2.2]
  rw[q]at this
  exact this
 have hi1:zt s.ino (jk s.dir (zg s.name) f.xs)=true:=by rw[JN hs.has];exact hh
 have hg1:zf s.ino (jk s.dir (zg s.name) f.xs)=zf s.ino f.xs:=by rw[YQ hs.has,if_neg hne]
 have h0:esN (zf s.ino f.xs)=0:=by unfold esN;rw[he];rfl
 unfold zi
 split
 ·show jP esN (zT _ _)+1=_
  have:=zjL (g:=esN) hR1 hi1
  rw[hg1,h0]at this
  omega
 ·show jP esN (qP _ _)+1=_
  have:=zgt (g:=esN) (x:={ zf s.ino f.xs with links:=(zf s.ino f.xs).links-1 }) hR1 (by show zt (zf s.ino f.xs).ino _=true;rw[hx.2.2];exact hi1)
  have q:zf ({ zf s.ino f.xs with links:=(zf s.ino f.xs).links-1 }:zn).ino (jk s.dir (zg s.name) f.xs)=zf s.ino f.xs:=by show zf (zf s.ino f.xs).ino _=_;rw[hx.2.2];exact hg1
  have q2:esN { zf s.ino f.xs with links:=(zf s.ino f.xs).links-1 }=esN (zf s.ino f.xs):=rfl
  rw[q,q2,h0]at this
  omega
end
section
theorem Bel.up {xs:List zn} {x y:Int} {e:zX} (hh:zt x xs=true) (he:e∈(zf x xs).es) (h:Bel xs e.ino y):Bel xs x y:=by
 induction h with
 | refl=>exact .step .refl hh ⟨e,he,rfl⟩
 | step a b c ih=>exact .step ih b c
structure RmC (d:zD):Prop where
 wi:H6 d.w
 wr:zn6 d.w
 kept:∀ k∈d.w.kept,k.slot<=d.slot
 slot:0<=d.slot
 room:d.slot+(jP esN d.w.fs.xs:Nat)<=1073741824
theorem XH {f:FsV} (hr:FsR f) {s:zZ} (hs:zH f s):may s.name=true:=(hr.node _ (zh hs.has).2.1).nam ⟨s.name,s.ino⟩ (qq hs.there).2
theorem zbS {d:zD} (h:RmC d) {s:zZ} (hs:zH d.w.fs s) (he:(zf s.ino d.w.fs.xs).es = []) {p:List UInt8} (hp:qD p=true) (ha:atV d.w.fs p=(s,0)) :
  (YV d (YI p)).2=0/\(YV d (YI p)).1.w.fs=zi d.w.fs s/\RmC (YV d (YI p)).1/\(YV d (YI p)).1.diags=d.diags/\(YV d (YI p)).1.status=d.status:=by
 have hu:=QH h.wi.fs hs he
 have hroom:=h.room
 have hsl:=h.slot
 have hh:=zH.ino h.wi.fs hs
 have eo:kg d (YI p)=⟨7,d.slot+1,p,[],[]⟩:=rfl
 have hm:QL ⟨7,d.slot+1,p,[],[]⟩=true:=by
  unfold QL
  have e1:jZ 7=true:=rfl
  have e2:znE 7=false:=rfl
  simp only[hp,e1,e2,if_true,Bool.and_eq_true,decide_eq_true_eq]
  refine ⟨⟨⟨⟨⟨⟨by decide,by decide⟩,trivial⟩,by omega,by omega⟩,by simp⟩,by simp⟩,by simp⟩
 have hi:isV d.w.fs p true=(s,zf s.ino d.w.fs.xs,0):=by
  unfold isV
  simp only[ha,hh]
  simp
 have hns:VS (d.slot+1) d.w.kept=false:=by
  unfold VS JV
  rw[List.any_eq_false]
  intro k hk q
  have:=h.kept k hk
  have q:k.slot=d.slot+1:=by simpa using q
  omega
 have hdo:doV d.w ⟨7,d.slot+1,p,[],[]⟩=(⟨zi d.w.fs s,qi ⟨d.slot+1,s.ino,false,[]⟩ d.w.kept,if (zf s.ino d.w.fs.xs).links=1 then qP { zf s.ino d.w.fs.xs with links:=0,parent:=0 } d.w.pool else d.w.pool⟩,0):=by
  unfold doV
  rw[hm]
  simp only[Bool.not_true,Bool.false_eq_true,if_false]
  rw[if_neg (by decide),if_neg (by decide),if_neg (by decide),if_neg (by decide),if_neg (by decide),if_neg (by decide)]
  unfold qg
  simp only[hi]
  rw[if_neg (fun q=>q rfl),if_neg (fun q=>q he)]
  unfold qZ
  rw[hns]
  rfl
 have hkv:(doV d.w ⟨7,d.slot+1,p,[],[]⟩).1=(qZ d.w (d.slot+1) s).1:=by
  rw[hdo]
  unfold qZ
  rw[hns]
  rfl
 have hw:=xW h.wi (n:=d.slot+1) hs he
 have hr:=zo7 h.wi h.wr (n:=d.slot+1) (by omega) (by omega) hs he
 rw[←hkv]at hw hr
 have ea:YV d (YI p)=(⟨(doV d.w ⟨7,d.slot+1,p,[],[]⟩).1,d.ops++[⟨7,d.slot+1,p,[],[]⟩],d.diags,d.status,d.slot+1⟩,0):=by
  unfold YV
  rw[if_neg (by show ¬(7:Int)<7;decide),eo,if_neg (by rw[hdo];exact fun q=>q rfl),if_pos (by show 0<d.slot+1;omega)]
 rw[ea]
 have e1:(doV d.w ⟨7,d.slot+1,p,[],[]⟩).1.fs=zi d.w.fs s:=by rw[hdo]
 refine ⟨rfl,e1,⟨hw,hr,fun k hk=>?_,by show 0<=d.slot+1;omega,?_⟩,rfl,rfl⟩
 ·have hk:k∈(doV d.w ⟨7,d.slot+1,p,[],[]⟩).1.kept:=hk
  rw[hdo]at hk
  show k.slot<=d.slot+1
  rcases J9.1 hk with rfl | hk
  ·exact Int.le_refl _
  ·have:=h.kept k hk;omega
 ·show d.slot+1+(jP esN (doV d.w ⟨7,d.slot+1,p,[],[]⟩).1.fs.xs:Int)<=1073741824
  rw[e1];omega
structure zjq (d d':zD) (s:zZ) (g:FsV):Prop where
 fs:d'.w.fs=g
 c:RmC d'
 less:G6 d.w.fs d'.w.fs
 kept:zl2 d.w.fs d'.w.fs s.ino s.dir
 has:zt s.dir d'.w.fs.xs=true
 kind:(zf s.dir d'.w.fs.xs).kind=2
 es:(zf s.dir d'.w.fs.xs).es=zg s.name (zf s.dir d.w.fs.xs).es
 said:d'.diags=d.diags/\d'.status=d.status
theorem N0 {e:zX} {r:List zX} (h:XO (e :: r)):zg e.name (e :: r)=r:=by
 unfold zg JJ
 obtain ⟨h1,_⟩:=List.pairwise_cons.1 h
 rw[List.filter_cons,if_neg (by simp)]
 refine List.filter_eq_self.2 fun x hx=>?_
 have:=h1 x hx
 have:e.name≠x.name:=fun q=>by
  have this:Op.bytesLess e.name x.name=true:=this
  rw[q,Xy]at this;cases this
 simpa using fun q:x.name=e.name=>this q.symm
structure zng (d0 d:zD) (s:zZ) (ns:List (List UInt8)) (L:List zX):Prop where
 c:RmC d
 there:zH d.w.fs s
 lead:Na d.w.fs.xs ns s.dir
 es:(zf s.ino d.w.fs.xs).es=L
 less:G6 d0.w.fs d.w.fs
 kept:zl2 d0.w.fs d.w.fs s.ino s.ino
 dir:(zf s.dir d.w.fs.xs).es=(zf s.dir d0.w.fs.xs).es
 said:d.diags=d0.diags/\d.status=d0.status
theorem zmH {m:Nat} (IH:∀ d s ns,RmC d->zH d.w.fs s->Na d.w.fs.xs ns s.dir->(∀ z∈ns,may z=true)->low d.w.fs.xs m s.ino->zjq d (rmD (m+1) d (zS (ns++[s.name])) s.ino) s (rmR m d.w.fs s)) {d0:zD} {s:zZ} {ns:List (List UInt8)} (hns:∀ z∈ns,may z=true) {e:zX} {r:List zX} {d:zD} (h:zng d0 d s ns (e :: r)) (hl:low d.w.fs.xs m e.ino) :
  zng d0 (rmD (m+1) d (jg (zS (ns++[s.name])) e.name) e.ino) s ns r/\(rmD (m+1) d (jg (zS (ns++[s.name])) e.name) e.ino).w.fs=rmR m d.w.fs ⟨s.ino,e.name,e.ino⟩/\zH d.w.fs ⟨s.ino,e.name,e.ino⟩/\Na d.w.fs.xs (ns++[s.name]) s.ino/\(∀ z∈ns++[s.name],may z=true)/\jg (zS (ns++[s.name])) e.name=zS (ns++[s.name]++[e.name])/\G6 d.w.fs (rmD (m+1) d (jg (zS (ns++[s.name])) e.name) e.ino).w.fs:=by
 have hi:=h.c.wi.fs
 have hr:=h.c.wr.fs
 obtain ⟨rk,hed⟩:=hr.edge
 have hh:=zH.ino hi h.there
 have hx:=zh hh
 have hin:e∈(zf s.ino d.w.fs.xs).es:=by rw[h.es];exact List.mem_cons_self
 have hk:(zf s.ino d.w.fs.xs).kind=2:=ZW hi hx.2.1 hin
 have hR:=hi.es _ hx.2.1
 rw[h.es]at hR
 have hm:=XH hr h.there
 have hall:∀ z∈ns++[s.name],may z=true:=fun z hz=>by
  rcases List.mem_append.1 hz with hz | hz
  ·exact hns z hz
  ·rw[List.mem_singleton.1 hz];exact hm
 have hfe:jl zX.name e.name (zf s.ino d.w.fs.xs).es=some ⟨e.name,e.ino⟩:=by
  rw[h.es]
  unfold jl
  rw[List.find?_cons_of_pos (by simp)]
 have hse:zH d.w.fs ⟨s.ino,e.name,e.ino⟩:=⟨hh,hk,hfe⟩
 have hle:Na d.w.fs.xs (ns++[s.name]) s.ino:=.step h.lead h.there.has h.there.kind h.there.there
 have hp:jg (zS (ns++[s.name])) e.name=zS (ns++[s.name]++[e.name]):=by
  rw[yy _ _ hall,ZI _ _ fun y hy=>(X1 (hall y hy)).1]
 have ho:=IH d ⟨s.ino,e.name,e.ino⟩ (ns++[s.name]) h.c hse hle hall hl
 rw[←hp]at ho
 have hos:=ho.es
 have hos:(zf s.ino (rmD (m+1) d (jg (zS (ns++[s.name])) e.name) e.ino).w.fs.xs).es=zg e.name (zf s.ino d.w.fs.xs).es:=hos
 rw[h.es,N0 hR]at hos
 have hlt:=(hed _ (zh h.there.has).2.1 ⟨s.name,s.ino⟩ (qq h.there.there).2 hk).2
 rw[(zh h.there.has).2.2]at hlt
 have hlt:rk s.dir<rk s.ino:=hlt
 -- directories not deeper than s stay
 have hstay:∀ y,zt y d.w.fs.xs=true->(zf y d.w.fs.xs).kind=2->rk y<rk s.ino->zt y (rmD (m+1) d (jg (zS (ns++[s.name])) e.name) e.ino).w.fs.xs=true/\(zf y (rmD (m+1) d (jg (zS (ns++[s.name])) e.name) e.ino).w.fs.xs).kind=2/\(zf y (rmD (m+1) d (jg (zS (ns++[s.name])) e.name) e.ino).w.fs.xs).es=(zf y d.w.fs.xs).es:=fun y y1 y2 y3=>by
  refine ho.kept y y1 y2 (fun q=>by have q:y=s.ino:=q;rw[q]at y3;omega) fun hB=>?_
  obtain ⟨q1,q2⟩:=zjb hi hed hB y2
  have:=(hed _ hx.2.1 e hin q1).2
  rw[hx.2.2]at this
  have q2:rk e.ino<=rk y:=q2
  omega
 obtain ⟨k1,k2,k3⟩:=hstay s.dir h.there.has h.there.kind hlt
 have hn:zng d0 (rmD (m+1) d (jg (zS (ns++[s.name])) e.name) e.ino) s ns r:=by
  refine ⟨ho.c,⟨k1,k2,by rw[k3];exact h.there.there⟩,zfu hi hed h.lead (fun y y1 y2 y3=>hstay y y1 y2 (by omega)) h.there.kind,hos,h.less.trans ho.less,fun y y1 y2 y3 y4=>?_,by rw[k3];exact h.dir,⟨ho.said.1.trans h.said.1,ho.said.2.trans h.said.2⟩⟩
  obtain ⟨z1,z2,z3⟩:=h.kept y y1 y2 y3 y4
  obtain ⟨w1,w2,w3⟩:=ho.kept y z1 z2 y3 fun hB=>y4 (h.less.bel (Bel.up hh hin hB))
  exact ⟨w1,w2,w3.trans z3⟩
 exact ⟨hn,ho.fs,hse,hle,hall,hp,ho.less⟩
theorem ze3 {m:Nat} (IH:∀ d s ns,RmC d->zH d.w.fs s->Na d.w.fs.xs ns s.dir->(∀ z∈ns,may z=true)->low d.w.fs.xs m s.ino->zjq d (rmD (m+1) d (zS (ns++[s.name])) s.ino) s (rmR m d.w.fs s)) {d0:zD} {s:zZ} {ns:List (List UInt8)} (hns:∀ z∈ns,may z=true) :
  ∀ (L:List zX) (d:zD),zng d0 d s ns L->(∀ e∈L,low d.w.fs.xs m e.ino)->zng d0 (L.foldl (fun d e=>rmD (m+1) d (jg (zS (ns++[s.name])) e.name) e.ino) d) s ns []/\(L.foldl (fun d e=>rmD (m+1) d (jg (zS (ns++[s.name])) e.name) e.ino) d).w.fs=L.foldl (fun g e=>rmR m g ⟨s.ino,e.name,e.ino⟩) d.w.fs
 | [],d,h,_=>⟨h,rfl⟩
 | e :: r,d,h,hl=>by
  obtain ⟨hn,hf,_,_,_,_,hL⟩:=zmH IH hns h (hl e List.mem_cons_self)
  obtain ⟨g1,g2⟩:=ze3 IH hns r _ hn fun x hx=>hL.low (hl x (List.mem_cons_of_mem _ hx))
  refine ⟨g1,?_⟩
  show (r.foldl _ (rmD (m+1) d (jg (zS (ns++[s.name])) e.name) e.ino)).w.fs=r.foldl _ (rmR m d.w.fs ⟨s.ino,e.name,e.ino⟩)
  rw[g2,hf]
theorem zml:∀ (m:Nat) (d:zD) (s:zZ) (ns:List (List UInt8)),RmC d->zH d.w.fs s->Na d.w.fs.xs ns s.dir->(∀ z∈ns,may z=true)->low d.w.fs.xs m s.ino->zjq d (rmD (m+1) d (zS (ns++[s.name])) s.ino) s (rmR m d.w.fs s):=by
 have last:∀ (d0 d:zD) (s:zZ) (ns:List (List UInt8)),(∀ z∈ns,may z=true)->zng d0 d s ns []->zjq d0 (YV d (YI (zS (ns++[s.name])))).1 s (zi d.w.fs s):=fun d0 d s ns hns h=>by
  obtain ⟨p1,p2⟩:=zmy h.c.wi.fs h.lead h.there.has h.there.kind hns (XH h.c.wr.fs h.there)
  have ef:zM s.name (zf s.dir d.w.fs.xs).es=s.ino:=by unfold zM;rw[h.there.there]
  rw[ef]at p2
  obtain ⟨q1,q2,q3,q4,q5⟩:=zbS h.c h.there h.es p1 p2
  obtain ⟨u1,u2,u3,u4,u5⟩:=xa h.c.wi.fs h.there h.es
  refine ⟨q2,q3,by rw[q2];exact h.less.trans u1,fun y y1 y2 y3 y4=>?_,by rw[q2];exact u3,by rw[q2];exact u4,by rw[q2,u5,h.dir],⟨q4.trans h.said.1,q5.trans h.said.2⟩⟩
  rw[q2]
  obtain ⟨z1,z2,z3⟩:=h.kept y y1 y2 (fun e=>y4 (by rw[e];exact .refl)) y4
  obtain ⟨w1,w2,w3⟩:=u2 y z1 z2 y3 fun hB=>y4 (h.less.bel hB)
  exact ⟨w1,w2,w3.trans z3⟩
 have start:∀ (d:zD) (s:zZ) (ns:List (List UInt8)),RmC d->zH d.w.fs s->Na d.w.fs.xs ns s.dir->zng d d s ns (zf s.ino d.w.fs.xs).es:=fun d s ns h1 h2 h3=>⟨h1,h2,h3,rfl,.refl _,fun y y1 y2 _ _=>⟨y1,y2,rfl⟩,rfl,⟨rfl,rfl⟩⟩
 intro m
 induction m with
 | zero =>
  intro d s ns h1 h2 h3 h4 h5
  have he:(zf s.ino d.w.fs.xs).es = []:=h5
  have hst:=start d s ns h1 h2 h3
  rw[he]at hst
  have e1:rmD 1 d (zS (ns++[s.name])) s.ino=(YV d (YI (zS (ns++[s.name])))).1:=by
   show (YV ((zf s.ino d.w.fs.xs).es.foldl _ d) _).1=_
   rw[he];rfl
  rw[e1]
  exact last d d s ns h4 hst
 | succ m ih =>
  intro d s ns h1 h2 h3 h4 h5
  obtain ⟨g1,g2⟩:=ze3 ih h4 _ d (start d s ns h1 h2 h3) h5
  have hl:=last d _ s ns h4 g1
  rw[g2]at hl
  exact hl
end
section
theorem zcK {f:FsV} (h:okV f):∀ (m k:Nat) (n:Int),Dep f.xs k n->zt n f.xs=true->f.xs.length<=m+k->low f.xs m n
 | 0,k,n,hd,hh,hm=>by
  unfold low
  by_cases hk:(zf n f.xs).kind=2
  ·have:=zaj h hd hh hk;omega
  ·exact (XN h.2).file _ (zh hh).2.1 hk
 | m+1,k,n,hd,hh,hm=>fun e he=>by
  exact zcK h m (k+1) e.ino (.step hd hh he) ((XN h.2).led _ (zh hh).2.1 e he) (by omega)
theorem zkp {f:FsV} (h:okV f) {n:Int} (hh:zt n f.xs=true):low f.xs f.xs.length n:=by
 obtain ⟨k,hd⟩:=HM h hh
 exact zcK h _ k n hd hh (by omega)
theorem zac {P:zD->Prop} (h:∀ d p,P d->P (YV d (YI p)).1):∀ (m:Nat) (d:zD) (p:List UInt8) (n:Int),P d->P (rmD m d p n)
 | 0,d,p,n,hd=>hd
 | m+1,d,p,n,hd=>by
  show P (YV ((zf n d.w.fs.xs).es.foldl _ d) (YI p)).1
  refine h _ _ ?_
  generalize (zf n d.w.fs.xs).es=L
  induction L generalizing d with
  | nil=>exact hd
  | cons e r ih=>exact ih _ (zac h m d _ _ hd)
theorem do7 {w:qk} (hi:H6 w) {o:OpV} (hk:o.kind=7):(doV w o).1=w∨∃ s,zH w.fs s/\(zf s.ino w.fs.xs).es = []/\(doV w o).1=(qZ w o.slot s).1:=by
 unfold doV
 cases hm:QL o with
 | false=>exact .inl rfl
 | true =>
  obtain ⟨p1,_⟩:=X5 hm
  rw[if_neg (by simp),if_neg (by omega),if_neg (by omega),if_neg (by omega),if_neg (by omega),if_neg (by omega),if_neg (by omega)]
  unfold qg
  simp only
  by_cases z1:(isV w.fs o.a true).2.2≠0
  ·rw[if_pos z1];exact .inl rfl
  rw[if_neg z1]
  obtain ⟨ht,hn⟩:=GM hi.fs p1 (Classical.not_not.1 z1)
  by_cases z2:(isV w.fs o.a true).2.1.es≠[]
  ·rw[if_pos z2];exact .inl rfl
  rw[if_neg z2]
  exact .inr ⟨_,ht,by rw[←hn];exact Classical.not_not.1 z2,rfl⟩
theorem V0 {w:qk} (hi:H6 w) {p:List UInt8} {n:Int} (h:(doV w ⟨7,n,p,[],[]⟩).1=w):¬(doV w ⟨7,n,p,[],[]⟩).2=0:=fun hz=>by
 have hm:=zkw hz
 obtain ⟨p1,_⟩:=X5 hm
 unfold doV at h hz
 rw[hm]at h hz
 rw[if_neg (by simp),if_neg (show ¬(7:Int)=1 by decide),if_neg (show ¬(7:Int)=2 by decide),if_neg (show ¬(7:Int)=3 by decide),if_neg (show ¬(7:Int)=4 by decide),if_neg (show ¬(7:Int)=5 by decide),if_neg (show ¬(7:Int)=6 by decide)]at h hz
 unfold qg at h hz
 simp only at h hz
 split at hz
 ·rename_i q;exact q hz
 rename_i z1
 rw[if_neg z1]at h
 split at hz
 ·exact absurd hz (show ¬(5:Int)=0 by decide)
 rename_i z2
 rw[if_neg z2]at h
 unfold qZ at h hz
 split at hz
 ·exact absurd hz (show ¬(13:Int)=0 by decide)
 rename_i z3
 rw[if_neg z3]at h
 have hl:=congrArg (fun w:qk=>w.kept.length) h
 have hl:(qi _ w.kept).length=w.kept.length:=hl
 rw[MC]at hl
 omega
structure RmB (K:Nat) (d:zD):Prop where
 wi:H6 d.w
 len:d.w.fs.xs.length<=40
 node:∀ x∈d.w.fs.xs,zbw 40 x
 kept:d.w.kept.length+jP esN d.w.fs.xs<=K
 pool:d.w.pool.length+jP esN d.w.fs.xs<=K
 ops:d.ops.length+jP esN d.w.fs.xs<=K
 diags:d.diags.length<=80000
 slot:0<=d.slot/\d.slot+(jP esN d.w.fs.xs:Nat)<=1073741824+K
 next:d.w.fs.next<=1099511627776
 lim:0<=d.w.fs.maxI/\d.w.fs.maxI<=1073741824/\0<=d.w.fs.maxB/\d.w.fs.maxB<=1073741824
theorem zhQ {x:zn} {xs:List zn} (hR:z8 xs):(qP x xs).length<=xs.length+1:=by
 cases hh:zt x.ino xs with
 | true=>rw[QQ hR hh];exact Nat.le_succ _
 | false=>rw[zmI hR hh];exact Nat.le_refl _
theorem zcd (f:FsV) (s:zZ):(zi f s).maxI=f.maxI/\(zi f s).maxB=f.maxB:=by unfold zi;split<;>exact ⟨rfl,rfl⟩
theorem RmB.add {K:Nat} {d:zD} (h:RmB K d) (p:List UInt8):RmB K (YV d (YI p)).1/\G6 d.w.fs (YV d (YI p)).1.w.fs:=by
 by_cases hz:(YV d (YI p)).2=0
 case neg=>rw[US hz];exact ⟨h,.refl _⟩
 have eo:kg d (YI p)=⟨7,d.slot+1,p,[],[]⟩:=rfl
 have hsl:=h.slot.1
 unfold YV at hz ⊢
 rw[eo]at hz ⊢
 rw[if_neg (show ¬7<(YI p).kind by show ¬(7:Int)<7;decide)]at hz ⊢
 split at hz
 ·rename_i hd;exact absurd hz hd
 rename_i hd
 rw[if_neg hd,if_pos (by show 0<d.slot+1;omega)]
 have hd:=Classical.not_not.1 hd
 rcases do7 h.wi (o:=⟨7,d.slot+1,p,[],[]⟩) rfl with e | ⟨s,hs,he,e⟩
 ·exact absurd hd (V0 h.wi e)
 ·have hne:VS (d.slot+1) d.w.kept=false:=by
   cases hq:VS (d.slot+1) d.w.kept with
   | false=>rfl
   | true =>
    have e2:(qZ d.w (d.slot+1) s).1=d.w:=by unfold qZ;rw[hq];rfl
    rw[e2]at e
    exact absurd hd (V0 h.wi e)
  have ek:(qZ d.w (d.slot+1) s).1=⟨zi d.w.fs s,qi ⟨d.slot+1,s.ino,false,[]⟩ d.w.kept,if (zf s.ino d.w.fs.xs).links=1 then qP { zf s.ino d.w.fs.xs with links:=0,parent:=0 } d.w.pool else d.w.pool⟩:=by unfold qZ;rw[hne];rfl
  have hw:=xW h.wi (n:=d.slot+1) hs he
  rw[ek]at hw
  rw[e,ek]
  have hu:=QH h.wi.fs hs he
  obtain ⟨b1,b2,_⟩:=zmL h.wi.fs h.len h.node hs
  obtain ⟨l1,l2⟩:=zcd d.w.fs s
  have k1:=h.kept
  have k2:=h.pool
  have k3:=h.ops
  have k4:=h.slot
  refine ⟨⟨hw,b1,b2,?_,?_,?_,h.diags,⟨by show 0<=d.slot+1;omega,by show d.slot+1+(jP esN (zi d.w.fs s).xs:Int)<=_;omega⟩,by show (zi d.w.fs s).next<=_;rw[JK];exact h.next,by show 0<=(zi d.w.fs s).maxI/\_;rw[l1,l2];exact h.lim⟩,(xa h.wi.fs hs he).1⟩
  ·show (qi _ _).length+jP esN (zi d.w.fs s).xs<=K
   rw[MC];omega
  ·show (if (zf s.ino d.w.fs.xs).links=1 then _ else d.w.pool).length+jP esN (zi d.w.fs s).xs<=K
   split
   ·have:=zhQ (x:={ zf s.ino d.w.fs.xs with links:=0,parent:=0 }) h.wi.pool
    omega
   ·omega
  ·show (d.ops++[_]).length+jP esN (zi d.w.fs s).xs<=K
   rw[List.length_append,List.length_singleton];omega
end
section
def VZ (p:List UInt8):List UInt8:=if zk p = [] then p else put (QS p) (zk p) false
theorem QD (p:List UInt8):yP (zk p)<=p.length+1:=by
 unfold yP
 rw[jR]
 exact Nat.le_trans (ZD _ _) (Nat.le_of_eq (vf p))
theorem Vo (p:List UInt8):∀ x∈zk p,Xe x:=fun x hx=>ki hx
theorem zhl {p:List UInt8} (h:QS p=true):yP (zk p)<=p.length:=by
 unfold QS at h
 cases p with
 | nil=>simp[Lib.hasPrefix]at h
 | cons c r =>
  have hc:c=47:=by
   rw[V4]at h
   simpa using h
  subst hc
  rw[Qu]
  have:=QD r
  simp only[List.length_cons]
  exact this
theorem Ha {ns:List (List UInt8)} (h:ns≠[]):(Lib.join ns [47]).length+1<=yP ns:=by
 have:=YN ns h
 unfold yP
 omega
theorem zfq (p:List UInt8) (h:zk p≠[]):(VZ p).length<=p.length:=by
 unfold VZ
 rw[if_neg h]
 unfold put
 have h1:=Ha h
 have h2:=QD p
 cases ha:QS p with
 | true=>have:=zhl ha;simp;omega
 | false=>simp;omega
theorem Nz {p:List UInt8} (h:zk p≠[]):zk (VZ p)=zk p/\QS (VZ p)=QS p/\qQ (VZ p)=false/\VZ p≠[]:=by
 have hn:=Vo p
 have e:VZ p=put (QS p) (zk p) false:=by unfold VZ;rw[if_neg h]
 rw[e]
 have h1:=zgk (QS p) (zk p) false hn
 refine ⟨h1,zmO _ _ _ hn,?_,fun q=>?_⟩
 ·have:=MW (QS p) (zk p) false hn
  unfold qQ
  rw[h1,this];rfl
 ·rw[q]at h1;exact h h1.symm
theorem ziH {p:List UInt8} (h:zk p≠[]) (hl:Qi p=false):Qi (VZ p)=false:=by
 have h1:=(Nz h).1
 have h2:=zfq p h
 unfold Qi at hl ⊢
 rw[Bool.or_eq_false_iff]at hl ⊢
 rw[h1]
 refine ⟨hl.1,decide_eq_false fun q=>?_⟩
 have:=of_decide_eq_false hl.2
 omega
theorem zh5 {f:FsV} (hi:FsI f) {b:List UInt8} (h:(Xn f b).2=0):zt (Xn f b).1 f.xs=true:=by
 unfold Xn at h ⊢
 split at h
 ·rename_i q;exact absurd h q
 rename_i q1
 rw[if_neg q1]
 split at h
 ·exact absurd h (show ¬(1:Int)=0 by decide)
 rename_i q2
 rw[if_neg q2]
 split at h
 ·exact absurd h (show ¬(3:Int)=0 by decide)
 rename_i q3
 rw[if_neg q3]
 have hk:=Classical.not_not.1 q3
 have hh:=uJ hk
 show zt (zf _ f.xs).ino f.xs=true
 rw[(zh hh).2.2];exact hh
theorem zb7 {f:FsV} (hi:FsI f) (hr:FsR f) {b p:List UInt8} {l:Zu} {nm:List UInt8} (hn:zk p=l++[nm]) (n1:nm≠[46]) (n2:nm≠[46,46]) {t:zZ} (h:z7 f b p false=(t,0)) (ht:t.ino≠0)
  (hl:¬(qQ p=true/\(z7 f b (VZ p) false).2=0/\(zf (z7 f b (VZ p) false).1.ino f.xs).kind=3)):zH f t:=by
 have hne:zk p≠[]:=by rw[hn];simp
 have hp:p≠[]:=fun e=>hne (by rw[e];rfl)
 obtain ⟨e1,e2,e3,e4⟩:=Nz hne
 have key:∀ from0:Int,zt from0 f.xs=true->onN f false 40 (zk p) ⟨0,[],from0⟩ (qQ p)=(t,0)->(z7 f b (VZ p) false=onN f false 40 (zk p) ⟨0,[],from0⟩ false)->zH f t:=fun from0 h0 h1 h2=>by
  rw[hn]at h1 h2
  rcases Zp hi hr (nm:=nm) 40 l ⟨0,[],from0⟩ (fun _=>h0) with ⟨e,g1,g2⟩ | ⟨k',s',g1,g2⟩
  ·rw[g2]at h1
   exact absurd (Prod.mk.inj h1).2 g1
  ·rw[g2]at h1 h2
   rcases zlq hi n1 n2 g1 h1 ht with g | ⟨g3,u,g4,g5⟩
   ·exact g
   ·rw[g4]at h2
    exact absurd ⟨g3,by rw[h2],by rw[h2];exact g5⟩ hl
 unfold z7 at h
 rw[if_neg hp]at h
 cases hlg:Qi p with
 | true=>rw[hlg,if_pos rfl]at h;cases h
 | false =>
  rw[hlg,if_neg (by simp)]at h
  have hle:=ziH hne hlg
  cases ha:QS p with
  | true =>
   rw[ha,if_pos rfl]at h
   refine key 1 hi.root h ?_
   unfold z7
   rw[if_neg e4,hle,if_neg (by simp),e2,ha,if_pos rfl,e1,e3]
  | false =>
   rw[ha,if_neg (by simp)]at h
   by_cases hz:(Xn f b).2≠0
   ·rw[if_pos hz]at h
    exact absurd (Prod.mk.inj h).2 hz
   ·rw[if_neg hz]at h
    refine key _ (zh5 hi (Classical.not_not.1 hz)) h ?_
    unfold z7
    rw[if_neg e4,hle,if_neg (by simp),e2,ha,if_neg (by simp),if_neg hz,e1,e3]
end
section
def Uv (f:FsV) (b p:List UInt8):Bool:=qQ p&&decide ((z7 f b (VZ p) false).2=0)&&decide ((zf (z7 f b (VZ p) false).1.ino f.xs).kind=3)
def zid (o:List UInt8) (x:zn):Int:=if x.kind≠2∨(114:UInt8)∈o then 0 else if (100:UInt8)∉o then 4 else if x.es≠[] then 5 else 0
def zgS (f:FsV) (b p:List UInt8):Int:=if (z7 f b p false).2=0/\(z7 f b p false).1.ino=0 then 1 else (z7 f b p false).2
def UH (f:FsV) (b o p:List UInt8):Int×Int×Bool:=
 if Yu p = [47] then (4,0,false) else if Yu p = [46]∨Yu p = [46,46] then (3,0,false)
 else if zgS f b p≠0 then (if (102:UInt8)∈o/\(zgS f b p=1∨zgS f b p=3) then 0 else 2,zgS f b p,false)
 else if Uv f b p then (2,3,false)
 else if zid o (zf (z7 f b p false).1.ino f.xs)≠0 then (2,zid o (zf (z7 f b p false).1.ino f.xs),false)
 else (0,0,true)
theorem v6 {f:FsV} {b o p:List UInt8} (h:(UH f b o p).2.2=true):Yu p≠[47]/\Yu p≠[46]/\Yu p≠[46,46]/\zgS f b p=0/\Uv f b p=false/\(UH f b o p).1=0:=by
 unfold UH at h ⊢
 by_cases h1:Yu p = [47]
 ·rw[if_pos h1]at h;cases h
 rw[if_neg h1]at h ⊢
 by_cases h2:Yu p = [46]∨Yu p = [46,46]
 ·rw[if_pos h2]at h;cases h
 rw[if_neg h2]at h ⊢
 by_cases h3:zgS f b p≠0
 ·rw[if_pos h3]at h;cases h
 rw[if_neg h3]at h ⊢
 cases h4:Uv f b p with
 | true=>rw[h4,if_pos rfl]at h;cases h
 | false =>
  rw[h4,if_neg (by simp)]at h
  by_cases h5:zid o (zf (z7 f b p false).1.ino f.xs)≠0
  ·rw[if_pos h5]at h;cases h
  rw[if_neg (by simp),if_neg h5]
  exact ⟨h1,fun e=>h2 (.inl e),fun e=>h2 (.inr e),Classical.not_not.1 h3,rfl,rfl⟩
def kr (b o:List UInt8) (d:zD) (p:List UInt8):zD:=
 let v:=UH d.w.fs b o p
 if v.1≠0 then j6 d (Xo 2 v.1 p [] v.2.1)
 else if v.2.2 then rmD (d.w.fs.xs.length+1) d (YE d.w.fs (z7 d.w.fs b p false).1) (z7 d.w.fs b p false).1.ino
 else d
def zqC (b o:List UInt8) (f:FsV) (p:List UInt8):FsV:=
 if (UH f b o p).2.2 then rmR f.xs.length f (z7 f b p false).1 else f
def zrd (b o:List UInt8):List (List UInt8)->FsV×List (List UInt8)->FsV×List (List UInt8)
 | [],x=>x
 | p :: r,x=>zrd b o r (zqC b o x.1 p,if (UH x.1 b o p).1≠0 then x.2++[Xo 2 (UH x.1 b o p).1 p [] (UH x.1 b o p).2.1] else x.2)
def yE (b o:List UInt8) (l:List (List UInt8)) (d:zD):zD:=l.foldl (kr b o) d
structure RmG (K:Nat) (d:zD):Prop where
 b:RmB K d
 c:RmC d
theorem RmG.ok {K:Nat} {d:zD} (h:RmG K d):okV d.w.fs:=⟨⟨h.b.len,fun x hx=>by obtain ⟨q1,q2,q3⟩:=h.b.node x hx;exact ⟨q2,q1,q3⟩⟩,h.c.wr.fs.check h.c.wi.fs h.b.next⟩
theorem zex {p:List UInt8} (h:Yu p≠[47]) (h2:Yu p≠[]):∃ l,zk p=l++[Yu p]:=by
 unfold Yu at h h2 ⊢
 rcases List.eq_nil_or_concat (zk p) with e | ⟨l,x,e⟩
 ·rw[e]at h h2
  cases hq:Lib.hasPrefix p [47] with
  | true=>rw[hq]at h;exact absurd rfl h
  | false=>rw[hq]at h2;exact absurd rfl h2
 ·rw[e,List.concat_eq_append]
  exact ⟨l,by simp⟩
theorem V9 {f:FsV} (hi:FsI f) (hr:FsR f) {b o p:List UInt8} (h:(UH f b o p).2.2=true):zH f (z7 f b p false).1:=by
 obtain ⟨h1,h2,h2',h3,h4,_⟩:=v6 h
 have hs:(z7 f b p false).2=0/\(z7 f b p false).1.ino≠0:=by
  unfold zgS at h3
  by_cases q:(z7 f b p false).2=0/\(z7 f b p false).1.ino=0
  ·rw[if_pos q]at h3;cases h3
  ·rw[if_neg q]at h3
   exact ⟨h3,fun e=>q ⟨h3,e⟩⟩
 have hb:Yu p≠[]:=fun e=>by
  unfold Yu at e
  rcases List.eq_nil_or_concat (zk p) with e2 | ⟨l,x,e2⟩
  ·rw[e2]at e
   have hp:Lib.hasPrefix p [47]=false:=by
    cases hq:Lib.hasPrefix p [47] with
    | true=>rw[hq]at e;cases e
    | false=>rfl
   have hn:=zcb p e2
   rw[hp]at hn
   have hp0:p = []:=by simpa using hn
   have:(z7 f b p false).2=1:=by rw[hp0];rfl
   rw[hs.1]at this;cases this
  ·rw[e2,List.concat_eq_append]at e
   have e:x = []:=by simpa using e
   have:=Vo p x (by rw[e2];simp)
   exact this.1 e
 obtain ⟨l,hl⟩:=zex h1 hb
 refine zb7 hi hr hl h2 h2' (Prod.ext rfl hs.1) hs.2 fun q=>?_
 unfold Uv at h4
 rw[q.1,decide_eq_true q.2.1,decide_eq_true q.2.2]at h4
 cases h4
theorem HG {K:Nat} {d:zD} (h:RmG K d) (b o p:List UInt8):RmG K (kr b o d p)/\(kr b o d p).w.fs=zqC b o d.w.fs p/\(kr b o d p).diags=(if (UH d.w.fs b o p).1≠0 then d.diags++[Xo 2 (UH d.w.fs b o p).1 p [] (UH d.w.fs b o p).2.1] else d.diags)∨80000<=d.diags.length:=by
 by_cases hdl:80000<=d.diags.length
 ·exact .inr hdl
 left
 unfold kr zqC
 simp only
 by_cases h1:(UH d.w.fs b o p).1≠0
 ·rw[if_pos h1,if_pos h1]
  have h2:(UH d.w.fs b o p).2.2=false:=by
   cases hq:(UH d.w.fs b o p).2.2 with
   | false=>rfl
   | true=>exact absurd (v6 hq).2.2.2.2.2 h1
  rw[h2]
  have hb:=h.b
  have hc:=h.c
  exact ⟨⟨⟨hb.wi,hb.len,hb.node,hb.kept,hb.pool,hb.ops,by show (d.diags++[_]).length<=80000;simp;omega,hb.slot,hb.next,hb.lim⟩,⟨hc.wi,hc.wr,hc.kept,hc.slot,hc.room⟩⟩,rfl,rfl⟩
 ·rw[if_neg h1,if_neg h1]
  cases h2:(UH d.w.fs b o p).2.2 with
  | false=>exact ⟨h,rfl,rfl⟩
  | true =>
   rw[if_pos rfl,if_pos rfl]
   have hi:=h.c.wi.fs
   have hr:=h.c.wr.fs
   have ht:=V9 hi hr h2
   obtain ⟨ns,n1,n2,n3⟩:=ziu h.ok ht.has ht.kind
   have hm:=XH hr ht
   have e:YE d.w.fs (z7 d.w.fs b p false).1=zS (ns++[(z7 d.w.fs b p false).1.name]):=by
    unfold YE
    rw[n2,Option.getD_some,ZI ns _ fun y hy=>(X1 (n1 y hy)).1]
   have hs:=zml _ d _ ns h.c ht n3 n1 (zkp h.ok (zH.ino hi ht))
   have hB:=zac (P:=RmB K) (fun d p hd=>(hd.add p).1) (d.w.fs.xs.length+1) d (YE d.w.fs (z7 d.w.fs b p false).1) (z7 d.w.fs b p false).1.ino h.b
   rw[e]at hB ⊢
   exact ⟨⟨hB,hs.c⟩,hs.fs,hs.said.1⟩
end
section
theorem uT {K:Nat} (b o:List UInt8):∀ (l:List (List UInt8)) (d:zD),RmG K d->d.diags.length+l.length<=80000->RmG K (yE b o l d)/\((yE b o l d).w.fs,(yE b o l d).diags)=zrd b o l (d.w.fs,d.diags)
 | [],d,h,_=>⟨h,rfl⟩
 | p :: r,d,h,hl=>by
  rw[List.length_cons]at hl
  rcases HG h b o p with ⟨h1,h2,h3⟩ | q
  ·have hlen:(kr b o d p).diags.length<=d.diags.length+1:=by
    rw[h3];split<;>simp
   obtain ⟨g1,g2⟩:=uT b o r (kr b o d p) h1 (by omega)
   refine ⟨g1,?_⟩
   show ((yE b o r (kr b o d p)).w.fs,(yE b o r (kr b o d p)).diags)=zrd b o r (zqC b o d.w.fs p,if (UH d.w.fs b o p).1≠0 then d.diags++[Xo 2 (UH d.w.fs b o p).1 p [] (UH d.w.fs b o p).2.1] else d.diags)
   rw[g2,h2,h3]
  ·omega
theorem zdB {w:qk} (h:okW w):jP esN w.fs.xs<=1600:=by
 have h1:=h.1.2.1.1
 have h2:∀ xs:List zn,(∀ x∈xs,x.es.length<=40)->jP esN xs<=xs.length*40:=fun xs=>by
  induction xs with
  | nil=>intro _;exact Nat.zero_le _
  | cons x r ih =>
   intro hx
   have:=ih fun y hy=>hx y (List.mem_cons_of_mem _ hy)
   have h0:=hx x List.mem_cons_self
   unfold jP at this ⊢
   rw[List.map_cons,List.sum_cons,List.length_cons]
   unfold esN at this ⊢
   omega
 have:=h2 w.fs.xs fun x hx=>(h.1.2.1.2 x hx).2.1
 omega
theorem zqj {w:qk} (h:okW w) (hn:w.fs.next<=549755813888) (hl:jJ w.kept<=536870912):RmG 2000 (Zz w):=by
 have hB:=Gf h
 have he:=zdB h
 have hs:=ke h.2.2.2.2.1
 refine ⟨⟨zoG h,hB.len,hB.node,by have:=hB.klen;show w.kept.length+jP esN w.fs.xs<=_;omega,by have:=hB.plen;show w.pool.length+jP esN w.fs.xs<=_;omega,by show 0+jP esN w.fs.xs<=_;omega,Nat.zero_le _,⟨hs.1,by show jJ w.kept+(jP esN w.fs.xs:Int)<=_;omega⟩,by show w.fs.next<=_;omega,?_⟩,⟨zoG h,zqw h,hs.2,hs.1,by show jJ w.kept+(jP esN w.fs.xs:Int)<=_;omega⟩⟩
 have:=(zqw h).fs.lim
 exact ⟨by show 0<=w.fs.maxI;omega,this.2.1,this.2.2⟩
end
section
open CA CB
open Go.RowKit
theorem zl6 (w:qk) (hw:H6 w) (hs:zkA w) (s:Int) (a:List UInt8) (ha:a.length<=100000):Fun Tryz.prog GD 122 [Yp w,.agg (opL ⟨7,s,a,[],[]⟩)] (.tup [Yp (doV w ⟨7,s,a,[],[]⟩).1,.sc (.int .i64 (doV w ⟨7,s,a,[],[]⟩).2)]) 0:=by
 have ho:vC ⟨7,s,a,[],[]⟩:=⟨ha,Nat.zero_le _,Nat.zero_le _⟩
 have hop:=(zgm 7 s a [] [] ho).gd1
 cases hm:QL ⟨7,s,a,[],[]⟩ with
 | false =>
  have e:doV w ⟨7,s,a,[],[]⟩=(w,12):=by unfold doV;rw[hm];rfl
  rw[hm]at hop
  rw[e]
  unfold opL qt at hop
  unfold opL
  refine fof (fun i=>if i=3 then [false,false,false,false,false,false,false,false,false,true] else []) Tryz.func122 ?_;dsimp only[Tryz.f122]
  push_cast -dsimp
  refine cl (hop) ?_;push_cast -dsimp
  exact dn (by push_cast -dsimp [zb,za,CLe,zd])
 | true =>
  obtain ⟨p1,_⟩:=X5 hm
  have e:doV w ⟨7,s,a,[],[]⟩=qg w ⟨7,s,a,[],[]⟩:=by unfold doV;rw[hm];rfl
  have hq:Fun Tryz.prog GD 193 _ _ 0:=(zdg w hw hs ⟨7,s,a,[],[]⟩ ho p1).g0
  rw[hm]at hop
  rw[e]
  unfold opL qt at hop
  unfold opL at hq ⊢
  refine fof (fun i=>if i=3 then [false,false,false,false,false,false,false,false,false,true] else []) Tryz.func122 ?_;dsimp only[Tryz.f122]
  push_cast -dsimp
  refine cl (hop) ?_;push_cast -dsimp
  refine cl (zgd (G:=GD)) ?_;push_cast -dsimp [zj8,km,reduceIte,Int.reduceEq,Option.map_some,Option.map_none]
  refine cl (hq) ?_;push_cast -dsimp
  exact dn (by push_cast -dsimp [zb,za,CLe,zd])
theorem zo9 (d:zD) (hd:zkt d) (p:List UInt8) (hp:p.length<=100000):Fun Tryz.prog GD 67 [kI d,.agg (opL (YI p))] (.tup [kI (YV d (YI p)).1,.sc (.int .i64 (YV d (YI p)).2)]) 0:=by
 have hsl:=Mz (G:=GD) ⟨7,0,p,[],[]⟩
 rw[decide_eq_true (show (7:Int)=3∨(7:Int)=7 by decide)]at hsl
 have hb1:=hd.slot.1
 have hb2:=hd.slot.2
 have hopl:(d.ops.map opL).length=d.ops.length:=List.length_map ..
 have hol:=hd.ops
 have hl5:∀ l:List OpV,∀ r∈l.map opL,r.length=5:=fun l r hr=>by obtain ⟨x,_,rfl⟩:=List.mem_map.1 hr;rfl
 have hst:∀ l:List OpV,jA (l.map opL):=fun l r hr=>by obtain ⟨x,_,rfl⟩:=List.mem_map.1 hr;rfl
 have hX:=zdV (G:=GD) (d.ops.map opL) (([⟨7,d.slot+1,p,[],[]⟩]:List OpV).map opL) (hl5 _) (hl5 _) (hst _) (hst _) (by omega) (by simp) (by simp)
 rw[←List.map_append]at hX
 have hc:=(hX.fun (r:=.own 0 57 5 ((d.ops++([⟨7,d.slot+1,p,[],[]⟩]:List OpV)).map opL)) (n:=1) (by
  rintro r bx m ⟨rfl,c,B,hB,rfl,rfl⟩
  exact ⟨[(0,57,5,(d.ops++([⟨7,d.slot+1,p,[],[]⟩]:List OpV)).map opL,c)],[.inl 0],hB.ok rfl (by simp) (hl5 _),rfl,rfl,by push_cast -dsimp [zb,za,CLe,zd,List.length_map]⟩)).weak (r':=.sl 5 ((d.ops++([⟨7,d.slot+1,p,[],[]⟩]:List OpV)).map opL)) (by push_cast -dsimp [zb,za,CLe,zd])
 have hdo:=zl6 d.w hd.wi hd.ws (d.slot+1) p hp
 have ea:YV d (YI p)=if (doV d.w ⟨7,d.slot+1,p,[],[]⟩).2≠0 then (d,(doV d.w ⟨7,d.slot+1,p,[],[]⟩).2) else (⟨(doV d.w ⟨7,d.slot+1,p,[],[]⟩).1,d.ops++[⟨7,d.slot+1,p,[],[]⟩],d.diags,d.status,if 0<d.slot+1 then d.slot+1 else d.slot⟩,0):=by
  unfold YV
  rw[if_neg (show ¬7<(YI p).kind by show ¬(7:Int)<7;decide),show kg d (YI p)=⟨7,d.slot+1,p,[],[]⟩ from rfl]
 have hmx:(if d.slot+1>d.slot then d.slot+1 else d.slot)=d.slot+1:=if_pos (by omega)
 unfold opL at hsl hdo
 rw[show opL (YI p) = [.sc (.int .i64 7),.sc (.int .i64 0),.str p,.str [],.str []] from rfl]
 by_cases hz:(doV d.w ⟨7,d.slot+1,p,[],[]⟩).2=0
 ·rw[ea,if_neg (fun h=>h hz),if_pos (show 0<d.slot+1 by omega)]
  rw[hz]at hdo
  simp only[List.map_cons,List.map_nil,zdI]at hc
  refine fon Tryz.func67 ?_;dsimp only[Tryz.f67]
  push_cast -dsimp
  refine cl (hsl) ?_;push_cast -dsimp
  repeat refine an ?_
  push_cast -dsimp
  refine cl (hdo) ?_;push_cast -dsimp
  refine cl (hc) ?_;push_cast -dsimp [hmx]
  exact dn (by push_cast -dsimp [zb,za,CLe,zd])
 ·have hz':=eq_false hz
  rw[ea,if_pos hz]
  refine fon Tryz.func67 ?_;dsimp only[Tryz.f67]
  push_cast -dsimp
  refine cl (hsl) ?_;push_cast -dsimp
  repeat refine an ?_
  push_cast -dsimp
  refine cl (hdo) ?_;push_cast -dsimp [hz']
  exact dn (by push_cast -dsimp [zb,za,CLe,zd])
end
section
open CA CB
open Go.RowKit
theorem zbt (f:FsV) (hf:FsI f) (hs:FsS f) (p:List UInt8) (hp:p.length<=100000):Fun Tryz.prog G0 153 [.agg (fsC f),.str p] (.tup [.agg (Js (Jw f p).1),.sc (.int .i64 (Jw f p).2)]) 0:=by
 have h1:=ue f hf hs p hp
 have h2:=jH (G:=G0) f (atV f p).1.ino (by have:=hs.len;omega) hf.rises
 by_cases c1:(atV f p).2=0
 ·have c1':=eq_true c1
  cases hh:zt (atV f p).1.ino f.xs with
  | false =>
   have h0:(atV f p).1.ino=0:=Classical.byContradiction fun hne=>by
    have:zt (atV f p).1.ino f.xs=true:=by
     unfold atV at hne ⊢
     split at hne
     ·rename_i q;rw[if_pos q];exact zfG hf _ _ (fun _=>hf.root) hne
     ·exact absurd rfl hne
    rw[this]at hh;cases hh
   have e:Jw f p=(vh,1):=by unfold Jw;rw[if_neg (fun h=>h c1),if_pos h0]
   rw[c1]at h1
   rw[hh]at h2
   refine fon Tryz.func153 ?_;dsimp only[Tryz.f153]
   push_cast -dsimp
   refine cl (h1) ?_;push_cast -dsimp
   refine cl (h2) ?_;push_cast -dsimp
   exact dn (by push_cast -dsimp [zb,za,CLe,zd,e,vh])
  | true =>
   have h0:=Ui hf hh
   have e:Jw f p=(zf (atV f p).1.ino f.xs,0):=by unfold Jw;rw[if_neg (fun h=>h c1),if_neg h0]
   rw[c1]at h1
   rw[hh]at h2
   refine fon Tryz.func153 ?_;dsimp only[Tryz.f153]
   push_cast -dsimp
   refine cl (h1) ?_;push_cast -dsimp
   refine cl (h2) ?_;push_cast -dsimp
   exact dn (by push_cast -dsimp [zb,za,CLe,zd,e])
 ·have e:Jw f p=(vh,(atV f p).2):=by unfold Jw;rw[if_pos c1]
  refine fon Tryz.func153 ?_;dsimp only[Tryz.f153]
  push_cast -dsimp
  refine cl (h1) ?_;push_cast -dsimp [c1]
  exact dn (by push_cast -dsimp [zb,za,CLe,zd,e,vh])
theorem zel (f:FsV) (hf:FsI f) (hs:FsS f) (p:List UInt8) (hp:p.length<=100000):Fun Tryz.prog G0 110 [.agg (fsC f),.str p] (.tup [.sc (.int .i64 (Xn f p).1),.sc (.int .i64 (Xn f p).2)]) 0:=by
 have h1:=zbt f hf hs p hp
 by_cases c1:(Jw f p).2=0
 ·have d1:(atV f p).2=0/\(atV f p).1.ino≠0/\(Jw f p).1=zf (atV f p).1.ino f.xs:=by
   unfold Jw at c1 ⊢
   split at c1
   ·rename_i h;exact absurd c1 h
   ·rename_i h
    split at c1
    ·exact absurd c1 (show ¬(1:Int)=0 by decide)
    ·rename_i h';rw[if_neg h,if_neg h'];exact ⟨Classical.not_not.1 h,h',rfl⟩
  rw[c1]at h1
  by_cases c2:(Jw f p).1.kind=2
  ·have e:Xn f p=((Jw f p).1.ino,0):=by unfold Xn;rw[if_neg (fun h=>h d1.1),if_neg d1.2.1,if_neg (by rw[←d1.2.2];exact fun h=>h c2),d1.2.2]
   refine fon Tryz.func110 ?_;dsimp only[Tryz.f110]
   push_cast -dsimp
   refine cl (h1) ?_;push_cast -dsimp [c2]
   exact dn (by push_cast -dsimp [zb,za,CLe,zd,e])
  ·have e:Xn f p=(0,3):=by unfold Xn;rw[if_neg (fun h=>h d1.1),if_neg d1.2.1,if_pos (by rw[←d1.2.2];exact c2)]
   refine fon Tryz.func110 ?_;dsimp only[Tryz.f110]
   push_cast -dsimp
   refine cl (h1) ?_;push_cast -dsimp [c2]
   exact dn (by push_cast -dsimp [zb,za,CLe,zd,e])
 ·have e:Xn f p=(0,(Jw f p).2):=by
   unfold Xn Jw
   unfold Jw at c1
   split
   ·rfl
   ·rename_i h
    rw[if_neg h]at c1
    split
    ·rfl
    ·rename_i h';rw[if_neg h']at c1;exact absurd rfl c1
  refine fon Tryz.func110 ?_;dsimp only[Tryz.f110]
  push_cast -dsimp
  refine cl (h1) ?_;push_cast -dsimp [c1]
  exact dn (by push_cast -dsimp [zb,za,CLe,zd,e])
theorem zfK {G:zo} (a b:List (List UInt8)) (la:a.length<=90000) (lb:b.length<=90000):Fun Tryz.prog G 58 [.sl 1 [[.sl 1 (zQ a)],[.sl 1 (zQ b)]]] (.sl 1 (zQ (a++b))) 0:=by
 have hl:∀ l:List (List UInt8),∀ r∈zQ l,r.length=1:=fun l r hr=>by obtain ⟨x,_,rfl⟩:=List.mem_map.1 hr;rfl
 have hs:∀ l:List (List UInt8),jA (zQ l):=fun l r hr=>by obtain ⟨x,_,rfl⟩:=List.mem_map.1 hr;rfl
 have hla:(zQ a).length=a.length:=List.length_map ..
 have hlb:(zQ b).length=b.length:=List.length_map ..
 by_cases h0:0<a.length+b.length
 ·have h:=Mh (G:=G) (zQ a) (zQ b) (hl a) (hl b) (hs a) (hs b) (by omega) (by omega) (by omega)
  have e:zQ a++zQ b=zQ (a++b):=List.map_append.symm
  rw[e]at h
  refine (h.fun (r:=.own 0 9 1 (zQ (a++b))) (n:=1) (by
   rintro r bx m ⟨rfl,c,B,hB,rfl,rfl⟩
   exact ⟨[(0,9,1,zQ (a++b),c)],[.inl 0],hB.ok rfl (by rw[List.length_map,List.length_append];exact h0) (hl _),rfl,rfl,by push_cast -dsimp [zb,za,CLe,zd,List.length_map]⟩)).weak (by push_cast -dsimp [zb,za,CLe,zd])
 ·have ha:a = []:=List.eq_nil_of_length_eq_zero (by omega)
  have hb:b = []:=List.eq_nil_of_length_eq_zero (by omega)
  subst ha hb
  exact Ns
end
section
open CA CB
open Go.RowKit
abbrev zkC (f:FsV) (fol dir:Bool) (todo:Zu) (s:zZ) (n:Int):List C:=[.sc (.int .i64 f.maxI),.sc (.int .i64 f.maxB),.sc (.int .i64 f.next),.sl 6 (zp f.xs),.sc (.bool fol),.sc (.bool dir),.sl 1 (zQ todo),.sc (.int .i64 s.dir),.str s.name,.sc (.int .i64 s.ino),.sc (.int .i64 n)]
abbrev YY:List C:=[.any,.any,.any,.any,.any,.any,.any,.any,.any,.any,.any]
theorem HT (f:FsV) (fol dir:Bool) (todo:Zu) (s:zZ) (n:Nat) (x d:zn) (hx:x.data.length<=10000) (ht:todo.length<=80000) (hn:n<=40):Xc Tryz.prog G0 112 [.ptr 0 0,.agg (Js x),.agg (Js d)] [zkC f fol dir todo s n] 0 (fun r bx m=>m=0 /\
  ((n=40/\r = .sc (.int .i64 6)/\bx = [YY])∨(n<40/\Qi x.data=true/\r = .sc (.int .i64 7)/\bx = [YY])∨(n<40/\Qi x.data=false/\r = .sc (.int .i64 0)/\bx = [zkC f fol (dir||(qQ x.data&&decide (todo = []))) (zk x.data++todo) ⟨0,[],if QS x.data then 1 else d.ino⟩ (n+1:Nat)]))):=by
 by_cases h40:n=40
 ·have hc:((40:Int)<(n:Int)+1)=True:=eq_true (by omega)
  refine foX (fun _=>[]) Tryz.func112 ?_;dsimp only[Tryz.f112]
  push_cast -dsimp [hc]
  repeat refine an ?_
  exact ⟨_,[YY],0,⟨⟨rfl,.inl ⟨h40,rfl,rfl⟩⟩,Nat.le_refl _⟩,[],rfl,rfl,by push_cast -dsimp [zb,za,CLe,zd],by push_cast -dsimp [zb,za,CLe,zd]⟩
 have hc:((40:Int)<(n:Int)+1)=False:=eq_false (by omega)
 have hlg:=v8 x.data (by omega)
 cases hl:Qi x.data with
 | true =>
  rw[hl]at hlg
  refine foX (fun _=>[]) Tryz.func112 ?_;dsimp only[Tryz.f112]
  push_cast -dsimp [hc]
  repeat refine an ?_
  refine cl (hlg) ?_;push_cast -dsimp
  exact ⟨_,[YY],0,⟨⟨rfl,.inr (.inl ⟨by omega,rfl,rfl⟩)⟩,Nat.le_refl _⟩,[],rfl,rfl,by push_cast -dsimp [zb,za,CLe,zd],by push_cast -dsimp [zb,za,CLe,zd]⟩
 | false =>
  rw[hl]at hlg
  have hrd:Fun Tryz.prog G0 63 [.str x.data] (.agg [qt (QS x.data),.own 0 9 1 (zQ (zk x.data)),qt (qQ x.data)]) 1:=Zk x.data (by omega)
  have hnl:=qo x.data
  have hcc:=zfK (G:=G0) (zk x.data) todo (by omega) (by omega)
  have htl:(zQ todo).length=todo.length:=List.length_map ..
  have hte:((todo.length:Int)=0)=(todo = []):=propext ⟨fun h=>List.eq_nil_of_length_eq_zero (by omega),fun h=>by rw[h];rfl⟩
  generalize zk x.data=nm at hrd hcc
  have fin:∀ (b a:Bool),(dir||(qQ x.data&&decide (todo = [])))=b->QS x.data=a->Xc Tryz.prog G0 112 [.ptr 0 0,.agg (Js x),.agg (Js d)] [zkC f fol dir todo s n] 0 (fun r bx m=>m=0/\r = .sc (.int .i64 0)/\bx = [zkC f fol b (nm++todo) ⟨0,[],if a then 1 else d.ino⟩ (n+1:Nat)]):=fun b a hb ha=>by
   rw[ha]at hrd
   by_cases ht0:todo = []
   ·have ht0':=eq_true ht0
    cases dir<;>cases hs:qQ x.data<;>rw[hs]at hrd hb<;>cases a
    all_goals
     simp[ht0]at hb
     subst hb
     refine foX (fun i=>if i=8 then [false,false,false,false,false,false,false,false,false,false,false,true] else []) Tryz.func112 ?_;dsimp only[Tryz.f112]
     push_cast -dsimp [hc]
     repeat refine an ?_
     refine cl (hlg) ?_;push_cast -dsimp
     refine cl (hrd) ?_;push_cast -dsimp [htl,hte,ht0']
     refine cl (hcc) ?_;push_cast -dsimp
     exact ⟨_,_,0,⟨⟨rfl,rfl,rfl⟩,Nat.le_refl _⟩,[],rfl,rfl,by push_cast -dsimp [zb,za,CLe,zd],by push_cast -dsimp [zb,za,CLe,zd]⟩
   ·have ht0':=eq_false ht0
    cases dir<;>cases hs:qQ x.data<;>rw[hs]at hrd hb<;>cases a
    all_goals
     simp[ht0]at hb
     subst hb
     refine foX (fun i=>if i=8 then [false,false,false,false,false,false,false,false,false,false,false,true] else []) Tryz.func112 ?_;dsimp only[Tryz.f112]
     push_cast -dsimp [hc]
     repeat refine an ?_
     refine cl (hlg) ?_;push_cast -dsimp
     refine cl (hrd) ?_;push_cast -dsimp [htl,hte,ht0']
     refine cl (hcc) ?_;push_cast -dsimp
     exact ⟨_,_,0,⟨⟨rfl,rfl,rfl⟩,Nat.le_refl _⟩,[],rfl,rfl,by push_cast -dsimp [zb,za,CLe,zd],by push_cast -dsimp [zb,za,CLe,zd]⟩
  have h:=fin _ _ rfl rfl
  exact ⟨h.1,fun R L vs a1 a2 a3 a4 a5 a6 a7=>(h.2 R L vs a1 a2 a3 a4 a5 a6 a7).mono fun _ _=>by
   rintro ⟨r,bx,m,⟨⟨q1,q2,q3⟩,q4⟩,q5⟩
   exact ⟨r,bx,m,⟨⟨q1,.inr (.inr ⟨by omega,rfl,q2,q3⟩)⟩,q4⟩,q5⟩⟩
theorem zju (f:FsV) (hf:FsI f) (hs:FsS f) (fol dir:Bool) (todo:Zu) (s:zZ) (n:Nat) (lk:zn->zn->Zu->Bool->zZ×Int):Xc Tryz.prog G0 113 [.ptr 0 0] [zkC f fol dir todo s n] 0 (fun r bx m=>m=0/\r = .tup [.agg (XT (onL f fol lk [] s dir).1),.sc (.int .i64 (onL f fol lk [] s dir).2)]/\bx = [YY]):=by
 have hg:=jH (G:=G0) f s.ino (by have:=hs.len;omega) hf.rises
 cases hh:zt s.ino f.xs with
 | false =>
  have e:onL f fol lk [] s dir=(s,0):=by unfold onL;rw[if_neg (fun h=>by rw[hh]at h;cases h.1)]
  rw[hh]at hg
  refine foX (fun i=>if i=1 then jB 13 14 else []) Tryz.func113 ?_;dsimp only[Tryz.f113]
  push_cast -dsimp
  refine cl (hg) ?_;push_cast -dsimp
  exact ⟨_,[YY],0,⟨⟨rfl,rfl,rfl⟩,Nat.le_refl _⟩,[],rfl,rfl,by push_cast -dsimp [zb,za,CLe,zd],by push_cast -dsimp [zb,za,CLe,zd,e]⟩
 | true =>
  rw[hh]at hg
  cases dir with
  | false =>
   have e:onL f fol lk [] s false=(s,0):=by unfold onL;rw[if_neg (fun h=>by cases h.2.1)]
   refine foX (fun i=>if i=1 then jB 13 14 else []) Tryz.func113 ?_;dsimp only[Tryz.f113]
   push_cast -dsimp
   refine cl (hg) ?_;push_cast -dsimp
   exact ⟨_,[YY],0,⟨⟨rfl,rfl,rfl⟩,Nat.le_refl _⟩,[],rfl,rfl,by push_cast -dsimp [zb,za,CLe,zd],by push_cast -dsimp [zb,za,CLe,zd,e]⟩
  | true =>
   by_cases hk:(zf s.ino f.xs).kind=2
   ·have e:onL f fol lk [] s true=(s,0):=by unfold onL;rw[if_neg (fun h=>h.2.2 hk)]
    have hk':=eq_true hk
    refine foX (fun i=>if i=1 then jB 13 14 else []) Tryz.func113 ?_;dsimp only[Tryz.f113]
    push_cast -dsimp
    refine cl (hg) ?_;push_cast -dsimp [hk']
    exact ⟨_,[YY],0,⟨⟨rfl,rfl,rfl⟩,Nat.le_refl _⟩,[],rfl,rfl,by push_cast -dsimp [zb,za,CLe,zd],by push_cast -dsimp [zb,za,CLe,zd,e]⟩
   ·have e:onL f fol lk [] s true=(qL,3):=by unfold onL;rw[if_pos ⟨hh,rfl,hk⟩]
    have hk':=eq_false hk
    refine foX (fun i=>if i=1 then jB 13 14 else []) Tryz.func113 ?_;dsimp only[Tryz.f113]
    push_cast -dsimp
    refine cl (hg) ?_;push_cast -dsimp [hk']
    exact ⟨_,[YY],0,⟨⟨rfl,rfl,rfl⟩,Nat.le_refl _⟩,[],rfl,rfl,by push_cast -dsimp [zb,za,CLe,zd],by push_cast -dsimp [zb,za,CLe,zd,e,qL]⟩
theorem zdD (f:FsV) (hf:FsI f) (hr:FsR f) (hs:FsS f) (fol dir0:Bool) (todo0:Zu) (s0:zZ) (ht0:todo0.length<=2000) (hd:∀ x∈f.xs,x.kind=3->x.data.length<=1000) (hs0:s0.ino≠0->zt s0.ino f.xs=true) (R:zZ×Int) (hR:onN f fol 40 todo0 s0 dir0=R):Xc Tryz.prog G0 61 [.ptr 0 0] [zkC f fol dir0 todo0 s0 (0:Nat)] 0 (fun r bx m=>m=0/\r = .tup [.agg (XT R.1),.sc (.int .i64 R.2)]/\∃ X,bx = [YY]++X):=by
 refine foX (fun i=>if i=4 then jB 13 14 else []) Tryz.func61 ?_;dsimp only[Tryz.f61]
 push_cast -dsimp
 refine loop (fun p:Zu×zZ×Bool×Nat=>⟨[(0,.ptr 0 0),(2,.ptr 1 0)],[zkC f fol p.2.2.1 p.1 p.2.1 p.2.2.2,[.any,.any,.any]],0,0⟩)
  (fun p=>onN f fol (40-p.2.2.2) p.1 p.2.1 p.2.2.1=R/\p.2.2.2<=40/\p.1.length<=2000+p.2.2.2*1000/\(p.2.1.ino≠0->zt p.2.1.ino f.xs=true)) (fun p=>(41-p.2.2.2)*100000+p.1.length) (todo0,s0,dir0,0) ⟨hR,Nat.zero_le _,by dsimp only;omega,hs0⟩ ?_ ?_
 ·exact wk
 rintro ⟨todo,s,dir,n⟩ ⟨hon,hn,htl,hin⟩
 dsimp only at hon hn htl hin
 rw[Yz]at hon
 cases todo with
 | nil =>
  have he:=zju f hf hs fol dir [] s n (lkN f fol (40-n))
  rw[hon]at he
  push_cast -dsimp
  refine j7 [0] [] he rfl (by decide) (by decide) (by simp) (by push_cast -dsimp) rfl (fun r bx' m hp=>?_)
  obtain ⟨rfl,rfl,rfl⟩:=hp
  push_cast -dsimp
  exact ⟨_,[YY],0,⟨⟨rfl,rfl,[],rfl⟩,by simp⟩,[],rfl,rfl,by push_cast -dsimp [zb,za,CLe,zd],by push_cast -dsimp [zb,za,CLe,zd]⟩
 | cons nm rest =>
  have hg:=jH (G:=G0) f s.ino (by have:=hs.len;omega) hf.rises
  have hpos:((0:Int)<(rest.length:Int)+1)=True:=eq_true (by omega)
  have hrl:(zQ rest).length=rest.length:=List.length_map ..
  have hl1:((1:Int)<=(rest.length:Int)+1)=True:=eq_true (by omega)
  rw[List.length_cons]at htl
  unfold onL at hon
  cases hh:zt s.ino f.xs with
  | false =>
   have h0:s.ino=0:=Classical.byContradiction fun q=>by rw[hin q]at hh;cases hh
   rw[if_pos h0]at hon
   rw[hh]at hg
   rw[←hon]
   push_cast -dsimp [hpos,hl1]
   repeat refine an ?_
   refine cl (hg) ?_;push_cast -dsimp
   exact ⟨_,[YY],0,⟨⟨rfl,rfl,[],rfl⟩,by simp⟩,[],rfl,rfl,by push_cast -dsimp [zb,za,CLe,zd],by push_cast -dsimp [zb,za,CLe,zd,qL]⟩
  | true =>
   have hgs:=zh hh
   rw[if_neg (Ui hf hh)]at hon
   rw[hh]at hg
   by_cases hk2:(zf s.ino f.xs).kind=2
   case neg =>
    have hk2':=eq_false hk2
    rw[if_pos hk2]at hon
    rw[←hon]
    push_cast -dsimp [hpos,hl1]
    repeat refine an ?_
    refine cl (hg) ?_;push_cast -dsimp [hk2']
    exact ⟨_,[YY],0,⟨⟨rfl,rfl,[],rfl⟩,by simp⟩,[],rfl,rfl,by push_cast -dsimp [zb,za,CLe,zd],by push_cast -dsimp [zb,za,CLe,zd,qL]⟩
   have hk2':=eq_true hk2
   rw[if_neg (fun q=>q hk2)]at hon
   by_cases n1:nm = [46]
   ·have n1':=eq_true n1
    rw[if_pos n1]at hon
    push_cast -dsimp [hpos,hl1]
    repeat refine an ?_
    refine cl (hg) ?_;push_cast -dsimp [hk2',n1']
    exact ⟨(rest,⟨0,[],(zf s.ino f.xs).ino⟩,dir,n),⟨by dsimp only;rw[Yz];exact hon,hn,by dsimp only;omega,fun _=>by dsimp only;rw[hgs.2.2];exact hh⟩,by dsimp only;omega,wk⟩
   have n1':=eq_false n1
   rw[if_neg n1]at hon
   by_cases n2:nm = [46,46]
   ·have n2':=eq_true n2
    rw[if_pos n2]at hon
    push_cast -dsimp [hpos,hl1]
    repeat refine an ?_
    refine cl (hg) ?_;push_cast -dsimp [hk2',n1',n2']
    exact ⟨(rest,⟨0,[],(zf s.ino f.xs).parent⟩,dir,n),⟨by dsimp only;rw[Yz];exact hon,hn,by dsimp only;omega,fun _=>zfd hf hr hh hk2⟩,by dsimp only;omega,wk⟩
   have n2':=eq_false n2
   rw[if_neg n2]at hon
   have hfd:=MD (G:=G0) (zf s.ino f.xs).es nm (by have:=hs.es hh;omega) (hf.es _ hgs.2.1)
   have hg2:=jH (G:=G0) f (zM nm (zf s.ino f.xs).es) (by have:=hs.len;omega) hf.rises
   have hin2:zM nm (zf s.ino f.xs).es≠0->zt (zM nm (zf s.ino f.xs).es) f.xs=true:=fun q=>by
    have hx:Xv nm (zf s.ino f.xs).es=true:=by
     unfold Xv
     rw[qE]
     cases hq:jl zX.name nm (zf s.ino f.xs).es with
     | some e=>rfl
     | none=>unfold zM at q;rw[hq]at q;exact absurd rfl q
    exact HL hf hh hx
   by_cases hk3:(zf (zM nm (zf s.ino f.xs).es) f.xs).kind=3
   case neg =>
    have hk3':=eq_false hk3
    have hg1:((0:Int)<(rest.length:Int))=((0:Int)<(rest.length:Int)):=rfl
    rw[if_pos (.inr (.inl hk3))]at hon
    push_cast -dsimp [hpos,hl1,hk2',n1',n2',hk3']
    repeat refine an ?_
    refine cl (hg) ?_;push_cast -dsimp [hk2',n1',n2']
    refine cl (hfd) ?_;push_cast -dsimp
    refine cl (hg2) ?_;push_cast -dsimp [hk3',hrl]
    exact ⟨(rest,⟨(zf s.ino f.xs).ino,nm,zM nm (zf s.ino f.xs).es⟩,dir,n),⟨by dsimp only;rw[Yz];exact hon,hn,by dsimp only;omega,hin2⟩,by dsimp only;omega,wk⟩
   have hk3':=eq_true hk3
   have hx2:zt (zM nm (zf s.ino f.xs).es) f.xs=true:=by
    cases hq:zt (zM nm (zf s.ino f.xs).es) f.xs with
    | true=>rfl
    | false=>rw[(YD hq).2]at hk3;exact absurd hk3 (by decide)
   have hxe:Xv nm (zf s.ino f.xs).es=true:=by
    cases hq:Xv nm (zf s.ino f.xs).es with
    | true=>rfl
    | false =>
     have e0:zM nm (zf s.ino f.xs).es=0:=by
      unfold zM
      unfold Xv at hq
      rw[qE]at hq
      cases hz:jl zX.name nm (zf s.ino f.xs).es with
      | none=>rfl
      | some e=>rw[hz]at hq;cases hq
     rw[e0]at hx2
     exact absurd rfl (Ui hf hx2)
   have hxd:=hd _ (zh hx2).2.1 hk3
   by_cases hr0:rest = []
   ·have hg1:((0:Int)<(rest.length:Int))=False:=eq_false (by rw[hr0];simp)
    cases fol with
    | false =>
     cases dir with
     | false =>
      rw[if_pos (.inr (.inr ⟨hr0,rfl,rfl⟩))]at hon
      push_cast -dsimp [hpos,hl1,hk2',n1',n2',hk3',hg1]
      repeat refine an ?_
      refine cl (hg) ?_;push_cast -dsimp [hk2',n1',n2']
      refine cl (hfd) ?_;push_cast -dsimp
      refine cl (hg2) ?_;push_cast -dsimp [hk3',hrl,hg1]
      exact ⟨(rest,⟨(zf s.ino f.xs).ino,nm,zM nm (zf s.ino f.xs).es⟩,false,n),⟨by dsimp only;rw[Yz];exact hon,hn,by dsimp only;omega,hin2⟩,by dsimp only;omega,wk⟩
     | true =>
      rw[if_neg (by rintro (q | q | q);exact absurd (hxe.symm.trans q) (by simp);exact q hk3;cases q.2.2)]at hon
      have hlk:=HT f false true rest s n (zf (zM nm (zf s.ino f.xs).es) f.xs) (zf s.ino f.xs) (by omega) (by omega) hn
      push_cast -dsimp [hpos,hl1,hk2',n1',n2',hk3',hg1]
      repeat refine an ?_
      refine cl (hg) ?_;push_cast -dsimp [hk2',n1',n2']
      refine cl (hfd) ?_;push_cast -dsimp
      refine cl (hg2) ?_;push_cast -dsimp [hk3',hrl,hg1]
      refine j7 [0] [] hlk rfl (by decide) (by decide) (by simp) (by push_cast -dsimp) (by push_cast -dsimp) (fun r bx' m hp=>?_)
      obtain ⟨rfl,⟨q1,rfl,rfl⟩ | ⟨q1,q2,rfl,rfl⟩ | ⟨q1,q2,rfl,rfl⟩⟩:=hp
      ·push_cast -dsimp
       have hk0:40-n=0:=by omega
       rw[hk0]at hon
       have hon:(qL,(6:Int))=R:=hon
       rw[←hon]
       exact ⟨_,[YY],0,⟨⟨rfl,rfl,[],rfl⟩,by simp⟩,[],rfl,rfl,by push_cast -dsimp [zb,za,CLe,zd],by push_cast -dsimp [zb,za,CLe,zd,qL]⟩
      ·push_cast -dsimp
       have hk0:40-n=(39-n)+1:=by omega
       rw[hk0,Jy,if_pos q2]at hon
       rw[←hon]
       exact ⟨_,[YY],0,⟨⟨rfl,rfl,[],rfl⟩,by simp⟩,[],rfl,rfl,by push_cast -dsimp [zb,za,CLe,zd],by push_cast -dsimp [zb,za,CLe,zd,qL]⟩
      ·push_cast -dsimp
       have hk0:40-n=(39-n)+1:=by omega
       have hk1:40-(n+1)=39-n:=by omega
       rw[hk0,Jy,if_neg (by rw[q2];simp)]at hon
       have hnl:=qo (zf (zM nm (zf s.ino f.xs).es) f.xs).data
       exact ⟨(zk (zf (zM nm (zf s.ino f.xs).es) f.xs).data++rest,⟨0,[],if QS (zf (zM nm (zf s.ino f.xs).es) f.xs).data then 1 else (zf s.ino f.xs).ino⟩,true||(qQ (zf (zM nm (zf s.ino f.xs).es) f.xs).data&&decide (rest = [])),n+1),⟨by dsimp only;rw[hk1];exact hon,by dsimp only;omega,by dsimp only;rw[List.length_append];omega,fun _=>by
        dsimp only
        split
        ·exact hf.root
        ·rw[hgs.2.2];exact hh⟩,by dsimp only;rw[List.length_append];omega,wk⟩
    | true =>
     rw[if_neg (by rintro (q | q | q);exact absurd (hxe.symm.trans q) (by simp);exact q hk3;cases q.2.1)]at hon
     have hlk:=HT f true dir rest s n (zf (zM nm (zf s.ino f.xs).es) f.xs) (zf s.ino f.xs) (by omega) (by omega) hn
     push_cast -dsimp [hpos,hl1,hk2',n1',n2',hk3',hg1]
     repeat refine an ?_
     refine cl (hg) ?_;push_cast -dsimp [hk2',n1',n2']
     refine cl (hfd) ?_;push_cast -dsimp
     refine cl (hg2) ?_;push_cast -dsimp [hk3',hrl,hg1]
     refine j7 [0] [] hlk rfl (by decide) (by decide) (by simp) (by push_cast -dsimp) (by push_cast -dsimp) (fun r bx' m hp=>?_)
     obtain ⟨rfl,⟨q1,rfl,rfl⟩ | ⟨q1,q2,rfl,rfl⟩ | ⟨q1,q2,rfl,rfl⟩⟩:=hp
     ·push_cast -dsimp
      have hk0:40-n=0:=by omega
      rw[hk0]at hon
      have hon:(qL,(6:Int))=R:=hon
      rw[←hon]
      exact ⟨_,[YY],0,⟨⟨rfl,rfl,[],rfl⟩,by simp⟩,[],rfl,rfl,by push_cast -dsimp [zb,za,CLe,zd],by push_cast -dsimp [zb,za,CLe,zd,qL]⟩
     ·push_cast -dsimp
      have hk0:40-n=(39-n)+1:=by omega
      rw[hk0,Jy,if_pos q2]at hon
      rw[←hon]
      exact ⟨_,[YY],0,⟨⟨rfl,rfl,[],rfl⟩,by simp⟩,[],rfl,rfl,by push_cast -dsimp [zb,za,CLe,zd],by push_cast -dsimp [zb,za,CLe,zd,qL]⟩
     ·push_cast -dsimp
      have hk0:40-n=(39-n)+1:=by omega
      have hk1:40-(n+1)=39-n:=by omega
      rw[hk0,Jy,if_neg (by rw[q2];simp)]at hon
      have hnl:=qo (zf (zM nm (zf s.ino f.xs).es) f.xs).data
      exact ⟨(zk (zf (zM nm (zf s.ino f.xs).es) f.xs).data++rest,⟨0,[],if QS (zf (zM nm (zf s.ino f.xs).es) f.xs).data then 1 else (zf s.ino f.xs).ino⟩,dir||(qQ (zf (zM nm (zf s.ino f.xs).es) f.xs).data&&decide (rest = [])),n+1),⟨by dsimp only;rw[hk1];exact hon,by dsimp only;omega,by dsimp only;rw[List.length_append];omega,fun _=>by
       dsimp only
       split
       ·exact hf.root
       ·rw[hgs.2.2];exact hh⟩,by dsimp only;rw[List.length_append];omega,wk⟩
   ·have hg1:((0:Int)<(rest.length:Int))=True:=eq_true (by have:=List.length_pos_iff.2 hr0;omega)
    rw[if_neg (by rintro (q | q | q);exact absurd (hxe.symm.trans q) (by simp);exact q hk3;exact hr0 q.1)]at hon
    have hlk:=HT f fol dir rest s n (zf (zM nm (zf s.ino f.xs).es) f.xs) (zf s.ino f.xs) (by omega) (by omega) hn
    push_cast -dsimp [hpos,hl1,hk2',n1',n2',hk3',hg1]
    repeat refine an ?_
    refine cl (hg) ?_;push_cast -dsimp [hk2',n1',n2']
    refine cl (hfd) ?_;push_cast -dsimp
    refine cl (hg2) ?_;push_cast -dsimp [hk3',hrl,hg1]
    refine j7 [0] [] hlk rfl (by decide) (by decide) (by simp) (by push_cast -dsimp) (by push_cast -dsimp) (fun r bx' m hp=>?_)
    obtain ⟨rfl,⟨q1,rfl,rfl⟩ | ⟨q1,q2,rfl,rfl⟩ | ⟨q1,q2,rfl,rfl⟩⟩:=hp
    ·push_cast -dsimp
     have hk0:40-n=0:=by omega
     rw[hk0]at hon
     have hon:(qL,(6:Int))=R:=hon
     rw[←hon]
     exact ⟨_,[YY],0,⟨⟨rfl,rfl,[],rfl⟩,by simp⟩,[],rfl,rfl,by push_cast -dsimp [zb,za,CLe,zd],by push_cast -dsimp [zb,za,CLe,zd,qL]⟩
    ·push_cast -dsimp
     have hk0:40-n=(39-n)+1:=by omega
     rw[hk0,Jy,if_pos q2]at hon
     rw[←hon]
     exact ⟨_,[YY],0,⟨⟨rfl,rfl,[],rfl⟩,by simp⟩,[],rfl,rfl,by push_cast -dsimp [zb,za,CLe,zd],by push_cast -dsimp [zb,za,CLe,zd,qL]⟩
    ·push_cast -dsimp
     have hk0:40-n=(39-n)+1:=by omega
     have hk1:40-(n+1)=39-n:=by omega
     rw[hk0,Jy,if_neg (by rw[q2];simp)]at hon
     have hnl:=qo (zf (zM nm (zf s.ino f.xs).es) f.xs).data
     exact ⟨(zk (zf (zM nm (zf s.ino f.xs).es) f.xs).data++rest,⟨0,[],if QS (zf (zM nm (zf s.ino f.xs).es) f.xs).data then 1 else (zf s.ino f.xs).ino⟩,dir||(qQ (zf (zM nm (zf s.ino f.xs).es) f.xs).data&&decide (rest = [])),n+1),⟨by dsimp only;rw[hk1];exact hon,by dsimp only;omega,by dsimp only;rw[List.length_append];omega,fun _=>by
      dsimp only
      split
      ·exact hf.root
      ·rw[hgs.2.2];exact hh⟩,by dsimp only;rw[List.length_append];omega,wk⟩
end
section
open CA CB
open Go.RowKit
theorem Nf (f:FsV) (hf:FsI f) (hr:FsR f) (hs:FsS f) (hd:∀ x∈f.xs,x.kind=3->x.data.length<=1000) (b p:List UInt8) (fol:Bool) (hb:b.length<=100000) (hp:p.length<=2000):Fun Tryz.prog G0 30 [.agg (fsC f),.str b,.str p,.sc (.bool fol)] (.tup [.agg (XT (z7 f b p fol).1),.sc (.int .i64 (z7 f b p fol).2)]) 0:=by
 have hlo:=v8 p (by omega)
 have hns:=qo p
 have bad:∀ e:Int,e≠0->z7 f b p fol=(qL,e)->Fun Tryz.prog G0 60 [.agg (fsC f),.str b,.str p,.sc (.bool fol)] (.tup [.any,.sc (.int .i64 e)]) 0->Fun Tryz.prog G0 30 [.agg (fsC f),.str b,.str p,.sc (.bool fol)] (.tup [.agg (XT (z7 f b p fol).1),.sc (.int .i64 (z7 f b p fol).2)]) 0:=fun e he hv hb=>by
  refine fon Tryz.func30 ?_;dsimp only[Tryz.f30]
  push_cast -dsimp
  refine cl (hb) ?_;push_cast -dsimp [he]
  exact dn (by push_cast -dsimp [zb,za,CLe,zd,hv,qL])
 by_cases h1:p = []
 ·subst h1
  refine bad 1 (by decide) (by unfold z7;rw[if_pos rfl]) ?_
  refine fon Tryz.func60 ?_;dsimp only[Tryz.f60]
  push_cast -dsimp
  exact dn (by push_cast -dsimp [zb,za,CLe,zd])
 have h1':=eq_false h1
 cases h2:Qi p with
 | true =>
  rw[h2]at hlo
  refine bad 7 (by decide) (by unfold z7;rw[if_neg h1,if_pos h2]) ?_
  refine fon Tryz.func60 ?_;dsimp only[Tryz.f60]
  push_cast -dsimp [h1']
  refine cl (hlo) ?_;push_cast -dsimp
  exact dn (by push_cast -dsimp [zb,za,CLe,zd])
 | false =>
 rw[h2]at hlo
 have hre:Fun Tryz.prog G0 63 [.str p] (.agg [qt (QS p),.own 0 9 1 (zQ (zk p)),qt (qQ p)]) 1:=Zk p (by omega)
 have good:∀ h:Int,z7 f b p fol=onN f fol 40 (zk p) ⟨0,[],h⟩ (qQ p)->(h≠0->zt h f.xs=true)->Xc Tryz.prog G0 60 [.agg (fsC f),.str b,.str p,.sc (.bool fol)] [] 0 (fun r bx m=>m=0/\r = .tup [.ptr 2 0,.sc (.int .i64 0)]/\bx = [[.any,.any,.any,.any],[.any,.any,.any],zkC f fol (qQ p) (zk p) ⟨0,[],h⟩ (0:Nat)])->Fun Tryz.prog G0 30 [.agg (fsC f),.str b,.str p,.sc (.bool fol)] (.tup [.agg (XT (z7 f b p fol).1),.sc (.int .i64 (z7 f b p fol).2)]) 0:=fun h hv hh hbg=>by
  have hgo:=zdD f hf hr hs fol (qQ p) (zk p) ⟨0,[],h⟩ (by omega) hd hh _ hv.symm
  refine fon Tryz.func30 ?_;dsimp only[Tryz.f30]
  push_cast -dsimp
  refine j7 [] [] hbg rfl (by decide) (by decide) (by simp) (by push_cast -dsimp) rfl (fun r bx' m hp=>?_)
  obtain ⟨rfl,rfl,rfl⟩:=hp
  push_cast -dsimp
  refine j7 [4] [] hgo rfl (by decide) (by decide) (by simp) (by push_cast -dsimp) rfl (fun r bx' m hp=>?_)
  obtain ⟨rfl,rfl,X,rfl⟩:=hp
  push_cast -dsimp
  exact dn (by push_cast -dsimp [zb,za,CLe,zd])
 cases h3:QS p with
 | true =>
  rw[h3]at hre
  refine good 1 (by unfold z7;rw[if_neg h1,if_neg (by rw[h2];decide),if_pos h3]) (fun _=>hf.root) ?_
  refine foX (fun _=>[]) Tryz.func60 ?_;dsimp only[Tryz.f60]
  push_cast -dsimp [h1']
  refine cl (hlo) ?_;push_cast -dsimp
  refine cl (hre) ?_;push_cast -dsimp
  exact ⟨_,[_,_,_],0,⟨⟨rfl,rfl,rfl⟩,Nat.zero_le _⟩,[],rfl,rfl,by push_cast -dsimp [zb,za,CLe,zd],by push_cast -dsimp [zb,za,CLe,zd]⟩
 | false =>
  rw[h3]at hre
  have hh:=zel f hf hs b hb
  by_cases h4:(Xn f b).2=0
  ·rw[h4]at hh
   refine good (Xn f b).1 (by unfold z7;rw[if_neg h1,if_neg (by rw[h2];decide),if_neg (by rw[h3];decide),if_neg (fun q=>q h4)]) (fun hne=>?_) ?_
   ·unfold Xn at hne h4 ⊢
    split at hne
    ·exact absurd rfl hne
    rename_i c1
    rw[if_neg c1]at h4 ⊢
    split at hne
    ·exact absurd rfl hne
    rename_i c2
    rw[if_neg c2]at h4 ⊢
    split at hne
    ·exact absurd rfl hne
    rename_i c3
    rw[if_neg c3]
    have q:=uJ (Classical.not_not.1 c3)
    rw[(zh q).2.2]
    exact q
   ·refine foX (fun _=>[]) Tryz.func60 ?_;dsimp only[Tryz.f60]
    push_cast -dsimp [h1']
    refine cl (hlo) ?_;push_cast -dsimp
    refine cl (hre) ?_;push_cast -dsimp
    refine cl (hh) ?_;push_cast -dsimp
    exact ⟨_,[_,_,_],0,⟨⟨rfl,rfl,rfl⟩,Nat.zero_le _⟩,[],rfl,rfl,by push_cast -dsimp [zb,za,CLe,zd],by push_cast -dsimp [zb,za,CLe,zd]⟩
  ·refine bad _ h4 (by unfold z7;rw[if_neg h1,if_neg (by rw[h2];decide),if_neg (by rw[h3];decide),if_pos h4]) ?_
   refine fon Tryz.func60 ?_;dsimp only[Tryz.f60]
   push_cast -dsimp [h1']
   refine cl (hlo) ?_;push_cast -dsimp
   refine cl (hre) ?_;push_cast -dsimp
   refine cl (hh) ?_;push_cast -dsimp [h4]
   exact dn (by push_cast -dsimp [zb,za,CLe,zd])
end
section
open CA CB
open Go.RowKit
theorem RmB.s {d:zD} (h:RmB 2000 d):zkt d:=by
 have hr:=zkP h.wi.fs
 have hn:=h.next
 exact ⟨h.wi,⟨⟨by have:=h.len;omega,fun x hx=>by obtain ⟨q1,q2,q3⟩:=h.node x hx;exact ⟨by omega,by omega,fun e he=>by have:=q3 e he;omega⟩⟩,⟨by omega,by omega⟩,by have:=h.kept;omega,by have:=h.pool;omega⟩,by have:=h.ops;omega,h.diags,h.slot.1,by have:=h.slot.2;have:=h.kept;omega⟩
theorem Ge {n:Int} {xs:List zn} (h:zt n xs=false):zf n xs=vh:=by unfold zf;rw[(YD h).1];rfl
theorem Vk (m:Nat) (d:zD) (p:List UInt8) (n:Int) (hB:RmB 2000 d) (hp:p.length<=60000) (ih:∀ e∈(zf n d.w.fs.xs).es,∀ (q:zD) (x:List UInt8),RmB 2000 q->G6 d.w.fs q.w.fs->x.length<=p.length+301->Fun Tryz.prog GD 35 [kI q,.str x,.sc (.int .i64 e.ino)] (kI (rmD m q x e.ino)) 0):Fun Tryz.prog GD 35 [kI d,.str p,.sc (.int .i64 n)] (kI (rmD (m+1) d p n)) 0:=by
 have hs:=hB.s
 have hg:=jH (G:=GD) d.w.fs n (by have:=hs.ws.fs.len;omega) hB.wi.fs.rises
 have hnm:(zf n d.w.fs.xs).es.length<=40/\∀ e∈(zf n d.w.fs.xs).es,e.name.length<=300:=by
  cases hh:zt n d.w.fs.xs with
  | false=>rw[Ge hh];exact ⟨Nat.zero_le _,fun e he=>by cases he⟩
  | true=>have q:=hB.node _ (zh hh).2.1;exact ⟨q.1,q.2.2⟩
 have e:rmD (m+1) d p n=(YV ((zf n d.w.fs.xs).es.foldl (fun d e=>rmD m d (jg p e.name) e.ino) d) (YI p)).1:=rfl
 rw[e]
 refine fof (fun i=>if i=1 then jB 7 8 else if i=5 then [false,false,false,false,false,false,false,false,true] else if i=7 then [false,false,false,false,false,false,false,true] else []) Tryz.func35 ?_;dsimp only[Tryz.f35]
 push_cast -dsimp
 refine cl (hg) ?_;push_cast -dsimp
 generalize (zf n d.w.fs.xs).es=L at *
 have hLl:(zW L).length=L.length:=List.length_map ..
 refine loop (fun i:Nat=>⟨[(1,.str p),(3,.ptr 0 0),(6,.ptr 1 0),(20,.sl 2 (zW L)),(21,.sc (.int .i64 L.length)),(22,.sc (.int .i64 i))],[znl ((L.take i).foldl (fun d e=>rmD m d (jg p e.name) e.ino) d),kX],0,0⟩) (fun i=>i<=L.length/\RmB 2000 ((L.take i).foldl (fun d e=>rmD m d (jg p e.name) e.ino) d)/\G6 d.w.fs ((L.take i).foldl (fun d e=>rmD m d (jg p e.name) e.ino) d).w.fs) (fun i=>L.length-i) 0 ⟨Nat.zero_le _,hB,.refl _⟩ ?_ ?_
 ·exact wk (h4:=by push_cast -dsimp [zb,za,CLe,zd,hLl]) (h5:=by push_cast -dsimp [zb,za,CLe,zd,List.take_zero,List.foldl_nil])
 rintro i ⟨h1,h2,h3⟩
 by_cases hi:i<L.length
 ·have hi':=eq_true (show (i:Int)<L.length by omega)
  have ht:L.take (i+1)=L.take i++[L[i]]:=List.take_succ_eq_append_getElem hi
  have hgi:(zW L)[i]?=some [.str L[i].name,.sc (.int .i64 L[i].ino)]:=by simp[zW,hi]
  have hme:=List.getElem_mem hi
  have hn3:=hnm.2 _ hme
  have hn4:=hnm.1
  have hj:=(zgN p L[i].name (by omega) (by omega)).g0 (G':=GD)
  have hjl:(jg p L[i].name).length<=p.length+301:=by unfold jg;split<;>simp<;>omega
  have hr:=ih _ hme _ (jg p L[i].name) h2 h3 hjl
  have hq:=zac (P:=fun q=>RmB 2000 q/\G6 d.w.fs q.w.fs) (fun q p hq=>⟨(hq.1.add p).1,hq.2.trans (hq.1.add p).2⟩) m _ (jg p L[i].name) L[i].ino ⟨h2,h3⟩
  have hf:(L.take (i+1)).foldl (fun d e=>rmD m d (jg p e.name) e.ino) d=rmD m ((L.take i).foldl (fun d e=>rmD m d (jg p e.name) e.ino) d) (jg p L[i].name) L[i].ino:=by rw[ht,List.foldl_append];rfl
  rw[←hf]at hr hq
  push_cast -dsimp [hi',hgi,hLl,Int.toNat_natCast]
  repeat refine an ?_
  refine cl (hj) ?_;push_cast -dsimp
  refine cl (hr) ?_;push_cast -dsimp
  repeat refine an ?_
  exact ⟨i+1,⟨by omega,hq.1,hq.2⟩,by omega,wk⟩
 ·have hil:i=L.length:=by omega
  subst hil
  rw[List.take_length]at h2 ⊢
  have hi':=eq_false (show ¬(L.length:Int)<L.length by omega)
  have ha:=zo9 _ h2.s p (by omega)
  push_cast -dsimp [hi']
  refine cl (ha) ?_;push_cast -dsimp
  exact dn (by push_cast -dsimp [zb,za,CLe,zd])
theorem Ub:∀ (m:Nat) (d:zD) (p:List UInt8) (n:Int),RmB 2000 d->p.length+m*302<=60000->low d.w.fs.xs m n->Fun Tryz.prog GD 35 [kI d,.str p,.sc (.int .i64 n)] (kI (rmD (m+1) d p n)) 0
 | 0,d,p,n,hB,hp,hl=>Vk 0 d p n hB (by omega) fun e he=>by
  have hl:(zf n d.w.fs.xs).es = []:=hl
  rw[hl]at he;cases he
 | m+1,d,p,n,hB,hp,hl=>Vk (m+1) d p n hB (by omega) fun e he q x hq hL hx=>Ub m q x e.ino hq (by omega) (hL.low (hl e he))
theorem zib (p:List UInt8) (hp:p.length<=2000):Fun Tryz.prog G0 62 [.str p] (.str (VZ p)) 0:=by
 have hns:=qo p
 have hre:Fun Tryz.prog G0 63 [.str p] (.agg [qt (QS p),.own 0 9 1 (zQ (zk p)),qt (qQ p)]) 1:=Zk p (by omega)
 by_cases h:zk p = []
 ·have e:VZ p=p:=if_pos h
  rw[h]at hre
  refine fon Tryz.func62 ?_;dsimp only[Tryz.f62]
  push_cast -dsimp
  refine cl (hre) ?_;push_cast -dsimp
  exact dn (by push_cast -dsimp [zb,za,CLe,zd,e])
 ·have e:VZ p=put (QS p) (zk p) false:=if_neg h
  have hl:(((zk p).length:Int)=0)=False:=eq_false (by have:=List.length_pos_iff.2 h;omega)
  have hsl:(zQ (zk p)).length=(zk p).length:=List.length_map ..
  have hpu:=zla (QS p) (zk p) false (by omega) (by have:=QD p;have:=Ha h;omega)
  refine fon Tryz.func62 ?_;dsimp only[Tryz.f62]
  push_cast -dsimp
  refine cl (hre) ?_;push_cast -dsimp [hl,hsl]
  refine cl (hpu) ?_;push_cast -dsimp
  exact dn (by push_cast -dsimp [zb,za,CLe,zd,e])
end
section
open CA CB
open Go.RowKit QuotePlain
abbrev u8C (b:UInt8):C:=.sc (.int .u8 (b.toNat:Int))
theorem G3 (l:List UInt8) (c:UInt8):(Lib.indexByte l c<0)↔c∉l:=by
 constructor
 ·intro h hc
  have h1:=Lib.indexByte_ge l c
  obtain ⟨k,hk,e⟩:=List.getElem_of_mem hc
  exact Lib.indexByte_none (show Lib.indexByte l c = -1 by omega) k (by rw[List.getElem?_eq_getElem hk,e])
 ·intro h
  rcases Int.lt_or_le (Lib.indexByte l c) 0 with h1 | h1
  ·exact h1
  ·obtain ⟨o,ho⟩:∃ o:Nat,Lib.indexByte l c=o:=⟨(Lib.indexByte l c).toNat,by omega⟩
   obtain ⟨h2,_⟩:=Lib.indexByte_some ho
   exact absurd (List.mem_of_getElem? h2) h
theorem UL (s:List UInt8) (c:UInt8) (hs:s.length<=1000000):Fun Tryz.prog G0 55 [.str s,u8C c] (.sc (.bool (decide (c∈s)))) 0:=by
 refine fon Tryz.func55 ?_;dsimp only[Tryz.f55]
 push_cast -dsimp
 refine loop (fun k:Nat=>⟨[(0,.str s),(1,u8C c),(5,.sc (.int .i64 k))],[],0,0⟩) (fun k=>k<=s.length/\c∉s.take k) (fun k=>s.length-k) 0 ⟨Nat.zero_le _,by simp⟩ ?_ ?_
 ·exact wk
 ·rintro k ⟨hk,hn⟩
  push_cast -dsimp
  refine br (fun h=>?_) (fun h=>?_)
  ·have hk2:k<s.length:=by simp at h;omega
   have hg:s[k]?=some s[k]:=List.getElem?_eq_getElem hk2
   push_cast -dsimp [hg]
   refine ⟨by omega,br (fun h2=>?_) (fun h2=>?_)⟩
   ·push_cast -dsimp
    have h3:s[k]=c:=by simp at h2;exact UInt8.toNat_inj.1 (by omega)
    have h4:c∈s:=h3▸List.getElem_mem hk2
    exact dn (by push_cast -dsimp [zb,za,CLe,zd,h4])
   ·push_cast -dsimp
    have h3:¬c=s[k]:=fun e=>by subst e;simp at h2
    refine ⟨by omega,k+1,⟨by omega,?_⟩,by omega,wk⟩
    intro h4
    rw[List.take_add_one,hg]at h4
    rcases List.mem_append.1 h4 with h5 | h5
    ·exact hn h5
    ·simp at h5;exact h3 h5
  ·have hk2:k=s.length:=by simp at h;omega
   subst hk2
   rw[List.take_length]at hn
   push_cast -dsimp
   exact dn (by push_cast -dsimp [zb,za,CLe,zd,hn])
theorem yw (k:Int) (o:List UInt8) (ops:C) (c:UInt8) (hops:ops.cellB=true):Fun Tryz.prog G0 32 [.agg [.sc (.int .i64 k),.str o,ops],u8C c] (.sc (.bool (decide (c∈o)))) 0:=by
 refine fon Tryz.func32 ?_;dsimp only[Tryz.f32]
 push_cast -dsimp [hops]
 refine cl (QR o c) ?_;push_cast -dsimp
 have e:decide (0<=Lib.indexByte o c)=decide (c∈o):=by
  have:=G3 o c
  by_cases h:c∈o
  ·have h2:¬Lib.indexByte o c<0:=fun h3=>this.1 h3 h
   simp[h];omega
  ·have h2:=this.2 h
   simp[h];omega
 exact dn (by push_cast -dsimp [zb,za,CLe,zd,e])
theorem zq3 (c d:UInt8):((c.toNat:Int)=(d.toNat:Int))=(c=d):=by
 refine propext ⟨fun h=>UInt8.toNat_inj.1 (by omega),fun h=>by rw[h]⟩
def XJ (s p:List UInt8):UInt8:=s.foldl (fun c b=>if b∈p then b else c) 0
theorem Hb (s p:List UInt8) (i:Nat) (hi:i<s.length):XJ (s.take (i+1)) p=if s[i]∈p then s[i] else XJ (s.take i) p:=by
 unfold XJ
 rw[List.take_add_one,List.getElem?_eq_getElem hi,List.foldl_append]
 simp
theorem xi (s p:List UInt8) (hs:s.length<=1000000) (hp:p.length<=1000000):Fun Tryz.prog G0 99 [.str s,.str p] (u8C (XJ s p)) 0:=by
 refine fon Tryz.func99 ?_;dsimp only[Tryz.f99]
 push_cast -dsimp
 refine loop (fun k:Nat=>⟨[(0,.str s),(1,.str p),(5,u8C (XJ (s.take k) p)),(6,.sc (.int .i64 k))],[],0,0⟩) (fun k=>k<=s.length) (fun k=>s.length-k) 0 (Nat.zero_le _) ?_ ?_
 ·exact Ji.mk [] rfl rfl (Nat.le_refl _) rfl (by push_cast -dsimp [zb,za,CLe,zd]<;>rfl) (by push_cast -dsimp [zb,za,CLe,zd])
 ·rintro k hk
  push_cast -dsimp
  refine br (fun h=>?_) (fun h=>?_)
  ·have hk2:k<s.length:=by simp at h;omega
   have hg:s[k]?=some s[k]:=List.getElem?_eq_getElem hk2
   push_cast -dsimp [hg]
   refine ⟨by omega,?_⟩
   refine cl (UL p s[k] hp) ?_;push_cast -dsimp
   refine br (fun h2=>?_) (fun h2=>?_)
   ·push_cast -dsimp [hg]
    have e:XJ (s.take (k+1)) p=s[k]:=by rw[Hb s p k hk2,if_pos (by simpa using h2)]
    refine ⟨by omega,by omega,k+1,by omega,by omega,wk (by push_cast -dsimp [zb,za,CLe,zd,e])⟩
   ·push_cast -dsimp [hg]
    have e:XJ (s.take (k+1)) p=XJ (s.take k) p:=by rw[Hb s p k hk2,if_neg (by simpa using h2)]
    refine ⟨by omega,k+1,by omega,by omega,wk (by push_cast -dsimp [zb,za,CLe,zd,e])⟩
  ·have hk2:k=s.length:=by simp at h;omega
   subst hk2
   rw[List.take_length]
   push_cast -dsimp
   exact dn
def isO (k:Int) (s:List UInt8) (x:UInt8):Bool:=if 4<=k/\(x=102∨x=110) then decide (XJ s [102,110]=x) else if x=114 then decide (114∈s∨82∈s) else if x=82 then false else decide (x∈s)
def Yo (k:Int) (s:List UInt8) (n:Nat):List UInt8:=((List.range' 65 n).map UInt8.ofNat).filter (isO k s)
theorem xH (k:Int) (s:List UInt8) (hs:s.length<=1000000):Fun Tryz.prog G0 54 [.sc (.int .i64 k),.str s] (.str (Yo k s 58)) 0:=by
 refine fon Tryz.func54 ?_;dsimp only[Tryz.f54]
 push_cast -dsimp
 refine loop (fun j:Nat=>⟨[(0,.sc (.int .i64 k)),(1,.str s),(5,.str (Yo k s j)),(6,.sc (.int .i64 (65+j)))],[],0,0⟩) (fun j=>j<=58) (fun j=>58-j) 0 (Nat.zero_le _) ?_ ?_
 ·exact Ji.mk [] rfl rfl (Nat.le_refl _) rfl (by push_cast -dsimp [zb,za,CLe,zd]<;>rfl) (by push_cast -dsimp [zb,za,CLe,zd])
 ·rintro j hj
  push_cast -dsimp
  refine br (fun h=>?_) (fun h=>?_)
  ·have hj2:j<58:=by simp at h;omega
   obtain ⟨x,hxe,hx⟩:∃ x:UInt8,UInt8.ofNat (65+j)=x/\(65+(j:Int))=(x.toNat:Int):=⟨_,rfl,by rw[UInt8.toNat_ofNat_of_lt' (by show 65+j<256;omega)];omega⟩
   have hx1:65+((j:Int)+1)=(x.toNat:Int)+1:=by omega
   have hxb:(x.toNat:Int)<123:=by omega
   have hstep:Yo k s (j+1)=Yo k s j++if isO k s x then [x] else []:=by
    unfold Yo
    rw[List.range'_concat,List.map_append,List.filter_append]
    simp only[List.map_cons,List.map_nil,Nat.one_mul,hxe,List.filter_cons,List.filter_nil]
   have hlo:(Yo k s j).length<=j:=Nat.le_trans (List.length_filter_le _ _) (by simp)
   have hI:∀ (n:Nat) (d:UInt8),d.toNat=n->((x.toNat:Int)=(n:Int))=(x=d):=fun n d h=>h▸zq3 x d
   have hcase:(x=82)∨(x=114)∨(x≠82/\x≠114/\¬4<=k)∨(x=102/\4<=k)∨(x=110/\4<=k)∨(x≠82/\x≠114/\4<=k/\x≠102/\x≠110):=by
    by_cases h1:x=82
    ·exact .inl h1
    ·by_cases h2:x=114
     ·exact .inr (.inl h2)
     ·by_cases h3:4<=k
      ·by_cases h4:x=102
       ·exact .inr (.inr (.inr (.inl ⟨h4,h3⟩)))
       ·by_cases h5:x=110
        ·exact .inr (.inr (.inr (.inr (.inl ⟨h5,h3⟩))))
        ·exact .inr (.inr (.inr (.inr (.inr ⟨h1,h2,h3,h4,h5⟩))))
      ·exact .inr (.inr (.inl ⟨h1,h2,h3⟩))
   clear hxe
   rw[hx]
   push_cast -dsimp
   refine ⟨by omega,?_⟩
   refine cl (UL s x hs) ?_;push_cast -dsimp
   rcases hcase with hc | hc | hc | hc | hc | hc
   ·have f0:isO k s x=false:=by simp[isO,hc]
    have e:Yo k s (j+1)=Yo k s j:=by rw[hstep,f0];simp
    have f1:((x.toNat:Int)=82)=True:=(hI 82 82 rfl).trans (by simp[hc])
    have f2:((x.toNat:Int)=114)=False:=(hI 114 114 rfl).trans (by simp[hc])
    have f3:((x.toNat:Int)=102)=False:=(hI 102 102 rfl).trans (by simp[hc])
    have f4:((x.toNat:Int)=110)=False:=(hI 110 110 rfl).trans (by simp[hc])
    by_cases h4:4<=k
    all_goals
     push_cast -dsimp [f1,f2,f3,f4,h4]
     repeat (refine And.intro (by omega) ?_)
     refine ⟨j+1,by omega,by omega,wk (by push_cast -dsimp [zb,za,CLe,zd,e,hx1])⟩
   ·have f0:isO k s x=decide (114∈s∨82∈s):=by simp[isO,hc]
    have f1:((x.toNat:Int)=82)=False:=(hI 82 82 rfl).trans (by simp[hc])
    have f2:((x.toNat:Int)=114)=True:=(hI 114 114 rfl).trans (by simp[hc])
    have f3:((x.toNat:Int)=102)=False:=(hI 102 102 rfl).trans (by simp[hc])
    have f4:((x.toNat:Int)=110)=False:=(hI 110 110 rfl).trans (by simp[hc])
    push_cast -dsimp [f1,f2,f3,f4]
    refine cl (UL s 114 hs) ?_;push_cast -dsimp
    by_cases h6:114∈s
    ·push_cast -dsimp [h6]
     have e:Yo k s (j+1)=Yo k s j++[x]:=by rw[hstep,f0];simp[h6]
     by_cases h4:4<=k
     all_goals
      push_cast -dsimp [f1,f2,f3,f4,h4]
      refine ⟨[x],rfl,?_⟩
      push_cast -dsimp
      repeat (refine And.intro (by omega) ?_)
      refine ⟨j+1,by omega,by omega,wk (by push_cast -dsimp [zb,za,CLe,zd,e,hx1])⟩
    ·push_cast -dsimp [h6]
     refine cl (UL s 82 hs) ?_;push_cast -dsimp
     by_cases h7:82∈s
     ·have e:Yo k s (j+1)=Yo k s j++[x]:=by rw[hstep,f0];simp[h7]
      by_cases h4:4<=k
      all_goals
       push_cast -dsimp [f1,f2,f3,f4,h4,h7]
       refine ⟨[x],rfl,?_⟩
       push_cast -dsimp
       repeat (refine And.intro (by omega) ?_)
       refine ⟨j+1,by omega,by omega,wk (by push_cast -dsimp [zb,za,CLe,zd,e,hx1])⟩
     ·have e:Yo k s (j+1)=Yo k s j:=by rw[hstep,f0];simp[h6,h7]
      by_cases h4:4<=k
      all_goals
       push_cast -dsimp [f1,f2,f3,f4,h4,h7]
       repeat (refine And.intro (by omega) ?_)
       refine ⟨j+1,by omega,by omega,wk (by push_cast -dsimp [zb,za,CLe,zd,e,hx1])⟩
   ·have f0:isO k s x=decide (x∈s):=by simp[isO,hc]
    have h4:¬4<=k:=hc.2.2
    have f1:((x.toNat:Int)=82)=False:=(hI 82 82 rfl).trans (by simp[hc])
    have f2:((x.toNat:Int)=114)=False:=(hI 114 114 rfl).trans (by simp[hc])
    by_cases h6:x∈s
    ·have e:Yo k s (j+1)=Yo k s j++[x]:=by rw[hstep,f0];simp[h6]
     push_cast -dsimp [f1,f2,h4,h6]
     refine ⟨[x],rfl,?_⟩
     push_cast -dsimp
     repeat (refine And.intro (by omega) ?_)
     refine ⟨j+1,by omega,by omega,wk (by push_cast -dsimp [zb,za,CLe,zd,e,hx1])⟩
    ·have e:Yo k s (j+1)=Yo k s j:=by rw[hstep,f0];simp[h6]
     push_cast -dsimp [f1,f2,h4,h6]
     repeat (refine And.intro (by omega) ?_)
     refine ⟨j+1,by omega,by omega,wk (by push_cast -dsimp [zb,za,CLe,zd,e,hx1])⟩
   ·have f0:isO k s x=decide (XJ s [102,110]=x):=by simp[isO,hc]
    have h4:4<=k:=hc.2
    have f1:((x.toNat:Int)=82)=False:=(hI 82 82 rfl).trans (by simp[hc])
    have f2:((x.toNat:Int)=114)=False:=(hI 114 114 rfl).trans (by simp[hc])
    have f3:((x.toNat:Int)=102)=True:=(hI 102 102 rfl).trans (by simp[hc])
    have f4:((x.toNat:Int)=110)=False:=(hI 110 110 rfl).trans (by simp[hc])
    push_cast -dsimp [f1,f2,f3,f4,h4]
    refine cl (xi s [102,110] hs (by simp)) ?_;push_cast -dsimp
    by_cases h6:XJ s [102,110]=x
    ·have g6:((XJ s [102,110]).toNat=x.toNat)=True:=by simp[h6]
     have e:Yo k s (j+1)=Yo k s j++[x]:=by rw[hstep,f0];simp[h6]
     push_cast -dsimp [g6]
     refine ⟨[x],rfl,?_⟩
     push_cast -dsimp
     repeat (refine And.intro (by omega) ?_)
     refine ⟨j+1,by omega,by omega,wk (by push_cast -dsimp [zb,za,CLe,zd,e,hx1])⟩
    ·have g6:((XJ s [102,110]).toNat=x.toNat)=False:=by simp[UInt8.toNat_inj,h6]
     have e:Yo k s (j+1)=Yo k s j:=by rw[hstep,f0];simp[h6]
     push_cast -dsimp [g6]
     repeat (refine And.intro (by omega) ?_)
     refine ⟨j+1,by omega,by omega,wk (by push_cast -dsimp [zb,za,CLe,zd,e,hx1])⟩
   ·have f0:isO k s x=decide (XJ s [102,110]=x):=by simp[isO,hc]
    have h4:4<=k:=hc.2
    have f1:((x.toNat:Int)=82)=False:=(hI 82 82 rfl).trans (by simp[hc])
    have f2:((x.toNat:Int)=114)=False:=(hI 114 114 rfl).trans (by simp[hc])
    have f3:((x.toNat:Int)=102)=False:=(hI 102 102 rfl).trans (by simp[hc])
    have f4:((x.toNat:Int)=110)=True:=(hI 110 110 rfl).trans (by simp[hc])
    push_cast -dsimp [f1,f2,f3,f4,h4]
    refine cl (xi s [102,110] hs (by simp)) ?_;push_cast -dsimp
    by_cases h6:XJ s [102,110]=x
    ·have g6:((XJ s [102,110]).toNat=x.toNat)=True:=by simp[h6]
     have e:Yo k s (j+1)=Yo k s j++[x]:=by rw[hstep,f0];simp[h6]
     push_cast -dsimp [g6]
     refine ⟨[x],rfl,?_⟩
     push_cast -dsimp
     repeat (refine And.intro (by omega) ?_)
     refine ⟨j+1,by omega,by omega,wk (by push_cast -dsimp [zb,za,CLe,zd,e,hx1])⟩
    ·have g6:((XJ s [102,110]).toNat=x.toNat)=False:=by simp[UInt8.toNat_inj,h6]
     have e:Yo k s (j+1)=Yo k s j:=by rw[hstep,f0];simp[h6]
     push_cast -dsimp [g6]
     repeat (refine And.intro (by omega) ?_)
     refine ⟨j+1,by omega,by omega,wk (by push_cast -dsimp [zb,za,CLe,zd,e,hx1])⟩
   ·have f0:isO k s x=decide (x∈s):=by simp[isO,hc]
    have h4:4<=k:=hc.2.2.1
    have f1:((x.toNat:Int)=82)=False:=(hI 82 82 rfl).trans (by simp[hc])
    have f2:((x.toNat:Int)=114)=False:=(hI 114 114 rfl).trans (by simp[hc])
    have f3:((x.toNat:Int)=102)=False:=(hI 102 102 rfl).trans (by simp[hc])
    have f4:((x.toNat:Int)=110)=False:=(hI 110 110 rfl).trans (by simp[hc])
    by_cases h6:x∈s
    ·have e:Yo k s (j+1)=Yo k s j++[x]:=by rw[hstep,f0];simp[h6]
     push_cast -dsimp [f1,f2,f3,f4,h4,h6]
     refine ⟨[x],rfl,?_⟩
     push_cast -dsimp
     repeat (refine And.intro (by omega) ?_)
     refine ⟨j+1,by omega,by omega,wk (by push_cast -dsimp [zb,za,CLe,zd,e,hx1])⟩
    ·have e:Yo k s (j+1)=Yo k s j:=by rw[hstep,f0];simp[h6]
     push_cast -dsimp [f1,f2,f3,f4,h4,h6]
     repeat (refine And.intro (by omega) ?_)
     refine ⟨j+1,by omega,by omega,wk (by push_cast -dsimp [zb,za,CLe,zd,e,hx1])⟩
  ·have hj2:j=58:=by simp at h;omega
   subst hj2
   push_cast -dsimp
   exact dn
abbrev Acc:=List UInt8->UInt8->List UInt8
def Yi (all:List UInt8) (f:Acc):List UInt8->List UInt8->List UInt8×List UInt8
 | a,[]=>(a,[])
 | a,c :: r=>if c∈all then Yi all f (f a c) r else (a,[c])
def qy (all:List UInt8) (f:Acc):List UInt8->Nat->List (List UInt8)->List UInt8×Nat×List UInt8
 | a,n,[]=>(a,n,[])
 | a,n,w :: r=>if w = [45,45] then (a,n+1,[]) else if w.length<2∨w[0]?≠some 45 then (a,n,[]) else
   if (Yi all f a w.tail).2 = [] then qy all f (Yi all f a w.tail).1 (n+1) r else ((Yi all f a w.tail).1,n,(Yi all f a w.tail).2)
def Vn (k:Int):List UInt8:=if k=1 then [112] else if k=2 then [100,102,114,82] else if k=3 then [102,110,115,84] else if k=4 then [102,110,84] else if k=5 then [102,110,114,82,80,84] else []
abbrev YC:Acc:=fun s c=>s++[c]
theorem za4 {all:List UInt8} {f:Acc} {a w:List UInt8} {i:Nat} (hi:i<w.length):Yi all f a (w.drop i)=if w[i]∈all then Yi all f (f a w[i]) (w.drop (i+1)) else (a,[w[i]]):=by
 rw[List.drop_eq_getElem_cons hi,Yi]
theorem Gq {all:List UInt8} {f:Acc} {a:List UInt8} {l:List (List UInt8)} {n:Nat} (hn:n<l.length):qy all f a n (l.drop n)=if l[n] = [45,45] then (a,n+1,[]) else if l[n].length<2∨l[n][0]?≠some 45 then (a,n,[]) else
   if (Yi all f a l[n].tail).2 = [] then qy all f (Yi all f a l[n].tail).1 (n+1) (l.drop (n+1)) else ((Yi all f a l[n].tail).1,n,(Yi all f a l[n].tail).2):=by
 rw[List.drop_eq_getElem_cons hn,qy]
theorem zko {w:List UInt8} {i:Nat} (hi:i<w.length):(w.take (i+1)).drop i = [w[i]]:=by
 rw[List.take_add_one,List.getElem?_eq_getElem hi]
 exact List.drop_left' (by rw[List.length_take];omega)
theorem yr (k:Int) (l:List (List UInt8)) (hk:k=1∨k=2∨k=3∨k=4∨k=5) (hl:l.length<=100) (hs:∀ x∈l,x.length<=1000) :
  Fun Tryz.prog G0 53 [.sc (.int .i64 k),.sl 1 (zQ l)] (.tup [.str (qy (Vn k) YC [] 0 l).1,.sc (.int .i64 (qy (Vn k) YC [] 0 l).2.1),.str (qy (Vn k) YC [] 0 l).2.2]) 0:=by
 obtain ⟨A,hA⟩:∃ A,Vn k=A:=⟨_,rfl⟩
 have hall:A.length<=1000000:=by
  subst hA
  rcases hk with rfl | rfl | rfl | rfl | rfl<;>decide
 rw[hA]
 refine fon Tryz.func53 ?_;dsimp only[Tryz.f53]
 rcases hk with rfl | rfl | rfl | rfl | rfl
 case' inl=>have e:A = [112]:=hA.symm.trans rfl
 case' inr.inl=>have e:A = [100,102,114,82]:=hA.symm.trans rfl
 case' inr.inr.inl=>have e:A = [102,110,115,84]:=hA.symm.trans rfl
 case' inr.inr.inr.inl=>have e:A = [102,110,84]:=hA.symm.trans rfl
 case' inr.inr.inr.inr=>have e:A = [102,110,114,82,80,84]:=hA.symm.trans rfl
 all_goals
  push_cast -dsimp
  refine loop (fun p:Nat×List UInt8=>⟨[(1,.sl 1 (zQ l)),(7,.str A),(8,.str p.2),(9,.sc (.int .i64 p.1))],[],0,0⟩) (fun p=>p.1<=l.length/\qy A YC [] 0 l=qy A YC p.2 p.1 (l.drop p.1)/\p.2.length<=1000*p.1) (fun p=>l.length-p.1) (0,[]) ⟨Nat.zero_le _,rfl,Nat.zero_le _⟩ ?_ ?_
  ·exact wk (by push_cast -dsimp [zb,za,CLe,zd,e])
  ·clear e hA
   rintro ⟨n,s⟩ ⟨hn,hq,hsl⟩
   dsimp only at hn hq hsl ⊢
   by_cases h:n<l.length
   ·have hg:=Qx l n h
    have hlw:=hs l[n] (List.getElem_mem h)
    have hstep:=Gq (all:=A) (f:=YC) (a:=s) h
    generalize hw:l[n]=w at hg hlw hstep
    by_cases h45:w = [45,45]
    ·rw[if_pos h45]at hstep
     have hr:=hq.trans hstep
     push_cast -dsimp [h,hg,h45]
     repeat refine an ?_
     exact dn (by push_cast -dsimp [zb,za,CLe,zd,hr])
    ·rw[if_neg h45]at hstep
     by_cases h2:w.length<2
     ·rw[if_pos (.inl h2)]at hstep
      have hr:=hq.trans hstep
      have h2':((w.length:Int)<2)=True:=eq_true (by omega)
      push_cast -dsimp [h,hg,h45,h2']
      repeat refine an ?_
      exact dn (by push_cast -dsimp [zb,za,CLe,zd,hr])
     ·have h2':((w.length:Int)<2)=False:=eq_false (by omega)
      have h0:w[0]?=some w[0]:=List.getElem?_eq_getElem (by omega)
      by_cases h3:w[0]=45
      ·have h3':((w[0].toNat:Int)=45)=True:=eq_true (by rw[h3];rfl)
       rw[if_neg (by rw[h0,h3];simp;omega)]at hstep
       push_cast -dsimp [h,hg,h45,h2',h0,h3']
       repeat refine an ?_
       refine loop (fun q:Nat×List UInt8=>⟨[(1,.sl 1 (zQ l)),(7,.str A),(8,.str q.2),(9,.sc (.int .i64 n)),(10,.sc (.int .i64 q.1))],[],0,0⟩) (fun q=>1<=q.1/\q.1<=w.length/\Yi A YC s w.tail=Yi A YC q.2 (w.drop q.1)/\q.2.length+1<=1000*n+q.1) (fun q=>w.length-q.1) (1,s) ⟨Nat.le_refl _,by dsimp only;omega,by simp,by dsimp only;omega⟩ ?_ ?_
       ·exact wk
       ·rintro ⟨i,t⟩ ⟨hi1,hi2,hi3,hi4⟩
        dsimp only at hi1 hi2 hi3 hi4 ⊢
        by_cases hi:i<w.length
        ·have hgi:w[i]?=some w[i]:=List.getElem?_eq_getElem hi
         have hws:=za4 (all:=A) (f:=YC) (a:=t) hi
         push_cast -dsimp [h,hg,hi,hgi]
         repeat refine an ?_
         refine cl (UL A w[i] hall) ?_;push_cast -dsimp
         by_cases hm:w[i]∈A
         ·rw[if_pos hm]at hws
          push_cast -dsimp [hm,hg,hgi]
          repeat refine an ?_
          refine ⟨(i+1,t++[w[i]]),⟨by omega,by dsimp only;omega,hi3.trans hws,by simp;omega⟩,by dsimp only;omega,wk (by push_cast -dsimp [zb,za,CLe,zd,zko hi])⟩
         ·rw[if_neg hm]at hws
          rw[if_neg (by rw[hi3,hws];simp),hi3,hws]at hstep
          have hr:=hq.trans hstep
          push_cast -dsimp [hm,hg,hgi]
          repeat refine an ?_
          exact dn (by push_cast -dsimp [zb,za,CLe,zd,hr,zko hi])
        ·have hil:i=w.length:=by omega
         rw[hil,List.drop_length,Yi]at hi3
         rw[if_pos (by rw[hi3]),hi3]at hstep
         push_cast -dsimp [h,hg,hi]
         repeat refine an ?_
         exact ⟨(n+1,t),⟨by dsimp only;omega,hq.trans hstep,by dsimp only;omega⟩,by dsimp only;omega,wk⟩
      ·have h3':((w[0].toNat:Int)=45)=False:=eq_false (fun hh=>h3 (UInt8.toNat_inj.1 (by show _=45;omega)))
       rw[if_pos (.inr (by rw[h0];simpa using h3))]at hstep
       have hr:=hq.trans hstep
       push_cast -dsimp [h,hg,h45,h2',h0,h3']
       repeat refine an ?_
       exact dn (by push_cast -dsimp [zb,za,CLe,zd,hr])
   ·have hkl:n=l.length:=by omega
    subst hkl
    have hr:=hq
    rw[List.drop_length,qy]at hr
    push_cast -dsimp [h]
    exact dn (by push_cast -dsimp [zb,za,CLe,zd,hr])
def zfU (k:Int):Nat:=if k=4∨k=5 then 2 else 1
def j9 (k:Int) (o:List UInt8) (ops:List (List UInt8)):List UInt8:=
 if ops.length=0 then (if k=2/\102∈o then [] else [109,105,115,115,105,110,103,32,111,112,101,114,97,110,100])
 else if ops.length<(if 84∈o then 2 else zfU k) then [109,105,115,115,105,110,103,32,100,101,115,116,105,110,97,116,105,111,110,32,111,112,101,114,97,110,100,32,97,102,116,101,114,32]++qm (ops.getD (ops.length-1) [])
 else if 84∈o/\2<ops.length then [101,120,116,114,97,32,111,112,101,114,97,110,100,32]++qm (ops.getD 2 []) else []
theorem Zw (l:List UInt8):(qm l).length<=4*l.length+2:=by
 have:=QuoteWalk.mid_len l
 simp only[qm,List.length_cons,List.length_append,List.length_nil]
 omega
structure znK where
 kind:Int
 opts:List UInt8
 operands:List (List UInt8)
def Jx (w:List UInt8):Nat->Int
 | 0=>0
 | j+1=>if Ju ((j+1:Nat):Int)=w then ((j+1:Nat):Int) else Jx w j
def Xq:znK:=⟨0,[],[]⟩
def JA (kind:Int) (w:List UInt8) (q:List UInt8×Nat×List UInt8) (r:List (List UInt8)):znK×List UInt8:=
 if q.2.2≠[] then (Xq,w++[58,32,105,110,118,97,108,105,100,32,111,112,116,105,111,110,32]++qm q.2.2)
 else if j9 kind (Yo kind q.1 58) (r.drop q.2.1)≠[] then (Xq,w++[58,32]++j9 kind (Yo kind q.1 58) (r.drop q.2.1))
 else (⟨kind,Yo kind q.1 58,r.drop q.2.1⟩,[])
def Qf:List (List UInt8)->znK×List UInt8
 | []=>(Xq,[109,105,115,115,105,110,103,32,99,111,109,109,97,110,100])
 | w :: r=>if Jx w 5=0 then (Xq,qm w++[58,32,117,110,107,110,111,119,110,32,99,111,109,109,97,110,100])
  else JA (Jx w 5) w (qy (Vn (Jx w 5)) YC [] 0 r) r
theorem ME (w:List UInt8):∀ j,0<=Jx w j/\Jx w j<=j
 | 0=>⟨Int.le_refl _,Int.le_refl _⟩
 | j+1=>by
  have:=ME w j
  unfold Jx
  split<;>omega
theorem Nm (A:List UInt8) (f:Acc):∀ (w s:List UInt8),(Yi A f s w).2.length<=1
 | [],s=>Nat.zero_le _
 | c :: w,s=>by
  rw[Yi]
  split
  ·exact Nm A f w _
  ·exact Nat.le_refl _
theorem xe (A:List UInt8):∀ (w s:List UInt8),(Yi A YC s w).1.length<=s.length+w.length
 | [],s=>by simp[Yi]
 | c :: w,s=>by
  rw[Yi]
  split
  ·have h0:(YC s c).length=s.length+1:=by simp
   have:=xe A w (YC s c);simp only[List.length_cons];omega
  ·simp only[List.length_cons];omega
theorem Vs (A:List UInt8):∀ (l:List (List UInt8)) (s:List UInt8) (n:Nat),(∀ x∈l,x.length<=1000)->(qy A YC s n l).1.length<=s.length+1000*l.length/\(qy A YC s n l).2.1<=n+l.length/\(qy A YC s n l).2.2.length<=1
 | [],s,n,_=>by simp[qy]
 | w :: l,s,n,h=>by
  have hw:=h w (List.mem_cons_self ..)
  have h1:=Nm A YC w.tail s
  have h2:=xe A w.tail s
  have h3:w.tail.length<=1000:=by rw[List.length_tail];omega
  have ih:=Vs A l (Yi A YC s w.tail).1 (n+1) fun x hx=>h x (List.mem_cons_of_mem _ hx)
  rw[qy]
  simp only[List.length_cons]
  split
  ·simp only[List.length_nil];omega
  ·split
   ·simp only[List.length_nil];omega
   ·split
    ·omega
    ·dsimp only;omega
abbrev zr7 (c:znK):C:=.agg [.sc (.int .i64 c.kind),.str c.opts,.own 0 9 1 (zQ c.operands)]
theorem zen (l:List (List UInt8)) (hl:l.length<=100) (hs:∀ x∈l,x.length<=1000) :
  Fun Tryz.prog G0 25 [.sl 1 (zQ l)] (.tup [zr7 (Qf l).1,.str (Qf l).2]) 1:=by
 refine fof (fun i=>if i=15 then [false,false,false,false,false,false,true,false,true] else []) Tryz.func25 ?_;dsimp only[Tryz.f25]
 rcases l with _ | ⟨w,r⟩
 ·push_cast -dsimp [zQ,List.map_nil,List.length_nil]
  exact ⟨[.inr (9,1)],rfl,rfl,by push_cast -dsimp [zb,za,CLe,zd,Qf,Xq]<;>rfl⟩
 ·have hlr:r.length<=99:=by simp at hl;omega
  have hw:=hs w (List.mem_cons_self ..)
  have hsr:∀ x∈r,x.length<=1000:=fun x hx=>hs x (List.mem_cons_of_mem _ hx)
  have hsC:zQ (w :: r) = [.str w] :: zQ r:=rfl
  have hp0:((r.length:Int)+1=0)=False:=eq_false (by omega)
  rw[hsC]
  push_cast -dsimp [hp0]
  refine loop (fun j:Nat=>⟨[(0,.sl 1 ([.str w] :: zQ r)),(2,.ptr 0 0),(4,.sc (.int .i64 (Jx w j))),(5,.sc (.int .i64 ((j:Int)+1)))],[[.sc (.int .i64 0),.str [],.sc (.slice none 0 0)]],0,0⟩) (fun j=>j<=5) (fun j=>5-j) 0 (Nat.zero_le _) ?_ ?_
  ·exact wk (by push_cast -dsimp [zb,za,CLe,zd,Jx])
  ·rintro j hj
   by_cases h:j<5
   ·have hp1:((j:Int)+1<=5)=True:=eq_true (by omega)
    push_cast -dsimp [hp1]
    refine cl (M4 ((j:Int)+1)) ?_;push_cast -dsimp
    have hku:Jx w (j+1)=if Ju ((j:Int)+1)=w then (j:Int)+1 else Jx w j:=by simp[Jx]
    by_cases hm:Ju ((j:Int)+1)=w
    ·rw[if_pos hm]at hku
     push_cast -dsimp [hm]
     repeat refine an ?_
     exact ⟨j+1,by omega,by omega,wk (by push_cast -dsimp [zb,za,CLe,zd,hku])⟩
    ·rw[if_neg hm]at hku
     push_cast -dsimp [hm]
     repeat refine an ?_
     exact ⟨j+1,by omega,by omega,wk (by push_cast -dsimp [zb,za,CLe,zd,hku])⟩
   ·have hp1:((j:Int)+1<=5)=False:=eq_false (by omega)
    have hj5:j=5:=by omega
    subst hj5
    have hkle:=ME w 5
    have hrd:Qf (w :: r)=if Jx w 5=0 then (Xq,qm w++[58,32,117,110,107,110,111,119,110,32,99,111,109,109,97,110,100]) else JA (Jx w 5) w (qy (Vn (Jx w 5)) YC [] 0 r) r:=rfl
    generalize Jx w 5=K at hkle hrd ⊢
    by_cases hK0:K=0
    ·rw[if_pos hK0]at hrd
     have hq:=Zw w
     push_cast -dsimp [hp1,hK0]
     refine cl (X2 w (by omega)) ?_;push_cast -dsimp
     repeat refine an ?_
     exact ⟨[.inr (9,1)],rfl,rfl,by push_cast -dsimp [zb,za,CLe,zd,hrd,Xq]<;>rfl⟩
    ·rw[if_neg hK0]at hrd
     have hkk:K=1∨K=2∨K=3∨K=4∨K=5:=by omega
     have hlet:=yr K r hkk (by omega) hsr
     have hbnd:=Vs (Vn K) r [] 0 hsr
     generalize qy (Vn K) YC [] 0 r=q at hlet hbnd hrd ⊢
     obtain ⟨s,n,bad⟩:=q
     dsimp only at hlet hbnd
     push_cast -dsimp [hp1,hK0]
     repeat refine an ?_
     refine cl (hlet) ?_;push_cast -dsimp
     by_cases hbad:bad = []
     ·have hdr:List.drop (1+(n:Int)).toNat ([C.str w] :: zQ r)=zQ (r.drop n):=by
       rw[show (1+(n:Int)).toNat=n+1 by omega,List.drop_succ_cons];simp[zQ]
      have hop:(r.drop n).length<=99:=by rw[List.length_drop];omega
      have hso:∀ x∈r.drop n,x.length<=1000:=fun x hx=>hsr x (List.mem_of_mem_drop hx)
      have hrt:JA K w (s,n,bad) r=if j9 K (Yo K s 58) (r.drop n)≠[] then (Xq,w++[58,32]++j9 K (Yo K s 58) (r.drop n)) else (⟨K,Yo K s 58,r.drop n⟩,[]):=by
       unfold JA;rw[if_neg (by simpa using hbad)]
      rw[hrt]at hrd
      have h84:=UL (Yo K s 58) 84 (by have:=List.length_filter_le (isO K s) ((List.range' 65 58).map UInt8.ofNat);simp at this;unfold Yo;omega)
      have h102:=UL (Yo K s 58) 102 (by have:=List.length_filter_le (isO K s) ((List.range' 65 58).map UInt8.ofNat);simp at this;unfold Yo;omega)
      generalize r.drop n=ops at hop hso hrd hdr
      push_cast -dsimp [hbad]
      refine cl (xH K s (by simp at hbnd;omega)) ?_;push_cast -dsimp [hdr]
      generalize Yo K s 58=O at h84 h102 hrd ⊢
      repeat refine an ?_
      have hleast:zfU K=if 4<=K then 2 else 1:=by
       unfold zfU
       by_cases h4:4<=K
       ·rw[if_pos h4,if_pos (by omega)]
       ·rw[if_neg h4,if_neg (by omega)]
      rcases ops with _ | ⟨x,_ | ⟨y,_ | ⟨z,t⟩⟩⟩
      ·by_cases hK2:K=2/\102∈O
       ·have hwv:j9 K O [] = []:=by simp[j9,hK2]
        have hr2:=hrd
        rw[hwv,if_neg (by simp)]at hr2
        have h4:¬4<=K:=by omega
        have hK2':=hK2.1
        have m102:=hK2.2
        by_cases m84:84∈O
        all_goals
         push_cast -dsimp [h4,zQ,List.map_nil,List.map_cons,List.length_nil,List.length_cons]
         refine cl (h84) ?_;push_cast -dsimp [m84,hK2',zQ,List.map_nil,List.map_cons,List.length_nil,List.length_cons]
         refine cl (h102) ?_;push_cast -dsimp [m102,zQ,List.map_nil,List.map_cons,List.length_nil,List.length_cons]
         exact ⟨[.inl 0],rfl,rfl,by push_cast -dsimp [zb,za,CLe,zd,hr2,hK2',zQ,List.map_nil,List.map_cons,List.length_nil,List.length_cons]⟩
       ·have hwv:j9 K O [] = [109,105,115,115,105,110,103,32,111,112,101,114,97,110,100]:=by simp[j9,hK2]
        have hr2:=hrd
        rw[hwv,if_pos (by simp)]at hr2
        by_cases hK2':K=2
        ·have m102:102∉O:=fun h=>hK2 ⟨hK2',h⟩
         have h4:¬4<=K:=by omega
         by_cases m84:84∈O
         all_goals
          push_cast -dsimp [h4,zQ,List.map_nil,List.map_cons,List.length_nil,List.length_cons]
          refine cl (h84) ?_;push_cast -dsimp [m84,hK2',zQ,List.map_nil,List.map_cons,List.length_nil,List.length_cons]
          refine cl (h102) ?_;push_cast -dsimp [m102,zQ,List.map_nil,List.map_cons,List.length_nil,List.length_cons]
          repeat refine an ?_
          exact ⟨[.inr (9,1)],rfl,rfl,by push_cast -dsimp [zb,za,CLe,zd,hr2,Xq,List.append_assoc,List.cons_append,List.nil_append]<;>rfl⟩
        ·by_cases h4:4<=K<;>by_cases m84:84∈O
         all_goals
          push_cast -dsimp [h4,hK2',zQ,List.map_nil,List.map_cons,List.length_nil,List.length_cons]
          try refine cl (h84) ?_;push_cast -dsimp [m84,hK2',zQ,List.map_nil,List.map_cons,List.length_nil,List.length_cons]
          repeat refine an ?_
          exact ⟨[.inr (9,1)],rfl,rfl,by push_cast -dsimp [zb,za,CLe,zd,hr2,Xq,List.append_assoc,List.cons_append,List.nil_append]<;>rfl⟩
      ·have hx:=hso x (by simp)
       have hqx:=Zw x
       by_cases hl2:4<=K∨84∈O
       ·have hwv:j9 K O [x] = [109,105,115,115,105,110,103,32,100,101,115,116,105,110,97,116,105,111,110,32,111,112,101,114,97,110,100,32,97,102,116,101,114,32]++qm x:=by
         unfold j9
         rw[if_neg (by simp),if_pos (by rw[hleast];rcases hl2 with h | h<;>simp[h])];rfl
        have hr2:=hrd
        rw[hwv,if_pos (by simp)]at hr2
        have h3:(4<=K/\84∈O)∨(4<=K/\84∉O)∨(¬4<=K/\84∈O):=by
         by_cases a:4<=K<;>by_cases b:84∈O<;>simp[a,b]at hl2 ⊢
        rcases h3 with ⟨h4,m84⟩ | ⟨h4,m84⟩ | ⟨h4,m84⟩
        all_goals
         push_cast -dsimp [h4,zQ,List.map_nil,List.map_cons,List.length_nil,List.length_cons]
         try refine cl (h84) ?_;push_cast -dsimp [m84,zQ,List.map_nil,List.map_cons,List.length_nil,List.length_cons]
         repeat refine an ?_
         refine cl (X2 x (by omega)) ?_;push_cast -dsimp
         repeat refine an ?_
         exact ⟨[.inr (9,1)],rfl,rfl,by push_cast -dsimp [zb,za,CLe,zd,hr2,Xq,List.append_assoc,List.cons_append,List.nil_append]<;>rfl⟩
       ·have h4:¬4<=K:=fun h=>hl2 (.inl h)
        have m84:84∉O:=fun h=>hl2 (.inr h)
        have hwv:j9 K O [x] = []:=by
         unfold j9
         rw[if_neg (by simp),hleast];simp[h4,m84]
        have hr2:=hrd
        rw[hwv,if_neg (by simp)]at hr2
        push_cast -dsimp [h4,zQ,List.map_nil,List.map_cons,List.length_nil,List.length_cons]
        refine cl (h84) ?_;push_cast -dsimp [m84,zQ,List.map_nil,List.map_cons,List.length_nil,List.length_cons]
        exact ⟨[.inl 0],rfl,rfl,by push_cast -dsimp [zb,za,CLe,zd,hr2,zQ,List.map_nil,List.map_cons,List.length_nil,List.length_cons]⟩
      ·have hwv:j9 K O [x,y] = []:=by
        unfold j9
        rw[if_neg (by simp),hleast]
        by_cases h4:4<=K<;>by_cases m84:84∈O<;>simp[h4,m84]
       have hr2:=hrd
       rw[hwv,if_neg (by simp)]at hr2
       by_cases h4:4<=K<;>by_cases m84:84∈O
       all_goals
        push_cast -dsimp [h4,zQ,List.map_nil,List.map_cons,List.length_nil,List.length_cons]
        try refine cl (h84) ?_;push_cast -dsimp [m84,zQ,List.map_nil,List.map_cons,List.length_nil,List.length_cons]
        exact ⟨[.inl 0],rfl,rfl,by push_cast -dsimp [zb,za,CLe,zd,hr2,zQ,List.map_nil,List.map_cons,List.length_nil,List.length_cons]⟩
      ·have hz:=hso z (by simp)
       have hqz:=Zw z
       have hp0:((t.length:Int)+1+1+1=0)=False:=eq_false (by omega)
       have hp2:((t.length:Int)+1+1+1<2)=False:=eq_false (by omega)
       have hp3:((t.length:Int)+1+1+1<1)=False:=eq_false (by omega)
       have hp4:(2<(t.length:Int)+1+1+1)=True:=eq_true (by omega)
       have hp5:(0<(t.length:Int)+1+1+1)=True:=eq_true (by omega)
       by_cases m84:84∈O
       ·have hwv:j9 K O (x :: y :: z :: t) = [101,120,116,114,97,32,111,112,101,114,97,110,100,32]++qm z:=by
         unfold j9
         rw[if_neg (by simp),hleast,if_neg (by simp[m84]),if_pos (by simp[m84])];rfl
        have hr2:=hrd
        rw[hwv,if_pos (by simp)]at hr2
        by_cases h4:4<=K
        all_goals
         push_cast -dsimp [h4,hp0,hp2,hp3,hp4,hp5,zQ,List.map_nil,List.map_cons,List.length_nil,List.length_cons]
         try refine cl (h84) ?_;push_cast -dsimp [m84,hp0,hp2,hp3,hp4,hp5,zQ,List.map_nil,List.map_cons,List.length_nil,List.length_cons]
         try refine cl (h84) ?_;push_cast -dsimp [m84,hp0,hp2,hp3,hp4,hp5,zQ,List.map_nil,List.map_cons,List.length_nil,List.length_cons]
         repeat refine an ?_
         refine cl (X2 z (by omega)) ?_;push_cast -dsimp
         repeat refine an ?_
         exact ⟨[.inr (9,1)],rfl,rfl,by push_cast -dsimp [zb,za,CLe,zd,hr2,Xq,List.append_assoc,List.cons_append,List.nil_append]<;>rfl⟩
       ·have hwv:j9 K O (x :: y :: z :: t) = []:=by
         unfold j9
         rw[if_neg (by simp),hleast]
         by_cases h4:4<=K<;>simp[h4,m84]
        have hr2:=hrd
        rw[hwv,if_neg (by simp)]at hr2
        by_cases h4:4<=K
        all_goals
         push_cast -dsimp [h4,hp0,hp2,hp3,hp4,hp5,zQ,List.map_nil,List.map_cons,List.length_nil,List.length_cons]
         try refine cl (h84) ?_;push_cast -dsimp [m84,hp0,hp2,hp3,hp4,hp5,zQ,List.map_nil,List.map_cons,List.length_nil,List.length_cons]
         try refine cl (h84) ?_;push_cast -dsimp [m84,hp0,hp2,hp3,hp4,hp5,zQ,List.map_nil,List.map_cons,List.length_nil,List.length_cons]
         exact ⟨[.inl 0],rfl,rfl,by push_cast -dsimp [zb,za,CLe,zd,hr2,zQ,List.map_nil,List.map_cons,List.length_nil,List.length_cons]⟩
     ·have hqb:=Zw bad
      have hrt:JA K w (s,n,bad) r=(Xq,w++[58,32,105,110,118,97,108,105,100,32,111,112,116,105,111,110,32]++qm bad):=by
       unfold JA;rw[if_pos (by simpa using hbad)]
      rw[hrt]at hrd
      push_cast -dsimp [hbad]
      repeat refine an ?_
      refine cl (X2 bad (by omega)) ?_;push_cast -dsimp
      repeat refine an ?_
      exact ⟨[.inr (9,1)],rfl,rfl,by push_cast -dsimp [zb,za,CLe,zd,hrd,Xq]<;>rfl⟩
theorem zew (l:List (List UInt8)):(Qf l).1.operands.length<=l.length:=by
 cases l with
 | nil=>simp[Qf,Xq]
 | cons w r =>
  rw[Qf]
  split
  ·simp[Xq]
  ·unfold JA
   split
   ·simp[Xq]
   ·split
    ·simp[Xq]
    ·simp only[List.length_drop,List.length_cons];omega
end
section
open CA CB
open Go.RowKit
theorem yY (f:FsV) (hf:FsI f) (hr:FsR f) (hs:FsS f) (hd:∀ x∈f.xs,x.kind=3->x.data.length<=1000) (b p:List UInt8) (hb:b.length<=100000) (hp:p.length<=1000):Fun Tryz.prog G0 31 [.agg (fsC f),.str b,.str p] (.sc (.bool (Uv f b p))) 0:=by
 have hre:Fun Tryz.prog G0 63 [.str p] (.agg [qt (QS p),.own 0 9 1 (zQ (zk p)),qt (qQ p)]) 1:=Zk p (by omega)
 have hel:(VZ p).length<=1000:=by
  by_cases h:zk p = []
  ·rw[show VZ p=p from if_pos h];exact hp
  ·exact Nat.le_trans (zfq p h) hp
 have he:=zib p (by omega)
 have hsk:=Nf f hf hr hs hd b (VZ p) false hb (by omega)
 have hg:=jH (G:=G0) f (z7 f b (VZ p) false).1.ino (by have:=hs.len;omega) hf.rises
 have e:Uv f b p=(qQ p&&decide ((z7 f b (VZ p) false).2=0)&&decide ((zf (z7 f b (VZ p) false).1.ino f.xs).kind=3)):=rfl
 rw[e]
 generalize z7 f b (VZ p) false=T at *
 cases h0:qQ p<;>rw[h0]at hre
 ·cases hh:zt T.1.ino f.xs<;>rw[hh]at hg
  all_goals
   by_cases h1:T.2=0
   ·have h1':=eq_true h1
    refine fof (fun i=>if i=1 then jB 8 9 else if i=2 then jB 7 8 else []) Tryz.func31 ?_;dsimp only[Tryz.f31]
    push_cast -dsimp
    refine cl (he) ?_;push_cast -dsimp
    refine cl (hsk) ?_;push_cast -dsimp
    refine cl (hg) ?_;push_cast -dsimp
    refine cl (hre) ?_;push_cast -dsimp [h1']
    exact dn (by push_cast -dsimp [zb,za,CLe,zd,Bool.false_and])
   ·have h1':=eq_false h1
    refine fof (fun i=>if i=1 then jB 8 9 else if i=2 then jB 7 8 else []) Tryz.func31 ?_;dsimp only[Tryz.f31]
    push_cast -dsimp
    refine cl (he) ?_;push_cast -dsimp
    refine cl (hsk) ?_;push_cast -dsimp
    refine cl (hg) ?_;push_cast -dsimp
    refine cl (hre) ?_;push_cast -dsimp [h1']
    exact dn (by push_cast -dsimp [zb,za,CLe,zd,Bool.false_and])
 ·by_cases h1:T.2=0
  ·have h1':=eq_true h1
   cases hh:zt T.1.ino f.xs with
   | false =>
    rw[hh]at hg
    rw[Ge hh]at hg ⊢
    have hz:((vh.kind=3)=False):=eq_false (show ¬(0:Int)=3 by decide)
    refine fof (fun i=>if i=1 then jB 8 9 else if i=2 then jB 7 8 else []) Tryz.func31 ?_;dsimp only[Tryz.f31]
    push_cast -dsimp
    refine cl (he) ?_;push_cast -dsimp
    refine cl (hsk) ?_;push_cast -dsimp
    refine cl (hg) ?_;push_cast -dsimp
    refine cl (hre) ?_;push_cast -dsimp [h1']
    exact dn (by push_cast -dsimp [zb,za,CLe,zd,h1',hz])
   | true =>
    rw[hh]at hg
    refine fof (fun i=>if i=1 then jB 8 9 else if i=2 then jB 7 8 else []) Tryz.func31 ?_;dsimp only[Tryz.f31]
    push_cast -dsimp
    refine cl (he) ?_;push_cast -dsimp
    refine cl (hsk) ?_;push_cast -dsimp
    refine cl (hg) ?_;push_cast -dsimp
    refine cl (hre) ?_;push_cast -dsimp [h1']
    exact dn (by push_cast -dsimp [zb,za,CLe,zd,h1',Bool.false_and,Bool.and_false])
  ·have h1':=eq_false h1
   refine fof (fun i=>if i=1 then jB 8 9 else if i=2 then jB 7 8 else []) Tryz.func31 ?_;dsimp only[Tryz.f31]
   push_cast -dsimp
   refine cl (he) ?_;push_cast -dsimp
   refine cl (hsk) ?_;push_cast -dsimp
   refine cl (hg) ?_;push_cast -dsimp
   refine cl (hre) ?_;push_cast -dsimp [h1']
   exact dn (by push_cast -dsimp [zb,za,CLe,zd,h1',Bool.false_and,Bool.and_false])
abbrev zqI (k:Int) (o:List UInt8) (ops:List (List UInt8)):List C:=[.sc (.int .i64 k),.str o,.sl 1 (zQ ops)]
theorem zln (k:Int) (o:List UInt8) (ops:List (List UInt8)) (x:zn) (hx:x.es.length<=100000):Fun Tryz.prog G0 34 [.agg (zqI k o ops),.agg (Js x)] (.sc (.int .i64 (zid o x))) 0:=by
 have h1:=yw k o (.sl 1 (zQ ops)) 114 rfl
 have h2:=yw k o (.sl 1 (zQ ops)) 100 rfl
 have hel:(zW x.es).length=x.es.length:=List.length_map ..
 by_cases c1:x.kind=2
 ·have c1':=eq_true c1
  by_cases c2:(114:UInt8)∈o
  ·have e:zid o x=0:=if_pos (.inr c2)
   rw[decide_eq_true c2]at h1
   refine fon Tryz.func34 ?_;dsimp only[Tryz.f34]
   push_cast -dsimp [c1']
   refine cl (h1) ?_;push_cast -dsimp
   exact dn (by push_cast -dsimp [zb,za,CLe,zd,e])
  ·rw[decide_eq_false c2]at h1
   have e:zid o x=if (100:UInt8)∉o then 4 else if x.es≠[] then 5 else 0:=if_neg (by rintro (q | q);exact q c1;exact c2 q)
   by_cases c3:(100:UInt8)∈o
   ·rw[decide_eq_true c3]at h2
    rw[if_neg (fun q=>q c3)]at e
    by_cases c4:x.es = []
    ·rw[if_neg (fun q=>q c4)]at e
     have c4':((0:Int)<x.es.length)=False:=eq_false (by rw[c4];simp)
     refine fon Tryz.func34 ?_;dsimp only[Tryz.f34]
     push_cast -dsimp [c1']
     refine cl (h1) ?_;push_cast -dsimp
     refine cl (h2) ?_;push_cast -dsimp [hel,c4']
     exact dn (by push_cast -dsimp [zb,za,CLe,zd,e])
    ·rw[if_pos c4]at e
     have c4':((0:Int)<x.es.length)=True:=eq_true (by have:=List.length_pos_iff.2 c4;omega)
     refine fon Tryz.func34 ?_;dsimp only[Tryz.f34]
     push_cast -dsimp [c1']
     refine cl (h1) ?_;push_cast -dsimp
     refine cl (h2) ?_;push_cast -dsimp [hel,c4']
     exact dn (by push_cast -dsimp [zb,za,CLe,zd,e])
   ·rw[decide_eq_false c3]at h2
    rw[if_pos c3]at e
    refine fon Tryz.func34 ?_;dsimp only[Tryz.f34]
    push_cast -dsimp [c1']
    refine cl (h1) ?_;push_cast -dsimp
    refine cl (h2) ?_;push_cast -dsimp
    exact dn (by push_cast -dsimp [zb,za,CLe,zd,e])
 ·have c1':=eq_false c1
  have e:zid o x=0:=if_pos (.inl c1)
  refine fon Tryz.func34 ?_;dsimp only[Tryz.f34]
  push_cast -dsimp [c1']
  exact dn (by push_cast -dsimp [zb,za,CLe,zd,e])
end
section
def No (xs:List zn):Prop:=∀ x∈xs,x.kind=3->x.data.length<=1000
theorem zdx {xs:List zn} (h:No xs) (n:Int):(zf n xs).kind=3->(zf n xs).data.length<=1000:=fun hk=>by
 cases hh:zt n xs with
 | true=>exact h _ (zh hh).2.1 hk
 | false=>rw[(YD hh).2]at hk;exact absurd hk (by decide)
theorem zdh {xs:List zn} {x:zn} (h:No xs) (hx:x.kind=3->x.data.length<=1000):No (qP x xs):=fun z hz hk=>by
 rcases zcB hz with rfl | hz
 ·exact hx hk
 ·exact h z hz hk
theorem zbI {f:FsV} (s:zZ) (h:No f.xs):No (zi f s).xs:=by
 have hd:No (jk s.dir (zg s.name) f.xs):=zdh h (zdx h s.dir)
 unfold zi
 split
 ·exact fun z hz hk=>hd z (JQ.1 hz).1 hk
 ·exact zdh hd (zdx h s.ino)
theorem zfR {K:Nat} {d:zD} (h:RmB K d) (p:List UInt8) (hd:No d.w.fs.xs):No (YV d (YI p)).1.w.fs.xs:=by
 by_cases hz:(YV d (YI p)).2=0
 case neg=>rw[US hz];exact hd
 have eo:kg d (YI p)=⟨7,d.slot+1,p,[],[]⟩:=rfl
 unfold YV at hz ⊢
 rw[eo]at hz ⊢
 rw[if_neg (show ¬7<(YI p).kind by show ¬(7:Int)<7;decide)]at hz ⊢
 split at hz
 ·rename_i hq;exact absurd hz hq
 rename_i hq
 rw[if_neg hq]
 show No (doV d.w ⟨7,d.slot+1,p,[],[]⟩).1.fs.xs
 rcases do7 h.wi (o:=⟨7,d.slot+1,p,[],[]⟩) rfl with e | ⟨s,hs,he,e⟩
 ·rw[e];exact hd
 ·rw[e]
  unfold qZ
  split
  ·exact hd
  ·exact zbI s hd
theorem zl4 {K:Nat} {d:zD} (h:RmB K d) (b o p:List UInt8) (hd:No d.w.fs.xs):No (kr b o d p).w.fs.xs:=by
 unfold kr
 simp only
 split
 ·exact hd
 ·split
  ·exact (zac (P:=fun d=>RmB K d/\No d.w.fs.xs) (fun d p hd=>⟨(hd.1.add p).1,zfR hd.1 p hd.2⟩) _ d _ _ ⟨h,hd⟩).2
  ·exact hd
end
section
open CA CB
open Go.RowKit
theorem zlb (d:zD) (hd:d.diags.length<=80000) (k w:Int) (a b:List UInt8) (e:Int) (ha:a.length<=1000) (hb:b.length<=1000):Fun Tryz.prog GD 29 [kI d,.sc (.int .i64 k),.sc (.int .i64 w),.str a,.str b,.sc (.int .i64 e)] (kI (j6 d (Xo k w a b e))) 0:=
 (zdk d hd k w a b e ha hb).weak (by push_cast -dsimp [zb,za,CLe,zd,j6])
theorem zcO (d:zD) (hd:d.diags.length<=80000) (p:List UInt8) (hp:p.length<=1000) (w e:Int):MV Tryz.prog GD 28 [.sc (.int .i64 w),.sc (.int .i64 e),.ptr 0 0,.ptr 1 0] [znl d,[.str p]] 0 (.tup []) [znl (j6 d (Xo 2 w p [] e)),[.str p]] 0:=by
 have h:=zlb d hd 2 w p [] e hp (Nat.zero_le _)
 refine foB (fun _=>[]) Tryz.func28 ?_;dsimp only[Tryz.f28]
 push_cast -dsimp
 refine cl (h) ?_;push_cast -dsimp
 exact ⟨[],rfl,rfl,by push_cast -dsimp [zb,za,CLe,zd],by push_cast -dsimp [zb,za,CLe,zd]⟩
theorem uB {f:FsV} (h:okV f) {s:zZ} (hh:zt s.dir f.xs=true) (hk:(zf s.dir f.xs).kind=2) (hm:may s.name=true):(YE f s).length<=21000:=by
 obtain ⟨ns,n1,n2,n3,n4,n5⟩:=zkj h hh hk
 have hml:=zeY hm
 have hjw:=XR ns
 have hjl:(zS ns).length<=20001:=by unfold zS;split<;>simp<;>omega
 have e:YE f s=QN (zS ns) s.name:=by unfold YE;rw[n5];rfl
 have:=zgA (zS ns) s.name
 rw[e];omega
theorem Jj {b o:List UInt8} {d:zD} {p:List UInt8} {w e:Int} {g:Bool} (h:UH d.w.fs b o p=(w,e,g)) (hw:w≠0):kr b o d p=j6 d (Xo 2 w p [] e):=by
 unfold kr
 simp only[h]
 rw[if_pos hw]
theorem H8 {b o:List UInt8} {d:zD} {p:List UInt8} {e:Int} (h:UH d.w.fs b o p=(0,e,false)):kr b o d p=d:=by
 unfold kr
 simp[h]
theorem zk6 {b o:List UInt8} {d:zD} {p:List UInt8} {e:Int} (h:UH d.w.fs b o p=(0,e,true)):kr b o d p=rmD (d.w.fs.xs.length+1) d (YE d.w.fs (z7 d.w.fs b p false).1) (z7 d.w.fs b p false).1.ino:=by
 unfold kr
 simp[h]
structure PlI (b o:List UInt8) (l:List (List UInt8)) (d:zD) (i:Nat) (D:zD):Prop where
 le:i<=l.length
 eq:D=yE b o (l.take i) d
 g:RmG 2000 D
 dl:D.diags.length<=d.diags.length+i
 dat:No D.w.fs.xs
theorem PlI.step {b o:List UInt8} {l:List (List UInt8)} {d D:zD} {i:Nat} (h:PlI b o l d i D) (hi:i<l.length) (hl:d.diags.length+l.length<=80000):PlI b o l d (i+1) (kr b o D l[i]):=by
 have hdl:=h.dl
 rcases HG h.g b o l[i] with ⟨g1,g2,g3⟩ | q
 ·refine ⟨by omega,?_,g1,?_,zl4 h.g.b b o l[i] h.dat⟩
  ·rw[List.take_succ_eq_append_getElem hi]
   unfold yE
   rw[List.foldl_append]
   show _=kr b o (yE b o (l.take i) d) l[i]
   rw[←h.eq]
  ·rw[g3];split
   ·rw[List.length_append,List.length_singleton];omega
   ·omega
 ·omega
theorem GO (k:Int) (b o:List UInt8) (l:List (List UInt8)) (d:zD) (hg:RmG 2000 d) (hdt:No d.w.fs.xs) (hl:d.diags.length+l.length<=80000) (hb:b.length<=1000) (hp:∀ x∈l,x.length<=1000):Fun Tryz.prog GD 9 [kI d,.str b,.agg (zqI k o l)] (kI (yE b o l d)) 0:=by
 have hll:(zQ l).length=l.length:=List.length_map ..
 refine fof (fun i=>if i=25 then [false,false,false,false,false,false,false,true] else []) Tryz.func9 ?_;dsimp only[Tryz.f9]
 push_cast -dsimp
 refine loop (fun q:Nat×zD=>⟨[(1,.str b),(3,.ptr 0 0),(5,.ptr 1 0),(6,.ptr 2 0),(18,.sl 1 (zQ l)),(19,.sc (.int .i64 l.length)),(20,.sc (.int .i64 q.1))],[znl q.2,zqI k o l,kX],0,0⟩) (fun q=>PlI b o l d q.1 q.2) (fun q=>l.length-q.1) (0,d) ⟨Nat.zero_le _,rfl,hg,Nat.le_refl _,hdt⟩ ?_ ?_
 ·exact wk (h4:=by push_cast -dsimp [zb,za,CLe,zd,hll])
 rintro ⟨i,D⟩ hI
 dsimp only at hI
 have h1:=hI.le
 by_cases hi:i<l.length
 case neg =>
  have hil:i=l.length:=by omega
  have hi':=eq_false (show ¬(i:Int)<l.length by omega)
  have e:=hI.eq
  rw[hil,List.take_length]at e
  push_cast -dsimp [hi']
  rw[←e]
  exact dn (by push_cast -dsimp [zb,za,CLe,zd])
 have hN:=hI.step hi hl
 have hi':=eq_true (show (i:Int)<l.length by omega)
 have hgi:(zQ l)[i]?=some [.str l[i]]:=by simp[zQ,hi]
 have hpl:=hp _ (List.getElem_mem hi)
 generalize l[i]=p at *
 have hdl:D.diags.length<=80000:=by have:=hI.dl;omega
 have hf:=hI.g.c.wi.fs
 have hr:=hI.g.c.wr.fs
 have hs:=hI.g.b.s.ws.fs
 have hba:=(zir p (by omega)).g0 (G':=GD)
 have htl:=zcO D hdl p hpl
 have hx:=hI.g.b.node
 by_cases c1:Yu p = [47]
 ·have c1':=eq_true c1
  rw[Jj (w:=4) (e:=0) (g:=false) (if_pos c1) (by decide)]at hN
  push_cast -dsimp [hi',hgi,hll,Int.toNat_natCast]
  repeat refine an ?_
  refine cl (hba) ?_;push_cast -dsimp [c1']
  refine Qz [0,3] [] (htl (4) (0)) rfl (by decide) (by decide) (by simp) (by push_cast -dsimp) (by push_cast -dsimp) ?_
  push_cast -dsimp
  repeat refine an ?_
  exact ⟨(i+1,_),hN,by dsimp only;omega,wk (h5:=by push_cast -dsimp [zb,za,CLe,zd,j6])⟩
 have c1':=eq_false c1
 have e1:UH D.w.fs b o p=_:=if_neg c1
 by_cases c2:Yu p = [46]
 ·have c2':=eq_true c2
  rw[Jj (w:=3) (e:=0) (g:=false) (e1.trans (if_pos (.inl c2))) (by decide)]at hN
  push_cast -dsimp [hi',hgi,hll,Int.toNat_natCast]
  repeat refine an ?_
  refine cl (hba) ?_;push_cast -dsimp [c1',c2']
  refine Qz [0,3] [] (htl (3) (0)) rfl (by decide) (by decide) (by simp) (by push_cast -dsimp) (by push_cast -dsimp) ?_
  push_cast -dsimp
  repeat refine an ?_
  exact ⟨(i+1,_),hN,by dsimp only;omega,wk (h5:=by push_cast -dsimp [zb,za,CLe,zd,j6])⟩
 have c2':=eq_false c2
 by_cases c3:Yu p = [46,46]
 ·have c3':=eq_true c3
  rw[Jj (w:=3) (e:=0) (g:=false) (e1.trans (if_pos (.inr c3))) (by decide)]at hN
  push_cast -dsimp [hi',hgi,hll,Int.toNat_natCast]
  repeat refine an ?_
  refine cl (hba) ?_;push_cast -dsimp [c1',c2',c3']
  refine Qz [0,3] [] (htl (3) (0)) rfl (by decide) (by decide) (by simp) (by push_cast -dsimp) (by push_cast -dsimp) ?_
  push_cast -dsimp
  repeat refine an ?_
  exact ⟨(i+1,_),hN,by dsimp only;omega,wk (h5:=by push_cast -dsimp [zb,za,CLe,zd,j6])⟩
 have c3':=eq_false c3
 have e2:=e1.trans (if_neg (by rintro (q | q);exact c2 q;exact c3 q))
 have hsk:=(Nf D.w.fs hf hr hs hI.dat b p false (by omega) (by omega)).g0 (G':=GD)
 have hha:=(yw k o (.sl 1 (zQ l)) 102 rfl).g0 (G':=GD)
 have hE:zgS D.w.fs b p=if (z7 D.w.fs b p false).2=0/\(z7 D.w.fs b p false).1.ino=0 then 1 else (z7 D.w.fs b p false).2:=rfl
 by_cases c4:(z7 D.w.fs b p false).2=0
 case neg =>
  have c4':=eq_false c4
  rw[if_neg (fun q=>c4 q.1)]at hE
  have hE0:zgS D.w.fs b p≠0:=by rw[hE];exact c4
  have e3:=e2.trans (if_pos hE0)
  rw[hE]at e3
  by_cases c6:(102:UInt8)∈o
  ·rw[decide_eq_true c6]at hha
   by_cases c7:(z7 D.w.fs b p false).2=1
   ·rw[if_pos ⟨c6,.inl c7⟩]at e3
    rw[H8 e3]at hN
    rw[c7]at hsk
    push_cast -dsimp [hi',hgi,hll,Int.toNat_natCast]
    repeat refine an ?_
    refine cl (hba) ?_;push_cast -dsimp [c1',c2',c3']
    refine cl (hsk) ?_;push_cast -dsimp
    refine cl (hha) ?_;push_cast -dsimp
    repeat refine an ?_
    exact ⟨(i+1,_),hN,by dsimp only;omega,wk (h5:=by push_cast -dsimp [zb,za,CLe,zd,j6])⟩
   ·have c7':=eq_false c7
    by_cases c8:(z7 D.w.fs b p false).2=3
    ·rw[if_pos ⟨c6,.inr c8⟩]at e3
     rw[H8 e3]at hN
     rw[c8]at hsk
     push_cast -dsimp [hi',hgi,hll,Int.toNat_natCast]
     repeat refine an ?_
     refine cl (hba) ?_;push_cast -dsimp [c1',c2',c3']
     refine cl (hsk) ?_;push_cast -dsimp
     refine cl (hha) ?_;push_cast -dsimp
     repeat refine an ?_
     exact ⟨(i+1,_),hN,by dsimp only;omega,wk (h5:=by push_cast -dsimp [zb,za,CLe,zd,j6])⟩
    ·have c8':=eq_false c8
     rw[if_neg (fun q=>q.2.elim c7 c8)]at e3
     rw[Jj e3 (by decide)]at hN
     push_cast -dsimp [hi',hgi,hll,Int.toNat_natCast]
     repeat refine an ?_
     refine cl (hba) ?_;push_cast -dsimp [c1',c2',c3']
     refine cl (hsk) ?_;push_cast -dsimp [c4',c7',c8']
     refine cl (hha) ?_;push_cast -dsimp [c4',c7',c8']
     refine Qz [0,3] [] (htl (2) ((z7 D.w.fs b p false).2)) rfl (by decide) (by decide) (by simp) (by push_cast -dsimp) (by push_cast -dsimp) ?_
     push_cast -dsimp
     repeat refine an ?_
     exact ⟨(i+1,_),hN,by dsimp only;omega,wk (h5:=by push_cast -dsimp [zb,za,CLe,zd,j6])⟩
  ·rw[decide_eq_false c6]at hha
   rw[if_neg (fun q=>c6 q.1)]at e3
   rw[Jj e3 (by decide)]at hN
   push_cast -dsimp [hi',hgi,hll,Int.toNat_natCast]
   repeat refine an ?_
   refine cl (hba) ?_;push_cast -dsimp [c1',c2',c3']
   refine cl (hsk) ?_;push_cast -dsimp [c4']
   refine cl (hha) ?_;push_cast -dsimp
   refine Qz [0,3] [] (htl (2) ((z7 D.w.fs b p false).2)) rfl (by decide) (by decide) (by simp) (by push_cast -dsimp) (by push_cast -dsimp) ?_
   push_cast -dsimp
   repeat refine an ?_
   exact ⟨(i+1,_),hN,by dsimp only;omega,wk (h5:=by push_cast -dsimp [zb,za,CLe,zd,j6])⟩
 rw[c4]at hsk
 by_cases c5:(z7 D.w.fs b p false).1.ino=0
 ·have c5':=eq_true c5
  rw[if_pos ⟨c4,c5⟩]at hE
  have hE0:zgS D.w.fs b p≠0:=by rw[hE];decide
  have e3:=e2.trans (if_pos hE0)
  rw[hE]at e3
  by_cases c6:(102:UInt8)∈o
  ·rw[decide_eq_true c6]at hha
   rw[if_pos ⟨c6,.inl rfl⟩]at e3
   rw[H8 e3]at hN
   push_cast -dsimp [hi',hgi,hll,Int.toNat_natCast]
   repeat refine an ?_
   refine cl (hba) ?_;push_cast -dsimp [c1',c2',c3']
   refine cl (hsk) ?_;push_cast -dsimp [c5']
   refine cl (hha) ?_;push_cast -dsimp
   repeat refine an ?_
   exact ⟨(i+1,_),hN,by dsimp only;omega,wk (h5:=by push_cast -dsimp [zb,za,CLe,zd,j6])⟩
  ·rw[decide_eq_false c6]at hha
   rw[if_neg (fun q=>c6 q.1)]at e3
   rw[Jj e3 (by decide)]at hN
   push_cast -dsimp [hi',hgi,hll,Int.toNat_natCast]
   repeat refine an ?_
   refine cl (hba) ?_;push_cast -dsimp [c1',c2',c3']
   refine cl (hsk) ?_;push_cast -dsimp [c5']
   refine cl (hha) ?_;push_cast -dsimp
   refine Qz [0,3] [] (htl (2) (1)) rfl (by decide) (by decide) (by simp) (by push_cast -dsimp) (by push_cast -dsimp) ?_
   push_cast -dsimp
   repeat refine an ?_
   exact ⟨(i+1,_),hN,by dsimp only;omega,wk (h5:=by push_cast -dsimp [zb,za,CLe,zd,j6])⟩
 have c5':=eq_false c5
 rw[if_neg (fun q=>c5 q.2),c4]at hE
 have e3:=e2.trans (if_neg (fun q=>q hE))
 have hlk:=(yY D.w.fs hf hr hs hI.dat b p (by omega) hpl).g0 (G':=GD)
 have hg:=jH (G:=GD) D.w.fs (z7 D.w.fs b p false).1.ino (by have:=hs.len;omega) hf.rises
 cases c6:Uv D.w.fs b p with
 | true =>
  rw[c6]at hlk e3
  rw[Jj (e3.trans (if_pos rfl)) (by decide)]at hN
  push_cast -dsimp [hi',hgi,hll,Int.toNat_natCast]
  repeat refine an ?_
  refine cl (hba) ?_;push_cast -dsimp [c1',c2',c3']
  refine cl (hsk) ?_;push_cast -dsimp [c5']
  refine cl (hlk) ?_;push_cast -dsimp
  refine Qz [0,3] [] (htl (2) (3)) rfl (by decide) (by decide) (by simp) (by push_cast -dsimp) (by push_cast -dsimp) ?_
  push_cast -dsimp
  repeat refine an ?_
  exact ⟨(i+1,_),hN,by dsimp only;omega,wk (h5:=by push_cast -dsimp [zb,za,CLe,zd,j6])⟩
 | false =>
  rw[c6]at hlk e3
  have e4:=e3.trans (if_neg (by simp))
  have hwy:=(zln k o l (zf (z7 D.w.fs b p false).1.ino D.w.fs.xs) (by
   cases hh:zt (z7 D.w.fs b p false).1.ino D.w.fs.xs with
   | false=>rw[Ge hh];exact Nat.zero_le _
   | true=>have:=(hx _ (zh hh).2.1).1;omega)).g0 (G':=GD)
  by_cases c7:zid o (zf (z7 D.w.fs b p false).1.ino D.w.fs.xs)=0
  ·have e5:=e4.trans (if_neg (fun q=>q c7))
   have ht:=V9 hf hr (b:=b) (o:=o) (p:=p) (by rw[e5])
   have hm:=XH hr ht
   have hok:=hI.g.ok
   have hpa:=(zcM D.w.fs hok _ ht.has ht.kind hm).g0 (G':=GD)
   have hpl2:=uB hok ht.has ht.kind hm
   have hrm:=Ub D.w.fs.xs.length D (YE D.w.fs (z7 D.w.fs b p false).1) (z7 D.w.fs b p false).1.ino hI.g.b (by have:=hI.g.b.len;omega) (zkp hok (zH.ino hf ht))
   rw[c7]at hwy
   rw[zk6 e5]at hN
   generalize rmD (D.w.fs.xs.length+1) D (YE D.w.fs (z7 D.w.fs b p false).1) (z7 D.w.fs b p false).1.ino=D2 at hrm hN
   push_cast -dsimp [hi',hgi,hll,Int.toNat_natCast]
   repeat refine an ?_
   refine cl (hba) ?_;push_cast -dsimp [c1',c2',c3']
   refine cl (hsk) ?_;push_cast -dsimp [c5']
   refine cl (hlk) ?_;push_cast -dsimp
   refine cl (hg) ?_;push_cast -dsimp
   refine cl (hwy) ?_;push_cast -dsimp
   refine cl (hpa) ?_;push_cast -dsimp
   refine cl (hrm) ?_;push_cast -dsimp
   repeat refine an ?_
   exact ⟨(i+1,_),hN,by dsimp only;omega,wk (h5:=by push_cast -dsimp [zb,za,CLe,zd,j6])⟩
  ·have c7':=eq_false c7
   rw[Jj (e4.trans (if_pos c7)) (by decide)]at hN
   push_cast -dsimp [hi',hgi,hll,Int.toNat_natCast]
   repeat refine an ?_
   refine cl (hba) ?_;push_cast -dsimp [c1',c2',c3']
   refine cl (hsk) ?_;push_cast -dsimp [c5']
   refine cl (hlk) ?_;push_cast -dsimp
   refine cl (hg) ?_;push_cast -dsimp
   refine cl (hwy) ?_;push_cast -dsimp [c7']
   refine Qz [0,3] [] (htl (2) (zid o (zf (z7 D.w.fs b p false).1.ino D.w.fs.xs))) rfl (by decide) (by decide) (by simp) (by push_cast -dsimp) (by push_cast -dsimp) ?_
   push_cast -dsimp
   repeat refine an ?_
   exact ⟨(i+1,_),hN,by dsimp only;omega,wk (h5:=by push_cast -dsimp [zb,za,CLe,zd,j6])⟩
end
section
open CA CB
open Go.RowKit
end
section
open CA CB
open Go.RowKit
end
section
open CA CB
open Go.RowKit
end
section
open CA CB
open Go.RowKit
end
section
open CA CB
open Go.RowKit
end
section
open CA CB
open Go.RowKit
def JW (w:qk) (b:List UInt8) (l:List (List UInt8)):Prop:=(∀ x∈l.take 20,x.length<=1000)/\okW w/\w.fs.next<549755813888/\jJ w.kept<536870912/\QT w.fs b []=true/\Jc b=true/\l.length<=6
instance (w:qk) (b:List UInt8) (l:List (List UInt8)):Decidable (JW w b l):=by unfold JW;infer_instance
theorem zaW (w:qk) (b:List UInt8) (l:List (List UInt8)) (hb:b.length<=2000000):Fun Tryz.prog G0 7 [Yp w,.str b,.sl 1 (zQ l)] (qt (decide (JW w b l))) 0:=by
 have hll:(zQ l).length=l.length:=List.length_map ..
 have hpl:=XS b hb
 unfold JL at hpl
 have hok:=zfV w
 have hsh:=zcj w.fs b []
 refine fon Tryz.func7 ?_;dsimp only[Tryz.f7]
 push_cast -dsimp
 refine cl (hpl) ?_;push_cast -dsimp
 refine loop (fun i:Nat=>⟨[(1,.str b),(2,.sl 1 (zQ l)),(3,.ptr 0 0),(8,.sc (.bool (Jc b))),(9,.sc (.int .i64 i))],[QJ w],0,0⟩) (fun i=>i<=l.length/\i<=20/\∀ x∈l.take i,x.length<=1000) (fun i=>l.length-i) 0 ⟨Nat.zero_le _,Nat.zero_le _,fun x hx=>by rw[List.take_zero]at hx;cases hx⟩ ?_ ?_
 ·exact wk
 rintro i ⟨h1,h2,h3⟩
 by_cases hi:i<l.length
 ·have hi':=eq_true (show (i:Int)<l.length by omega)
  by_cases h20:i<20
  ·have h20':=eq_true (show (i:Int)<20 by omega)
   have hgi:(zQ l)[i]?=some [.str l[i]]:=by simp[zQ,hi]
   have ht:l.take (i+1)=l.take i++[l[i]]:=List.take_succ_eq_append_getElem hi
   by_cases hx:l[i].length<=1000
   ·have hx':=eq_false (show ¬(1000:Int)<l[i].length by omega)
    push_cast -dsimp [hi',h20',hgi,hll,hx',Int.toNat_natCast]
    repeat refine an ?_
    exact ⟨i+1,⟨by omega,by omega,fun x hm=>by
     rw[ht]at hm
     rcases List.mem_append.1 hm with hm | hm
     ·exact h3 x hm
     ·rw[List.mem_singleton.1 hm];exact hx⟩,by omega,wk⟩
   ·have hx':=eq_true (show (1000:Int)<l[i].length by omega)
    have hn:¬JW w b l:=fun h=>hx (h.1 _ (List.mem_take_iff_getElem.2 ⟨i,by omega,rfl⟩))
    push_cast -dsimp [hi',h20',hgi,hll,hx',Int.toNat_natCast]
    repeat refine an ?_
    exact dn (by push_cast -dsimp [zb,za,CLe,zd,hn])
  ·have h20':=eq_false (show ¬(i:Int)<20 by omega)
   have hx:∀ x∈l.take 20,x.length<=1000:=by rw[show i=20 by omega]at h3;exact h3
   by_cases k1:okW w
   case neg =>
    have hn:¬JW w b l:=fun h=>k1 h.2.1
    rw[decide_eq_false k1]at hok
    push_cast -dsimp [hi',h20',hll]
    refine cl (hok) ?_;push_cast -dsimp
    exact dn (by push_cast -dsimp [zb,za,CLe,zd,hn])
   rw[decide_eq_true k1]at hok
   have hs:=k1.2.2.2.2.1
   have hla:=UN (G:=G0) w (by have:=(Gf k1).klen;omega) hs.1 hs.2
   by_cases k2:w.fs.next<549755813888
   case neg =>
    have hn:¬JW w b l:=fun h=>k2 h.2.2.1
    have k2':=eq_false k2
    push_cast -dsimp [hi',h20',hll]
    refine cl (hok) ?_;push_cast -dsimp [k2']
    exact dn (by push_cast -dsimp [zb,za,CLe,zd,hn])
   have k2':=eq_true k2
   by_cases k3:jJ w.kept<536870912
   case neg =>
    have hn:¬JW w b l:=fun h=>k3 h.2.2.2.1
    have k3':=eq_false k3
    push_cast -dsimp [hi',h20',hll]
    refine cl (hok) ?_;push_cast -dsimp [k2']
    refine cl (hla) ?_;push_cast -dsimp [k3']
    exact dn (by push_cast -dsimp [zb,za,CLe,zd,hn])
   have k3':=eq_true k3
   cases k4:QT w.fs b []
   case false =>
    have hn:¬JW w b l:=fun h=>by rw[h.2.2.2.2.1]at k4;cases k4
    rw[k4]at hsh
    push_cast -dsimp [hi',h20',hll]
    refine cl (hok) ?_;push_cast -dsimp [k2']
    refine cl (hla) ?_;push_cast -dsimp [k3']
    refine cl (hsh) ?_;push_cast -dsimp
    exact dn (by push_cast -dsimp [zb,za,CLe,zd,hn])
   rw[k4]at hsh
   cases k5:Jc b
   case false =>
    have hn:¬JW w b l:=fun h=>by rw[h.2.2.2.2.2.1]at k5;cases k5
    push_cast -dsimp [hi',h20',hll]
    refine cl (hok) ?_;push_cast -dsimp [k2']
    refine cl (hla) ?_;push_cast -dsimp [k3']
    refine cl (hsh) ?_;push_cast -dsimp
    exact dn (by push_cast -dsimp [zb,za,CLe,zd,hn])
   by_cases k6:l.length<=6
   ·have hn:JW w b l:=⟨hx,k1,k2,k3,k4,k5,k6⟩
    have k6':=eq_true (show (l.length:Int)<=6 by omega)
    push_cast -dsimp [hi',h20',hll]
    refine cl (hok) ?_;push_cast -dsimp [k2']
    refine cl (hla) ?_;push_cast -dsimp [k3']
    refine cl (hsh) ?_;push_cast -dsimp [hll,k6']
    exact dn (by push_cast -dsimp [zb,za,CLe,zd,hn])
   ·have hn:¬JW w b l:=fun h=>k6 h.2.2.2.2.2.2
    have k6':=eq_false (show ¬(l.length:Int)<=6 by omega)
    push_cast -dsimp [hi',h20',hll]
    refine cl (hok) ?_;push_cast -dsimp [k2']
    refine cl (hla) ?_;push_cast -dsimp [k3']
    refine cl (hsh) ?_;push_cast -dsimp [hll,k6']
    exact dn (by push_cast -dsimp [zb,za,CLe,zd,hn])
 ·have hi':=eq_false (show ¬(i:Int)<l.length by omega)
  have hx:∀ x∈l.take 20,x.length<=1000:=by
   rw[show i=l.length by omega,List.take_length]at h3
   exact fun x hm=>h3 x (List.mem_of_mem_take hm)
  by_cases k1:okW w
  case neg =>
   have hn:¬JW w b l:=fun h=>k1 h.2.1
   rw[decide_eq_false k1]at hok
   push_cast -dsimp [hi',hll]
   refine cl (hok) ?_;push_cast -dsimp
   exact dn (by push_cast -dsimp [zb,za,CLe,zd,hn])
  rw[decide_eq_true k1]at hok
  have hs:=k1.2.2.2.2.1
  have hla:=UN (G:=G0) w (by have:=(Gf k1).klen;omega) hs.1 hs.2
  by_cases k2:w.fs.next<549755813888
  case neg =>
   have hn:¬JW w b l:=fun h=>k2 h.2.2.1
   have k2':=eq_false k2
   push_cast -dsimp [hi',hll]
   refine cl (hok) ?_;push_cast -dsimp [k2']
   exact dn (by push_cast -dsimp [zb,za,CLe,zd,hn])
  have k2':=eq_true k2
  by_cases k3:jJ w.kept<536870912
  case neg =>
   have hn:¬JW w b l:=fun h=>k3 h.2.2.2.1
   have k3':=eq_false k3
   push_cast -dsimp [hi',hll]
   refine cl (hok) ?_;push_cast -dsimp [k2']
   refine cl (hla) ?_;push_cast -dsimp [k3']
   exact dn (by push_cast -dsimp [zb,za,CLe,zd,hn])
  have k3':=eq_true k3
  cases k4:QT w.fs b []
  case false =>
   have hn:¬JW w b l:=fun h=>by rw[h.2.2.2.2.1]at k4;cases k4
   rw[k4]at hsh
   push_cast -dsimp [hi',hll]
   refine cl (hok) ?_;push_cast -dsimp [k2']
   refine cl (hla) ?_;push_cast -dsimp [k3']
   refine cl (hsh) ?_;push_cast -dsimp
   exact dn (by push_cast -dsimp [zb,za,CLe,zd,hn])
  rw[k4]at hsh
  cases k5:Jc b
  case false =>
   have hn:¬JW w b l:=fun h=>by rw[h.2.2.2.2.2.1]at k5;cases k5
   push_cast -dsimp [hi',hll]
   refine cl (hok) ?_;push_cast -dsimp [k2']
   refine cl (hla) ?_;push_cast -dsimp [k3']
   refine cl (hsh) ?_;push_cast -dsimp
   exact dn (by push_cast -dsimp [zb,za,CLe,zd,hn])
  by_cases k6:l.length<=6
  ·have hn:JW w b l:=⟨hx,k1,k2,k3,k4,k5,k6⟩
   have k6':=eq_true (show (l.length:Int)<=6 by omega)
   push_cast -dsimp [hi',hll]
   refine cl (hok) ?_;push_cast -dsimp [k2']
   refine cl (hla) ?_;push_cast -dsimp [k3']
   refine cl (hsh) ?_;push_cast -dsimp [hll,k6']
   exact dn (by push_cast -dsimp [zb,za,CLe,zd,hn])
  ·have hn:¬JW w b l:=fun h=>k6 h.2.2.2.2.2.2
   have k6':=eq_false (show ¬(l.length:Int)<=6 by omega)
   push_cast -dsimp [hi',hll]
   refine cl (hok) ?_;push_cast -dsimp [k2']
   refine cl (hla) ?_;push_cast -dsimp [k3']
   refine cl (hsh) ?_;push_cast -dsimp [hll,k6']
   exact dn (by push_cast -dsimp [zb,za,CLe,zd,hn])
theorem zhi (k:Int) (l:List (List UInt8)) (hk:k=1∨k=2∨k=3∨k=4∨k=5) (hl:l.length<=90) (hs:∀ x∈l,x.length<=1000):Fun Tryz.prog G0 8 [.sc (.int .i64 k),.sl 1 (zQ l)] (.tup [zr7 (Qf (Ju k :: l)).1,qt (decide ((Qf (Ju k :: l)).2 = []))]) 1:=by
 have hn:=M4 k
 have hll:(zQ l).length=l.length:=List.length_map ..
 have hr:=zen (Ju k :: l) (by rw[List.length_cons];omega) (fun x hx=>by
  rcases List.mem_cons.1 hx with rfl | hx
  ·rcases hk with rfl | rfl | rfl | rfl | rfl<;>decide
  ·exact hs x hx)
 have e:zQ (Ju k :: l) = [.str (Ju k)] :: zQ l:=rfl
 rw[e]at hr
 refine fof (fun i=>if i=1 then jB 9 10 else if i=2 then [false,false,false,true] else []) Tryz.func8 ?_;dsimp only[Tryz.f8]
 push_cast -dsimp
 refine cl (hn) ?_;push_cast -dsimp
 repeat refine an ?_
 refine cl (hr) ?_;push_cast -dsimp
 exact ⟨[.inl 1],rfl,rfl,by push_cast -dsimp [zb,za,CLe,zd]⟩
end
section
open CA CB
open Go.RowKit
def j5:qk:=⟨⟨9,9,9,[⟨1,2,0,[],1,[⟨[100],3⟩]⟩,⟨3,2,1,[],1,[⟨[102],4⟩]⟩,⟨4,1,1,[122],0,[]⟩]⟩,[],[]⟩
theorem Mj:okW j5:=by decide
theorem vl:Fun Tryz.prog G0 19 [] (Yp j5) 0:=by
 have h1:=ziA (G:=G0) 9 9
 have h2:=X9 (G:=G0) ⟨9,9,9,[⟨1,2,0,[],1,[]⟩]⟩ ⟨1,2,0,[],1,[⟨[100],3⟩]⟩ (by decide)
 have h4:=zhh (G:=G0) ⟨9,9,9,[⟨1,2,0,[],1,[⟨[100],3⟩]⟩,⟨3,2,1,[],1,[⟨[102],4⟩]⟩]⟩ ⟨4,1,1,[122],0,[]⟩ rfl (by decide)
 have e2:qP ⟨1,2,0,[],1,[⟨[100],3⟩]⟩ [⟨1,2,0,[],1,[]⟩] = [⟨1,2,0,[],1,[⟨[100],3⟩]⟩]:=by decide
 have e3:qP ⟨3,2,1,[],1,[⟨[102],4⟩]⟩ [⟨1,2,0,[],1,[⟨[100],3⟩]⟩] = [⟨1,2,0,[],1,[⟨[100],3⟩]⟩,⟨3,2,1,[],1,[⟨[102],4⟩]⟩]:=by decide
 have e4:qP ⟨4,1,1,[122],0,[]⟩ [⟨1,2,0,[],1,[⟨[100],3⟩]⟩,⟨3,2,1,[],1,[⟨[102],4⟩]⟩]=j5.fs.xs:=by decide
 have h3:=X9 (G:=G0) ⟨9,9,9,[⟨1,2,0,[],1,[⟨[100],3⟩]⟩]⟩ ⟨3,2,1,[],1,[⟨[102],4⟩]⟩ (by decide)
 simp only[e2]at h2
 simp only[e3]at h3
 simp only[e4]at h4
 refine fon Tryz.func19 ?_;dsimp only[Tryz.f19]
 push_cast -dsimp
 refine cl (h1) ?_;push_cast -dsimp
 refine cl (h2) ?_;push_cast -dsimp
 refine cl (h3) ?_;push_cast -dsimp
 refine cl (h4) ?_;push_cast -dsimp
 exact dn (by push_cast -dsimp [zb,za,CLe,zd,j5])
def tA:List (List UInt8):=[[114,109,58,32,99,97,110,110,111,116,32,114,101,109,111,118,101,32,34,100,34,58,32,73,115,32,97,32,100,105,114,101,99,116,111,114,121],[114,109,58,32,114,101,102,117,115,105,110,103,32,116,111,32,114,101,109,111,118,101,32,34,46,34,32,111,114,32,34,46,46,34,32,100,105,114,101,99,116,111,114,121,58,32,115,107,105,112,112,105,110,103,32,34,100,47,46,34],[114,109,58,32,105,116,32,105,115,32,100,97,110,103,101,114,111,117,115,32,116,111,32,111,112,101,114,97,116,101,32,114,101,99,117,114,115,105,118,101,108,121,32,111,110,32,34,47,34],[114,109,58,32,99,97,110,110,111,116,32,114,101,109,111,118,101,32,34,120,34,58,32,78,111,32,115,117,99,104,32,102,105,108,101,32,111,114,32,100,105,114,101,99,116,111,114,121]]
theorem ut:RmG 2000 (Zz j5):=zqj Mj (by decide) (by decide)
theorem kQ:No (Zz j5).w.fs.xs:=by
 intro x hx
 have:∀ x∈j5.fs.xs,x.kind=3->x.data.length<=1000:=by decide
 exact this x hx
theorem yl:Fun Tryz.prog GD 6 [] (qt true) 0:=by
 have q0:Fun Tryz.prog GD 19 [] (Yp j5) 0:=vl.g0
 have q1:Fun Tryz.prog GD 10 [Yp j5] (kI (Zz j5)) 0:=(Me j5 (by decide) Mj.2.2.2.2.1).g0
 have q2:Fun Tryz.prog GD 9 [kI (Zz j5),.str [47],.agg [.sc (.int .i64 2),.str [114],.sl 1 [[.str [100]]]]] (kI (yE [47] [114] [[100]] (Zz j5))) 0:=GO 2 [47] [114] [[100]] (Zz j5) ut kQ (by decide) (by decide) (by decide)
 have q3:Fun Tryz.prog GD 9 [kI (Zz j5),.str [47],.agg [.sc (.int .i64 2),.str [],.sl 1 [[.str [100]],[.str [100,47,46]],[.str [47]],[.str [120]]]]] (kI (yE [47] [] [[100],[100,47,46],[47],[120]] (Zz j5))) 0:=GO 2 [47] [] [[100],[100,47,46],[47],[120]] (Zz j5) ut kQ (by decide) (by decide) (by decide)
 obtain ⟨dA,hA⟩:∃ d,yE [47] [114] [[100]] (Zz j5)=d:=⟨_,rfl⟩
 obtain ⟨dB,hB⟩:∃ d,yE [47] [] [[100],[100,47,46],[47],[120]] (Zz j5)=d:=⟨_,rfl⟩
 have p1:dA.ops = [⟨7,1,[47,100,47,102],[],[]⟩,⟨7,2,[47,100],[],[]⟩]:=by rw[←hA];kernel_rfl
 have p2:dB.ops = []:=by rw[←hB];kernel_rfl
 have p3:dB.diags=tA:=by rw[←hB];kernel_rfl
 rw[hA]at q2
 rw[hB]at q3
 have q4:Fun Tryz.prog GD 20 [.sl 5 (dA.ops.map opL),.sl 5 [opL ⟨7,1,[47,100,47,102],[],[]⟩,opL ⟨7,2,[47,100],[],[]⟩]] (qt true) 0:=by
  have h:=zgi dA.ops [⟨7,1,[47,100,47,102],[],[]⟩,⟨7,2,[47,100],[],[]⟩] (by rw[p1];decide)
  rw[show JH dA.ops [⟨7,1,[47,100,47,102],[],[]⟩,⟨7,2,[47,100],[],[]⟩]=true by rw[p1];rfl]at h
  exact h.g0
 have q5:Fun Tryz.prog GD 13 [.sl 1 (zQ dB.diags),.sl 1 (zQ tA)] (qt true) 0:=by
  have h:=zhX dB.diags tA (by rw[p3];decide)
  rw[decide_eq_true p3]at h
  exact h.g0
 have p4:((dB.ops.map opL).length:Int)=0:=by rw[p2];rfl
 have p5:((dB.ops.length:Int)=0)=True:=eq_true (by rw[p2];rfl)
 clear hA hB p1 p2 p3
 refine fon Tryz.func6 ?_;dsimp only[Tryz.f6]
 push_cast -dsimp
 refine cl (q0) ?_;push_cast -dsimp
 refine cl (q1) ?_;push_cast -dsimp
 refine cl (q2) ?_;push_cast -dsimp
 refine cl (q1) ?_;push_cast -dsimp
 refine cl (q3) ?_;push_cast -dsimp
 refine cl (q4) ?_;push_cast -dsimp [p4,p5]
 refine cl (q5) ?_;push_cast -dsimp
 exact dn (by push_cast -dsimp [zb,za,CLe,zd])
end
section
open CA CB
open Go.RowKit
theorem zhw (k:Int) (s:List UInt8):(Yo k s 58).length<=58:=by
 unfold Yo
 refine Nat.le_trans (List.length_filter_le _ _) ?_
 simp
theorem vo (l:List (List UInt8)):(Qf l).1.opts.length<=58/\(Qf l).1.operands.length<=l.length/\∀ x∈(Qf l).1.operands,x∈l:=by
 refine ⟨?_,zew l,?_⟩
 ·cases l with
  | nil=>exact Nat.zero_le _
  | cons w r =>
   rw[Qf]
   split
   ·exact Nat.zero_le _
   ·unfold JA
    split
    ·exact Nat.zero_le _
    ·split
     ·exact Nat.zero_le _
     ·exact zhw _ _
 ·cases l with
  | nil=>intro x hx;cases hx
  | cons w r =>
   rw[Qf]
   split
   ·intro x hx;cases hx
   ·unfold JA
    split
    ·intro x hx;cases hx
    ·split
     ·intro x hx;cases hx
     ·exact fun x hx=>List.mem_cons_of_mem _ (List.mem_of_mem_drop hx)
theorem zjS {w:qk} {b:List UInt8} {l:List (List UInt8)} (h:JW w b l):No w.fs.xs/\b.length<=1000:=by
 have hs:=h.2.2.2.2.1
 have hl:=(Gf h.2.1).len
 unfold QT at hs
 simp only[Bool.and_eq_true,decide_eq_true_eq,Bool.not_eq_true',List.any_eq_false]at hs
 obtain ⟨⟨h1,h2⟩,_⟩:=hs
 rw[List.take_of_length_le (by omega)]at h1
 refine ⟨fun x hx hk=>?_,by omega⟩
 have:=h1 x hx
 unfold VK at this
 simp only[Bool.and_eq_true,decide_eq_true_eq,not_and]at this
 have:=this hk
 omega
structure zrT (w:qk) (b:List UInt8) (l:List (List UInt8)) (c:znK):Prop where
 g:RmG 2000 (Zz w)
 dat:No (Zz w).w.fs.xs
 b:b.length<=1000
 o:c.opts.length<=1000
 n:c.operands.length<=7
 p:∀ x∈c.operands,x.length<=1000
theorem Hn {w:qk} {b:List UInt8} {l:List (List UInt8)} (h:JW w b l):∀ x∈l,x.length<=1000:=by
 have h1:=h.1
 rw[List.take_of_length_le (by have:=h.2.2.2.2.2.2;omega)]at h1
 exact h1
theorem zrT.of {w:qk} {b:List UInt8} {l:List (List UInt8)} (h:JW w b l):zrT w b l (Qf (Ju 2 :: l)).1:=by
 obtain ⟨p1,p2,p3⟩:=vo (Ju 2 :: l)
 obtain ⟨d1,d2⟩:=zjS h
 have h6:=h.2.2.2.2.2.2
 refine ⟨zqj h.2.1 (by have:=h.2.2.1;omega) (by have:=h.2.2.2.1;omega),d1,d2,by omega,by rw[List.length_cons]at p2;omega,fun x hx=>?_⟩
 rcases List.mem_cons.1 (p3 x hx) with rfl | hx
 ·decide
 ·exact Hn h x hx
end
end Go.Proofs.YtlkjpfiancahiaaGreatDoor.Vcg
