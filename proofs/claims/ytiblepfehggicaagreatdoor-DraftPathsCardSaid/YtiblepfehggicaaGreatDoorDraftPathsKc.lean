/- What the proof of DraftPaths leans on, part 3: Vcg17 Vcg26 Lay Vcg18 Slc0 Slc1 TabV Tab1 OpenG OpenT Srt0 SlcE Shelf Tab2. No condition beyond what each theorem states. -/
import Derived.Test.YtiblepfehggicaaGreatDoorDraftPathsKb
import Derived.Test.YtiblepfehggicaaGreatDoorProg
import Derived.Lib.Overlaps
import Derived.Laws.Externs
import Derived.WalkKit
import Derived.ProofKit
import Derived.Deep.Slices
import Derived.Deep.Fields
import Derived.ChangeSame
import Derived.ChangeOld
import Derived.Lib.SmallJoins
import Derived.Test.YtiblepfehggicaaGreatDoorRows
import Derived.Lib.Bytealg
import Derived.Shelf.Strings.Builder1
import Derived.Shelf.Strings.Builder2
import Derived.Shelf.Strings.OnBuilder
import Derived.Shelf.Strings.Trim
import Derived.Shelf.Small.Utf8
import Derived.Shelf.Small.Strs
import Derived.Shelf.Small.Wraps
import Derived.Shelf.Strings.BuilderF
import Derived.Shelf.Strings.BuilderK
import Derived.Shelf.Strings.Search1
import Derived.Shelf.Strings.Search2
import Derived.Shelf.Strings.Search3
import Derived.Shelf.LaysM
import Derived.Shelf.Strings.Shaped
import Derived.Shelf.Strings.Prefix
import Derived.Shelf.Unicode.Decode
import Derived.Shelf.Strings.Runes
import Derived.Shelf.Strings.IndexAny
import Derived.Shelf.Strings.AsciiSet
import Derived.Shelf.Strings.IndexAnyAll
import Derived.Shelf.Unicode.DecodeSlow
import Derived.Shelf.Unicode.DecodeAny
set_option linter.unusedVariables false
set_option linter.unusedSimpArgs false
set_option linter.unusedSectionVars false
set_option maxRecDepth 100000
set_option maxHeartbeats 4000000
namespace Go.Proofs.YtiblepfehggicaaGreatDoor.Vcg
section
open Go.RowKit
def zlw (next:St->Prop) (Q:Exit->St->Prop):Exit->St->Prop
 | .normal,σ=>next σ
 | e,σ=>Q e σ
def Nu (id:Nat) (Q:Exit->St->Prop):Exit->St->Prop
 | .exit id',σ=>if id'=id then Q .normal σ else Q (.exit id') σ
 | e,σ=>Q e σ
def zdK (Q:Exit->St->Prop):Exit->St->Prop
 | .goto _,_=>False
 | e,σ=>Q e σ
def zka (next:St->Prop) (Q:Exit->St->Prop):Exit->St->Prop
 | .normal,σ=>next σ
 | e,σ=>Q e σ
def zgT (p:Nat) (B:(Exit->St->Prop)->St->Prop) (Q:Exit->St->Prop) (σ:St):Prop:=
 ∃ (ι:Type) (I:ι->St) (ok:ι->Prop) (μ:ι->Nat) (i0:ι),ok i0/\zS p σ (I i0)/\∀ i,ok i->B (zka (fun σ'=>∃ j,ok j/\μ j<μ i/\zS p σ' (I j)) Q) (I i)
def zmZ (P:Program) (G:zk) (Y:Hd) (ops:Array Oper):List Oper->St->(St->Prop)->Prop
 | [],σ,K=>K σ
 | o :: rest,σ,K=>qS ops σ.tm o.guard (Qk P G Y o.op σ fun c σ'=>zmZ P G Y ops rest (σ'.put o.dst c) K) (zmZ P G Y ops rest (σ.put o.dst (.sc undef)) K)
def UI (P:Program) (G:zk) (h:Hd) (ops:Array Oper) (br:List Bool) (σ:St) (K:St->Prop):Prop:=
 match V2 br with
 | some (a,s)=>match s==0 with
  | true=>J8 P G h ops (ops.toList.take a) [] σ fun σ'=>zhI P G h (ops.toList.drop a) σ' K
  | false=>jp P G ops a s ops.toList 0 none σ K
 | none=>match Uy br with
  | some (s,br')=>match s==199 with
   | true=>mix P G h ops (zc5 br') 0 [] σ K
   | false=>vj P G h ops s br' σ K
  | none=>J8 P G h ops ops.toList br σ K
def awp (P:Program) (G:zk):Hd->Code->(Exit->St->Prop)->St->Prop
 | _,.skip,Q,σ=>Q .normal σ
 | _,.label _,Q,σ=>Q .normal σ
 | _,.exit id,Q,σ=>Q (.exit id) σ
 | _,.goto l,Q,σ=>Q (.goto l) σ
 | _,.ret,Q,σ=>Q .ret σ
 | h,.seq x y,Q,σ=>awp P G h x (zlw (awp P G h y Q) Q) σ
 | h,.cond c x y,Q,σ=>ABr (zr G σ.tm c) (awp P G h x Q σ) (awp P G h y Q σ)
 | h,.block id c,Q,σ=>awp P G h c (Nu id Q) σ
 | h,.loop c,Q,σ=>zgT h.p (awp P G h c) Q σ
 | h,.scope c,Q,σ=>awp P G h c (zdK Q) σ
 | h,.region id ops draw,Q,σ=>match draw with
  | true=>UI P G h ops (h.b id) σ (Q .normal)
  | false=>zmZ P G h ops ops.toList σ (Q .normal)
 | h,.rangeFunc f ps x y,Q,σ=>y0 P G h.p (fun m=>awp P G ⟨m,h.y,h.b⟩ x) (fun m=>awp P G ⟨m,h.y,h.b⟩ y) Q ps.toList (zr G σ.tm f) σ
 | _,.refuse _,_,_=>False
def jz (N:Nat) (b:Nat->List Bool):Code->Bool
 | .seq x y=>jz N b x&&jz N b y
 | .cond _ x y=>jz N b x&&jz N b y
 | .block _ c=>jz N b c
 | .loop c=>jz N b c
 | .scope c=>jz N b c
 | .region id ops draw=>(ops.toList.all fun o=>match o.dst with | some d=>decide (d<N) | none=>true)&&(!draw||(Jd ops&&match V2 (b id) with | some (a,s)=>if s==0 then yV ops a else ZU ops a s | none=>match Uy (b id) with | some (s,br')=>if s==199 then vg ops (zc5 br') else Ge ops s br' | none=>Xu ops (b id)))
 | .rangeFunc _ ps x y=>(ps.toList.all fun p=>decide (p<N))&&jz N b x&&jz N b y
 | _=>true
section
variable {P:Program} {G:zk} {E:Ctx} {σ:St} {a:Act} {N p:Nat} {bx:List (List C)} {ops:Array Oper}
theorem zfN {l:List Oper} (h:(l.all fun o=>match o.dst with | some d=>decide (d<N) | none=>true)=true):∀ o∈l,JY N o.dst:=fun o ho=>by
 have:=List.all_eq_true.1 h o ho
 unfold JY
 cases hd:o.dst with
 | none=>trivial
 | some d=>simpa [hd] using this
theorem ZC {Y:Hd} (hY:zfo P Y E) {r:Option Nat} {n:Nat} {Q:Exit->Act->World->Prop} {K:St->Prop} (hQ:∀ a' w' σ',K σ'->Inv G E σ' a' w'->Q .normal a' w'):∀ (l:List Oper) (σ:St) (a:Act) (w:World),(∀ o∈l,JY E.N o.dst)->zmZ P G Y ops l σ K->Inv G E σ a w ->
  (∀ (j:Nat) (o:Oper),ops[j]?=some o->JY E.N o.dst)->wpListIn (Fl r) n P ops Q l a w
 | [],σ,a,w,_,h,hI,_=>hQ a w σ h hI
 | o :: rest,σ,a,w,hd,h,hI,hops=>by
  obtain ⟨b,hg,h1,h2⟩:=qS.out h
  obtain ⟨R,L,rfl,hI⟩:=hI
  have hguard:Region.wanted o (yielded ops a.tmps)=b:=jy (tm:=σ.tm) (R:=R) (L:=L) rfl hg fun j want d hgd hdd=>by
   refine ⟨?_,hI.tm d⟩
   rw[hI.size]
   cases hj:ops[j]? with
   | none=>rw[hj]at hdd;cases hdd
   | some o' =>
    rw[hj]at hdd
    have hd':o'.dst=some d:=hdd
    have:=hops j o' hj
    rw[hd']at this;exact this
  have hdo:=hd o List.mem_cons_self
  have hdr:∀ o'∈rest,JY E.N o'.dst:=fun o' ho'=>hd o' (List.mem_cons_of_mem _ ho')
  simp only[wpListIn,hguard]
  cases b with
  | true =>
   simp only[if_true]
   refine jj ((XL hY (h1 rfl) hI).mono fun v w'=>?_)
   rintro ⟨c,σ',R',L',rfl,hI',hv,hK⟩
   exact ZC hY hQ rest _ _ _ hdr hK ⟨R',L',rfl,hI'.put hdo hv⟩ hops
  | false =>
   simp only[Bool.false_eq_true,if_false]
   exact ⟨fun f _=>trivial,ZC hY hQ rest _ _ _ hdr (h2 rfl) ⟨R,L,rfl,hI.put hdo (zn.2 rfl)⟩ hops⟩
theorem Qc {F:Fence} {n:Nat} {c:Code} {Q:Exit->Act->World->Prop} {w:World} (h:c.wpIn F n P (Exit.noGoto Q) a w):(Code.scope c).wpIn F n P Q a w:=by
 intro b k cs hro hb hr
 obtain ⟨e,a₁,w₁,hq,harr⟩:=h b (.inScope c :: k) cs hro hb hr
 have h0:StepsIn (Machine.fenced P F) P (lone (b.atR a (.code (.scope c) :: k)) cs w) (lone (b.atR a (.code c :: .inScope c :: k)) cs w):=
  .one (fenced_calm hb hr rfl) (step_lone_go (by simp[stepG,stepG.exec,Frame.atR]))
 cases e with
 | normal=>exact ⟨.normal,a₁,w₁,hq,.trans (.trans h0 harr) (.one (fenced_calm hb hr rfl) (step_lone_go (by simp[stepG,stepG.exec,Frame.atR])))⟩
 | exit id=>exact ⟨.exit id,a₁,w₁,hq,fun k' hk=>StepsIn.trans h0 (harr.1 k' (by simp[exitTo,hk])),fun hr hk=>let ⟨k₁,h1,h2⟩:=harr.2 hr (by simp[exitTo,hk]);⟨k₁,h1,StepsIn.trans h0 h2⟩⟩
 | goto l=>exact hq.elim
 | ret=>exact ⟨_,a₁,w₁,hq,.of_steps h0 harr⟩
 | panic ch=>exact ⟨_,a₁,w₁,hq,.of_steps h0 harr⟩
 | outgrown=>exact ⟨_,a₁,w₁,hq,.of_steps (b:=b) (k:=k) (cs:=cs) (e:=.outgrown) h0 harr⟩
theorem zbJ (hm:P.follows .mixedOrders=true):∀ (c:Code) (h:Hd) (E:Ctx) (r:Option Nat) (n:Nat),E.β0.length<=h.p->(∀ y,h.y=some y->YOk P y E.J)->xc r E->∀ (Q:Exit->St->Prop) (σ:St) (a:Act) (w:World),jz E.N h.b c=true->awp P G h c Q σ->Inv G E σ a w->c.wpIn (Fl r) n P (zld G E Q) a w:=by
  intro c
  induction c with
  | skip=>exact fun h E r n _ _ _ Q σ a w _ hA hI=>wpIn_skip ⟨σ,hA,hI⟩
  | label l=>exact fun h E r n _ _ _ Q σ a w _ hA hI=>wpIn_label ⟨σ,hA,hI⟩
  | exit id=>exact fun h E r n _ _ _ Q σ a w _ hA hI=>wpIn_exit ⟨σ,hA,hI⟩
  | goto l=>exact fun h E r n _ _ _ Q σ a w _ hA hI=>wpIn_goto ⟨σ,hA,hI⟩
  | ret=>exact fun h E r n _ _ _ Q σ a w _ hA hI=>wpIn_ret ⟨σ,hA,hI⟩
  | refuse s=>exact fun h E r n _ _ _ Q σ a w _ hA hI=>hA.elim
  | rangeFunc f ps x y ihx ihy =>
    intro h E r n hp hY hr Q σ a w hc hA hI
    simp only[jz,Bool.and_eq_true]at hc
    exact Mw (fun E' m l Q' σ' a' w' hN hβ hJ hr' hA' hI'=>ihx ⟨m,h.y,h.b⟩ E' (some l) 0 hβ (fun y hy=>by rw[hJ];exact hY y hy) hr' Q' σ' a' w' (by rw[hN];exact hc.1.2) hA' hI')
      (fun E' m l Q' σ' a' w' hN hβ hJ hr' hA' hI'=>ihy ⟨m,h.y,h.b⟩ E' (some l) 0 hβ (fun y hy=>by rw[hJ];exact hY y hy) hr' Q' σ' a' w' (by rw[hN];exact hc.2) hA' hI')
      (fun p hp=>by have:=List.all_eq_true.1 hc.1.1 p hp;simpa using this) hp hr hA hI
  | seq x y ihx ihy =>
    intro h E r n hp hY hr Q σ a w hc hA hI
    simp only[jz,Bool.and_eq_true]at hc
    refine wpIn_seq (wpIn_mono (ihx h E r n hp hY hr _ σ a w hc.1 hA hI) ?_)
    rintro e a' w' ⟨σ',hq,hI'⟩
    cases e<;>first | exact ihy h E r n hp hY hr Q σ' a' w' hc.2 hq hI' | exact ⟨σ',hq,hI'⟩
  | cond c x y ihx ihy =>
    intro h E r n hp hY hr Q σ a w hc hA hI
    simp only[jz,Bool.and_eq_true]at hc
    obtain ⟨b,hb,h1,h2⟩:=ABr.out hA
    obtain ⟨R,L,rfl,hI⟩:=hI
    have hev:=hI.ev c
    rw[hb,zn]at hev
    refine wpIn_cond hev ?_
    cases b with
    | true=>exact ihx h E r n hp hY hr Q σ a _ hc.1 (h1 rfl) ⟨R,L,rfl,hI⟩
    | false=>exact ihy h E r n hp hY hr Q σ a _ hc.2 (h2 rfl) ⟨R,L,rfl,hI⟩
  | block id c ih =>
    intro h E r n hp hY hr Q σ a w hc hA hI
    refine wpIn_block (wpIn_mono (ih h E r n hp hY hr _ σ a w hc hA hI) ?_)
    rintro e a' w' ⟨σ',hq,hI'⟩
    cases e<;>first
      | exact ⟨σ',hq,hI'⟩
      | (simp only[Nu]at hq
         simp only[Exit.inBlock]
         split at hq
         · rw[if_pos (by assumption)];exact ⟨σ',hq,hI'⟩
         · rw[if_neg (by assumption)];exact ⟨σ',hq,hI'⟩)
  | scope c ih =>
    intro h E r n hp hY hr Q σ a w hc hA hI
    refine Qc (wpIn_mono (ih h E r n hp hY hr _ σ a w hc hA hI) ?_)
    rintro e a' w' ⟨σ',hq,hI'⟩
    cases e<;>first | exact hq.elim | exact ⟨σ',hq,hI'⟩
  | loop c ih =>
    intro h E r n hp hY hr Q σ a w hc hA hI
    obtain ⟨ι,I,ok,μ,i0,h0,hw,hrd⟩:=hA
    refine wpIn_loop_ghost (fun m a w=>∃ i,ok i/\μ i=m/\Inv G E (I i) a w) (μ i0) ⟨i0,h0,rfl,hI.weak hp hw⟩ ?_
    rintro m a w ⟨i,hi,rfl,hI⟩
    refine wpIn_mono (ih h E r n hp hY hr _ _ a w hc (hrd i hi) hI) ?_
    rintro e a' w' ⟨σ',hq,hI'⟩
    cases e<;>first
      | exact ⟨σ',hq,hI'⟩
      | (obtain ⟨j,hj,hlt,hw'⟩:=hq
         exact ⟨_,hlt,j,hj,rfl,hI'.weak hp hw'⟩)
  | region id ops draw =>
    intro h E r n hp hY hr Q σ a w hc hA hI
    simp only[jz,Bool.and_eq_true]at hc
    have hd:=zfN hc.1
    cases draw with
    | true =>
      have hok:Jd ops=true/\(match V2 (h.b id) with | some (a,s)=>if s==0 then yV ops a else ZU ops a s | none=>match Uy (h.b id) with | some (s,br')=>if s==199 then vg ops (zc5 br') else Ge ops s br' | none=>Xu ops (h.b id))=true:=by simpa using hc.2
      obtain ⟨ho1,ho2⟩:=hok
      have hA:UI P G h ops (h.b id) σ (Q .normal):=hA
      unfold UI at hA
      cases hl:V2 (h.b id) with
      | none =>
        rw[hl]at ho2 hA
        simp only at ho2 hA
        cases hfl:Uy (h.b id) with
        | none =>
          rw[hfl]at ho2 hA
          exact uy ⟨hY,hp⟩ hm hd ho1 ho2 hA hI fun a' w' σ' hK hI'=>⟨_,hK,hI'⟩
        | some q =>
          obtain ⟨s,br'⟩:=q
          rw[hfl]at ho2 hA
          simp only at ho2 hA
          cases hs:s==199 with
          | true =>
            rw[hs]at ho2 hA
            exact zbA ⟨hY,hp⟩ hm hd (by simpa using ho2) hA hI fun a' w' σ' hK hI'=>⟨_,hK,hI'⟩
          | false =>
            rw[hs]at ho2 hA
            exact xb ⟨hY,hp⟩ hm hd ho1 (by simpa using ho2) hA hI fun a' w' σ' hK hI'=>⟨_,hK,hI'⟩
      | some q =>
        obtain ⟨qa,qs⟩:=q
        rw[hl]at ho2 hA
        simp only at ho2 hA
        cases hqs:qs==0 with
        | true =>
          rw[hqs]at ho2 hA
          exact uP ⟨hY,hp⟩ hm hd ho1 (by simpa using ho2) hA hI fun a' w' σ' hK hI'=>⟨_,hK,hI'⟩
        | false =>
          rw[hqs]at ho2 hA
          exact uZ hm hd ho1 (by simpa using ho2) hA hI fun a' w' σ' hK hI'=>⟨_,hK,hI'⟩
    | false =>
      refine wpIn_region_list (ZC ⟨hY,hp⟩ (K:=Q .normal) (fun a' w' σ' hK hI'=>⟨σ',hK,hI'⟩) _ σ a w hd hA hI fun j o hj=>?_)
      exact hd o (by rw[Array.mem_toList_iff];exact Array.mem_of_getElem? hj)
def JB (P:Program) (σ:St) (rv:ResultVar) (K:C->Prop):Prop:=
 match rv with
 | .tmp t=>K (js σ.tm t)
 | .cell b t=>Mh P t (js σ.tm b) σ.bx K
def zla (P:Program) (σ:St) (rs:List ResultVar) (K:C->Prop):Prop:=
 match rs with
 | []=>K (.tup [])
 | [x]=>JB P σ x K
 | [x,y]=>JB P σ x fun c=>JB P σ y fun d=>K (.tup [c,d])
 | [x,y,z]=>JB P σ x fun c=>JB P σ y fun d=>JB P σ z fun e=>K (.tup [c,d,e])
 | [x,y,z,u]=>JB P σ x fun c=>JB P σ y fun d=>JB P σ z fun e=>JB P σ u fun f=>K (.tup [c,d,e,f])
 | _=>False
def Nk (tmps:Array Value):ResultVar->Sem Value
 | .tmp t=>pure (tmps.getD t undef)
 | .cell b t=>do loadVar t (←asAddr (tmps.getD b undef))
theorem qN {R:Env} {L:Loc} (h:qv G E σ a R L) {rv:ResultVar} {K:C->Prop} (hK:JB P σ rv K):∃ v c,(Nk a.tmps rv).run P R.w = .ok v R.w/\Rep R L c v/\K c:=by
 cases rv with
 | tmp t=>exact ⟨_,_,rfl,h.tm t,hK⟩
 | cell b t =>
  obtain ⟨c,h1,h2⟩:=zde K (show Mh P t (js σ.tm b) σ.bx K from hK)
  obtain ⟨v,ad,e1,e2,e3⟩:=h1 R L (a.tmps.getD b undef) h.good.fit.boxes (h.tm b)
  refine ⟨v,c,?_,e3,h2⟩
  rw[e1]at e2
  simp only[Instr.loadAt,Instr.sureAddr,Sem.run_bind,Sem.run_pure,Result.andThen_ok]at e2
  simp only[Nk,e1,asAddr,Sem.run_bind,Sem.run_pure,Result.andThen_ok,e2]
theorem MZ {fn:Func} {rs:List ResultVar} (hrs:fn.results.toList=rs) (tmps:Array Value) (w:World):(results fn tmps).run P w=(((rs.mapM (Nk tmps)).run P w).andThen fun vs w'=>.ok (if h:vs.length=1 then vs[0]'(by omega) else .tuple vs.toArray) w'):=by
 have e0:fn.results=rs.toArray:=by rw[←hrs]
 unfold results
 rw[e0,Array.mapM_eq_mapM_toList]
 change (Sem.run P (do
  let vs ←List.toArray <$> List.mapM (Nk tmps) rs
  pure (if h:vs.size=1 then vs[0] else Value.tuple vs)) w)=_
 simp only[Sem.run_bind,Sem.run_map]
 cases h:(rs.mapM (Nk tmps)).run P w with
 | ok vs w' =>
  simp
 | halt x w'=>simp
theorem zfv {fn:Func} {R:Env} {L:Loc} (h:qv G E σ a R L) {rs:List ResultVar} (hrs:fn.results.toList=rs) {K:C->Prop} (hK:zla P σ rs K):∃ v c,(results fn a.tmps).run P R.w = .ok v R.w/\Rep R L c v/\K c:=by
 rw[MZ hrs]
 unfold zla at hK
 split at hK
 ·exact ⟨.tuple #[],_,by simp,ZA.2 ⟨_,rfl,zh.2 rfl⟩,hK⟩
 ·rename_i x
  obtain ⟨v,c,h1,h2,h3⟩:=qN h hK
  exact ⟨v,c,by simp[h1],h2,h3⟩
 ·rename_i x y
  obtain ⟨v,c,h1,h2,hK⟩:=qN h hK
  obtain ⟨v2,c2,g1,g2,hK⟩:=qN h hK
  exact ⟨_,_,by simp[h1,g1],ZA.2 ⟨#[v,v2],rfl,zd.2 ⟨_,_,rfl,h2,zd.2 ⟨_,_,rfl,g2,zh.2 rfl⟩⟩⟩,hK⟩
 ·rename_i x y z
  obtain ⟨v,c,h1,h2,hK⟩:=qN h hK
  obtain ⟨v2,c2,g1,g2,hK⟩:=qN h hK
  obtain ⟨v3,c3,k1,k2,hK⟩:=qN h hK
  exact ⟨_,_,by simp[h1,g1,k1],ZA.2 ⟨#[v,v2,v3],rfl,zd.2 ⟨_,_,rfl,h2,zd.2 ⟨_,_,rfl,g2,zd.2 ⟨_,_,rfl,k2,zh.2 rfl⟩⟩⟩⟩,hK⟩
 ·rename_i x y z u
  obtain ⟨v,c,h1,h2,hK⟩:=qN h hK
  obtain ⟨v2,c2,g1,g2,hK⟩:=qN h hK
  obtain ⟨v3,c3,k1,k2,hK⟩:=qN h hK
  obtain ⟨v4,c4,l1,l2,hK⟩:=qN h hK
  exact ⟨_,_,by simp[h1,g1,k1,l1],ZA.2 ⟨#[v,v2,v3,v4],rfl,zd.2 ⟨_,_,rfl,h2,zd.2 ⟨_,_,rfl,g2,zd.2 ⟨_,_,rfl,k2,zd.2 ⟨_,_,rfl,l2,zh.2 rfl⟩⟩⟩⟩⟩,hK⟩
 ·exact hK.elim
def zic (P:Program) (rs:List ResultVar) (K:C->St->Prop):Exit->St->Prop
 | .normal,σ=>zla P σ rs fun c=>K c σ
 | .ret,σ=>zla P σ rs fun c=>K c σ
 | _,_=>False
def Vu:Nat->List C->List (Nat×C)
 | _,[]=>[]
 | i,c :: r=>(i,c) :: Vu (i+1) r
theorem vL {R:Env} {L:Loc}:∀ (cs:List C) (vs:List Value) (i:Nat) (f:Nat->Value),zx R L cs vs->(∀ (j:Nat) v,vs[j]?=some v->f (i+j)=v)->∀ t,Rep R L (js (Vu i cs) t) (f t)
 | [],vs,i,f,h,hf,t=>by unfold Vu js Rep;trivial
 | c :: r,vs,i,f,h,hf,t=>by
  obtain ⟨v,us,rfl,h1,h2⟩:=zd.1 h
  simp only[Vu,js]
  split
  ·subst_vars
   have:=hf 0 v rfl
   rw[Nat.add_zero]at this
   rw[this];exact h1
  ·exact vL r us (i+1) f h2 (fun j v hj=>by
    have:=hf (j+1) v (by simpa using hj)
    rwa [show i+1+j=i+(j+1) by omega]) t
theorem Z0 {L:Loc} {Rr:Ending->World->Prop} {fn:Func} (hE:E.df = []):∀ (l:List Nat) (a:Act) (R:Env),a.defers=l.map JE->l.Nodup->(∀ d∈l,R.w.heap[d]?=some (.deferred (some []))/\E.w0.heap.size<=d/\¬R.F d)->qv G E σ a R L ->
  (∀ a' R',a'.tmps=a.tmps->qv G E σ a' R' L->∃ v,(results fn a.tmps).run P R'.w = .ok v R'.w/\Rr (.returned v) R'.w)->LeavesInM Fence.wide 0 P fn a.tmps Rr a.defers .returning R.w
 | [],a,R,hd,_,_,hI,hk=>by
  rw[hd]
  obtain ⟨v,h1,h2⟩:=hk a R rfl hI
  exact ⟨v,h1,h2⟩
 | d :: l,a,R,hd,hn,hl,hI,hk=>by
  obtain ⟨h1,h2,h3⟩:=hl d List.mem_cons_self
  rw[hd]
  refine ⟨by simp,.inl ⟨d,_,rfl,run_takeDeferred h1,?_⟩⟩
  have hni:=YT (E:=E) (R:=R) (o:=.deferred none) (.inl h2) h3 (fun cs t f hc=>by rw[h1]at hc;cases hc)
  have hnT:¬Xd L d:=fun hb=>by
   obtain ⟨_,_,_,hc⟩:=hI.good.turf hb
   rcases hc with ⟨cs,t,f,hc⟩ | ⟨cs,t,hc⟩<;>exact nomatch h1.symm.trans hc
  have hg:=hI.good.stay hni fun b hb=>⟨World.putObj_heap_other fun e=>hnT (e▸hb),fun _=>Iff.rfl⟩
  have hl':∀ x∈l,(R.w.putObj d (.deferred none)).heap[x]?=some (.deferred (some []))/\E.w0.heap.size<=x/\¬R.F x:=fun x hx=>by
   obtain ⟨g1,g2,g3⟩:=hl x (List.mem_cons_of_mem _ hx)
   exact ⟨(World.putObj_heap_other fun e:x=d=>(List.nodup_cons.1 hn).1 (by rw[←e];exact hx)).trans g1,g2,g3⟩
  exact Z0 hE l { a with defers:=l.map JE } ⟨R.w.putObj d (.deferred none),R.M,R.F⟩ rfl (List.nodup_cons.1 hn).2 hl'
   ⟨hg,hI.size,⟨l,by rw[hE,List.append_nil],(List.nodup_cons.1 hn).2,hl'⟩,fun t=>Rep.ext hni.ext (zI.refl _) _ _ (hI.tm t)⟩ hk
theorem Ye {h:Hd} {R:Env} {L:Loc} {f:FuncId} {fn:Func} {code:Code} {vs:List Value} {K:C->St->Prop} {Rr:Ending->World->Prop} (hm:P.follows .mixedOrders=true) (hf:P.funcs[f]?=some fn) (hb:fn.body=some code) (hok:jz fn.ntmps h.b code=true)
  (hN:E.N=fn.ntmps) (hdf:E.df = []) (hp:E.β0.length<=h.p) (hY:∀ y,h.y=some y->YOk P y E.J) (hA:awp P G h code (zic P fn.results.toList K) σ)
  (hI:qv G E σ { tmps:=vs.toArray++Array.replicate (fn.ntmps-vs.toArray.size) undef,defers:=[] } R L)
  (hK:∀ σ' a' R' L' v c,K c σ'->qv G E σ' a' R' L'->Rep R' L' c v->Rr (.returned v) R'.w):Calls P f vs.toArray R.w Rr:=by
 refine (callsIn_wide (n:=0)).1 (callsIn_of_wp_marks hf hb trivial (wpIn_mono (zbJ hm code h E none 0 hp hY (fun l0 hl0=>by cases hl0) _ σ _ _ (by rw[hN];exact hok) hA ⟨R,L,rfl,hI⟩) ?_))
 have fin:∀ a' w' σ',zla P σ' fn.results.toList (fun c=>K c σ')->Inv G E σ' a' w'->LeavesInM Fence.wide 0 P fn a'.tmps Rr a'.defers .returning w':=by
  rintro a' w' σ' hres ⟨R',L',rfl,hI'⟩
  obtain ⟨l,e,hn,hl⟩:=hI'.df
  rw[hdf,List.append_nil]at e
  refine Z0 hdf l a' R' e hn hl hI' fun a2 R2 ha hI2=>?_
  obtain ⟨v,c,h1,h2,h3⟩:=zfv (fn:=fn) hI2 rfl hres
  rw[ha]at h1
  exact ⟨v,h1,hK σ' a2 R2 L' v c h3 hI2 h2⟩
 rintro e a' w' ⟨σ',hq,hI'⟩
 cases e<;>first | exact hq.elim | exact fin a' w' σ' hq hI'
theorem QY {R:Env} {L:Loc} {args:List C} {vs:List Value} {n:Nat} (hN:args.length<=n) (hargs:zx R L args vs):(vs.toArray++Array.replicate (n-vs.toArray.size) undef).size=n/\∀ t,Rep R L (js (Vu 0 args) t) ((vs.toArray++Array.replicate (n-vs.toArray.size) undef).getD t undef):=by
 have hvl:=zu hargs
 refine ⟨by simp;omega,vL args vs 0 _ hargs fun j v hj=>?_⟩
 have hj':j<vs.length:=(List.getElem?_eq_some_iff.1 hj).1
 rw[Nat.zero_add,Array.getD_eq_getD_getElem?,Array.getElem?_append_left (by simpa using hj')]
 simp[hj]
theorem V4 {R R2:Env} {L:Loc} {b:Nat} {vs:Array Value} {ty:TypeId} (he:Ext R R2) (hh:R2.w.heap[b]?=some (.cells vs ty (0,0))) (hM:∀ o,¬R2.M b o):∀ (cs:List C) (us:List Value) (off:Nat),zx R L cs us->vs.toList.drop off=us->(∀ v∈us,v.oneCell'=true)->zK R2 (C.frzL cs) b off
 | [],_,_,_,_,_=>by unfold C.frzL;exact jV
 | c :: r,us,off,hr,hd,h1=>by
  obtain ⟨v,us',rfl,g1,g2⟩:=zd.1 hr
  unfold C.frzL
  have hv:vs[off]?=some v:=by
   have:=List.getElem?_drop (xs:=vs.toList) (i:=off) (j:=0)
   rw[hd]at this
   simpa using this.symm
  refine qf.2 ⟨⟨v,?_,hM off,Rep.ext he (zI.refl _) _ _ (g1.frz zH),h1 v List.mem_cons_self⟩,V4 he hh hM r us' (off+1) g2 ?_ fun x hx=>h1 x (List.mem_cons_of_mem _ hx)⟩
  ·rw[cell_of_row R2.w b off vs ty (0,0) hh];exact hv
  ·rw[←List.drop_drop,hd];rfl
theorem Ux:∀ (n:Nat) (cs:List C),C.frzL (cs.drop n)=(C.frzL cs).drop n
 | 0,_=>rfl
 | n+1,[]=>by simp[C.frzL]
 | n+1,c :: r=>by
  have h:C.frzL (c :: r)=c.frz :: C.frzL r:=by rw[C.frzL]
  rw[h];exact Ux n r
mutual
theorem Rep.fz {R R2:Env} {L:Loc} {bx:List (List C)} (he:Ext R R2) (hbx:jT R L bx) (hw:R2.w=R.w) (hM:∀ b∈L.β,∀ o,¬R2.M b o):∀ (c:C) (v:Value),Rep R L c v->Rep R2 L (c.fz bx) v
 | .ptr i off,_,h=>by
  unfold C.fz
  obtain ⟨b,hb,e⟩:=j6.1 h
  split
  ·rename_i cs hcs
   obtain ⟨vs,ty,e1,e2,e3,e4⟩:=hbx.box i b cs hb hcs
   refine jS.2 ⟨b,off,e,?_⟩
   rw[←Ux]
   refine V4 (L:=L) he (by rw[hw];exact e1) (hM b (List.mem_of_getElem? hb)) _ (vs.toList.drop off) off (qJ off e2) rfl fun x hx=>e3 x (List.mem_of_mem_drop hx)
  ·exact ZJ
 | .agg cs,_,h=>by
  unfold C.fz;unfold Rep at h ⊢
  obtain ⟨vs,e,hl⟩:=h
  exact ⟨vs,e,zx.fz he hbx hw hM cs _ hl⟩
 | .tup cs,_,h=>by
  unfold C.fz;unfold Rep at h ⊢
  obtain ⟨vs,e,hl⟩:=h
  exact ⟨vs,e,zx.fz he hbx hw hM cs _ hl⟩
 | .clo fn first cap,_,h=>by
  unfold C.fz;unfold Rep at h ⊢
  obtain ⟨fs,cs,e,h1,h2⟩:=h
  exact ⟨fs,cs,e,zx.fz he hbx hw hM first _ h1,zx.fz he hbx hw hM cap _ h2⟩
 | .sc v,_,h=>Rep.ext he (zI.refl _) _ _ h
 | .str l,_,h=>Rep.ext he (zI.refl _) _ _ h
 | .sl k rows,_,h=>Rep.ext he (zI.refl _) _ _ h
 | .tight k rows,_,h=>Rep.ext he (zI.refl _) _ _ h
 | .own id e k rows,_,h=>Rep.ext he (zI.refl _) _ _ h
 | .mo id t ks vs,_,h=>Rep.ext he (zI.refl _) _ _ h
 | .row cs,_,h=>Rep.ext he (zI.refl _) _ _ h
 | .bs i off k n c,_,h=>by unfold C.fz;exact ZJ
 | .any,_,h=>Rep.ext he (zI.refl _) _ _ h
theorem zx.fz {R R2:Env} {L:Loc} {bx:List (List C)} (he:Ext R R2) (hbx:jT R L bx) (hw:R2.w=R.w) (hM:∀ b∈L.β,∀ o,¬R2.M b o):∀ (cs:List C) (vs:List Value),zx R L cs vs->zx R2 L (C.fzL bx cs) vs
 | [],_,h=>by unfold C.fzL;rw[zh]at h ⊢;exact h
 | c :: r,_,h=>by
  unfold C.fzL;rw[zd]at h ⊢
  obtain ⟨v,us,e,h1,h2⟩:=h
  exact ⟨v,us,e,Rep.fz he hbx hw hM c v h1,zx.fz he hbx hw hM r us h2⟩
end
theorem Fun.of_awp {f:FuncId} {fn:Func} {code:Code} {args:List C} {r:C} {n:Nat} (b:Nat->List Bool) (hm:P.follows .mixedOrders=true) (hf:P.funcs[f]?=some fn) (hb:fn.body=some code) (hnm:(fn.name == "runtime.NumGoroutine")=false) (hN:args.length<=fn.ntmps) (hok:jz fn.ntmps b code=true)
  (h:awp P G ⟨0,none,b⟩ code (zic P fn.results.toList fun c σ=>∃ src:Src,Z9 src=true/\src.length=n/\CLe src 0 (c.fz σ.bx) r) ⟨Vu 0 args,[],0,0⟩):Fun P G f args r n:=by
 refine ⟨by unfold Yk;rw[hf];simp[hnm,hb],fun R vs hg hargs=>?_⟩
 let E:Ctx:=⟨R.w,R.M,[],fun _=>False,fn.ntmps,[],fun _=>False,fun _=>False,fun _ h=>h,fun _ _=>True,fun _ _ _ _ _=>trivial⟩
 let R0:Env:=⟨R.w,R.M,fun _=>False⟩
 have hx:Ext R R0:=⟨fun _ _ _ h1 h2=>⟨h1,h2⟩,fun _ _ _ _ h1 h2=>⟨h1,h2⟩⟩
 have hargs0:zx R0 zH args vs:=zx.ext hx (zI.refl _) _ _ hargs
 obtain ⟨i1,i2⟩:=QY hN hargs0
 have hinv:qv G E ⟨Vu 0 args,[],0,0⟩ { tmps:=vs.toArray++Array.replicate (fn.ntmps-vs.toArray.size) undef,defers:=[] } R0 zH:=
  ⟨⟨⟨hg.ext hx,⟨rfl,List.nodup_nil,fun i b cs hi=>(by simp at hi)⟩,⟨fun id e k v ht=>(by cases ht),fun id id' e k v e' k' v' b ht=>(by cases ht)⟩,fun g hg=>.inl hg⟩,rfl,rfl,rfl,Nat.le_refl _,fun _ _ _ _=>⟨rfl,fun _=>Iff.rfl⟩,⟨fun _ _ _ h1 h2=>⟨h1,h2⟩,fun _ _ _ _ h1 h2=>⟨h1,h2⟩⟩,⟨[],rfl⟩,fun b hb=>(by cases hb),fun _ h=>h.elim,fun _ _=>Iff.rfl,fun b hb=>(by cases hb),fun id e k v b ht=>(by cases ht),fun _ _=>rfl,trivial⟩,i1,⟨[],rfl,List.nodup_nil,fun d hd=>(by cases hd)⟩,i2⟩
 refine Ye (E:=E) (R:=R0) hm hf hb hok rfl rfl (Nat.zero_le _) (fun y hy=>by cases hy) h hinv ?_
 rintro σ' a' R' L' v c ⟨src,h3,h4,h5⟩ hI h2
 have hgd:=hI.good
 have hblk:∀ b,b<R.w.heap.size->R'.w.heap[b]?=R.w.heap[b]?/\∀ o,(R'.M b o↔R.M b o):=fun b hb=>hgd.blk b hb (fun h=>h) fun hF=>(hgd.fz b hb).1 hF
 have hx':Ext R' ⟨R'.w,fun b o=>R'.M b o/\b∉L'.β,R.F⟩:=⟨fun _ _ _ h1 h2=>⟨h1,fun h=>h2 h.1⟩,fun _ _ _ _ h1 h2=>⟨h1,fun o h=>h2 o h.1⟩⟩
 have how:=Vm (β':=[]) h3 (fun b hb=>(by cases hb)) hgd.fit.owns
 have hnew:∀ b∈L'.β,R.w.heap.size<=b:=fun b hb=>(hgd.tub b hb).elim id fun g=>g.elim
 have hfz:Rep ⟨R'.w,fun b o=>R'.M b o/\b∉L'.β,R.F⟩ L' (c.fz σ'.bx) v:=Rep.fz hx' hgd.fit.boxes rfl (fun b hb o h=>h.2 hb) _ _ h2
 refine ⟨v,⟨R'.w,fun b o=>R'.M b o/\b∉L'.β,R.F⟩,Jh src 0 L',rfl,rfl,⟨⟨hgd.os,hgd.tape,hgd.output,hgd.size,fun b hb=>(hblk b hb).1⟩,rfl,by simp,fun b o hb=>?_,fun id hi=>?_,fun id e k v hi hj ht=>?_,fun id id' e k v e' k' v' b hi hi2 hj hj2 h6 h7 h8 h9=>?_⟩,Rep.less _ _ _ h5 hfz⟩
 ·refine ⟨fun h=>((hblk b hb).2 o).1 h.1,fun h=>⟨((hblk b hb).2 o).2 h,fun hx=>?_⟩⟩
  have:=hnew b hx;omega
 ·show Q2 src L'.T id=none
  unfold Q2
  rw[List.getElem?_eq_none (by omega)]
 ·have hob:=hgd.fit.owns
  ·refine (how.own id e k v ht).move fun g hv q2 hlt q7=>?_
   have hnb:g∉L'.β:=by
    obtain ⟨i,_,hi2⟩:=Yy (R:=R) ht hv
    exact ((hob.own i e k v hi2).block hv).2.2
   refine ⟨?_,rfl,q7,fun o ho=>⟨ho,hnb⟩⟩
   rcases q2 with q2 | q2
   ·exact q2
   ·exact q2.elim
 ·exact how.apart id id' e k v e' k' v' b h6 h7 h8 h9
theorem Jz.of_awpK {f:FuncId} {fn:Func} {code:Code} {args:List C} {bx:List (List C)} {q:Nat} {post:C->List (List C)->Nat->Prop} {K0:C->St->Prop} (b:Nat->List Bool) (hm:P.follows .mixedOrders=true) (hf:P.funcs[f]?=some fn) (hb:fn.body=some code) (hnm:(fn.name == "runtime.NumGoroutine")=false) (hN:args.length<=fn.ntmps) (hok:jz fn.ntmps b code=true)
  (h:awp P G ⟨bx.length,none,b⟩ code (zic P fn.results.toList K0) ⟨Vu 0 args,bx,q,0⟩) (hK0:∀ c σ,K0 c σ->∃ r bx' n,(post r bx' n/\bx.length<=bx'.length)/\∃ src:Src,Z9 src=true/\src.length=n/\za src bx'.length σ.bx bx'/\CLe src bx'.length c r):Jz P G f args bx q post:=by
 refine ⟨by unfold Yk;rw[hf];simp[hnm,hb],fun R L vs hg hbx how hfree hflt hFT hargs=>?_⟩
 let E:Ctx:=⟨R.w,R.M,L.β,Xd L,fn.ntmps,[],fun _=>False,fun b=>b∈L.β,fun _ h=>.inl h,fun _ _=>True,fun _ _ _ _ _=>trivial⟩
 let R0:Env:=⟨R.w,R.M,fun _=>False⟩
 have hx:Ext R R0:=⟨fun _ _ _ h1 h2=>⟨h1,h2⟩,fun _ _ _ _ h1 h2=>⟨h1,h2⟩⟩
 have hargs0:zx R0 L args vs:=zx.ext hx (zI.refl _) _ _ hargs
 obtain ⟨i1,i2⟩:=QY hN hargs0
 have hinv:qv G E ⟨Vu 0 args,bx,q,0⟩ { tmps:=vs.toArray++Array.replicate (fn.ntmps-vs.toArray.size) undef,defers:=[] } R0 L:=by
  refine ⟨⟨⟨hg.ext hx,⟨hbx.len,hbx.nodup,fun i b cs hi hc=>?_⟩,⟨fun id e k v ht=>?_,how.apart⟩,fun g hg=>.inl hg⟩,rfl,rfl,rfl,Nat.le_refl _,fun _ _ _ _=>⟨rfl,fun _=>Iff.rfl⟩,⟨fun _ _ _ h1 h2=>⟨h1,h2⟩,fun _ _ _ _ h1 h2=>⟨h1,h2⟩⟩,⟨[],by simp[E]⟩,fun b hb=>.inr hb,fun _ h=>h.elim,fun _ _=>Iff.rfl,fun b hb h=>h,fun id e k v b ht hv h=>h,hfree,trivial⟩,i1,⟨[],rfl,List.nodup_nil,fun d hd=>(by cases hd)⟩,i2⟩
  ·obtain ⟨vs,ty,e1,e2,e3,e4⟩:=hbx.box i b cs hi hc
   exact ⟨vs,ty,e1,zx.ext hx (zI.refl _) _ _ e2,e3,e4⟩
  ·exact (how.own id e k v ht).move fun g hv q2 _ q7=>⟨.inr (.inr ⟨id,e,k,v,ht,hv⟩),rfl,q7,fun _ h=>h⟩
 refine Ye (E:=E) (R:=R0) hm hf hb hok rfl rfl (by show L.β.length<=bx.length;rw[hbx.len];exact Nat.le_refl _) (fun y hy=>by cases hy) h hinv ?_
 rintro σ' a' R' L' v c h0 hI h2
 obtain ⟨r,bx',n,⟨hpost,hlen⟩,src,h3,h4,h5,h6⟩:=hK0 _ _ h0
 have hgd:=hI.good
 have hwk:zS bx.length ⟨[],σ'.bx,σ'.nx,σ'.lg⟩ ⟨[],bx',n,σ'.lg⟩:=⟨src,h3,h4,hlen,rfl,trivial,h5⟩
 have hx':Ext R' ⟨R'.w,R'.M,R.F⟩:=⟨fun _ _ _ h1 h2=>⟨h1,h2⟩,fun _ _ _ _ h1 h2=>⟨h1,h2⟩⟩
 have hblen:σ'.bx.length=L'.β.length:=hgd.fit.boxes.len.symm
 have hle:bx'.length<=σ'.bx.length:=by
  rcases Nat.lt_or_ge σ'.bx.length bx'.length with hx | hx
  ·obtain ⟨cs,hc,_⟩:=YD h5 σ'.bx.length (bx'[σ'.bx.length]) (List.getElem?_eq_getElem hx)
   simp at hc
  ·exact hx
 obtain ⟨more,hm1⟩:=hgd.box
 have hm1:L'.β=L.β++more:=hm1
 have hbl:=hbx.len
 have hown:=Vm (β':=L'.β.take bx'.length) h3 (fun b hb=>List.mem_of_mem_take hb) hgd.fit.owns
 have hblk:∀ b,b<R.w.heap.size->¬Xd L b->R'.w.heap[b]?=R.w.heap[b]?/\∀ o,(R'.M b o↔R.M b o):=fun b hb hT=>hgd.blk b hb hT fun hF=>(hgd.fz b hb).1 hF
 have hcells:∀ b,Xd L b->(∃ cs t f,R.w.heap[b]?=some (.cells cs t f))∨∃ es cl,R.w.heap[b]?=some (.map es cl):=fun b hT=>by
  rcases hT with hT | ⟨id,e,k,v,ht,hv⟩
  ·obtain ⟨i,hi,rfl⟩:=List.getElem_of_mem hT
   obtain ⟨vs,ty,g,_⟩:=hbx.box i L.β[i] (bx[i]'(by omega)) (List.getElem?_eq_getElem hi) (List.getElem?_eq_getElem (by omega))
   exact .inl ⟨_,_,_,g⟩
  ·exact (how.own id e k v ht).held hv
 refine ⟨r,bx',n,⟨hpost,hlen⟩,v,⟨R'.w,R'.M,R.F⟩,Jh src bx'.length L',rfl,rfl,⟨hgd.os,hgd.tape,hgd.output,hgd.size,rfl,⟨hgd.ext.cell,hgd.ext.whole⟩,fun b hb=>?_⟩,⟨by simp;omega,hgd.fit.boxes.nodup.sublist (List.take_sublist _ _),fun i b cs' hi hc=>?_⟩,⟨fun id e k v ht=>?_,hown.apart⟩,⟨more.take (bx'.length-L.β.length),?_,fun b hb=>?_⟩,fun id hi=>?_,Rep.ext hx' (zI.refl _) _ _ (Rep.less _ _ _ h6 h2)⟩
 ·by_cases hT:Xd L b
  ·exact .inr ⟨.inr hT,hFT b hT,hcells b hT⟩
  ·exact .inl (hblk b hb hT)
 ·obtain ⟨cs,hc1,hc2⟩:=YD h5 i cs' hc
  have hi':L'.β[i]?=some b:=by
   have hi:(L'.β.take bx'.length)[i]?=some b:=hi
   rw[List.getElem?_take]at hi
   split at hi
   ·exact hi
   ·cases hi
  obtain ⟨vs,ty,e1,e2,e3,e4⟩:=hgd.fit.boxes.box i b cs hi' hc1
  exact ⟨vs,ty,e1,zx.ext hx' (zI.refl _) _ _ (zx.less _ _ _ hc2 e2),e3,e4⟩
 ·exact (hown.own id e k v ht).move fun g _ q2 _ q7=>⟨q2,rfl,q7,fun _ h=>h⟩
 ·show L'.β.take bx'.length=_
  rw[hm1,List.take_append,List.take_of_length_le (by omega)]
 ·have hb':b∈more:=List.mem_of_mem_take hb
  have hbm:b∈L'.β:=by rw[hm1];exact List.mem_append_right _ hb'
  rcases hgd.tub b hbm with g | g
  ·exact g
  ·have hn:=hgd.fit.boxes.nodup
   rw[hm1,List.nodup_append]at hn
   exact absurd rfl (hn.2.2 b g b hb')
 ·show Q2 src L'.T id=none
  unfold Q2
  rw[List.getElem?_eq_none (by omega)]
theorem Jz.of_awp {f:FuncId} {fn:Func} {code:Code} {args:List C} {bx:List (List C)} {q:Nat} {post:C->List (List C)->Nat->Prop} (b:Nat->List Bool) (hm:P.follows .mixedOrders=true) (hf:P.funcs[f]?=some fn) (hb:fn.body=some code) (hnm:(fn.name == "runtime.NumGoroutine")=false) (hN:args.length<=fn.ntmps) (hok:jz fn.ntmps b code=true)
  (h:awp P G ⟨bx.length,none,b⟩ code (zic P fn.results.toList fun c σ=>∃ r bx' n,(post r bx' n/\bx.length<=bx'.length)/\∃ src:Src,Z9 src=true/\src.length=n/\za src bx'.length σ.bx bx'/\CLe src bx'.length c r) ⟨Vu 0 args,bx,q,0⟩):Jz P G f args bx q post:=
 Jz.of_awpK b hm hf hb hnm hN hok h fun _ _ h=>h
theorem ZM.of_awp {f:FuncId} {fn:Func} {code:Code} {args:List C} {bx bx':List (List C)} {r:C} {q n:Nat} (b:Nat->List Bool) (hm:P.follows .mixedOrders=true) (hf:P.funcs[f]?=some fn) (hb:fn.body=some code) (hnm:(fn.name == "runtime.NumGoroutine")=false) (hN:args.length<=fn.ntmps) (hok:jz fn.ntmps b code=true) (hlen:bx.length<=bx'.length)
  (h:awp P G ⟨bx.length,none,b⟩ code (zic P fn.results.toList fun c σ=>∃ src:Src,Z9 src=true/\src.length=n/\za src bx'.length σ.bx bx'/\CLe src bx'.length c r) ⟨Vu 0 args,bx,q,0⟩):ZM P G f args bx q r bx' n:=
 Jz.of_awpK b hm hf hb hnm hN hok h fun c σ h=>⟨r,bx',n,⟨⟨rfl,rfl,rfl⟩,hlen⟩,h⟩
theorem UM.of_awp {f:FuncId} {fn:Func} {code:Code} {first cap:List C} {bx items:List (List C)} (b:Nat->List Bool) (hm:P.follows .mixedOrders=true) (hf:P.funcs[f]?=some fn) (hb:fn.body=some code) (hnm:(fn.name == "runtime.NumGoroutine")=false) (hN:first.length+1+cap.length<=fn.ntmps) (hok:jz fn.ntmps b code=true)
  (h:∀ (l:Nat) (st:Nat->Bool),awp P G ⟨0,some ⟨l,items,st⟩,b⟩ code (zic P fn.results.toList fun c σ=>ziF items st σ.lg) ⟨Vu 0 (first++[.sc (.func (.yield l) #[] #[])]++cap),bx,0,0⟩):UM P G f first cap bx items:=by
 refine ⟨by unfold Yk;rw[hf];simp[hnm,hb],fun l st J R L us vs hg hbx hT hflt hfb hstab hYk hJ hus hvs=>?_⟩
 let E:Ctx:=⟨R.w,R.M,[],fun b=>b∈L.β,fn.ntmps,[],R.F,fun b=>b∈L.β,fun _ h=>h,J,hstab⟩
 have hargs:zx R L (first++[.sc (.func (.yield l) #[] #[])]++cap) (us++[Value.func (.yield l) #[] #[]]++vs):=zj (zj hus (zd.2 ⟨_,_,rfl,zn.2 rfl,zh.2 rfl⟩)) hvs
 obtain ⟨i1,i2⟩:=QY (n:=fn.ntmps) (by simp;omega) hargs
 have hinv:qv G E ⟨Vu 0 (first++[.sc (.func (.yield l) #[] #[])]++cap),bx,0,0⟩ { tmps:=(us++[Value.func (.yield l) #[] #[]]++vs).toArray++Array.replicate (fn.ntmps-(us++[Value.func (.yield l) #[] #[]]++vs).toArray.size) undef,defers:=[] } R L:=
  ⟨⟨⟨hg,hbx,⟨fun id e k v ht=>(by rw[hT]at ht;cases ht),fun id id' e k v e' k' v' b ht=>(by rw[hT]at ht;cases ht)⟩,fun g hg=>.inl hg⟩,rfl,rfl,rfl,Nat.le_refl _,fun _ _ _ _=>⟨rfl,fun _=>Iff.rfl⟩,⟨fun _ _ _ h1 h2=>⟨h1,h2⟩,fun _ _ _ _ h1 h2=>⟨h1,h2⟩⟩,⟨L.β,rfl⟩,fun b hb=>.inr hb,hflt,fun _ _=>Iff.rfl,hfb,fun id e k v b ht=>(by rw[hT]at ht;cases ht),fun id _=>hT id,hJ⟩,i1,⟨[],rfl,List.nodup_nil,fun d hd=>(by cases hd)⟩,i2⟩
 refine Ye (E:=E) hm hf hb hok rfl rfl (Nat.zero_le _) (fun y hy=>by cases hy;exact hYk) (h l st) hinv ?_
 rintro σ' a' R' L' v c hend hI h2
 exact ⟨v,R',σ'.lg,rfl,rfl,hI.good.log,hend⟩
end
end
section
open Go.RowKit
abbrev Fr:=List (Nat×TypeId×Nat×List (List C)×Nat)
def Z7 (nx:Nat):Fr->Nat->Nat->Nat->Nat->Nat->C
 | [],_,_,_,_,_=>.any
 | (i',e,k',rows,cap) :: r,i,off,k,n,c=>if i=i'/\off=0/\k=k'/\n=rows.length/\c=cap then .own nx e k' rows else Z7 (nx+1) r i off k n c
theorem GY:∀ (fr:Fr) (nx i off k n c:Nat),Z7 nx fr i off k n c = .any∨∃ j e rows,fr[j]?=some (i,e,k,rows,c)/\off=0/\n=rows.length/\Z7 nx fr i off k n c = .own (nx+j) e k rows
 | [],nx,i,off,k,n,c=>.inl rfl
 | (i',e,k',rows,cap) :: r,nx,i,off,k,n,c=>by
  unfold Z7
  split
  ·rename_i h
   obtain ⟨rfl,rfl,rfl,rfl,rfl⟩:=h
   exact .inr ⟨0,e,rows,rfl,rfl,rfl,rfl⟩
  ·rcases GY r (nx+1) i off k n c with h | ⟨j,e',rows',h1,h2,h3,h4⟩
   ·exact .inl h
   ·exact .inr ⟨j+1,e',rows',by simpa using h1,h2,h3,by rw[h4,show nx+1+j=nx+(j+1) by omega]⟩
def ze1 (fr:Fr) (bx:List (List C)):Prop:=(fr.map (·.1)).Nodup/\∀ x∈fr,∃ cs,bx[x.1]?=some cs/\0<x.2.2.2.2/\x.2.2.2.1.length<=x.2.2.2.2/\x.2.2.2.2<=maxLen/\cs.length=x.2.2.2.2*x.2.2.1/\(∀ r∈x.2.2.2.1,r.length=x.2.2.1)/\(C.frzL cs).take (x.2.2.2.1.length*x.2.2.1)=x.2.2.2.1.flatten
mutual
/-- a result, at the function's end, some boxes being qM into owners -/
def C.fy (nx:Nat) (fr:Fr) (bx:List (List C)):C->C
 | .ptr i off=>if i∈fr.map (·.1) then .any else C.fz bx (.ptr i off)
 | .agg cs=>.agg (C.fyL nx fr bx cs)
 | .tup cs=>.tup (C.fyL nx fr bx cs)
 | .clo fn first cap=>.clo fn (C.fyL nx fr bx first) (C.fyL nx fr bx cap)
 | .bs i off k n c=>Z7 nx fr i off k n c
 | .sc v=>.sc v
 | .str l=>.str l
 | .sl k rows=>.sl k rows
 | .tight k rows=>.tight k rows
 | .own id e k rows=>.own id e k rows
 | .mo id t ks vs=>.mo id t ks vs
 | .row cs=>.row cs
 | .any=>.any
def C.fyL (nx:Nat) (fr:Fr) (bx:List (List C)):List C->List C
 | []=>[]
 | c :: r=>c.fy nx fr bx :: C.fyL nx fr bx r
end
def frT (nx:Nat) (fr:Fr) (β:List Nat) (T:Own):Own:=fun id=>if id<nx then T id else match fr[id-nx]? with
 | some (i,e,k,rows,cap)=>(β[i]?).map fun b=>(e,k,.slice (some ⟨b,0,none⟩) rows.length cap)
 | none=>none
def frM (fr:Fr) (β:List Nat) (b o:Nat):Prop:=∃ x∈fr,β[x.1]?=some b/\x.2.2.2.1.length*x.2.2.1<=o
section
variable {P:Program} {G:zk} {E:Ctx} {σ:St}
theorem xy {nx:Nat} {fr:Fr} {β:List Nat} {T:Own} {id e k:Nat} {v:Value} (h:frT nx fr β T id=some (e,k,v)) :
  (id<nx/\T id=some (e,k,v))∨(nx<=id/\∃ i rows cap b,fr[id-nx]?=some (i,e,k,rows,cap)/\β[i]?=some b/\v = .slice (some ⟨b,0,none⟩) rows.length cap):=by
 unfold frT at h
 split at h
 ·exact .inl ⟨by assumption,h⟩
 ·split at h
  ·rename_i i e' k' rows cap hq
   cases hb:β[i]? with
   | none=>rw[hb]at h;cases h
   | some b =>
    rw[hb]at h
    cases h
    exact .inr ⟨by omega,i,rows,cap,b,hq,hb,rfl⟩
  ·cases h
theorem zi1 {R':Env} {L':Loc} {fr:Fr} (hgd:J5 G E σ R' L') (hfr:ze1 fr σ.bx) {F:Nat->Prop} :
  ZL E.tu ⟨R'.w,fun b o=>R'.M b o/\(b∉L'.β∨frM fr L'.β b o),F⟩ ⟨[],frT σ.nx fr L'.β L'.T⟩:=by
 have hold:∀ id e k v b,L'.T id=some (e,k,v)->v.ownB=some b->b∉L'.β:=fun id e k v b ht hv=>((hgd.fit.owns.own id e k v ht).block hv).2.2
 refine ⟨fun id e k v ht=>?_,fun id id' e k v e' k' v' b ht ht' hv hv'=>?_⟩
 ·rcases xy ht with ⟨_,ht⟩ | ⟨_,i,rows,cap,b,hf,hb,rfl⟩
  ·exact (hgd.fit.owns.own id e k v ht).move fun g _ q2 _ q7=>⟨q2,rfl,by simp,fun o ho=>⟨ho,.inl q7⟩⟩
  ·have hmem:=List.mem_of_getElem? hf
   obtain ⟨cs,c1,c2,c3,c4,c5,c6,c7⟩:=hfr.2 _ hmem
   obtain ⟨vs,ty,e1,e2,e3,e4⟩:=hgd.fit.boxes.box i b cs hb c1
   have hl:=zu e2
   exact .inr (.inl ⟨b,rows.length,cap,vs,ty,rfl,hgd.tubx b (List.mem_of_getElem? hb),e1,c3,c4,by simpa [c5] using hl,by simp,fun o ho=>⟨e4 o,.inr ⟨_,hmem,hb,ho⟩⟩⟩)
 ·rcases xy ht with ⟨_,ht⟩ | ⟨g1,i,rows,cap,b1,hf,hb,rfl⟩<;>rcases xy ht' with ⟨_,ht'⟩ | ⟨g1',i',rows',cap',b1',hf',hb',rfl⟩
  ·exact hgd.fit.owns.apart id id' e k v e' k' v' b ht ht' hv hv'
  ·cases hv'
   exact absurd (List.mem_of_getElem? hb') (hold id e k v _ ht hv)
  ·cases hv
   exact absurd (List.mem_of_getElem? hb) (hold id' e' k' v' _ ht' hv')
  ·cases hv;cases hv'
   have hii:i=i':=(List.getElem?_inj (List.getElem?_eq_some_iff.1 hb).1 hgd.fit.boxes.nodup).1 (hb.trans hb'.symm)
   subst hii
   have hn:=hfr.1
   have h1:(fr.map (·.1))[id-σ.nx]?=some i:=by rw[List.getElem?_map,hf];rfl
   have h2:(fr.map (·.1))[id'-σ.nx]?=some i:=by rw[List.getElem?_map,hf'];rfl
   have:=(List.getElem?_inj (List.getElem?_eq_some_iff.1 h1).1 hn).1 (h1.trans h2.symm)
   omega
theorem kg {R R2:Env} {L:Loc} {b:Nat} {vs:Array Value} {ty:TypeId} (he:Ext R R2) (hh:R2.w.heap[b]?=some (.cells vs ty (0,0))) {N:Nat} (hM:∀ o,o<N->¬R2.M b o):∀ (cs:List C) (us:List Value) (off:Nat),off+cs.length<=N->zx R L cs us->(∃ z,vs.toList.drop off=us++z)->(∀ v∈us,v.oneCell'=true)->zK R2 (C.frzL cs) b off
 | [],_,_,_,_,_,_=>by unfold C.frzL;exact jV
 | c :: r,us,off,hN,hr,hd,h1=>by
  obtain ⟨v,us',rfl,g1,g2⟩:=zd.1 hr
  obtain ⟨z,hd⟩:=hd
  unfold C.frzL
  simp only[List.length_cons]at hN
  have hv:vs[off]?=some v:=by
   have:=List.getElem?_drop (xs:=vs.toList) (i:=off) (j:=0)
   rw[hd]at this
   simpa using this.symm
  refine qf.2 ⟨⟨v,?_,hM off (by omega),Rep.ext he (zI.refl _) _ _ (g1.frz zH),h1 v List.mem_cons_self⟩,kg he hh hM r us' (off+1) (by omega) g2 ⟨z,?_⟩ fun x hx=>h1 x (List.mem_cons_of_mem _ hx)⟩
  ·rw[cell_of_row R2.w b off vs ty (0,0) hh];exact hv
  ·rw[←List.drop_drop,hd];rfl
theorem GC:∀ (n:Nat) (cs:List C),C.frzL (cs.take n)=(C.frzL cs).take n
 | 0,cs=>by simp[C.frzL]
 | n+1,[]=>by simp[C.frzL]
 | n+1,c :: r=>by
  have h:C.frzL (c :: r)=c.frz :: C.frzL r:=by rw[C.frzL]
  rw[List.take_succ_cons,h,List.take_succ_cons,←GC n r]
  rw[C.frzL]
theorem QQ {R:Env} {b k:Nat}:∀ (rows:List (List C)) (off:Nat),(∀ r∈rows,r.length=k)->zK R rows.flatten b off->zM R rows k b off
 | [],_,_,_=>by unfold zM;trivial
 | row :: r,off,hk,h=>by
  have hrow:=hk row List.mem_cons_self
  rw[List.flatten_cons]at h
  unfold zM
  refine ⟨hrow,zY fun j c hc=>?_,QQ r (off+k) (fun x hx=>hk x (List.mem_cons_of_mem _ hx)) (zY fun j c hc=>?_)⟩
  ·exact jX h j c (by rw[List.getElem?_append_left (List.getElem?_eq_some_iff.1 hc).1];exact hc)
  ·have:=jX h (k+j) c (by rw[List.getElem?_append_right (by omega),hrow,Nat.add_sub_cancel_left];exact hc)
   rwa [←Nat.add_assoc]at this
mutual
theorem Rep.fy {R R2:Env} {L:Loc} {bx:List (List C)} {fr:Fr} {nx:Nat} {F:Nat->Prop} (he:Ext R R2) (hbx:jT R L bx) (h2:R2=⟨R.w,fun b o=>R.M b o/\(b∉L.β∨frM fr L.β b o),F⟩) (hfr:ze1 fr bx) (hnx:∀ id,nx<=id->L.T id=none):∀ (c:C) (v:Value),Rep R L c v->Rep R2 ⟨L.β,frT nx fr L.β L.T⟩ (c.fy nx fr bx) v
 | .ptr i off,v,h=>by
  unfold C.fy
  split
  ·exact ZJ
  rename_i hni
  unfold C.fz
  obtain ⟨b,hb,e⟩:=j6.1 h
  split
  ·rename_i cs hcs
   obtain ⟨vs,ty,e1,e2,e3,e4⟩:=hbx.box i b cs hb hcs
   refine jS.2 ⟨b,off,e,?_⟩
   rw[←Ux]
   refine V4 (L:=L) he (by rw[h2];exact e1) (fun o=>?_) _ (vs.toList.drop off) off (qJ off e2) rfl fun x hx=>e3 x (List.mem_of_mem_drop hx)
   rw[h2]
   rintro ⟨_,h3 | ⟨x,hx,hxb,_⟩⟩
   ·exact h3 (List.mem_of_getElem? hb)
   ·have:=(List.getElem?_inj (List.getElem?_eq_some_iff.1 hb).1 hbx.nodup).1 (hb.trans hxb.symm)
    subst this
    exact hni (List.mem_map.2 ⟨x,hx,rfl⟩)
  ·exact ZJ
 | .agg cs,_,h=>by
  unfold C.fy;unfold Rep at h ⊢
  obtain ⟨vs,e,hl⟩:=h
  exact ⟨vs,e,zx.fy he hbx h2 hfr hnx cs _ hl⟩
 | .tup cs,_,h=>by
  unfold C.fy;unfold Rep at h ⊢
  obtain ⟨vs,e,hl⟩:=h
  exact ⟨vs,e,zx.fy he hbx h2 hfr hnx cs _ hl⟩
 | .clo fn first cap,_,h=>by
  unfold C.fy;unfold Rep at h ⊢
  obtain ⟨fs,cs,e,h3,h4⟩:=h
  exact ⟨fs,cs,e,zx.fy he hbx h2 hfr hnx first _ h3,zx.fy he hbx h2 hfr hnx cap _ h4⟩
 | .sc v,_,h=>by unfold C.fy;unfold Rep at h ⊢;exact h
 | .str l,_,h=>by unfold C.fy;unfold Rep at h ⊢;exact h
 | .sl k rows,v,h=>by
  unfold C.fy
  exact Rep.ext he (zI.none _) (.sl k rows) v (T:=zH) (by unfold Rep at h ⊢;exact h)
 | .tight k rows,v,h=>by
  unfold C.fy
  exact Rep.ext he (zI.none _) (.tight k rows) v (T:=zH) (by unfold Rep at h ⊢;exact h)
 | .mo id t ks vs,v,h=>by
  unfold C.fy
  unfold Rep at h ⊢
  obtain ⟨b,vvs,e,ht,hl⟩:=h
  refine ⟨b,vvs,e,?_,zx.ext he (zI.refl _) _ _ hl⟩
  have hlt:id<nx:=by
   rcases Nat.lt_or_ge id nx with q | q
   ·exact q
   ·have:=hnx id q;rw[ht]at this;cases this
  show frT nx fr L.β L.T id=_
  unfold frT
  rw[if_pos hlt];exact ht
 | .own id e k rows,v,h=>by
  unfold C.fy
  have h3:=Rep.ext he (zI.none ⟨L.β,frT nx fr L.β L.T⟩) (.sl k rows) v (T:=zH) (by unfold Rep at h ⊢;exact h.2)
  unfold Rep at h h3 ⊢
  refine ⟨?_,h3⟩
  have hlt:id<nx:=by
   rcases Nat.lt_or_ge id nx with q | q
   ·exact q
   ·have:=hnx id q;rw[h.1]at this;cases this
  show frT nx fr L.β L.T id=_
  unfold frT
  rw[if_pos hlt];exact h.1
 | .row cs,v,h=>by
  unfold C.fy
  exact Rep.ext he (zI.none _) (.row cs) v (T:=zH) (by unfold Rep at h ⊢;exact h)
 | .bs i off k n c,v,h=>by
  unfold C.fy
  obtain ⟨b,hb,ad,e,had⟩:=q9.1 h
  rcases GY fr nx i off k n c with hq | ⟨j,e',rows,hj,rfl,rfl,hq⟩
  ·rw[hq];exact ZJ
  ·rw[hq]
   have hmem:=List.mem_of_getElem? hj
   obtain ⟨cs,c1,c2,c3,c4,c5,c6,c7⟩:=hfr.2 _ hmem
   simp only at c1 c2 c3 c4 c5 c6 c7
   obtain ⟨vs,ty,e1,e2,e3,e4⟩:=hbx.box i b cs hb c1
   obtain rfl:=had (by omega)
   unfold Rep
   refine ⟨?_,some ⟨b,0,none⟩,c,e,c3,c4,.inr ⟨b,0,rfl,QQ rows 0 c6 ?_⟩⟩
   ·show frT nx fr L.β L.T (nx+j)=_
    unfold frT
    rw[if_neg (by omega),Nat.add_sub_cancel_left,hj]
    simp only[hb,Option.map_some,e]
   ·rw[←c7,←GC]
    have hlen:(cs.take (rows.length*k)).length=rows.length*k:=by
     rw[List.length_take]
     have:rows.length*k<=c*k:=Nat.mul_le_mul_right _ c3
     omega
    refine kg (L:=L) (N:=rows.length*k) he (by rw[h2];exact e1) (fun o ho=>?_) _ (vs.toList.take (rows.length*k)) 0 (by omega) (qy _ e2) ⟨vs.toList.drop (rows.length*k),by simp⟩ fun x hx=>e3 x (List.mem_of_mem_take hx)
    rw[h2]
    rintro ⟨_,h3 | ⟨x,hx,hxb,hxo⟩⟩
    ·exact h3 (List.mem_of_getElem? hb)
    ·have hii:=(List.getElem?_inj (List.getElem?_eq_some_iff.1 hb).1 hbx.nodup).1 (hb.trans hxb.symm)
     obtain ⟨j2,hj2,hj2'⟩:=List.getElem_of_mem hx
     have g1:(fr.map (·.1))[j]?=some i:=by rw[List.getElem?_map,hj];rfl
     have g2:(fr.map (·.1))[j2]?=some i:=by rw[List.getElem?_map,List.getElem?_eq_getElem hj2,hj2',hii];rfl
     have:=(List.getElem?_inj (List.getElem?_eq_some_iff.1 g1).1 hfr.1).1 (g1.trans g2.symm)
     subst this
     rw[List.getElem?_eq_getElem hj2,hj2']at hj
     cases hj
     simp only at hxo
     omega
 | .any,_,h=>by unfold C.fy;exact ZJ
theorem zx.fy {R R2:Env} {L:Loc} {bx:List (List C)} {fr:Fr} {nx:Nat} {F:Nat->Prop} (he:Ext R R2) (hbx:jT R L bx) (h2:R2=⟨R.w,fun b o=>R.M b o/\(b∉L.β∨frM fr L.β b o),F⟩) (hfr:ze1 fr bx) (hnx:∀ id,nx<=id->L.T id=none):∀ (cs:List C) (vs:List Value),zx R L cs vs->zx R2 ⟨L.β,frT nx fr L.β L.T⟩ (C.fyL nx fr bx cs) vs
 | [],_,h=>by unfold C.fyL;rw[zh]at h ⊢;exact h
 | c :: r,_,h=>by
  unfold C.fyL;rw[zd]at h ⊢
  obtain ⟨v,us,e,h3,h4⟩:=h
  exact ⟨v,us,e,Rep.fy he hbx h2 hfr hnx c v h3,zx.fy he hbx h2 hfr hnx r us h4⟩
end
theorem Fun.of_awpF {f:FuncId} {fn:Func} {code:Code} {args:List C} {r:C} {n:Nat} (b:Nat->List Bool) (hm:P.follows .mixedOrders=true) (hf:P.funcs[f]?=some fn) (hb:fn.body=some code) (hnm:(fn.name == "runtime.NumGoroutine")=false) (hN:args.length<=fn.ntmps) (hok:jz fn.ntmps b code=true)
  (h:awp P G ⟨0,none,b⟩ code (zic P fn.results.toList fun c σ=>∃ (fr:Fr) (src:Src),ze1 fr σ.bx/\Z9 src=true/\src.length=n/\CLe src 0 (c.fy σ.nx fr σ.bx) r) ⟨Vu 0 args,[],0,0⟩):Fun P G f args r n:=by
 refine ⟨by unfold Yk;rw[hf];simp[hnm,hb],fun R vs hg hargs=>?_⟩
 let E:Ctx:=⟨R.w,R.M,[],fun _=>False,fn.ntmps,[],fun _=>False,fun _=>False,fun _ h=>h,fun _ _=>True,fun _ _ _ _ _=>trivial⟩
 let R0:Env:=⟨R.w,R.M,fun _=>False⟩
 have hx:Ext R R0:=⟨fun _ _ _ h1 h2=>⟨h1,h2⟩,fun _ _ _ _ h1 h2=>⟨h1,h2⟩⟩
 have hargs0:zx R0 zH args vs:=zx.ext hx (zI.refl _) _ _ hargs
 obtain ⟨i1,i2⟩:=QY hN hargs0
 have hinv:qv G E ⟨Vu 0 args,[],0,0⟩ { tmps:=vs.toArray++Array.replicate (fn.ntmps-vs.toArray.size) undef,defers:=[] } R0 zH:=
  ⟨⟨⟨hg.ext hx,⟨rfl,List.nodup_nil,fun i b cs hi=>(by simp at hi)⟩,⟨fun id e k v ht=>(by cases ht),fun id id' e k v e' k' v' b ht=>(by cases ht)⟩,fun g hg=>.inl hg⟩,rfl,rfl,rfl,Nat.le_refl _,fun _ _ _ _=>⟨rfl,fun _=>Iff.rfl⟩,⟨fun _ _ _ h1 h2=>⟨h1,h2⟩,fun _ _ _ _ h1 h2=>⟨h1,h2⟩⟩,⟨[],rfl⟩,fun b hb=>(by cases hb),fun _ h=>h.elim,fun _ _=>Iff.rfl,fun b hb=>(by cases hb),fun id e k v b ht=>(by cases ht),fun _ _=>rfl,trivial⟩,i1,⟨[],rfl,List.nodup_nil,fun d hd=>(by cases hd)⟩,i2⟩
 refine Ye (E:=E) (R:=R0) hm hf hb hok rfl rfl (Nat.zero_le _) (fun y hy=>by cases hy) h hinv ?_
 rintro σ' a' R' L' v c ⟨fr,src,hfr,h3,h4,h5⟩ hI h2
 have hgd:=hI.good
 have hblk:∀ b,b<R.w.heap.size->R'.w.heap[b]?=R.w.heap[b]?/\∀ o,(R'.M b o↔R.M b o):=fun b hb=>hgd.blk b hb (fun h=>h) fun hF=>(hgd.fz b hb).1 hF
 have hnew:∀ b∈L'.β,R.w.heap.size<=b:=fun b hb=>(hgd.tub b hb).elim id fun g=>g.elim
 let R2:Env:=⟨R'.w,fun b o=>R'.M b o/\(b∉L'.β∨frM fr L'.β b o),R.F⟩
 let T2:Own:=frT σ'.nx fr L'.β L'.T
 have hx2:Ext R' R2:=⟨fun _ _ _ h1 h2=>⟨h1,fun h=>h2 h.1⟩,fun _ _ _ _ h1 h2=>⟨h1,fun o h=>h2 o h.1⟩⟩
 have hown2:ZL E.tu R2 ⟨[],T2⟩:=zi1 hgd hfr
 have how:=Vm (β':=[]) h3 (fun b hb=>(by cases hb)) hown2
 have hfz:Rep R2 ⟨L'.β,T2⟩ (c.fy σ'.nx fr σ'.bx) v:=Rep.fy hx2 hgd.fit.boxes rfl hfr (fun id hid=>hgd.free id hid) _ _ h2
 refine ⟨v,R2,Jh src 0 ⟨L'.β,T2⟩,rfl,rfl,⟨⟨hgd.os,hgd.tape,hgd.output,hgd.size,fun b hb=>(hblk b hb).1⟩,rfl,by simp,fun b o hb=>?_,fun id hi=>?_,fun id e k v hi hj ht=>?_,fun id id' e k v e' k' v' b hi hi2 hj hj2 h6 h7 h8 h9=>?_⟩,Rep.less _ _ _ h5 hfz⟩
 ·refine ⟨fun h=>((hblk b hb).2 o).1 h.1,fun h=>⟨((hblk b hb).2 o).2 h,.inl fun hx=>?_⟩⟩
  have:=hnew b hx;omega
 ·show Q2 src T2 id=none
  unfold Q2
  rw[List.getElem?_eq_none (by omega)]
 ··refine (how.own id e k v ht).move fun g _ q2 _ q7=>⟨?_,rfl,q7,fun _ h=>h⟩
   rcases q2 with q2 | q2
   ·exact q2
   ·exact q2.elim
 ·exact how.apart id id' e k v e' k' v' b h6 h7 h8 h9
end
end
section
open Go
theorem zle:lay Tryz.prog 3=some { kind:=LK.int IntKind.i64,size:=1,bytes:=8,zero:=some [Value.int IntKind.i64 (Int.ofNat 0)] }:=by kernel_rfl
theorem zpB:lay Tryz.prog 4=some { kind:=LK.bool,size:=1,bytes:=1,zero:=some [Value.bool false] }:=by kernel_rfl
theorem ze4:lay Tryz.prog 9=some { kind:=LK.str,size:=1,bytes:=16,zero:=some [Value.string ⟨#[]⟩] }:=by kernel_rfl
theorem zoH:lay Tryz.prog 21=some { kind:=LK.int IntKind.i32,size:=1,bytes:=4,zero:=some [Value.int IntKind.i32 (Int.ofNat 0)] }:=by kernel_rfl
theorem Zw:lay Tryz.prog 22=some { kind:=LK.slice 75,size:=1,bytes:=24,zero:=some [Value.slice none 0 0] }:=by kernel_rfl
theorem zo7:lay Tryz.prog 24=some { kind:=LK.struct [(0,1,false),(1,1,false),(2,1,false),(3,1,false)],size:=4,bytes:=48,zero:=some [Value.int IntKind.i64 (Int.ofNat 0),Value.int IntKind.i64 (Int.ofNat 0),Value.int IntKind.i64 (Int.ofNat 0),Value.slice none 0 0] }:=by kernel_rfl
theorem Ul:lay Tryz.prog 25=some { kind:=LK.slice 92,size:=1,bytes:=24,zero:=some [Value.slice none 0 0] }:=by kernel_rfl
theorem zoN:lay Tryz.prog 27=some { kind:=LK.struct [(0,1,false),(1,1,false)],size:=2,bytes:=48,zero:=some [Value.slice none 0 0,Value.slice none 0 0] }:=by kernel_rfl
theorem zod:lay Tryz.prog 29=some { kind:=LK.struct [(0,4,true),(4,2,true)],size:=6,bytes:=96,zero:=some [Value.int IntKind.i64 (Int.ofNat 0),Value.int IntKind.i64 (Int.ofNat 0),Value.int IntKind.i64 (Int.ofNat 0),Value.slice none 0 0,Value.slice none 0 0,Value.slice none 0 0] }:=by kernel_rfl
theorem zfG:lay Tryz.prog 30=some { kind:=LK.slice 63,size:=1,bytes:=24,zero:=some [Value.slice none 0 0] }:=by kernel_rfl
theorem UQ:lay Tryz.prog 33=some { kind:=LK.slice 9,size:=1,bytes:=24,zero:=some [Value.slice none 0 0] }:=by kernel_rfl
theorem zop:lay Tryz.prog 35=some { kind:=LK.struct [(0,1,false),(1,1,false),(2,1,false)],size:=3,bytes:=56,zero:=some [Value.slice none 0 0,Value.slice none 0 0,Value.int IntKind.i64 (Int.ofNat 0)] }:=by kernel_rfl
theorem zoC:lay Tryz.prog 37=some { kind:=LK.struct [(0,6,true),(6,3,true),(9,1,false)],size:=10,bytes:=160,zero:=some [Value.int IntKind.i64 (Int.ofNat 0),Value.int IntKind.i64 (Int.ofNat 0),Value.int IntKind.i64 (Int.ofNat 0),Value.slice none 0 0,Value.slice none 0 0,Value.slice none 0 0,Value.slice none 0 0,Value.slice none 0 0,Value.int IntKind.i64 (Int.ofNat 0),Value.int IntKind.i64 (Int.ofNat 0)] }:=by kernel_rfl
theorem zof:lay Tryz.prog 45=some { kind:=LK.struct [(0,1,false),(1,1,false),(2,1,false)],size:=3,bytes:=32,zero:=some [Value.int IntKind.i64 (Int.ofNat 0),Value.string ⟨#[]⟩,Value.int IntKind.i64 (Int.ofNat 0)] }:=by kernel_rfl
theorem zom:lay Tryz.prog 48=some { kind:=LK.other,size:=1,bytes:=8,zero:=some [Value.nilFunc] }:=by kernel_rfl
theorem zpe:lay Tryz.prog 53=some { kind:=LK.slice 3,size:=1,bytes:=24,zero:=some [Value.slice none 0 0] }:=by kernel_rfl
theorem zoG:lay Tryz.prog 59=some { kind:=LK.int IntKind.i64,size:=1,bytes:=8,zero:=some [Value.int IntKind.i64 (Int.ofNat 0)] }:=by kernel_rfl
theorem zhk:lay Tryz.prog 63=some { kind:=LK.struct [(0,1,false),(1,1,false),(2,1,false),(3,1,false),(4,1,false)],size:=5,bytes:=64,zero:=some [Value.int IntKind.i64 (Int.ofNat 0),Value.int IntKind.i64 (Int.ofNat 0),Value.string ⟨#[]⟩,Value.string ⟨#[]⟩,Value.string ⟨#[]⟩] }:=by kernel_rfl
theorem Qg:lay Tryz.prog 73=some { kind:=LK.slice 108,size:=1,bytes:=24,zero:=some [Value.slice none 0 0] }:=by kernel_rfl
theorem Zo:lay Tryz.prog 75=some { kind:=LK.struct [(0,1,false),(1,1,false),(2,1,false),(3,1,false),(4,1,false),(5,1,false)],size:=6,bytes:=72,zero:=some [Value.int IntKind.i64 (Int.ofNat 0),Value.int IntKind.i64 (Int.ofNat 0),Value.int IntKind.i64 (Int.ofNat 0),Value.string ⟨#[]⟩,Value.int IntKind.i64 (Int.ofNat 0),Value.slice none 0 0] }:=by kernel_rfl
theorem zov:lay Tryz.prog 78=some { kind:=LK.struct [(0,1,false),(1,1,false),(2,1,false)],size:=3,bytes:=40,zero:=some [Value.bool false,Value.slice none 0 0,Value.bool false] }:=by kernel_rfl
theorem VX:lay Tryz.prog 92=some { kind:=LK.struct [(0,1,false),(1,1,false),(2,1,false),(3,1,false)],size:=4,bytes:=40,zero:=some [Value.int IntKind.i64 (Int.ofNat 0),Value.int IntKind.i64 (Int.ofNat 0),Value.bool false,Value.string ⟨#[]⟩] }:=by kernel_rfl
theorem J3:lay Tryz.prog 108=some { kind:=LK.struct [(0,1,false),(1,1,false)],size:=2,bytes:=24,zero:=some [Value.string ⟨#[]⟩,Value.int IntKind.i64 (Int.ofNat 0)] }:=by kernel_rfl
theorem zmN:lay Tryz.prog 124=some { kind:=LK.slice 127,size:=1,bytes:=24,zero:=some [Value.slice none 0 0] }:=by kernel_rfl
theorem zl9:lay Tryz.prog 127=some { kind:=LK.struct [(0,1,false),(1,1,false)],size:=2,bytes:=24,zero:=some [Value.string ⟨#[]⟩,Value.int IntKind.i64 (Int.ofNat 0)] }:=by kernel_rfl
theorem znH:lay Tryz.prog 142=some { kind:=LK.slice 30,size:=1,bytes:=24,zero:=some [Value.slice none 0 0] }:=by kernel_rfl
theorem zls:lay Tryz.prog 144=some { kind:=LK.slice 33,size:=1,bytes:=24,zero:=some [Value.slice none 0 0] }:=by kernel_rfl
theorem znP:lay Tryz.prog 180=some { kind:=LK.struct [(0,1,false),(1,1,false),(2,1,false)],size:=3,bytes:=3,zero:=some [Value.bool false,Value.bool false,Value.bool false] }:=by kernel_rfl
theorem znD:lay Tryz.prog 181=some { kind:=LK.array 11 180,size:=33,bytes:=33,zero:=some [Value.bool false,Value.bool false,Value.bool false,Value.bool false,Value.bool false,Value.bool false,Value.bool false,Value.bool false,Value.bool false,Value.bool false,Value.bool false,Value.bool false,Value.bool false,Value.bool false,Value.bool false,Value.bool false,Value.bool false,Value.bool false,Value.bool false,Value.bool false,Value.bool false,Value.bool false,Value.bool false,Value.bool false,Value.bool false,Value.bool false,Value.bool false,Value.bool false,Value.bool false,Value.bool false,Value.bool false,Value.bool false,Value.bool false] }:=by kernel_rfl
theorem zlN:lay Tryz.prog 188=some { kind:=LK.struct [(0,1,false),(1,1,false),(2,1,false)],size:=3,bytes:=40,zero:=some [Value.string ⟨#[]⟩,Value.string ⟨#[]⟩,Value.int IntKind.i64 (Int.ofNat 0)] }:=by kernel_rfl
theorem zmz:lay Tryz.prog 189=some { kind:=LK.array 6 188,size:=18,bytes:=240,zero:=some [Value.string ⟨#[]⟩,Value.string ⟨#[]⟩,Value.int IntKind.i64 (Int.ofNat 0),Value.string ⟨#[]⟩,Value.string ⟨#[]⟩,Value.int IntKind.i64 (Int.ofNat 0),Value.string ⟨#[]⟩,Value.string ⟨#[]⟩,Value.int IntKind.i64 (Int.ofNat 0),Value.string ⟨#[]⟩,Value.string ⟨#[]⟩,Value.int IntKind.i64 (Int.ofNat 0),Value.string ⟨#[]⟩,Value.string ⟨#[]⟩,Value.int IntKind.i64 (Int.ofNat 0),Value.string ⟨#[]⟩,Value.string ⟨#[]⟩,Value.int IntKind.i64 (Int.ofNat 0)] }:=by kernel_rfl
theorem zlQ:lay Tryz.prog 190=some { kind:=LK.array 23 9,size:=23,bytes:=368,zero:=some [Value.string ⟨#[]⟩,Value.string ⟨#[]⟩,Value.string ⟨#[]⟩,Value.string ⟨#[]⟩,Value.string ⟨#[]⟩,Value.string ⟨#[]⟩,Value.string ⟨#[]⟩,Value.string ⟨#[]⟩,Value.string ⟨#[]⟩,Value.string ⟨#[]⟩,Value.string ⟨#[]⟩,Value.string ⟨#[]⟩,Value.string ⟨#[]⟩,Value.string ⟨#[]⟩,Value.string ⟨#[]⟩,Value.string ⟨#[]⟩,Value.string ⟨#[]⟩,Value.string ⟨#[]⟩,Value.string ⟨#[]⟩,Value.string ⟨#[]⟩,Value.string ⟨#[]⟩,Value.string ⟨#[]⟩,Value.string ⟨#[]⟩] }:=by kernel_rfl
theorem zmt:lay Tryz.prog 196=some { kind:=LK.struct [(0,1,false),(1,1,false)],size:=2,bytes:=48,zero:=some [Value.slice none 0 0,Value.slice none 0 0] }:=by kernel_rfl
theorem zmd:lay Tryz.prog 197=some { kind:=LK.slice 196,size:=1,bytes:=24,zero:=some [Value.slice none 0 0] }:=by kernel_rfl
theorem zlO:lay Tryz.prog 212=some { kind:=LK.other,size:=1,bytes:=8,zero:=some [Value.nilFunc] }:=by kernel_rfl
theorem zmw:lay Tryz.prog 230=some { kind:=LK.int IntKind.u64,size:=1,bytes:=8,zero:=some [Value.int IntKind.u64 (Int.ofNat 0)] }:=by kernel_rfl
theorem zng:lay Tryz.prog 231=some { kind:=LK.array 14 9,size:=14,bytes:=224,zero:=some [Value.string ⟨#[]⟩,Value.string ⟨#[]⟩,Value.string ⟨#[]⟩,Value.string ⟨#[]⟩,Value.string ⟨#[]⟩,Value.string ⟨#[]⟩,Value.string ⟨#[]⟩,Value.string ⟨#[]⟩,Value.string ⟨#[]⟩,Value.string ⟨#[]⟩,Value.string ⟨#[]⟩,Value.string ⟨#[]⟩,Value.string ⟨#[]⟩,Value.string ⟨#[]⟩] }:=by kernel_rfl
theorem zlK:lay Tryz.prog 239=some { kind:=LK.other,size:=1,bytes:=8,zero:=some [Value.nilFunc] }:=by kernel_rfl
theorem zoL:UA Tryz.prog 7=some [LK.int IntKind.i64,LK.int IntKind.i64,LK.bool,LK.int IntKind.u8]:=by kernel_rfl
theorem zoQ:UA Tryz.prog 8=some [LK.int IntKind.i64,LK.int IntKind.i64,LK.bool,LK.int IntKind.u8]:=by kernel_rfl
theorem zm6:UA Tryz.prog 44=some [LK.int IntKind.i64,LK.str,LK.int IntKind.i64]:=by kernel_rfl
theorem zl0:UA Tryz.prog 45=some [LK.int IntKind.i64,LK.str,LK.int IntKind.i64]:=by kernel_rfl
theorem zlG:UA Tryz.prog 62=some [LK.int IntKind.i64,LK.int IntKind.i64,LK.str,LK.str,LK.str]:=by kernel_rfl
theorem znb:UA Tryz.prog 63=some [LK.int IntKind.i64,LK.int IntKind.i64,LK.str,LK.str,LK.str]:=by kernel_rfl
theorem zlu:UA Tryz.prog 91=some [LK.int IntKind.i64,LK.int IntKind.i64,LK.bool,LK.str]:=by kernel_rfl
theorem zm8:UA Tryz.prog 92=some [LK.int IntKind.i64,LK.int IntKind.i64,LK.bool,LK.str]:=by kernel_rfl
theorem zjP:UA Tryz.prog 107=some [LK.str,LK.int IntKind.i64]:=by kernel_rfl
theorem zi2:UA Tryz.prog 108=some [LK.str,LK.int IntKind.i64]:=by kernel_rfl
theorem zi3:UA Tryz.prog 126=some [LK.str,LK.int IntKind.i64]:=by kernel_rfl
theorem zi8:UA Tryz.prog 127=some [LK.str,LK.int IntKind.i64]:=by kernel_rfl
theorem zjD:UA Tryz.prog 179=some [LK.bool,LK.bool,LK.bool]:=by kernel_rfl
theorem ziS:UA Tryz.prog 180=some [LK.bool,LK.bool,LK.bool]:=by kernel_rfl
theorem zjv:UA Tryz.prog 187=some [LK.str,LK.str,LK.int IntKind.i64]:=by kernel_rfl
theorem zjj:UA Tryz.prog 188=some [LK.str,LK.str,LK.int IntKind.i64]:=by kernel_rfl
theorem zkp:UA Tryz.prog 262=some [LK.int IntKind.u8,LK.int IntKind.u8]:=by kernel_rfl
theorem zkx:UA Tryz.prog 263=some [LK.int IntKind.u8,LK.int IntKind.u8]:=by kernel_rfl
theorem zjs:ze5 Tryz.prog 140=some (MKd.int IntKind.i64,C.sc Value.nilFunc):=by kernel_rfl
attribute [push_cast] zle zpB ze4 zoH Zw zo7 Ul zoN zod zfG UQ zop zoC zof zom zpe zoG zhk Qg Zo zov VX J3 zmN zl9 znH zls znP znD zlN zmz zlQ zmt zmd zlO zmw zng zlK zoL zoQ zm6 zl0 zlG znb zlu zm8 zjP zi2 zi3 zi8 zjD ziS zjv zjj zkp zkx zjs
end
section
open Go.RowKit
section
variable {P:Program} {G:zk} {σ σ':St} {N p lg m:Nat} {h:Hd} {yd:Option Yd} {brs:List Bool} {bf:Nat->List Bool} {bx bx':List (List C)} {ops:Array Oper} {c c' d d':C} {t t':TypeId} {K:C->Prop} {K2:C->Nat->Prop} {K3:C->St->Prop} {nx:Nat} {tm:List (Nat×C)} {x y z:Operand} {Q:Exit->St->Prop} {X Y:Prop}
def vd (P:Program) (G:zk) (f:FuncId) (args:List C) (nx:Nat) (K:C->Nat->Prop):Prop:=∃ r n,Fun P G f args r n/\K (r.sh nx) (nx+n)
theorem vd.mk {f:FuncId} {args:List C} {r:C} {n:Nat} (h:Fun P G f args r n) (hK:K2 (r.sh nx) (nx+n)):vd P G f args nx K2:=⟨r,n,h,hK⟩
def znm (P:Program) (G:zk) (f:FuncId) (args fargs:List C) (σ:St) (K:C->St->Prop):Prop:=
 (∃ r n,Fun P G f fargs r n/\K (r.sh σ.nx) ⟨σ.tm,σ.bx,σ.nx+n,σ.lg⟩)∨Mf P G f args σ K∨zif P G f args σ K∨VP P G f args σ K∨zeT P f args σ K
def aGd (d:Option Tmp) (tm:List (Nat×C)) (want:Bool) (X Y:Prop):Prop:=match d with
 | some d=>match want with
  | true=>zie (js tm d) Y X Y
  | false=>zie (js tm d) Y Y X
 | none=>False
def zni (L:Option Lay) (c:C) (bx:List (List C)) (K:C->Prop):Prop:=
 match L with
 | none=>False
 | some L=>match c with
  | .ptr i off=>match bx[i]? with
   | some cs=>JV L (cs.drop off) K
   | none=>False
  | .row cs=>JV L cs K
  | _=>False
def zmI (cs:Option (List C)) (off:Nat) (L:Lay) (K:C->Prop):Prop:=match cs with | some cs=>JV L (cs.drop off) K | none=>False
def zpi (x:Option C) (K:C->Prop):Prop:=match x with | some c=>K c | none=>False
def ye (L:Option Lay) (c:C) (f:Nat) (K:C->Prop):Prop:=
 match L with
 | some ⟨.struct fs,_,_,_⟩=>match fs[f]?,c with
  | some (off,size,agg),.agg cs =>
   if agg then off+size<=cs.length/\K (.agg ((cs.drop off).take size)) else match cs[off]? with
    | some c=>K c
    | none=>False
  | _,_=>False
 | _=>False
def Ui (f:Option (Nat×Nat×Bool)) (cs:List C) (K:C->Prop):Prop:=
 match f with
 | some (off,size,agg)=>if agg then off+size<=cs.length/\K (.agg ((cs.drop off).take size)) else match cs[off]? with
    | some c=>K c
    | none=>False
 | none=>False
def zpE (L:Option Lay) (c:C) (f:Nat) (K:C->Prop):Prop:=
 match L with
 | some ⟨.struct fs,_,_,_⟩=>match fs[f]?,c with
  | some (off,size,_),.ptr i o=>if size=0 then False else K (.ptr i (o+off))
  | some (off,size,_),.row cs=>if size=0 then False else K (.row (cs.drop off))
  | _,_=>False
 | _=>False
def zln (f:Option (Nat×Nat×Bool)) (c:C) (K:C->Prop):Prop:=
 match f,c with
  | some (off,size,_),.ptr i o=>if size=0 then False else K (.ptr i (o+off))
  | some (off,size,_),.row cs=>if size=0 then False else K (.row (cs.drop off))
  | _,_=>False
def zpZ (P:Program) (L:Option Lay) (c:C) (i:C) (K:C->Prop):Prop:=
 match L,i with
 | some ⟨.slice e,_,_,_⟩,.sc (.int _ n)=>match lay P e with
  | some L=>match c with
   | .bs j off k m _=>k=L.size/\0<=n/\n<(m:Int)/\K (.ptr j (off+n.toNat*L.size))
   | c=>match c.rows? L.size with
    | some rows=>match rows[n.toNat]? with
     | some r=>0<=n/\K (.row r)
     | none=>False
    | none=>False
  | none=>False
 | some ⟨.array (m+1) e,_,_,_⟩,.sc (.int _ n)=>match lay P e with
  | some L=>match c with
   | .ptr j off=>0<=n/\n<((m+1:Nat):Int)/\K (.ptr j (off+n.toNat*L.size))
   | .row cs=>0<=n/\n<((m+1:Nat):Int)/\K (.row (cs.drop (n.toNat*L.size)))
   | _=>False
  | none=>False
 | _,_=>False
def zp1 (L:Option Lay) (c:C) (n:Int) (K:C->Prop):Prop:=
 match L with
  | some L=>match c with
   | .bs j off k m _=>k=L.size/\0<=n/\n<(m:Int)/\K (.ptr j (off+n.toNat*L.size))
   | c=>match c.rows? L.size with
    | some rows=>match rows[n.toNat]? with
     | some r=>0<=n/\K (.row r)
     | none=>False
    | none=>False
  | none=>False
def zpA (rows:Option (List (List C))) (n:Int) (K:C->Prop):Prop:=
 match rows with
   | some rows=>match rows[n.toNat]? with
    | some r=>0<=n/\K (.row r)
    | none=>False
   | none=>False
def aAt (r:Option (List C)) (n:Int) (K:C->Prop):Prop:=match r with | some r=>0<=n/\K (.row r) | none=>False
def zpN (L:Option Lay) (c:C) (m:Nat) (n:Int) (K:C->Prop):Prop:=
 match L with
  | some L=>match c with
   | .ptr j off=>0<=n/\n<((m+1:Nat):Int)/\K (.ptr j (off+n.toNat*L.size))
   | .row cs=>0<=n/\n<((m+1:Nat):Int)/\K (.row (cs.drop (n.toNat*L.size)))
   | _=>False
  | none=>False
def zn1 (L:Option Lay) (c i:C) (K:C->Prop):Prop:=
 match L,c,i with
 | some ⟨.str,_,_,_⟩,.str l,.sc (.int _ n)=>match l[n.toNat]? with
  | some b=>0<=n/\K (.sc (.int .u8 (b.toNat:Int)))
  | none=>False
 | _,_,_=>False
def zkS (b:Option UInt8) (n:Int) (K:C->Prop):Prop:=match b with | some b=>0<=n/\K (.sc (.int .u8 (b.toNat:Int))) | none=>False
def zpp (P:Program) (L:Option Lay) (c:C) (lo hi mx:Option Int) (K:C->Prop):Prop:=
   match L with
    | some ⟨.str,_,_,_⟩=>match c,mx with
      | .str l,none=>jL l.length lo hi/\K (.str (cut l lo hi))
      | _,_=>False
    | some ⟨.slice e,_,_,_⟩=>match lay P e with
      | some L=>match c with
        | .bs i off k n cap=>ziJ L.size i off k n cap lo hi mx K
        | .sc (.slice none 0 0)=>zl2 L.size lo hi mx K
        | c=>match c.rows? L.size with
          | some rows=>match mx,hi with
            | none,_=>jL rows.length lo hi/\K (.sl L.size (cut rows lo hi))
            | some m,some h=>m=h/\jL rows.length lo hi/\K (.tight L.size (cut rows lo hi))
            | some _,none=>False
          | none=>False
      | none=>False
    | _=>False
def zpC (P:Program) (t:TypeId) (c:C) (lo hi mx:Option (Option Int)) (K:C->Prop):Prop:=
 match lo,hi,mx with
 | some lo,some hi,some mx=>zpp P (lay P t) c lo hi mx K
 | _,_,_=>False
def zp2 (L:Option Lay) (c:C) (lo hi mx:Option Int) (K:C->Prop):Prop:=
 match L with
   | some L=>match c with
    | .bs i off k n cap=>ziJ L.size i off k n cap lo hi mx K
    | .sc (.slice none 0 0)=>zl2 L.size lo hi mx K
    | c=>match c.rows? L.size with
     | some rows=>match mx,hi with
      | none,_=>jL rows.length lo hi/\K (.sl L.size (cut rows lo hi))
      | some m,some h=>m=h/\jL rows.length lo hi/\K (.tight L.size (cut rows lo hi))
      | some _,none=>False
     | none=>False
   | none=>False
def zpT (rows:Option (List (List C))) (k:Nat) (lo hi mx:Option Int) (K:C->Prop):Prop:=
 match rows with
    | some rows=>match mx,hi with
     | none,_=>jL rows.length lo hi/\K (.sl k (cut rows lo hi))
     | some m,some h=>m=h/\jL rows.length lo hi/\K (.tight k (cut rows lo hi))
     | some _,none=>False
    | none=>False
def zix (rows:Option (List (List C))) (K:C->Prop):Prop:=match rows with | some rows=>∃ l,rows=JH l/\K (.str l) | none=>False
theorem zix.mk {rows:List (List C)} (l:List UInt8) (h:rows=JH l) (hK:K (.str l)):zix (some rows) K:=⟨l,h,hK⟩
def zp0 (P:Program) (D S:Option Lay) (c:C) (K:C->Prop):Prop:=
 match D with
 | some ⟨.int k,_,_,_⟩=>match c with
  | .sc (.int _ n)=>match S with | some _=>inR k n/\K (.sc (.int k n)) | none=>False
  | _=>False
 | some ⟨.str,_,_,_⟩=>match S with
  | some ⟨.str,_,_,_⟩=>match c with
   | .str l=>K (.str l)
   | _=>False
  | some ⟨.slice e,_,_,_⟩=>match lay P e with
   | some ⟨.int .u8,_,_,_⟩=>match c.rows? 1 with
    | some rows=>∃ l,rows=JH l/\K (.str l)
    | none=>False
   | _=>False
  | some ⟨.int _,_,_,_⟩=>match c with
   | .sc (.int _ n)=>K (.str (Utf8.encode n).data.toList)
   | _=>False
  | _=>False
 | some ⟨.slice e,_,_,_⟩=>match S,lay P e with
  | some ⟨.str,_,_,_⟩,some ⟨.int .u8,_,_,_⟩=>match c with
   | .str l=>((l.length:Nat):Int)<=9223372036854775807/\K (.sl 1 (JH l))
   | _=>False
  | _,_=>False
 | _=>False
def zoW (L:Option Lay) (c:C) (K:C->Prop):Prop:=
 match L,c with
 | some ⟨.slice _,_,_,_⟩,.bs _ _ _ _ c=>K (.sc (.int .i64 (c:Int)))
 | some ⟨.slice _,_,_,_⟩,.sc (.slice none 0 0)=>K (.sc (.int .i64 0))
 | _,_=>False
def zoE (L:Option Lay) (n:Int) (K:C->Prop):Prop:=match L with | some ⟨.slice _,_,_,_⟩=>K (.sc (.int .i64 n)) | _=>False
def zoF (L:Option Lay) (n:Int) (K:C->Prop):Prop:=match L with | some ⟨.str,_,_,_⟩=>K (.sc (.int .i64 n)) | _=>False
def zpk (L:Option Lay) (parts:List (Nat×C)) (K:C->Prop):Prop:=
 match L with
 | some ⟨.struct fs,_,_,some z⟩=>(parts.all fun p=>p.2.partB)=true/\match YC (fun i=>(fs[i]?).map fun f=>(f.1,f.2.1)) (z.map zB) parts with
  | some cs=>K (.agg cs)
  | none=>False
 | _=>False
def aFl (cs:Option (List C)) (K:C->Prop):Prop:=match cs with | some cs=>K (.agg cs) | none=>False
def plS (fs:List (Nat×Nat×Bool)) (i:Nat):Option (Nat×Nat):=(fs[i]?).map fun f=>(f.1,f.2.1)
def plA (k:Nat) (i:Nat):Option (Nat×Nat):=some (i*k,k)
def zh6 (pl:Option (Nat×Nat)) (place:Nat->Option (Nat×Nat)) (cs:List C) (c:List C) (rest:List (Nat×C)):Option (List C):=
 match pl with
  | none=>none
  | some (off,size)=>if c.length=size/\off+size<=cs.length then YC place (cs.take off++c++cs.drop (off+size)) rest else none
def zp8 (P:Program) (L:Option Lay) (n:Nat) (parts:List (Nat×C)) (nx:Nat) (K:C->Nat->Prop):Prop:=
 match L with
 | some ⟨.slice e,_,_,_⟩=>match lay P e with
  | some ⟨_,k,_,some z⟩=>z.length=k/\0<k/\n*k<=16777216/\(parts.all fun p=>p.2.frz.partB)=true/\match YC (fun i=>some (i*k,k)) (List.replicate n (z.map zB)).flatten (parts.map fun p=>(p.1,p.2.frz)) with
   | some cs=>(cs.all C.cellB)=true/\cs.length=n*k/\K (.own nx e k (XT k n cs)) (nx+1)
   | none=>False
  | _=>False
 | _=>False
def zpM (L:Option Lay) (e:TypeId) (n:Nat) (parts:List (Nat×C)) (nx:Nat) (K:C->Nat->Prop):Prop:=
   match L with
    | some ⟨_,k,_,some z⟩=>z.length=k/\0<k/\n*k<=16777216/\(parts.all fun p=>p.2.frz.partB)=true/\match YC (fun i=>some (i*k,k)) (List.replicate n (z.map zB)).flatten (parts.map fun p=>(p.1,p.2.frz)) with
      | some cs=>(cs.all C.cellB)=true/\cs.length=n*k/\K (.own nx e k (XT k n cs)) (nx+1)
      | none=>False
    | _=>False
def zqh (cs:Option (List C)) (e k n nx:Nat) (K:C->Nat->Prop):Prop:=
 match cs with
   | some cs=>(cs.all C.cellB)=true/\cs.length=n*k/\K (.own nx e k (XT k n cs)) (nx+1)
   | none=>False
def zqd (P:Program) (L:Option Lay) (l c:C) (nx:Nat) (K:C->Nat->Prop):Prop:=
 match L,l,c with
 | some ⟨.slice e,_,_,_⟩,.sc (.int _ l),.sc (.int _ c)=>match lay P e with
  | some ⟨_,k,by',some z⟩=>z.length=k/\0<k/\(z.all Value.oneCell')=true/\0<=l/\l<=c/\(by':Int)*c<=281474976710656/\c<=9223372036854775807/\K (.own nx e k (List.replicate l.toNat (z.map zB))) (nx+1)
  | _=>False
 | _,_,_=>False
def zpG (L:Option Lay) (e:TypeId) (l c:Int) (nx:Nat) (K:C->Nat->Prop):Prop:=
 match L with
  | some ⟨_,k,by',some z⟩=>z.length=k/\0<k/\(z.all Value.oneCell')=true/\0<=l/\l<=c/\(by':Int)*c<=281474976710656/\c<=9223372036854775807/\K (.own nx e k (List.replicate l.toNat (z.map zB))) (nx+1)
  | _=>False
def zoP (P:Program) (L:Option Lay) (l c:C) (σ:St) (K:C->St->Prop):Prop:=
 match L,l,c with
 | some ⟨.slice e,_,_,_⟩,.sc (.int _ l),.sc (.int _ c)=>match lay P e with
  | some ⟨_,k,by',some z⟩=>z.length=k/\0<k/\(z.all Value.oneCell')=true/\0<=l/\l<=c/\(by':Int)*c<=281474976710656/\c<=9223372036854775807/\K (.bs σ.bx.length 0 k l.toNat c.toNat) ⟨σ.tm,σ.bx++[(List.replicate c.toNat (z.map zB)).flatten],σ.nx,σ.lg⟩
  | _=>False
 | _,_,_=>False
def zo3 (L:Option Lay) (l c:Int) (σ:St) (K:C->St->Prop):Prop:=
 match L with
  | some ⟨_,k,by',some z⟩=>z.length=k/\0<k/\(z.all Value.oneCell')=true/\0<=l/\l<=c/\(by':Int)*c<=281474976710656/\c<=9223372036854775807/\K (.bs σ.bx.length 0 k l.toNat c.toNat) ⟨σ.tm,σ.bx++[(List.replicate c.toNat (z.map zB)).flatten],σ.nx,σ.lg⟩
  | _=>False
def zqg (P:Program) (L:Option Lay) (s x:C) (nx:Nat) (K:C->Nat->Prop):Prop:=
 match L with
 | some ⟨.slice e,_,_,_⟩=>match lay P e with
  | some ⟨_,k,by',some z⟩=>match x.rows? k with
   | some xs=>match s with
    | .sc (.slice none 0 0)=>z.length=k/\0<k/\xs.length<=9223372036854775807/\xs.length*by'<=140737488355328/\K (.own nx e k xs) (nx+1)
    | .tight k' rows=>k'=k/\z.length=k/\0<k/\rows.length+xs.length<=9223372036854775807/\(rows.length+xs.length)*by'<=140737488355328/\(xs = []->K (.tight k' rows) nx)/\(xs≠[]->K (.own nx e k (rows++xs)) (nx+1))
    | _=>False
   | none=>False
  | _=>False
 | _=>False
def zpY (L:Option Lay) (e:TypeId) (s x:C) (nx:Nat) (K:C->Nat->Prop):Prop:=
  match L with
  | some ⟨_,k,by',some z⟩=>match x.rows? k with
   | some xs=>match s with
    | .sc (.slice none 0 0)=>z.length=k/\0<k/\xs.length<=9223372036854775807/\xs.length*by'<=140737488355328/\K (.own nx e k xs) (nx+1)
    | .tight k' rows=>k'=k/\z.length=k/\0<k/\rows.length+xs.length<=9223372036854775807/\(rows.length+xs.length)*by'<=140737488355328/\(xs = []->K (.tight k' rows) nx)/\(xs≠[]->K (.own nx e k (rows++xs)) (nx+1))
    | _=>False
   | none=>False
  | _=>False
def zpH (xs:Option (List (List C))) (s:C) (e k by':Nat) (z:List Value) (nx:Nat) (K:C->Nat->Prop):Prop:=
 match xs with
   | some xs=>match s with
    | .sc (.slice none 0 0)=>z.length=k/\0<k/\xs.length<=9223372036854775807/\xs.length*by'<=140737488355328/\K (.own nx e k xs) (nx+1)
    | .tight k' rows=>k'=k/\z.length=k/\0<k/\rows.length+xs.length<=9223372036854775807/\(rows.length+xs.length)*by'<=140737488355328/\(xs = []->K (.tight k' rows) nx)/\(xs≠[]->K (.own nx e k (rows++xs)) (nx+1))
    | _=>False
   | none=>False
def zqk (P:Program) (L:Option Lay) (id e k:Nat) (rows:List (List C)) (x:C) (σ:St) (K:C->St->Prop):Prop:=
   match L with
    | some ⟨.slice e',_,_,_⟩=>match lay P e with
      | some ⟨_,k',by',some z⟩=>match x.rows? k with
        | some xs=>e'=e/\k'=k/\z.length=k/\0<k/\rows.length+xs.length<=9223372036854775807/\(rows.length+xs.length)*by'<=140737488355328/\K (.own id e k (rows++xs)) ⟨zai id σ.tm,N9 id σ.bx,σ.nx,σ.lg⟩
        | none=>False
      | _=>False
    | _=>False
def zpg (L:Option Lay) (e' id e k:Nat) (rows:List (List C)) (x:C) (σ:St) (K:C->St->Prop):Prop:=
  match L with
   | some ⟨_,k',by',some z⟩=>match x.rows? k with
    | some xs=>e'=e/\k'=k/\z.length=k/\0<k/\rows.length+xs.length<=9223372036854775807/\(rows.length+xs.length)*by'<=140737488355328/\K (.own id e k (rows++xs)) ⟨zai id σ.tm,N9 id σ.bx,σ.nx,σ.lg⟩
    | none=>False
   | _=>False
def zor (xs:Option (List (List C))) (by' id e k:Nat) (rows:List (List C)) (σ:St) (K:C->St->Prop):Prop:=
   match xs with
        | some xs=>rows.length+xs.length<=9223372036854775807/\(rows.length+xs.length)*by'<=140737488355328/\K (.own id e k (rows++xs)) ⟨zai id σ.tm,N9 id σ.bx,σ.nx,σ.lg⟩
        | none=>False
def zqb (L:Option Lay) (σ:St) (K:C->St->Prop):Prop:=
 match L with
 | some ⟨_,_,_,some z⟩=>(z.all Value.oneCell')=true/\K (.ptr σ.bx.length 0) ⟨σ.tm,σ.bx++[z.map zB],σ.nx,σ.lg⟩
 | _=>False
def zqc (L:Option Lay) (p c:C) (σ:St) (K:C->St->Prop):Prop:=
 match L,p with
 | some L,.ptr i off=>match σ.bx[i]? with
  | some cs=>c.partB=true/\(c.cells.all C.cellB)=true/\c.cells.length=L.size/\off+L.size<=cs.length/\K .any ⟨σ.tm,σ.bx.set i (cs.take off++c.cells++cs.drop (off+L.size)),σ.nx,σ.lg⟩
  | none=>False
 | _,_=>False
def zpz (cs:Option (List C)) (i off size:Nat) (c:C) (σ:St) (K:C->St->Prop):Prop:=
 match cs with
  | some cs=>c.partB=true/\(c.cells.all C.cellB)=true/\c.cells.length=size/\off+size<=cs.length/\K .any ⟨σ.tm,σ.bx.set i (cs.take off++c.cells++cs.drop (off+size)),σ.nx,σ.lg⟩
  | none=>False
def zbF (cs:Option (List C)) (off n:Nat) (K:C->Prop):Prop:=match cs with
   | some cs=>∃ l:List UInt8,l.length=n/\(cs.drop off).take n=l.map (fun b=>C.sc (.int .u8 (b.toNat:Int)))/\K (.str l)
   | none=>False
theorem zbF.mk {cs:List C} {off n:Nat} {K:C->Prop} (l:List UInt8) (hl:l.length=n) (h:(cs.drop off).take n=l.map (fun b=>C.sc (.int .u8 (b.toNat:Int)))) (hK:K (.str l)):zbF (some cs) off n K:=⟨l,hl,h,hK⟩
def zpO (P:Program) (L:Option Lay) (n:Nat) (parts:List (Nat×C)) (σ:St) (K:C->St->Prop):Prop:=
 match L with
 | some ⟨.slice e,_,_,_⟩=>match lay P e with
  | some ⟨_,k,_,some z⟩=>z.length=k/\0<k/\n*k<=16777216/\(parts.all fun p=>p.2.frz.partB)=true/\match YC (fun i=>some (i*k,k)) (List.replicate n (z.map zB)).flatten (parts.map fun p=>(p.1,p.2.frz)) with
   | some cs=>(cs.all C.cellB)=true/\cs.length=n*k/\K (.bs σ.bx.length 0 k n n) ⟨σ.tm,σ.bx++[cs],σ.nx,σ.lg⟩
   | none=>False
  | _=>False
 | _=>False
def zpI (L:Option Lay) (n:Nat) (parts:List (Nat×C)) (σ:St) (K:C->St->Prop):Prop:=
   match L with
    | some ⟨_,k,_,some z⟩=>z.length=k/\0<k/\n*k<=16777216/\(parts.all fun p=>p.2.frz.partB)=true/\match YC (fun i=>some (i*k,k)) (List.replicate n (z.map zB)).flatten (parts.map fun p=>(p.1,p.2.frz)) with
      | some cs=>(cs.all C.cellB)=true/\cs.length=n*k/\K (.bs σ.bx.length 0 k n n) ⟨σ.tm,σ.bx++[cs],σ.nx,σ.lg⟩
      | none=>False
    | _=>False
def zp3 (cs:Option (List C)) (k n:Nat) (σ:St) (K:C->St->Prop):Prop:=
 match cs with
   | some cs=>(cs.all C.cellB)=true/\cs.length=n*k/\K (.bs σ.bx.length 0 k n n) ⟨σ.tm,σ.bx++[cs],σ.nx,σ.lg⟩
   | none=>False
def zpV (P:Program) (L:Option Lay) (p:Nat) (s x:C) (σ:St) (K:C->St->Prop):Prop:=
 match L with
 | some ⟨.slice e,_,_,_⟩=>match lay P e with
  | some ⟨_,k,by',some z⟩=>match x.xs? k σ.bx with
   | some (m,xs)=>z.length=k/\0<k/\(z.all Value.oneCell')=true/\0<m/\match s with
    | .sc (.slice none 0 0)=>m<=9223372036854775807/\m*by'<=140737488355328/\∀ c,m<=c->c<=maxLen->K (.bs σ.bx.length 0 k m c) ⟨σ.tm,σ.bx++[xs++List.replicate ((c-m)*k) .any],σ.nx,σ.lg⟩
    | .bs i 0 k' n c=>match σ.bx[i]? with
     | some cs=>k'=k/\p<=i/\cs.length=c*k/\n<=c/\c<=9223372036854775807/\n+m<=9223372036854775807/\(n+m)*by'<=140737488355328 /\
       ∀ c',n+m<=c'->c'<=maxLen->K (.bs i 0 k (n+m) c') ⟨UX (JK i) some σ.tm,QP i (C.reL (JK i) some (cs.take (n*k)++xs)++List.replicate ((c'-(n+m))*k) .any) σ.bx,σ.nx,σ.lg⟩
     | none=>False
    | _=>False
   | none=>False
  | _=>False
 | _=>False
def zpQ (L:Option Lay) (p:Nat) (s x:C) (σ:St) (K:C->St->Prop):Prop:=
  match L with
  | some ⟨_,k,by',some z⟩=>match x.xs? k σ.bx with
   | some (m,xs)=>z.length=k/\0<k/\(z.all Value.oneCell')=true/\0<m/\match s with
    | .sc (.slice none 0 0)=>m<=9223372036854775807/\m*by'<=140737488355328/\∀ c,m<=c->c<=maxLen->K (.bs σ.bx.length 0 k m c) ⟨σ.tm,σ.bx++[xs++List.replicate ((c-m)*k) .any],σ.nx,σ.lg⟩
    | .bs i 0 k' n c=>match σ.bx[i]? with
     | some cs=>k'=k/\p<=i/\cs.length=c*k/\n<=c/\c<=9223372036854775807/\n+m<=9223372036854775807/\(n+m)*by'<=140737488355328 /\
       ∀ c',n+m<=c'->c'<=maxLen->K (.bs i 0 k (n+m) c') ⟨UX (JK i) some σ.tm,QP i (C.reL (JK i) some (cs.take (n*k)++xs)++List.replicate ((c'-(n+m))*k) .any) σ.bx,σ.nx,σ.lg⟩
     | none=>False
    | _=>False
   | none=>False
  | _=>False
def zqe (X:Option (Nat×List C)) (p k by':Nat) (z:List Value) (s:C) (σ:St) (K:C->St->Prop):Prop:=
  match X with
   | some (m,xs)=>z.length=k/\0<k/\(z.all Value.oneCell')=true/\0<m/\match s with
    | .sc (.slice none 0 0)=>m<=9223372036854775807/\m*by'<=140737488355328/\∀ c,m<=c->c<=maxLen->K (.bs σ.bx.length 0 k m c) ⟨σ.tm,σ.bx++[xs++List.replicate ((c-m)*k) .any],σ.nx,σ.lg⟩
    | .bs i 0 k' n c=>match σ.bx[i]? with
     | some cs=>k'=k/\p<=i/\cs.length=c*k/\n<=c/\c<=9223372036854775807/\n+m<=9223372036854775807/\(n+m)*by'<=140737488355328 /\
       ∀ c',n+m<=c'->c'<=maxLen->K (.bs i 0 k (n+m) c') ⟨UX (JK i) some σ.tm,QP i (C.reL (JK i) some (cs.take (n*k)++xs)++List.replicate ((c'-(n+m))*k) .any) σ.bx,σ.nx,σ.lg⟩
     | none=>False
    | _=>False
   | none=>False
def bsO (j:Option Nat) (off k n c:Nat):C:=match j with | some j=>.bs j off k n c | none=>.any
def xsB (k' k off n:Nat) (cs:Option (List C)):Option (Nat×List C):=if k'=k then cs.bind fun cs=>if off+n*k<=cs.length then some (n,(cs.drop off).take (n*k)) else none else none
def zon (j:Option Nat) (e k:Nat) (rows:List (List C)):C:=match j with | some j=>.own j e k rows | none=>.sl k rows
def zo6 (cs:Option (List C)) (off:Nat):C:=match cs with | some cs=>.row ((C.frzL cs).drop off) | none=>.any
def zlc (j:Option Nat) (off:Nat):C:=match j with | some j=>.ptr j off | none=>.any
def zke (cs:Option (List C)) (p:Option Tmp) (σ:St) (K:St->Prop):Prop:=match cs,p with
  | some cs,some p=>K ⟨(p,.ptr σ.bx.length 0) :: σ.tm,σ.bx++[cs],σ.nx,σ.lg⟩
  | _,_=>False
def zpL (M:Option (MKd×C)) (t:TypeId) (r:Option C) (nx:Nat) (K:C->Nat->Prop):Prop:=
 match M with
 | some (kd,_)=>match r with
  | none=>K (.mo nx t kd.nil []) (nx+1)
  | some (.sc (.int _ _))=>K (.mo nx t kd.nil []) (nx+1)
  | _=>False
 | none=>False
def zpF (M:Option (MKd×C)) (t:TypeId) (m key:C) (ok:Bool) (K:C->Prop):Prop:=
 match M with
 | some (.int k,z)=>match m,key with
  | .mo _ t' (.int k' l) vs,.sc (.int q n)=>t'=t/\k'=k/\q=k/\ke (vy n l vs) z ok K
  | _,_=>False
 | some (.str,z)=>match m,key with
  | .mo _ t' (.str l) vs,.str s=>t'=t/\ke (vy s l vs) z ok K
  | _,_=>False
 | none=>False
def zpJ (M:Option (MKd×C)) (t:TypeId) (m key x:C) (σ:St) (K:C->St->Prop):Prop:=
 match M with
 | some (.int k,_)=>match m,key with
  | .mo id t' (.int k' l) vs,.sc (.int q n)=>t'=t/\k'=k/\q=k/\Gb id (.int k (UL n x.frz l vs).1) (UL n x.frz l vs).2 σ K
  | _,_=>False
 | some (.str,_)=>match m,key with
  | .mo id t' (.str l) vs,.str s=>t'=t/\Gb id (.str (UL s x.frz l vs).1) (UL s x.frz l vs).2 σ K
  | _,_=>False
 | none=>False
def zps (x:Option (List C)):C:=match x with | some cs=>.row cs | none=>.any
structure Tag.{u} {α:Sort u} (a:α):Type where
def zlk (M:Option (MKd×C)) (t:TypeId) (r:Option C) (nx:Nat) (K:C->Nat->Prop) (_:Tag K):Prop:=zpL M t r nx K
def zmH (M:Option (MKd×C)) (t:TypeId) (m key:C) (ok:Bool) (K:C->Prop) (_:Tag K):Prop:=zpF M t m key ok K
def zbw (r:Option C) (z:C) (ok:Bool) (K:C->Prop) (_:Tag K):Prop:=ke r z ok K
def zmC (M:Option (MKd×C)) (t:TypeId) (m key x:C) (σ:St) (K:C->St->Prop) (_:Tag K):Prop:=zpJ M t m key x σ K
def zeK (sz i off k n cap:Nat) (lo hi mx:Option Int) (K:C->Prop) (_:Tag K):Prop:=ziJ sz i off k n cap lo hi mx K
def VV (P:Program) (t:TypeId) (s x:C) (σ:St) (K:C->St->Prop) (_:Tag K):Prop:=Jt P t s x σ K
def vm (P:Program) (t tn:TypeId) (s x:C) (σ:St) (K:C->St->Prop) (_:Tag K):Prop:=HU P t tn s x σ K
def NX (P:Program) (t:TypeId) (d x:C) (σ:St) (K:C->St->Prop) (_:Tag K):Prop:=X2 P t d x σ K
def xE (P:Program) (t:TypeId) (x:C) (σ:St) (K:C->St->Prop) (_:Tag K):Prop:=Ud P t x σ K
def zmX (x y:C) (K:C->Prop) (_:Tag K):Prop:=zlp x y K
def zlo (P:Program) (t:TypeId) (c:C) (K:C->Prop) (_:Tag K):Prop:=zmq P t c K
def zbI (L:Option Lay) (c:C) (K:C->Prop) (_:Tag K):Prop:=zoW L c K
def zdl (P:Program) (bx:List (List C)) (s d:TypeId) (c:C) (K:C->Prop) (_:Tag K):Prop:=vF P bx s d c K
def kE (P:Program) (t:TypeId) (n:Nat) (parts:List (Nat×C)) (σ:St) (K:C->St->Prop) (_:Tag K):Prop:=Qn P t n parts σ K
def zmE (P:Program) (L:Option Lay) (n:Nat) (parts:List (Nat×C)) (σ:St) (K:C->St->Prop) (_:Tag K):Prop:=zpO P L n parts σ K
def zl4 (L:Option Lay) (n:Nat) (parts:List (Nat×C)) (σ:St) (K:C->St->Prop) (_:Tag K):Prop:=zpI L n parts σ K
def zmJ (cs:Option (List C)) (k n:Nat) (σ:St) (K:C->St->Prop) (_:Tag K):Prop:=zp3 cs k n σ K
def vD (P:Program) (p:Nat) (t:TypeId) (s x:C) (σ:St) (K:C->St->Prop) (_:Tag K):Prop:=VL P p t s x σ K
def zll (P:Program) (L:Option Lay) (p:Nat) (s x:C) (σ:St) (K:C->St->Prop) (_:Tag K):Prop:=zpV P L p s x σ K
def zlJ (L:Option Lay) (p:Nat) (s x:C) (σ:St) (K:C->St->Prop) (_:Tag K):Prop:=zpQ L p s x σ K
def zlD (X:Option (Nat×List C)) (p k by':Nat) (z:List Value) (s:C) (σ:St) (K:C->St->Prop) (_:Tag K):Prop:=zqe X p k by' z s σ K
def ziK (c:C) (X Y:Prop) (_:Tag X) (_:Tag Y):Prop:=ABr c X Y
def zhG (c:C) (U X Y:Prop) (_:Tag U) (_:Tag X) (_:Tag Y):Prop:=zie c U X Y
def JT (ops:Array Oper) (tm:List (Nat×C)) (g:Option (Nat×Bool)) (X Y:Prop) (_:Tag ops) (_:Tag X) (_:Tag Y):Prop:=qS ops tm g X Y
def zoR (d:Option Tmp) (tm:List (Nat×C)) (want:Bool) (X Y:Prop) (_:Tag X) (_:Tag Y):Prop:=aGd d tm want X Y
def ZF (P:Program) (G:zk) (h:Hd) (c:Code) (Q:Exit->St->Prop) (σ:St) (_:Tag c) (_:Tag Q):Prop:=awp P G h c Q σ
def zeH (P:Program) (G:zk) (h:Hd) (ops:Array Oper) (l:List Oper) (σ:St) (K:St->Prop) (_:Tag h) (_:Tag ops) (_:Tag l) (_:Tag K):Prop:=zmZ P G h ops l σ K
def YL (P:Program) (G:zk) (h:Hd) (ops:Array Oper) (l:List Oper) (br:List Bool) (σ:St) (K:St->Prop) (_:Tag h) (_:Tag ops) (_:Tag l) (_:Tag K):Prop:=J8 P G h ops l br σ K
def UY (P:Program) (G:zk) (h:Hd) (ops:Array Oper) (br:List Bool) (σ:St) (K:St->Prop) (_:Tag h) (_:Tag ops) (_:Tag K):Prop:=UI P G h ops br σ K
def ba2 (P:Program) (G:zk) (ops:Array Oper) (b1 b2:List (List C)) (m:Nat) (l:List Oper) (tm:List (Nat×C)) (nx:Nat) (K:List (Nat×C)->Nat->Prop) (_:Tag ops) (_:Tag l) (_:Tag K):Prop:=ZN P G ops b1 b2 (l.take m) tm nx K
def zl1 (P:Program) (G:zk) (h:Hd) (ops:Array Oper) (all:List Oper) (s:Nat) (br:List Bool) (s0:St) (m:Nat) (l:List Oper) (σ:St) (K:St->Prop) (_:Tag h) (_:Tag ops) (_:Tag all) (_:Tag l) (_:Tag K):Prop:=J8 P G h ops (l.take m) [] σ fun σ1=>zia P G h ops all s br s0 (l.drop (m+1)) (l[m]?) σ1 K
def zlf (P:Program) (G:zk) (Y:Hd) (ops:Array Oper) (rest:List (Nat×MFl)) (q:Nat) (H:List Vx) (fl:MFl) (oo:Option Oper) (σ:St) (K:St->Prop):Prop:=match oo with
 | none=>False
 | some o=>match fl with
  | .pure=>qS ops σ.tm o.guard (jR P G σ.bx (zr G σ.tm) o.op σ.nx fun c nx'=>mix P G Y ops rest (q+1) ((q,fun b=>jR P G b (zr G σ.tm) o.op σ.nx fun c' n'=>c'=c/\n'=nx') :: H) ⟨jK σ.tm o.dst c,σ.bx,nx',σ.lg⟩ K)
    (mix P G Y ops rest (q+1) H ⟨jK σ.tm o.dst (.sc undef),σ.bx,σ.nx,σ.lg⟩ K)
  | .bar=>qS ops σ.tm o.guard (Qk P G Y o.op σ fun c σ'=>mix P G Y ops rest (q+1) [] (σ'.put o.dst c) K) (mix P G Y ops rest (q+1) [] (σ.put o.dst (.sc undef)) K)
  | .flt fr=>o.guard=none/\znN P G o.op σ fun c bx' nx'=>Ya fr bx' H/\mix P G Y ops rest (q+1) H ⟨jK σ.tm o.dst c,bx',nx',σ.lg⟩ K
def Un (P:Program) (G:zk) (h:Hd) (ops:Array Oper) (all:List Oper) (L:List (Nat×MFl)) (q:Nat) (H:List Vx) (σ:St) (K:St->Prop) (_:Tag h) (_:Tag ops) (_:Tag all) (_:Tag H) (_:Tag K):Prop:=mix P G h ops L q H σ K
def Hq (P:Program) (G:zk) (h:Hd) (ops:Array Oper) (all:List Oper) (L:List (Nat×MFl)) (q:Nat) (H:List Vx) (fl:MFl) (i:Nat) (l:List Oper) (σ:St) (K:St->Prop) (_:Tag h) (_:Tag ops) (_:Tag all) (_:Tag H) (_:Tag l) (_:Tag K):Prop:=zlf P G h ops L q H fl (l[i]?) σ K
def zi0 (fr:List Nat) (b:List (List C)) (H:List Vx) (_:Tag H):Prop:=Ya fr b H
def zci (P:Program) (G:zk) (f:C) (args:List C) (σ:St) (K:C->List (List C)->Nat->Prop) (_:Tag K):Prop:=vJ P G f args σ K
def zpv (P:Program) (G:zk) (f:FuncId) (args:List C) (σ:St) (K:C->List (List C)->Nat->Prop) (_:Tag K):Prop:=zh0 P G f args σ K
def YQ (P:Program) (G:zk) (ops:Array Oper) (a s:Nat) (l:List Oper) (i:Nat) (cs:Option (List C)) (σ:St) (K:St->Prop) (_:Tag ops) (_:Tag l) (_:Tag K):Prop:=jp P G ops a s l i cs σ K
def zim (cs:Option (List C)) (p:Option Tmp) (σ:St) (K:St->Prop) (_:Tag K):Prop:=zke cs p σ K
def zh2 (L:Option Lay) (K:Prop) (_:Tag K):Prop:=zhz L K
def zh8 (L:Option Lay) (c:C) (K:C->Prop) (_:Tag K):Prop:=zfm L c K
def jq (P:Program) (G:zk) (h:Hd) (op:Op) (σ:St) (K:C->St->Prop) (_:Tag h) (_:Tag op) (_:Tag K):Prop:=Qk P G h op σ K
def X8 (P:Program) (G:zk) (f:FuncId) (args fargs:List C) (σ:St) (K:C->St->Prop) (_:Tag K):Prop:=znm P G f args fargs σ K
def xA (P:Program) (G:zk) (h:Hd) (c:C) (args:List C) (σ:St) (K:C->St->Prop) (_:Tag h) (_:Tag K):Prop:=Gq P G h c args σ K
def yq (y:Yd) (it:Option (List C)) (args:List C) (σ:St) (K:C->St->Prop) (_:Tag y) (_:Tag K):Prop:=kW y it args σ K
def zeS (P:Program) (G:zk) (p:Nat) (A B:Nat->(Exit->St->Prop)->St->Prop) (Q:Exit->St->Prop) (ps:List Tmp) (c:C) (σ:St) (_:Tag A) (_:Tag B) (_:Tag Q):Prop:=y0 P G p A B Q ps c σ
def qX (P:Program) (G:zk) (bx:List (List C)) (ev:Operand->C) (op:Op) (nx:Nat) (K:C->Nat->Prop) (_:Tag ev) (_:Tag op) (_:Tag K):Prop:=jR P G bx ev op nx K
def zaS (P:Program) (σ:St) (rs:List ResultVar) (K:C->Prop) (_:Tag K):Prop:=zla P σ rs K
def Yj (P:Program) (σ:St) (rv:ResultVar) (K:C->Prop) (_:Tag K):Prop:=JB P σ rv K
def xY (P:Program) (t:TypeId) (op:BinOp) (x y:C) (K:C->Prop) (_:Tag K):Prop:=zk7 P t op x y K
def UU (op:BinOp) (k:IntKind) (a b:Int) (K:C->Prop) (_:Tag K):Prop:=znY op k a b K
def yr (l:Option Lay) (op:BinOp) (x:C) (K:C->Prop) (_:Tag K):Prop:=zj6 l op x K
def zdC (op:BinOp) (b:Bool) (K:C->Prop) (_:Tag K):Prop:=HL op b K
def zca (op:BinOp) (a b:List UInt8) (K:C->Prop) (_:Tag K):Prop:=zo0 op a b K
def zme (op:BinOp) (ks:Option (List LK)) (xs ys:List C) (K:C->Prop) (_:Tag K):Prop:=zoa op ks xs ys K
def zk8 (n:Bool) (ks:List LK) (xs ys:List C) (e:Bool) (K:C->Prop) (_:Tag K):Prop:=aEq n ks xs ys e K
def zoo (op:UnOp) (x:C) (K:C->Prop) (_:Tag K):Prop:=aUn op x K
def yR (P:Program) (t:TypeId) (c:C) (bx:List (List C)) (K:C->Prop) (_:Tag K):Prop:=Mh P t c bx K
def x5 (L:Option Lay) (c:C) (bx:List (List C)) (K:C->Prop) (_:Tag K):Prop:=zni L c bx K
def zdF (cs:Option (List C)) (off:Nat) (L:Lay) (K:C->Prop) (_:Tag K):Prop:=zmI cs off L K
def ZP (L:Lay) (cs:List C) (K:C->Prop) (_:Tag K):Prop:=JV L cs K
def zjA (x:Option C) (K:C->Prop) (_:Tag K):Prop:=zpi x K
def Vq (c:C) (i:Nat) (K:C->Prop) (_:Tag K):Prop:=Vd c i K
def zjy (c:C) (K:C->Prop) (_:Tag K):Prop:=znW c K
def xU (P:Program) (t:TypeId) (c:C) (f:Nat) (K:C->Prop) (_:Tag K):Prop:=yk P t c f K
def y4 (L:Option Lay) (c:C) (f:Nat) (K:C->Prop) (_:Tag K):Prop:=ye L c f K
def yQ (f:Option (Nat×Nat×Bool)) (cs:List C) (K:C->Prop) (_:Tag K):Prop:=Ui f cs K
def Qa (P:Program) (t:TypeId) (c:C) (f:Nat) (K:C->Prop) (_:Tag K):Prop:=XQ P t c f K
def zmv (L:Option Lay) (c:C) (f:Nat) (K:C->Prop) (_:Tag K):Prop:=zpE L c f K
def zjm (f:Option (Nat×Nat×Bool)) (c:C) (K:C->Prop) (_:Tag K):Prop:=zln f c K
def Qf (P:Program) (t:TypeId) (c:C) (i:C) (K:C->Prop) (_:Tag K):Prop:=XC P t c i K
def ziL (P:Program) (L:Option Lay) (c:C) (i:C) (K:C->Prop) (_:Tag K):Prop:=zpZ P L c i K
def zgq (L:Option Lay) (c:C) (n:Int) (K:C->Prop) (_:Tag K):Prop:=zp1 L c n K
def zjp (rows:Option (List (List C))) (n:Int) (K:C->Prop) (_:Tag K):Prop:=zpA rows n K
def zpq (r:Option (List C)) (n:Int) (K:C->Prop) (_:Tag K):Prop:=aAt r n K
def zlL (L:Option Lay) (c:C) (m:Nat) (n:Int) (K:C->Prop) (_:Tag K):Prop:=zpN L c m n K
def xK (P:Program) (t:TypeId) (c i:C) (K:C->Prop) (_:Tag K):Prop:=vN P t c i K
def zmi (L:Option Lay) (c i:C) (K:C->Prop) (_:Tag K):Prop:=zn1 L c i K
def zh7 (b:Option UInt8) (n:Int) (K:C->Prop) (_:Tag K):Prop:=zkS b n K
def xH (P:Program) (t:TypeId) (c:C) (lo hi mx:Option C) (K:C->Prop) (_:Tag K):Prop:=vv P t c lo hi mx K
def zmg (P:Program) (t:TypeId) (c:C) (lo hi mx:Option (Option Int)) (K:C->Prop) (_:Tag K):Prop:=zpC P t c lo hi mx K
def zky (P:Program) (L:Option Lay) (c:C) (lo hi mx:Option Int) (K:C->Prop) (_:Tag K):Prop:=zpp P L c lo hi mx K
def zc2 (L:Option Lay) (c:C) (lo hi mx:Option Int) (K:C->Prop) (_:Tag K):Prop:=zp2 L c lo hi mx K
def znp (k:Nat) (lo hi mx:Option Int) (K:C->Prop) (_:Tag K):Prop:=zl2 k lo hi mx K
def zgQ (rows:Option (List (List C))) (k:Nat) (lo hi mx:Option Int) (K:C->Prop) (_:Tag K):Prop:=zpT rows k lo hi mx K
def zij (P:Program) (s d:TypeId) (c:C) (K:C->Prop) (_:Tag K):Prop:=zga P s d c K
def zkO (P:Program) (D S:Option Lay) (c:C) (K:C->Prop) (_:Tag K):Prop:=zp0 P D S c K
def xJ (P:Program) (t:TypeId) (c:C) (K:C->Prop) (_:Tag K):Prop:=zlj P t c K
def GK (L:Option Lay) (n:Int) (K:C->Prop) (_:Tag K):Prop:=zoE L n K
def zh3 (L:Option Lay) (n:Int) (K:C->Prop) (_:Tag K):Prop:=zoF L n K
def MN (P:Program) (t:TypeId) (parts:List (Nat×C)) (K:C->Prop) (_:Tag K):Prop:=vH P t parts K
def zmU (L:Option Lay) (parts:List (Nat×C)) (K:C->Prop) (_:Tag K):Prop:=zpk L parts K
def zpw (cs:Option (List C)) (K:C->Prop) (_:Tag K):Prop:=aFl cs K
def Xi (P:Program) (t:TypeId) (n:Nat) (parts:List (Nat×C)) (nx:Nat) (K:C->Nat->Prop) (_:Tag K):Prop:=JW P t n parts nx K
def Ht (P:Program) (t:TypeId) (n:Nat) (parts:List (Nat×C)) (nx:Nat) (K:C->Nat->Prop) (_:Tag K):Prop:=kZ P t n parts nx K
def znV (P:Program) (L:Option Lay) (nx:Nat) (K:C->Nat->Prop) (_:Tag K):Prop:=match L with
 | some ⟨.slice e,_,_,_⟩=>match lay P e with
  | some ⟨_,k,_,some z⟩=>z.length=k/\0<k/\K (.tight k []) nx
  | _=>False
 | _=>False
def zlV (L:Option Lay) (nx:Nat) (K:C->Nat->Prop) (_:Tag K):Prop:=match L with
  | some ⟨_,k,_,some z⟩=>z.length=k/\0<k/\K (.tight k []) nx
  | _=>False
def zm9 (P:Program) (L:Option Lay) (n:Nat) (parts:List (Nat×C)) (nx:Nat) (K:C->Nat->Prop) (_:Tag K):Prop:=zp8 P L n parts nx K
def zmG (L:Option Lay) (e:TypeId) (n:Nat) (parts:List (Nat×C)) (nx:Nat) (K:C->Nat->Prop) (_:Tag K):Prop:=zpM L e n parts nx K
def zlz (cs:Option (List C)) (e k n nx:Nat) (K:C->Nat->Prop) (_:Tag K):Prop:=zqh cs e k n nx K
def ziy (P:Program) (t:TypeId) (l c:C) (nx:Nat) (K:C->Nat->Prop) (_:Tag K):Prop:=zcj P t l c nx K
def GJ (P:Program) (t:TypeId) (l c:C) (σ:St) (K:C->St->Prop) (_:Tag K):Prop:=Vh P t l c σ K
def zh1 (P:Program) (L:Option Lay) (l c:C) (σ:St) (K:C->St->Prop) (_:Tag K):Prop:=zoP P L l c σ K
def ziw (L:Option Lay) (l c:Int) (σ:St) (K:C->St->Prop) (_:Tag K):Prop:=zo3 L l c σ K
def zlE (P:Program) (L:Option Lay) (l c:C) (nx:Nat) (K:C->Nat->Prop) (_:Tag K):Prop:=zqd P L l c nx K
def zno (L:Option Lay) (e:TypeId) (l c:Int) (nx:Nat) (K:C->Nat->Prop) (_:Tag K):Prop:=zpG L e l c nx K
def vK (P:Program) (t:TypeId) (s x:C) (σ:St) (K:C->St->Prop) (_:Tag K):Prop:=HQ P t s x σ K
def vx (P:Program) (t:TypeId) (s x:C) (nx:Nat) (K:C->Nat->Prop) (_:Tag K):Prop:=Za P t s x nx K
def zlq (P:Program) (L:Option Lay) (s x:C) (nx:Nat) (K:C->Nat->Prop) (_:Tag K):Prop:=zqg P L s x nx K
def zmB (L:Option Lay) (e:TypeId) (s x:C) (nx:Nat) (K:C->Nat->Prop) (_:Tag K):Prop:=zpY L e s x nx K
def znC (xs:Option (List (List C))) (s:C) (e k by':Nat) (z:List Value) (nx:Nat) (K:C->Nat->Prop) (_:Tag K):Prop:=zpH xs s e k by' z nx K
def zlF (P:Program) (L:Option Lay) (id e k:Nat) (rows:List (List C)) (x:C) (σ:St) (K:C->St->Prop) (_:Tag K):Prop:=zqk P L id e k rows x σ K
def zms (L:Option Lay) (e' id e k:Nat) (rows:List (List C)) (x:C) (σ:St) (K:C->St->Prop) (_:Tag K):Prop:=zpg L e' id e k rows x σ K
def zlX (xs:Option (List (List C))) (by' id e k:Nat) (rows:List (List C)) (σ:St) (K:C->St->Prop) (_:Tag K):Prop:=zor xs by' id e k rows σ K
def zee (P:Program) (G:zk) (callee:C) (args:List C) (nx:Nat) (K:C->Nat->Prop) (_:Tag K):Prop:=Gx P G callee args nx K
def Mt (P:Program) (G:zk) (f:FuncId) (args:List C) (nx:Nat) (K:C->Nat->Prop) (_:Tag K):Prop:=vd P G f args nx K
def znS (c:C) (σ:St) (K:C->St->Prop) (_:Tag K):Prop:=zoh c σ K
def znf (L:Option Lay) (σ:St) (K:C->St->Prop) (_:Tag K):Prop:=zqb L σ K
def zly (L:Option Lay) (p c:C) (σ:St) (K:C->St->Prop) (_:Tag K):Prop:=zqc L p c σ K
def zmr (cs:Option (List C)) (i off size:Nat) (c:C) (σ:St) (K:C->St->Prop) (_:Tag K):Prop:=zpz cs i off size c σ K
def ziq (p:Nat) (B:(Exit->St->Prop)->St->Prop) (Q:Exit->St->Prop) (σ:St) (_:Tag B) (_:Tag Q):Prop:=zgT p B Q σ
def va (next:St->Prop) (Q:Exit->St->Prop) (_:Tag next) (_:Tag Q):Exit->St->Prop:=zlw next Q
def Uo (id:Nat) (Q:Exit->St->Prop) (_:Tag Q):Exit->St->Prop:=Nu id Q
def Hw (Q:Exit->St->Prop) (_:Tag Q):Exit->St->Prop:=zdK Q
def vi (next:St->Prop) (Q:Exit->St->Prop) (_:Tag next) (_:Tag Q):Exit->St->Prop:=zka next Q
def ziv (K:St->Prop) (_:Tag K):Exit->St->Prop:=ziC K
def x6 (m:Nat) (tm:List (Nat×C)) (st:Bool) (next:St) (Q:Exit->St->Prop) (_:Tag next) (_:Tag Q):Exit->St->Prop:=zbj m tm st next Q
def xO (P:Program) (rs:List ResultVar) (K:C->St->Prop) (_:Tag K):Exit->St->Prop:=zic P rs K
theorem zlh:ZF P G h .skip Q σ ⟨⟩ ⟨⟩=Q .normal σ:=(rfl)
theorem zkv {l:Nat}:ZF P G h (.label l) Q σ ⟨⟩ ⟨⟩=Q .normal σ:=(rfl)
theorem znK {id:Nat}:ZF P G h (.exit id) Q σ ⟨⟩ ⟨⟩=Q (.exit id) σ:=(rfl)
theorem zos:ZF P G h .ret Q σ ⟨⟩ ⟨⟩=Q .ret σ:=(rfl)
theorem zoY {a b:Code}:ZF P G h (.seq a b) Q σ ⟨⟩ ⟨⟩=ZF P G h a (va (fun σ=>ZF P G h b Q σ ⟨⟩ ⟨⟩) Q ⟨⟩ ⟨⟩) σ ⟨⟩ ⟨⟩:=(rfl)
theorem zmu {cc:Operand} {a b:Code}:ZF P G h (.cond cc a b) Q ⟨tm,bx,nx,lg⟩ ⟨⟩ ⟨⟩=ziK (zr G tm cc) (ZF P G h a Q ⟨tm,bx,nx,lg⟩ ⟨⟩ ⟨⟩) (ZF P G h b Q ⟨tm,bx,nx,lg⟩ ⟨⟩ ⟨⟩) ⟨⟩ ⟨⟩:=(rfl)
theorem zk1 {id:Nat} {a:Code}:ZF P G h (.block id a) Q σ ⟨⟩ ⟨⟩=ZF P G h a (Uo id Q ⟨⟩) σ ⟨⟩ ⟨⟩:=(rfl)
theorem zmY {a:Code}:ZF P G ⟨p,yd,bf⟩ (.loop a) Q σ ⟨⟩ ⟨⟩=ziq p (fun Q σ=>ZF P G ⟨p,yd,bf⟩ a Q σ ⟨⟩ ⟨⟩) Q σ ⟨⟩ ⟨⟩:=(rfl)
theorem zfe {a b:Code} {x:Operand} {ps:List Tmp}:ZF P G ⟨p,yd,bf⟩ (.rangeFunc x ps.toArray a b) Q ⟨tm,bx,nx,lg⟩ ⟨⟩ ⟨⟩=zeS P G p (fun m=>fun Q σ=>ZF P G ⟨m,yd,bf⟩ a Q σ ⟨⟩ ⟨⟩) (fun m=>fun Q σ=>ZF P G ⟨m,yd,bf⟩ b Q σ ⟨⟩ ⟨⟩) Q ps (zr G tm x) ⟨tm,bx,nx,lg⟩ ⟨⟩ ⟨⟩ ⟨⟩:=(rfl)
theorem zjZ {a:Code}:ZF P G h (.scope a) Q σ ⟨⟩ ⟨⟩=ZF P G h a (Hw Q ⟨⟩) σ ⟨⟩ ⟨⟩:=(rfl)
theorem zgZ {id:Nat} {l:List Oper}:ZF P G ⟨p,yd,bf⟩ (.region id l.toArray false) Q σ ⟨⟩ ⟨⟩=zeH P G ⟨p,yd,bf⟩ l.toArray l σ (Q .normal) ⟨⟩ ⟨⟩ ⟨⟩ ⟨⟩:=(rfl)
theorem zdi {id:Nat} {l:List Oper}:ZF P G ⟨p,yd,bf⟩ (.region id l.toArray true) Q σ ⟨⟩ ⟨⟩=UY P G ⟨p,yd,bf⟩ l.toArray (bf id) σ (Q .normal) ⟨⟩ ⟨⟩ ⟨⟩:=(rfl)
theorem zhr {KS:St->Prop} {l:List Oper}:UY P G h l.toArray [] σ KS ⟨⟩ ⟨⟩ ⟨⟩=YL P G h l.toArray l [] σ KS ⟨⟩ ⟨⟩ ⟨⟩ ⟨⟩:=(rfl)
theorem zhV {KS:St->Prop} {l:List Oper} {r:List Bool}:UY P G h l.toArray (false :: r) σ KS ⟨⟩ ⟨⟩ ⟨⟩=YL P G h l.toArray l (false :: r) σ KS ⟨⟩ ⟨⟩ ⟨⟩ ⟨⟩:=(rfl)
theorem zgr {KS:St->Prop} {l:List Oper} {s:Nat} {br:List Bool} (hs:(s==199)=false):UY P G h l.toArray (Y9 s br) σ KS ⟨⟩ ⟨⟩ ⟨⟩=zl1 P G h l.toArray l s br σ s l σ KS ⟨⟩ ⟨⟩ ⟨⟩ ⟨⟩ ⟨⟩:=(show UI P G h l.toArray (Y9 s br) σ KS=vj P G h l.toArray s br σ KS from by
 unfold UI
 rw[show V2 (Y9 s br)=none from rfl,XY]
 simp only[hs])
theorem zft {KS:St->Prop} {l:List Oper} {L:List (Nat×MFl)}:UY P G h l.toArray (Qj L) σ KS ⟨⟩ ⟨⟩ ⟨⟩=Un P G h l.toArray l L 0 [] σ KS ⟨⟩ ⟨⟩ ⟨⟩ ⟨⟩ ⟨⟩:=(show UI P G h l.toArray (Qj L) σ KS=mix P G h l.toArray L 0 [] σ KS from by
 unfold UI Qj
 rw[show V2 (Y9 199 (unR (zbb L)))=none from rfl,XY]
 simp only[zax]
 rfl)
theorem znc {KS:St->Prop} {all:List Oper} {q:Nat} {H:List Vx}:Un P G h ops all [] q H σ KS ⟨⟩ ⟨⟩ ⟨⟩ ⟨⟩ ⟨⟩=KS σ:=(rfl)
theorem zml {KS:St->Prop} {all:List Oper} {i q:Nat} {fl:MFl} {L:List (Nat×MFl)} {H:List Vx}:Un P G h all.toArray all ((i,fl) :: L) q H σ KS ⟨⟩ ⟨⟩ ⟨⟩ ⟨⟩ ⟨⟩=Hq P G h all.toArray all L q H fl i all σ KS ⟨⟩ ⟨⟩ ⟨⟩ ⟨⟩ ⟨⟩ ⟨⟩:=(show mix P G h all.toArray ((i,fl) :: L) q H σ KS=zlf P G h all.toArray L q H fl (all[i]?) σ KS from rfl)
theorem znl {KS:St->Prop} {o:Oper} {all l:List Oper} {i q:Nat} {fl:MFl} {L:List (Nat×MFl)} {H:List Vx}:Hq P G h ops all L q H fl (i+1) (o :: l) σ KS ⟨⟩ ⟨⟩ ⟨⟩ ⟨⟩ ⟨⟩ ⟨⟩=Hq P G h ops all L q H fl i l σ KS ⟨⟩ ⟨⟩ ⟨⟩ ⟨⟩ ⟨⟩ ⟨⟩:=(show zlf P G h ops L q H fl ((o :: l)[i+1]?) σ KS=zlf P G h ops L q H fl (l[i]?) σ KS from rfl)
theorem zma {KS:St->Prop} {all rest:List Oper} {q:Nat} {L:List (Nat×MFl)} {H:List Vx} {dst:Option Tmp} {op:Op} {ty:TypeId} {pos:String} {af:Array Edge} {g:Option (Nat×Bool)}:Hq P G h ops all L q H .pure 0 (⟨dst,op,ty,pos,af,g⟩ :: rest) ⟨tm,bx,nx,lg⟩ KS ⟨⟩ ⟨⟩ ⟨⟩ ⟨⟩ ⟨⟩ ⟨⟩ =
  JT ops tm g (qX P G bx (zr G tm) op nx (fun c nx'=>Un P G h ops all L (q+1) ((q,fun b=>qX P G b (zr G tm) op nx (fun c' n'=>c'=c/\n'=nx') ⟨⟩ ⟨⟩ ⟨⟩) :: H) ⟨jK tm dst c,bx,nx',lg⟩ KS ⟨⟩ ⟨⟩ ⟨⟩ ⟨⟩ ⟨⟩) ⟨⟩ ⟨⟩ ⟨⟩) (Un P G h ops all L (q+1) H ⟨jK tm dst (.sc undef),bx,nx,lg⟩ KS ⟨⟩ ⟨⟩ ⟨⟩ ⟨⟩ ⟨⟩) ⟨⟩ ⟨⟩ ⟨⟩:=
 (show zlf P G h ops L q H .pure (some ⟨dst,op,ty,pos,af,g⟩) ⟨tm,bx,nx,lg⟩ KS=_ from rfl)
theorem zns {KS:St->Prop} {all rest:List Oper} {q:Nat} {L:List (Nat×MFl)} {H:List Vx} {dst:Option Tmp} {op:Op} {ty:TypeId} {pos:String} {af:Array Edge} {g:Option (Nat×Bool)}:Hq P G h ops all L q H .bar 0 (⟨dst,op,ty,pos,af,g⟩ :: rest) ⟨tm,bx,nx,lg⟩ KS ⟨⟩ ⟨⟩ ⟨⟩ ⟨⟩ ⟨⟩ ⟨⟩ =
  JT ops tm g (jq P G h op ⟨tm,bx,nx,lg⟩ (fun c σ'=>Un P G h ops all L (q+1) [] (σ'.put dst c) KS ⟨⟩ ⟨⟩ ⟨⟩ ⟨⟩ ⟨⟩) ⟨⟩ ⟨⟩ ⟨⟩) (Un P G h ops all L (q+1) [] ((St.mk tm bx nx lg).put dst (.sc undef)) KS ⟨⟩ ⟨⟩ ⟨⟩ ⟨⟩ ⟨⟩) ⟨⟩ ⟨⟩ ⟨⟩:=
 (show zlf P G h ops L q H .bar (some ⟨dst,op,ty,pos,af,g⟩) ⟨tm,bx,nx,lg⟩ KS=_ from rfl)
theorem zjw {KS:St->Prop} {all rest:List Oper} {q:Nat} {L:List (Nat×MFl)} {H:List Vx} {fr:List Nat} {dst:Option Tmp} {ty:TypeId} {pos:String} {af:Array Edge}:Hq P G h ops all L q H (.flt fr) 0 (⟨dst,.store t x y,ty,pos,af,none⟩ :: rest) ⟨tm,bx,nx,lg⟩ KS ⟨⟩ ⟨⟩ ⟨⟩ ⟨⟩ ⟨⟩ ⟨⟩ =
  jq P G h (.store t x y) ⟨tm,bx,nx,lg⟩ (fun c σ'=>zi0 fr σ'.bx H ⟨⟩/\Un P G h ops all L (q+1) H ⟨jK tm dst c,σ'.bx,σ'.nx,lg⟩ KS ⟨⟩ ⟨⟩ ⟨⟩ ⟨⟩ ⟨⟩) ⟨⟩ ⟨⟩ ⟨⟩:=
 (show ((none:Option (Nat×Bool))=none/\Jb P t (zr G tm x) (zr G tm y) ⟨tm,bx,nx,lg⟩ fun c σ'=>Ya fr σ'.bx H/\mix P G h ops L (q+1) H ⟨jK tm dst c,σ'.bx,σ'.nx,lg⟩ KS)=_ from propext ⟨fun h=>h.2,fun h=>⟨rfl,h⟩⟩)
theorem zkd {KS:St->Prop} {all rest:List Oper} {q:Nat} {L:List (Nat×MFl)} {H:List Vx} {fr:List Nat} {dst:Option Tmp} {ty:TypeId} {pos:String} {af:Array Edge}:Hq P G h ops all L q H (.flt fr) 0 (⟨dst,.call ⟨.builtin .copy,#[x,y],#[t,t']⟩,ty,pos,af,none⟩ :: rest) ⟨tm,bx,nx,lg⟩ KS ⟨⟩ ⟨⟩ ⟨⟩ ⟨⟩ ⟨⟩ ⟨⟩ =
  NX P t (zr G tm x) (zr G tm y) ⟨tm,bx,nx,lg⟩ (fun c σ'=>zi0 fr σ'.bx H ⟨⟩/\Un P G h ops all L (q+1) H ⟨jK tm dst c,σ'.bx,σ'.nx,lg⟩ KS ⟨⟩ ⟨⟩ ⟨⟩ ⟨⟩ ⟨⟩) ⟨⟩:=
 (show ((none:Option (Nat×Bool))=none/\X2 P t (zr G tm x) (zr G tm y) ⟨tm,bx,nx,lg⟩ fun c σ'=>Ya fr σ'.bx H/\mix P G h ops L (q+1) H ⟨jK tm dst c,σ'.bx,σ'.nx,lg⟩ KS)=_ from propext ⟨fun h=>h.2,fun h=>⟨rfl,h⟩⟩)
theorem zjE {KS:St->Prop} {all rest:List Oper} {q:Nat} {L:List (Nat×MFl)} {H:List Vx} {fr:List Nat} {dst:Option Tmp} {ty:TypeId} {pos:String} {af:Array Edge}:Hq P G h ops all L q H (.flt fr) 0 (⟨dst,.call ⟨.builtin .append,#[x,y],#[t,t]⟩,ty,pos,af,none⟩ :: rest) ⟨tm,bx,nx,lg⟩ KS ⟨⟩ ⟨⟩ ⟨⟩ ⟨⟩ ⟨⟩ ⟨⟩ =
  VV P t (zr G tm x) (zr G tm y) ⟨tm,bx,nx,lg⟩ (fun c σ'=>zi0 fr σ'.bx H ⟨⟩/\Un P G h ops all L (q+1) H ⟨jK tm dst c,σ'.bx,σ'.nx,lg⟩ KS ⟨⟩ ⟨⟩ ⟨⟩ ⟨⟩ ⟨⟩) ⟨⟩:=
 (show ((none:Option (Nat×Bool))=none/\t=t/\Jt P t (zr G tm x) (zr G tm y) ⟨tm,bx,nx,lg⟩ fun c σ'=>Ya fr σ'.bx H/\mix P G h ops L (q+1) H ⟨jK tm dst c,σ'.bx,σ'.nx,lg⟩ KS)=_ from propext ⟨fun h=>h.2.2,fun h=>⟨rfl,rfl,h⟩⟩)
theorem zmV {KS:St->Prop} {all rest:List Oper} {q:Nat} {L:List (Nat×MFl)} {H:List Vx} {fr:List Nat} {dst:Option Tmp} {ty:TypeId} {pos:String} {af:Array Edge} {us:List Operand} {tys:Array TypeId}:Hq P G h ops all L q H (.flt fr) 0 (⟨dst,.call ⟨.value x,us.toArray,tys⟩,ty,pos,af,none⟩ :: rest) ⟨tm,bx,nx,lg⟩ KS ⟨⟩ ⟨⟩ ⟨⟩ ⟨⟩ ⟨⟩ ⟨⟩ =
  zci P G (zr G tm x) (us.map (zr G tm)) ⟨tm,bx,nx,lg⟩ (fun c b' n'=>zi0 fr b' H ⟨⟩/\Un P G h ops all L (q+1) H ⟨jK tm dst c,b',n',lg⟩ KS ⟨⟩ ⟨⟩ ⟨⟩ ⟨⟩ ⟨⟩) ⟨⟩:=
 (show ((none:Option (Nat×Bool))=none/\vJ P G (zr G tm x) (us.map (zr G tm)) ⟨tm,bx,nx,lg⟩ fun c b' n'=>Ya fr b' H/\mix P G h ops L (q+1) H ⟨jK tm dst c,b',n',lg⟩ KS)=_ from propext ⟨fun h=>h.2,fun h=>⟨rfl,h⟩⟩)
theorem ziA {K4:C->List (List C)->Nat->Prop} {f:FuncId} {fs cs args:List C}:zci P G (.clo (.func f) fs cs) args ⟨tm,bx,nx,lg⟩ K4 ⟨⟩=zpv P G f (fs++args++cs) ⟨tm,bx,nx,lg⟩ K4 ⟨⟩:=(rfl)
theorem zkg {p:Prop} [Decidable p]:(if p then True else True)=True:=ite_self _
theorem znF {fr:List Nat} {b:List (List C)}:zi0 fr b [] ⟨⟩=True:=(rfl)
theorem znv {fr:List Nat} {b:List (List C)} {k:Nat} {f:List (List C)->Prop} {r:List Vx}:zi0 fr b ((k,f) :: r) ⟨⟩=((if k∈fr then f b else True)/\zi0 fr b r ⟨⟩):=(show ((match fr.contains k with | true=>f b | false=>True)/\Ya fr b r)=((if k∈fr then f b else True)/\Ya fr b r) from by
 cases hq:fr.contains k with
 | true=>rw[if_pos (by simpa using hq)]
 | false=>rw[if_neg fun h=>by simp[h]at hq])
theorem zpj {KS:St->Prop} {all:List Oper} {s m:Nat} {br:List Bool} {s0:St} {dst:Option Tmp} {op:Op} {ty:TypeId} {pos:String} {af:Array Edge} {g:Option (Nat×Bool)} {rest:List Oper}:zl1 P G h ops all s br s0 (m+1) (⟨dst,op,ty,pos,af,g⟩ :: rest) ⟨tm,bx,nx,lg⟩ KS ⟨⟩ ⟨⟩ ⟨⟩ ⟨⟩ ⟨⟩=JT ops tm g (qX P G bx (zr G tm) op nx (fun c nx'=>zl1 P G h ops all s br s0 m rest ⟨jK tm dst c,bx,nx',lg⟩ KS ⟨⟩ ⟨⟩ ⟨⟩ ⟨⟩ ⟨⟩) ⟨⟩ ⟨⟩ ⟨⟩) (zl1 P G h ops all s br s0 m rest ⟨jK tm dst (.sc undef),bx,nx,lg⟩ KS ⟨⟩ ⟨⟩ ⟨⟩ ⟨⟩ ⟨⟩) ⟨⟩ ⟨⟩ ⟨⟩:=
 (show (J8 P G h ops (⟨dst,op,ty,pos,af,g⟩ :: rest.take m) [] ⟨tm,bx,nx,lg⟩ fun σ1=>zia P G h ops all s br s0 (rest.drop (m+1)) (rest[m]?) σ1 KS)=qS ops tm g (jR P G bx (zr G tm) op nx fun c nx'=>J8 P G h ops (rest.take m) [] ⟨jK tm dst c,bx,nx',lg⟩ fun σ1=>zia P G h ops all s br s0 (rest.drop (m+1)) (rest[m]?) σ1 KS) (J8 P G h ops (rest.take m) [] ⟨jK tm dst (.sc undef),bx,nx,lg⟩ fun σ1=>zia P G h ops all s br s0 (rest.drop (m+1)) (rest[m]?) σ1 KS) from rfl)
theorem zpd {KS:St->Prop} {all rest:List Oper} {s nx0 lg0:Nat} {br:List Bool} {tm0:List (Nat×C)} {bx0:List (List C)} {ty:TypeId} {pos:String} {af:Array Edge}:zl1 P G h ops all s br ⟨tm0,bx0,nx0,lg0⟩ 0 (⟨none,.store t x y,ty,pos,af,none⟩ :: rest) ⟨tm,bx,nx,lg⟩ KS ⟨⟩ ⟨⟩ ⟨⟩ ⟨⟩ ⟨⟩ =
  jq P G h (.store t x y) ⟨tm,bx,nx,lg⟩ (fun _ σ2=>ba2 P G ops bx0 σ2.bx s all tm0 nx0 (fun tm' nx'=>tm'=tm/\nx'=nx) ⟨⟩ ⟨⟩ ⟨⟩/\YL P G h ops rest br σ2 KS ⟨⟩ ⟨⟩ ⟨⟩ ⟨⟩) ⟨⟩ ⟨⟩ ⟨⟩:=
 (show zia P G h ops all s br ⟨tm0,bx0,nx0,lg0⟩ rest (some ⟨none,.store t x y,ty,pos,af,none⟩) ⟨tm,bx,nx,lg⟩ KS=_ from rfl)
theorem zp9 {K20:List (Nat×C)->Nat->Prop} {b1 b2:List (List C)} {l:List Oper}:ba2 P G ops b1 b2 0 l tm nx K20 ⟨⟩ ⟨⟩ ⟨⟩=K20 tm nx:=(rfl)
theorem zpU {K20:List (Nat×C)->Nat->Prop} {b1 b2:List (List C)} {m:Nat} {dst:Option Tmp} {op:Op} {ty:TypeId} {pos:String} {af:Array Edge} {g:Option (Nat×Bool)} {rest:List Oper}:ba2 P G ops b1 b2 (m+1) (⟨dst,op,ty,pos,af,g⟩ :: rest) tm nx K20 ⟨⟩ ⟨⟩ ⟨⟩=JT ops tm g (qX P G b1 (zr G tm) op nx (fun c nx'=>qX P G b2 (zr G tm) op nx (fun c' nx''=>c'=c/\nx''=nx') ⟨⟩ ⟨⟩ ⟨⟩/\ba2 P G ops b1 b2 m rest (jK tm dst c) nx' K20 ⟨⟩ ⟨⟩ ⟨⟩) ⟨⟩ ⟨⟩ ⟨⟩) (ba2 P G ops b1 b2 m rest (jK tm dst (.sc undef)) nx K20 ⟨⟩ ⟨⟩ ⟨⟩) ⟨⟩ ⟨⟩ ⟨⟩:=
 (show ZN P G ops b1 b2 (⟨dst,op,ty,pos,af,g⟩ :: rest.take m) tm nx K20=_ from rfl)
theorem zgp {KS:St->Prop} {l:List Oper} {a s:Nat} (h0:(s==0)=false):UY P G h l.toArray (zbx a s) σ KS ⟨⟩ ⟨⟩ ⟨⟩=YQ P G l.toArray a s l 0 none σ KS ⟨⟩ ⟨⟩ ⟨⟩:=(show UI P G h l.toArray (zbx a s) σ KS=jp P G l.toArray a s l 0 none σ KS from by unfold UI;rw[Gu];simp only[h0])
theorem zc3 {KS:St->Prop} {a s i:Nat} {cs:Option (List C)} {l:List Oper}:YQ P G l.toArray a s [] i cs σ KS ⟨⟩ ⟨⟩ ⟨⟩=zim cs ((l[a]?).bind (·.dst)) σ KS ⟨⟩:=(show jp P G l.toArray a s [] i cs σ KS=zke cs ((l[a]?).bind (·.dst)) σ KS from by simp only[jp,zke,List.getElem?_toArray];rfl)
theorem zdv {KS:St->Prop} {a s:Nat} {cs:Option (List C)} {dst:Option Tmp} {ty:TypeId} {pos:String} {af:Array Edge} {g:Option (Nat×Bool)} {rest:List Oper}:YQ P G ops a s (⟨dst,.alloc t,ty,pos,af,g⟩ :: rest) a cs ⟨tm,bx,nx,lg⟩ KS ⟨⟩ ⟨⟩ ⟨⟩=zh2 (lay P t) (YQ P G ops a s rest (a+1) cs ⟨jK tm dst .any,bx,nx,lg⟩ KS ⟨⟩ ⟨⟩ ⟨⟩) ⟨⟩:=(show jp P G ops a s (⟨dst,.alloc t,ty,pos,af,g⟩ :: rest) a cs ⟨tm,bx,nx,lg⟩ KS=zhz (lay P t) (jp P G ops a s rest (a+1) cs ⟨jK tm dst .any,bx,nx,lg⟩ KS) from by simp only[jp,if_true])
theorem zel {KS:St->Prop} {a s:Nat} {cs:Option (List C)} {dst:Option Tmp} {ty:TypeId} {pos:String} {af:Array Edge} {g:Option (Nat×Bool)} {rest:List Oper} (hsa:(s==a)=false):YQ P G ops a s (⟨dst,.store t y x,ty,pos,af,g⟩ :: rest) s cs ⟨tm,bx,nx,lg⟩ KS ⟨⟩ ⟨⟩ ⟨⟩=zh8 (lay P t) (zr G tm x) (fun c=>YQ P G ops a s rest (s+1) (some c.cells) ⟨jK tm dst .any,bx,nx,lg⟩ KS ⟨⟩ ⟨⟩ ⟨⟩) ⟨⟩:=(show jp P G ops a s (⟨dst,.store t y x,ty,pos,af,g⟩ :: rest) s cs ⟨tm,bx,nx,lg⟩ KS=zfm (lay P t) (zr G tm x) fun c=>jp P G ops a s rest (s+1) (some c.cells) ⟨jK tm dst .any,bx,nx,lg⟩ KS from by simp only[beq_eq_false_iff_ne]at hsa;simp only[jp,if_neg hsa,if_true])
theorem zgz {KS:St->Prop} {a s i:Nat} {cs:Option (List C)} {dst:Option Tmp} {ty:TypeId} {pos:String} {af:Array Edge} {g:Option (Nat×Bool)} {rest:List Oper} {op:Op} (hia:(i==a)=false) (his:(i==s)=false):YQ P G ops a s (⟨dst,op,ty,pos,af,g⟩ :: rest) i cs ⟨tm,bx,nx,lg⟩ KS ⟨⟩ ⟨⟩ ⟨⟩=JT ops tm g (qX P G bx (zr G tm) op nx (fun c nx'=>YQ P G ops a s rest (i+1) cs ⟨jK tm dst c,bx,nx',lg⟩ KS ⟨⟩ ⟨⟩ ⟨⟩) ⟨⟩ ⟨⟩ ⟨⟩) (YQ P G ops a s rest (i+1) cs ⟨jK tm dst (.sc undef),bx,nx,lg⟩ KS ⟨⟩ ⟨⟩ ⟨⟩) ⟨⟩ ⟨⟩ ⟨⟩:=(show jp P G ops a s (⟨dst,op,ty,pos,af,g⟩ :: rest) i cs ⟨tm,bx,nx,lg⟩ KS=qS ops tm g (jR P G bx (zr G tm) op nx fun c nx'=>jp P G ops a s rest (i+1) cs ⟨jK tm dst c,bx,nx',lg⟩ KS) (jp P G ops a s rest (i+1) cs ⟨jK tm dst (.sc undef),bx,nx,lg⟩ KS) from by simp only[beq_eq_false_iff_ne]at hia his;simp only[jp,if_neg hia,if_neg his])
theorem zlt {KS:St->Prop} {cs:List C} {u:Tmp}:zim (some cs) (some u) ⟨tm,bx,nx,lg⟩ KS ⟨⟩=KS ⟨(u,.ptr bx.length 0) :: tm,bx++[cs],nx,lg⟩:=(rfl)
theorem znr {kd:LK} {k b1:Nat} {z1:List Value}:zh2 (some ⟨kd,k,b1,some z1⟩) X ⟨⟩=(z1.length=k/\(z1.all Value.oneCell')=true/\X):=(rfl)
theorem znk {L:Lay}:zh8 (some L) c K ⟨⟩=(c.partB=true/\(c.cells.all C.cellB)=true/\c.cells.length=L.size/\K c):=(rfl)
theorem zmf {KS:St->Prop}:ziv KS ⟨⟩ .normal σ=KS σ:=(rfl)
theorem zeY {next:St} {b:Bool}:x6 m tm b next Q ⟨⟩ ⟨⟩ .normal σ=(b=false/\zS m ⟨[],σ.bx,σ.nx,σ.lg⟩ (next.wt [])):=(rfl)
theorem xS {next:St} {b:Bool}:x6 m tm b next Q ⟨⟩ ⟨⟩ .ret σ=(b=true/\∃ σ':St,σ'.bx.length=m/\zS m ⟨[],σ.bx,σ.nx,σ.lg⟩ (σ'.wt [])/\Q .ret (σ'.wt tm)):=(rfl)
theorem zpD {tm2:List (Nat×C)}:St.wt ⟨tm,bx,nx,lg⟩ tm2=⟨tm2,bx,nx,lg⟩:=(rfl)
theorem zhb {cs:List C}:Ze [] cs tm=tm:=(rfl)
theorem zjB {u:Nat} {ps:List Tmp} {cs:List C}:Ze (u :: ps) (c :: cs) tm=Ze ps cs ((u,c) :: tm):=(rfl)
theorem zk5:Uz m [] = []:=(rfl)
theorem znE {u:Nat} {r:List (Nat×C)}:Uz m ((u,c) :: r)=(u,c.sel (km m)) :: Uz m r:=(rfl)
theorem zmm {next:St->Prop}:va next Q ⟨⟩ ⟨⟩ .normal σ=next σ:=(rfl)
theorem MH {next:St->Prop} {id:Nat}:va next Q ⟨⟩ ⟨⟩ (.exit id) σ=Q (.exit id) σ:=(rfl)
theorem zaR {next:St->Prop}:va next Q ⟨⟩ ⟨⟩ .ret σ=Q .ret σ:=(rfl)
theorem zeC {id:Nat}:Uo id Q ⟨⟩ .normal σ=Q .normal σ:=(rfl)
theorem Nq {id:Nat}:Uo id Q ⟨⟩ (.exit id) σ=Q .normal σ:=(show Nu id Q (.exit id) σ=Q .normal σ from if_pos rfl)
theorem Nw {id id2:Nat} (h:(id2==id)=false):Uo id Q ⟨⟩ (.exit id2) σ=Q (.exit id2) σ:=(show Nu id Q (.exit id2) σ=Q (.exit id2) σ from if_neg (by simpa using h))
theorem ya {id:Nat}:Uo id Q ⟨⟩ .ret σ=Q .ret σ:=(rfl)
theorem zaD:Hw Q ⟨⟩ .normal σ=Q .normal σ:=(rfl)
theorem N3:Hw Q ⟨⟩ .ret σ=Q .ret σ:=(rfl)
theorem zhw {next:St->Prop}:vi next Q ⟨⟩ ⟨⟩ .normal σ=next σ:=(rfl)
theorem MA {next:St->Prop} {id:Nat}:vi next Q ⟨⟩ ⟨⟩ (.exit id) σ=Q (.exit id) σ:=(rfl)
theorem zae {next:St->Prop}:vi next Q ⟨⟩ ⟨⟩ .ret σ=Q .ret σ:=(rfl)
theorem zkV {rs:List ResultVar}:xO P rs K3 ⟨⟩ .normal σ=zaS P σ rs (fun c=>K3 c σ) ⟨⟩:=(rfl)
theorem zks {rs:List ResultVar}:xO P rs K3 ⟨⟩ .ret σ=zaS P σ rs (fun c=>K3 c σ) ⟨⟩:=(rfl)
theorem zmR:zaS P σ [] K ⟨⟩=K (.tup []):=(rfl)
theorem znx {a:ResultVar}:zaS P σ [a] K ⟨⟩=Yj P σ a K ⟨⟩:=(rfl)
theorem zm4 {a b:ResultVar}:zaS P σ [a,b] K ⟨⟩=Yj P σ a (fun c=>Yj P σ b (fun d=>K (.tup [c,d])) ⟨⟩) ⟨⟩:=(rfl)
theorem zlm {a b c1:ResultVar}:zaS P σ [a,b,c1] K ⟨⟩=Yj P σ a (fun c=>Yj P σ b (fun d=>Yj P σ c1 (fun e=>K (.tup [c,d,e])) ⟨⟩) ⟨⟩) ⟨⟩:=(rfl)
theorem zl6 {u:Nat}:Yj P ⟨tm,bx,nx,lg⟩ (.tmp u) K ⟨⟩=K (js tm u):=(rfl)
theorem zl3 {u:Nat}:Yj P ⟨tm,bx,nx,lg⟩ (.cell u t) K ⟨⟩=yR P t (js tm u) bx K ⟨⟩:=(rfl)
theorem zkt {KS:St->Prop}:zeH P G h ops [] σ KS ⟨⟩ ⟨⟩ ⟨⟩ ⟨⟩=KS σ:=(rfl)
theorem zlS {KS:St->Prop} {dst:Option Tmp} {op:Op} {ty:TypeId} {pos:String} {af:Array Edge} {g:Option (Nat×Bool)} {rest:List Oper}:zeH P G h ops (⟨dst,op,ty,pos,af,g⟩ :: rest) ⟨tm,bx,nx,lg⟩ KS ⟨⟩ ⟨⟩ ⟨⟩ ⟨⟩=JT ops tm g (jq P G h op ⟨tm,bx,nx,lg⟩ (fun c σ'=>zeH P G h ops rest (σ'.put dst c) KS ⟨⟩ ⟨⟩ ⟨⟩ ⟨⟩) ⟨⟩ ⟨⟩ ⟨⟩) (zeH P G h ops rest (St.put ⟨tm,bx,nx,lg⟩ dst (.sc undef)) KS ⟨⟩ ⟨⟩ ⟨⟩ ⟨⟩) ⟨⟩ ⟨⟩ ⟨⟩:=(rfl)
theorem zgt {KS:St->Prop}:YL P G h ops [] brs σ KS ⟨⟩ ⟨⟩ ⟨⟩ ⟨⟩=KS σ:=(rfl)
theorem zhm {KS:St->Prop} {dst:Option Tmp} {op:Op} {ty:TypeId} {pos:String} {af:Array Edge} {g:Option (Nat×Bool)} {rest:List Oper}:YL P G h ops (⟨dst,op,ty,pos,af,g⟩ :: rest) [] ⟨tm,bx,nx,lg⟩ KS ⟨⟩ ⟨⟩ ⟨⟩ ⟨⟩=JT ops tm g (qX P G bx (zr G tm) op nx (fun c nx'=>YL P G h ops rest [] ⟨jK tm dst c,bx,nx',lg⟩ KS ⟨⟩ ⟨⟩ ⟨⟩ ⟨⟩) ⟨⟩ ⟨⟩ ⟨⟩) (YL P G h ops rest [] ⟨jK tm dst (.sc undef),bx,nx,lg⟩ KS ⟨⟩ ⟨⟩ ⟨⟩ ⟨⟩) ⟨⟩ ⟨⟩ ⟨⟩:=(rfl)
theorem zg2 {KS:St->Prop} {dst:Option Tmp} {op:Op} {ty:TypeId} {pos:String} {af:Array Edge} {g:Option (Nat×Bool)} {rest:List Oper}:YL P G h ops (⟨dst,op,ty,pos,af,g⟩ :: rest) (false :: brs) ⟨tm,bx,nx,lg⟩ KS ⟨⟩ ⟨⟩ ⟨⟩ ⟨⟩=JT ops tm g (qX P G bx (zr G tm) op nx (fun c nx'=>YL P G h ops rest brs ⟨jK tm dst c,bx,nx',lg⟩ KS ⟨⟩ ⟨⟩ ⟨⟩ ⟨⟩) ⟨⟩ ⟨⟩ ⟨⟩) (YL P G h ops rest brs ⟨jK tm dst (.sc undef),bx,nx,lg⟩ KS ⟨⟩ ⟨⟩ ⟨⟩ ⟨⟩) ⟨⟩ ⟨⟩ ⟨⟩:=(rfl)
theorem zha {KS:St->Prop} {dst:Option Tmp} {op:Op} {ty:TypeId} {pos:String} {af:Array Edge} {g:Option (Nat×Bool)} {rest:List Oper}:YL P G h ops (⟨dst,op,ty,pos,af,g⟩ :: rest) (true :: brs) ⟨tm,bx,nx,lg⟩ KS ⟨⟩ ⟨⟩ ⟨⟩ ⟨⟩=JT ops tm g (jq P G h op ⟨tm,bx,nx,lg⟩ (fun c σ'=>YL P G h ops rest brs (σ'.put dst c) KS ⟨⟩ ⟨⟩ ⟨⟩ ⟨⟩) ⟨⟩ ⟨⟩ ⟨⟩) (YL P G h ops rest brs ⟨jK tm dst (.sc undef),bx,nx,lg⟩ KS ⟨⟩ ⟨⟩ ⟨⟩ ⟨⟩) ⟨⟩ ⟨⟩ ⟨⟩:=(rfl)
theorem zfE:JT ops tm none X Y ⟨⟩ ⟨⟩ ⟨⟩=X:=(rfl)
theorem zkf {l:List Oper} {j:Nat} {want:Bool}:JT l.toArray tm (some (j,want)) X Y ⟨⟩ ⟨⟩ ⟨⟩=zoR ((l[j]?).bind (·.dst)) tm want X Y ⟨⟩ ⟨⟩:=(show qS l.toArray tm (some (j,want)) X Y=aGd ((l[j]?).bind (·.dst)) tm want X Y from by simp only[qS,List.getElem?_toArray];rfl)
theorem zmM {u:Tmp}:zoR (some u) tm true X Y ⟨⟩ ⟨⟩=zhG (js tm u) Y X Y ⟨⟩ ⟨⟩ ⟨⟩:=(rfl)
theorem zlM {u:Tmp}:zoR (some u) tm false X Y ⟨⟩ ⟨⟩=zhG (js tm u) Y Y X ⟨⟩ ⟨⟩ ⟨⟩:=(rfl)
theorem ziV {U:Prop} {b:Bool}:zhG (.sc (.bool b)) U X Y ⟨⟩ ⟨⟩ ⟨⟩=ziK (.sc (.bool b)) X Y ⟨⟩ ⟨⟩:=(rfl)
theorem ziY {U:Prop}:zhG (.sc undef) U X Y ⟨⟩ ⟨⟩ ⟨⟩=U:=(rfl)
theorem zaX {u:Tmp}:St.put ⟨tm,bx,nx,lg⟩ (some u) c=⟨(u,c) :: tm,bx,nx,lg⟩:=(rfl)
theorem ud:St.put ⟨tm,bx,nx,lg⟩ none c=⟨tm,bx,nx,lg⟩:=(rfl)
theorem MB {u:Tmp}:jK tm (some u) c=(u,c) :: tm:=(rfl)
theorem xP:jK tm none c=tm:=(rfl)
theorem UK {n:Nat} {ps:List (Nat×Operand)}:jq P G h (.buildSlice t n ps.toArray) ⟨tm,bx,nx,lg⟩ K3 ⟨⟩ ⟨⟩ ⟨⟩=if h.bx t then kE P t n (ps.map fun p=>(p.1,zr G tm p.2)) ⟨tm,bx,nx,lg⟩ K3 ⟨⟩ else Xi P t n (ps.map fun p=>(p.1,zr G tm p.2)) nx (fun c nx'=>K3 c ⟨tm,bx,nx',lg⟩) ⟨⟩:=(rfl)
theorem UH {n:Nat} {ps:List (Nat×Operand)} {ev:Operand->C}:qX P G bx ev (.buildSlice t n ps.toArray) nx K2 ⟨⟩ ⟨⟩ ⟨⟩=Ht P t n (ps.map fun p=>(p.1,ev p.2)) nx K2 ⟨⟩:=(rfl)
theorem zo8:Ht P t 0 [] nx K2 ⟨⟩=znV P (lay P t) nx K2 ⟨⟩:=(rfl)
theorem zo9 {n:Nat} {ps:List (Nat×C)}:Ht P t (n+1) ps nx K2 ⟨⟩=Xi P t (n+1) ps nx K2 ⟨⟩:=(rfl)
theorem zpa {e s b:Nat} {z1:Option (List Value)}:znV P (some ⟨.slice e,s,b,z1⟩) nx K2 ⟨⟩=zlV (lay P e) nx K2 ⟨⟩:=(rfl)
theorem zoK {kd:LK} {k b:Nat} {z1:List Value}:zlV (some ⟨kd,k,b,some z1⟩) nx K2 ⟨⟩=(z1.length=k/\0<k/\K2 (.tight k []) nx):=(rfl)
theorem kN:jq P G h (.makeSlice t x y) ⟨tm,bx,nx,lg⟩ K3 ⟨⟩ ⟨⟩ ⟨⟩=if h.bx t then GJ P t (zr G tm x) (zr G tm y) ⟨tm,bx,nx,lg⟩ K3 ⟨⟩ else ziy P t (zr G tm x) (zr G tm y) nx (fun c nx'=>K3 c ⟨tm,bx,nx',lg⟩) ⟨⟩:=(rfl)
theorem znI:Hd.bx ⟨p,yd,bf⟩ t=(bf (1000000+t)).headD false:=(rfl)
theorem zjV:Hd.bx2 ⟨p,yd,bf⟩ t=((bf (1000000+t)).drop 1).headD false:=(rfl)
theorem zgM:jq P G h (.move x) ⟨tm,bx,nx,lg⟩ K3 ⟨⟩ ⟨⟩ ⟨⟩=K3 (zr G tm x) ⟨tm,bx,nx,lg⟩:=(rfl)
theorem zgA {ev:Operand->C}:qX P G bx ev (.move x) nx K2 ⟨⟩ ⟨⟩ ⟨⟩=K2 (ev x) nx:=(rfl)
theorem uW:jq P G h (.assign x) ⟨tm,bx,nx,lg⟩ K3 ⟨⟩ ⟨⟩ ⟨⟩=K3 (zr G tm x) ⟨tm,bx,nx,lg⟩:=(rfl)
theorem zac {ev:Operand->C}:qX P G bx ev (.assign x) nx K2 ⟨⟩ ⟨⟩ ⟨⟩=K2 (ev x) nx:=(rfl)
theorem zfj:jq P G h (.pick x y z) ⟨tm,bx,nx,lg⟩ K3 ⟨⟩ ⟨⟩ ⟨⟩=ziK (zr G tm x) (K3 (zr G tm y) ⟨tm,bx,nx,lg⟩) (K3 (zr G tm z) ⟨tm,bx,nx,lg⟩) ⟨⟩ ⟨⟩:=(rfl)
theorem zfz {ev:Operand->C}:qX P G bx ev (.pick x y z) nx K2 ⟨⟩ ⟨⟩ ⟨⟩=ziK (ev x) (K2 (ev y) nx) (K2 (ev z) nx) ⟨⟩ ⟨⟩:=(rfl)
theorem zcd {ps:List (Nat×Operand)}:jq P G h (.build t ps.toArray) ⟨tm,bx,nx,lg⟩ K3 ⟨⟩ ⟨⟩ ⟨⟩=MN P t (ps.map fun p=>(p.1,zr G tm p.2)) (fun c=>K3 c ⟨tm,bx,nx,lg⟩) ⟨⟩:=(rfl)
theorem zdB {ps:List (Nat×Operand)} {ev:Operand->C}:qX P G bx ev (.build t ps.toArray) nx K2 ⟨⟩ ⟨⟩ ⟨⟩=MN P t (ps.map fun p=>(p.1,ev p.2)) (fun c=>K2 c nx) ⟨⟩:=(rfl)
theorem zfb:jq P G h (.load t x) ⟨tm,bx,nx,lg⟩ K3 ⟨⟩ ⟨⟩ ⟨⟩=yR P t (zr G tm x) bx (fun c=>K3 c ⟨tm,bx,nx,lg⟩) ⟨⟩:=(rfl)
theorem zhN {ev:Operand->C}:qX P G bx ev (.load t x) nx K2 ⟨⟩ ⟨⟩ ⟨⟩=yR P t (ev x) bx (fun c=>K2 c nx) ⟨⟩:=(rfl)
theorem G3:jq P G h (.nilCheck x) ⟨tm,bx,nx,lg⟩ K3 ⟨⟩ ⟨⟩ ⟨⟩=zjy (zr G tm x) (fun c=>K3 c ⟨tm,bx,nx,lg⟩) ⟨⟩:=(rfl)
theorem Nt {ev:Operand->C}:qX P G bx ev (.nilCheck x) nx K2 ⟨⟩ ⟨⟩ ⟨⟩=zjy (ev x) (fun c=>K2 c nx) ⟨⟩:=(rfl)
theorem zed {op:BinOp}:jq P G h (.binOp op t x y t') ⟨tm,bx,nx,lg⟩ K3 ⟨⟩ ⟨⟩ ⟨⟩=xY P t op (zr G tm x) (zr G tm y) (fun c=>K3 c ⟨tm,bx,nx,lg⟩) ⟨⟩:=(rfl)
theorem zeb {op:BinOp} {ev:Operand->C}:qX P G bx ev (.binOp op t x y t') nx K2 ⟨⟩ ⟨⟩ ⟨⟩=xY P t op (ev x) (ev y) (fun c=>K2 c nx) ⟨⟩:=(rfl)
theorem zgs {op:UnOp}:jq P G h (.unOp op t x) ⟨tm,bx,nx,lg⟩ K3 ⟨⟩ ⟨⟩ ⟨⟩=zoo op (zr G tm x) (fun c=>K3 c ⟨tm,bx,nx,lg⟩) ⟨⟩:=(rfl)
theorem zgi {op:UnOp} {ev:Operand->C}:qX P G bx ev (.unOp op t x) nx K2 ⟨⟩ ⟨⟩ ⟨⟩=zoo op (ev x) (fun c=>K2 c nx) ⟨⟩:=(rfl)
theorem Me:jq P G h (.convert t t' x) ⟨tm,bx,nx,lg⟩ K3 ⟨⟩ ⟨⟩ ⟨⟩=zdl P bx t t' (zr G tm x) (fun c=>K3 c ⟨tm,bx,nx,lg⟩) ⟨⟩:=(rfl)
theorem Nl {fn:Fn} {fs cs:List Operand}:jq P G h (.makeFunc fn fs.toArray cs.toArray) ⟨tm,bx,nx,lg⟩ K3 ⟨⟩ ⟨⟩ ⟨⟩=K3 (.clo fn (fs.map (zr G tm)) (cs.map (zr G tm))) ⟨tm,bx,nx,lg⟩:=(rfl)
theorem zb9 {lo hi mx:Option Operand}:jq P G h (.slice t x lo hi mx) ⟨tm,bx,nx,lg⟩ K3 ⟨⟩ ⟨⟩ ⟨⟩=xH P t (zr G tm x) (lo.map (zr G tm)) (hi.map (zr G tm)) (mx.map (zr G tm)) (fun c=>K3 c ⟨tm,bx,nx,lg⟩) ⟨⟩:=(rfl)
theorem zbS {lo hi mx:Option Operand} {ev:Operand->C}:qX P G bx ev (.slice t x lo hi mx) nx K2 ⟨⟩ ⟨⟩ ⟨⟩=xH P t (ev x) (lo.map ev) (hi.map ev) (mx.map ev) (fun c=>K2 c nx) ⟨⟩:=(rfl)
theorem Hf {f:Nat}:jq P G h (.fieldAddr t x f) ⟨tm,bx,nx,lg⟩ K3 ⟨⟩ ⟨⟩ ⟨⟩=Qa P t (zr G tm x) f (fun c=>K3 c ⟨tm,bx,nx,lg⟩) ⟨⟩:=(rfl)
theorem Hu {f:Nat} {ev:Operand->C}:qX P G bx ev (.fieldAddr t x f) nx K2 ⟨⟩ ⟨⟩ ⟨⟩=Qa P t (ev x) f (fun c=>K2 c nx) ⟨⟩:=(rfl)
theorem zbf {f:Nat}:jq P G h (.field t x f) ⟨tm,bx,nx,lg⟩ K3 ⟨⟩ ⟨⟩ ⟨⟩=xU P t (zr G tm x) f (fun c=>K3 c ⟨tm,bx,nx,lg⟩) ⟨⟩:=(rfl)
theorem zdf {f:Nat} {ev:Operand->C}:qX P G bx ev (.field t x f) nx K2 ⟨⟩ ⟨⟩ ⟨⟩=xU P t (ev x) f (fun c=>K2 c nx) ⟨⟩:=(rfl)
theorem kY:jq P G h (.indexAddr t x y) ⟨tm,bx,nx,lg⟩ K3 ⟨⟩ ⟨⟩ ⟨⟩=Qf P t (zr G tm x) (zr G tm y) (fun c=>K3 c ⟨tm,bx,nx,lg⟩) ⟨⟩:=(rfl)
theorem H0 {ev:Operand->C}:qX P G bx ev (.indexAddr t x y) nx K2 ⟨⟩ ⟨⟩ ⟨⟩=Qf P t (ev x) (ev y) (fun c=>K2 c nx) ⟨⟩:=(rfl)
theorem zep:jq P G h (.index t x y) ⟨tm,bx,nx,lg⟩ K3 ⟨⟩ ⟨⟩ ⟨⟩=xK P t (zr G tm x) (zr G tm y) (fun c=>K3 c ⟨tm,bx,nx,lg⟩) ⟨⟩:=(rfl)
theorem zbg {ev:Operand->C}:qX P G bx ev (.index t x y) nx K2 ⟨⟩ ⟨⟩ ⟨⟩=xK P t (ev x) (ev y) (fun c=>K2 c nx) ⟨⟩:=(rfl)
theorem xo {i:Nat}:jq P G h (.extract x i) ⟨tm,bx,nx,lg⟩ K3 ⟨⟩ ⟨⟩ ⟨⟩=Vq (zr G tm x) i (fun c=>K3 c ⟨tm,bx,nx,lg⟩) ⟨⟩:=(rfl)
theorem ML {i:Nat} {ev:Operand->C}:qX P G bx ev (.extract x i) nx K2 ⟨⟩ ⟨⟩ ⟨⟩=Vq (ev x) i (fun c=>K2 c nx) ⟨⟩:=(rfl)
theorem zek {us:List Operand} {ts:List TypeId}:jq P G h (.call ⟨.value x,us.toArray,ts.toArray⟩) ⟨tm,bx,nx,lg⟩ K3 ⟨⟩ ⟨⟩ ⟨⟩=xA P G h (zr G tm x) (us.map (zr G tm)) ⟨tm,bx,nx,lg⟩ K3 ⟨⟩ ⟨⟩:=(rfl)
theorem zcD {us:List Operand} {ts:List TypeId} {ev:Operand->C}:qX P G bx ev (.call ⟨.value x,us.toArray,ts.toArray⟩) nx K2 ⟨⟩ ⟨⟩ ⟨⟩=zee P G (ev x) (us.map ev) nx K2 ⟨⟩:=(rfl)
theorem zkB:jq P G h (.call ⟨.builtin .len,#[x],#[t]⟩) ⟨tm,bx,nx,lg⟩ K3 ⟨⟩ ⟨⟩ ⟨⟩=xJ P t (zr G tm x) (fun c=>K3 c ⟨tm,bx,nx,lg⟩) ⟨⟩:=(rfl)
theorem zjU {ev:Operand->C}:qX P G bx ev (.call ⟨.builtin .len,#[x],#[t]⟩) nx K2 ⟨⟩ ⟨⟩ ⟨⟩=xJ P t (ev x) (fun c=>K2 c nx) ⟨⟩:=(rfl)
theorem xd {r:Option Operand}:jq P G h (.makeMap t r) ⟨tm,bx,nx,lg⟩ K3 ⟨⟩ ⟨⟩ ⟨⟩=zlk (ze5 P t) t (r.map (zr G tm)) nx (fun c nx'=>K3 c ⟨tm,bx,nx',lg⟩) ⟨⟩:=(rfl)
theorem znA {kd:MKd} {z:C}:zlk (some (kd,z)) t none nx K2 ⟨⟩=K2 (.mo nx t kd.nil []) (nx+1):=(rfl)
theorem zjQ {k:IntKind}:MKd.nil (.int k) = .int k []:=(rfl)
theorem zah {ok:Bool} {ev:Operand->C}:qX P G bx ev (.lookup t x y ok) nx K2 ⟨⟩ ⟨⟩ ⟨⟩=zmH (ze5 P t) t (ev x) (ev y) ok (fun c=>K2 c nx) ⟨⟩:=(rfl)
theorem znt {k k2 q:IntKind} {z:C} {id:Nat} {t2:TypeId} {l:List Int} {vs:List C} {n:Int} {ok:Bool}:zmH (some (.int k,z)) t (.mo id t2 (.int k2 l) vs) (.sc (.int q n)) ok K ⟨⟩=(t2=t/\k2=k/\q=k/\zbw (vy n l vs) z ok K ⟨⟩):=(rfl)
theorem zfi {z:C}:zbw (some c) z false K ⟨⟩=K c:=(rfl)
theorem zaq {w:Operand}:jq P G h (.insert t x y w) ⟨tm,bx,nx,lg⟩ K3 ⟨⟩ ⟨⟩ ⟨⟩=zmC (ze5 P t) t (zr G tm x) (zr G tm y) (zr G tm w) ⟨tm,bx,nx,lg⟩ K3 ⟨⟩:=(rfl)
theorem zlR {k k2 q:IntKind} {z:C} {id:Nat} {t2:TypeId} {l:List Int} {vs:List C} {n:Int}:zmC (some (.int k,z)) t (.mo id t2 (.int k2 l) vs) (.sc (.int q n)) d ⟨tm,bx,nx,lg⟩ K3 ⟨⟩=(t2=t/\k2=k/\q=k/\K3 .any ⟨ze3 id (.int k (UL n d.frz l vs).1) (UL n d.frz l vs).2 tm,zcl id (.int k (UL n d.frz l vs).1) (UL n d.frz l vs).2 bx,nx,lg⟩):=(rfl)
theorem zap:jq P G h (.call ⟨.builtin .append,#[x,y],#[t,t]⟩) ⟨tm,bx,nx,lg⟩ K3 ⟨⟩ ⟨⟩ ⟨⟩=if h.bx t then if h.bx2 t then VV P t (zr G tm x) (zr G tm y) ⟨tm,bx,nx,lg⟩ K3 ⟨⟩ else vD P h.p t (zr G tm x) (zr G tm y) ⟨tm,bx,nx,lg⟩ K3 ⟨⟩ else vK P t (zr G tm x) (zr G tm y) ⟨tm,bx,nx,lg⟩ K3 ⟨⟩:=(show Qk P G h (.call ⟨.builtin .append,#[x,y],#[t,t]⟩) ⟨tm,bx,nx,lg⟩ K3=if h.bx t then if h.bx2 t then Jt P t (zr G tm x) (zr G tm y) ⟨tm,bx,nx,lg⟩ K3 else VL P h.p t (zr G tm x) (zr G tm y) ⟨tm,bx,nx,lg⟩ K3 else HQ P t (zr G tm x) (zr G tm y) ⟨tm,bx,nx,lg⟩ K3 from by simp[Qk,xe])
theorem ze9 (h0:(t'==t)=false):jq P G h (.call ⟨.builtin .append,#[x,y],#[t,t']⟩) ⟨tm,bx,nx,lg⟩ K3 ⟨⟩ ⟨⟩ ⟨⟩=vm P t t' (zr G tm x) (zr G tm y) ⟨tm,bx,nx,lg⟩ K3 ⟨⟩:=(show Qk P G h (.call ⟨.builtin .append,#[x,y],#[t,t']⟩) ⟨tm,bx,nx,lg⟩ K3=HU P t t' (zr G tm x) (zr G tm y) ⟨tm,bx,nx,lg⟩ K3 from by simp only[beq_eq_false_iff_ne]at h0;simp[Qk,xe,h0])
theorem zfW:jq P G h (.call ⟨.builtin .copy,#[x,y],#[t,t']⟩) ⟨tm,bx,nx,lg⟩ K3 ⟨⟩ ⟨⟩ ⟨⟩=NX P t (zr G tm x) (zr G tm y) ⟨tm,bx,nx,lg⟩ K3 ⟨⟩:=(show Qk P G h (.call ⟨.builtin .copy,#[x,y],#[t,t']⟩) ⟨tm,bx,nx,lg⟩ K3=X2 P t (zr G tm x) (zr G tm y) ⟨tm,bx,nx,lg⟩ K3 from by simp[Qk,xe])
theorem zdp:jq P G h (.call ⟨.builtin .clear,#[x],#[t]⟩) ⟨tm,bx,nx,lg⟩ K3 ⟨⟩ ⟨⟩ ⟨⟩=xE P t (zr G tm x) ⟨tm,bx,nx,lg⟩ K3 ⟨⟩:=(show Qk P G h (.call ⟨.builtin .clear,#[x],#[t]⟩) ⟨tm,bx,nx,lg⟩ K3=Ud P t (zr G tm x) ⟨tm,bx,nx,lg⟩ K3 from by simp[Qk,xe])
theorem zj1:jq P G h (.call ⟨.builtin .max,#[x,y],#[t,t']⟩) ⟨tm,bx,nx,lg⟩ K3 ⟨⟩ ⟨⟩ ⟨⟩=zmX (zr G tm x) (zr G tm y) (fun c=>K3 c ⟨tm,bx,nx,lg⟩) ⟨⟩:=(rfl)
theorem zn6 {k k':IntKind} {n m:Int}:zmX (.sc (.int k n)) (.sc (.int k' m)) K ⟨⟩=K (.sc (.int k (if m>n then m else n))):=(rfl)
theorem zjq:jq P G h (.call ⟨.builtin .cap,#[x],#[t]⟩) ⟨tm,bx,nx,lg⟩ K3 ⟨⟩ ⟨⟩ ⟨⟩=zlo P t (zr G tm x) (fun c=>K3 c ⟨tm,bx,nx,lg⟩) ⟨⟩:=(show Qk P G h (.call ⟨.builtin .cap,#[x],#[t]⟩) ⟨tm,bx,nx,lg⟩ K3=zmq P t (zr G tm x) fun c=>K3 c ⟨tm,bx,nx,lg⟩ from by simp[Qk,xe])
theorem zoZ:zlo P t c K ⟨⟩=zbI (lay P t) c K ⟨⟩:=(rfl)
theorem zhU {i off k n cap:Nat} {e s1 b1:Nat} {z1:Option (List Value)}:zbI (some ⟨.slice e,s1,b1,z1⟩) (.bs i off k n cap) K ⟨⟩=K (.sc (.int .i64 (cap:Int))):=(rfl)
theorem zej {e s1 b1:Nat} {z1:Option (List Value)}:zbI (some ⟨.slice e,s1,b1,z1⟩) (.sc (.slice none 0 0)) K ⟨⟩=K (.sc (.int .i64 0)):=(rfl)
theorem zaK {ev:Operand->C}:qX P G bx ev (.call ⟨.builtin .append,#[x,y],#[t,t]⟩) nx K2 ⟨⟩ ⟨⟩ ⟨⟩=vx P t (ev x) (ev y) nx K2 ⟨⟩:=(show jR P G bx ev (.call ⟨.builtin .append,#[x,y],#[t,t]⟩) nx K2=Za P t (ev x) (ev y) nx K2 from by simp[jR,No,Vw])
theorem zd9:jq P G h (.alloc t) ⟨tm,bx,nx,lg⟩ K3 ⟨⟩ ⟨⟩ ⟨⟩=znf (lay P t) ⟨tm,bx,nx,lg⟩ K3 ⟨⟩:=(rfl)
theorem zkL:jq P G h (.box t x) ⟨tm,bx,nx,lg⟩ K3 ⟨⟩ ⟨⟩ ⟨⟩=znS (zr G tm x) ⟨tm,bx,nx,lg⟩ K3 ⟨⟩:=(rfl)
theorem zc8:jq P G h (.store t x y) ⟨tm,bx,nx,lg⟩ K3 ⟨⟩ ⟨⟩ ⟨⟩=zly (lay P t) (zr G tm x) (zr G tm y) ⟨tm,bx,nx,lg⟩ K3 ⟨⟩:=(rfl)
theorem zgw {u:Tmp}:zr G tm (.tmp u)=js tm u:=(rfl)
theorem uu {v:Value}:zr G tm (.const v)=zB v:=(rfl)
theorem zbW {f:FuncId}:zr G tm (.func f) = .clo (.func f) [] []:=(rfl)
theorem ME {g:Nat}:zr G tm (.global g)=zps (G g):=(rfl)
theorem xp {cs:List C}:zps (some cs) = .row cs:=(rfl)
theorem zm5 {u v:Nat} {r:List (Nat×C)}:js ((u,c) :: r) v=if v=u then c else js r v:=(rfl)
theorem MV {k:IntKind} {n:Int}:zB (.int k n) = .sc (.int k n):=(rfl)
theorem GP {b:Bool}:zB (.bool b) = .sc (.bool b):=(rfl)
theorem xn {l:List UInt8}:zB (.string ⟨l.toArray⟩) = .str l:=(rfl)
theorem HR {a:Option Addr} {n m:Nat}:zB (.slice a n m) = .sc (.slice a n m):=(rfl)
theorem xq {a:Option Nat}:zB (.map a) = .sc (.map a):=(rfl)
theorem N2:zB .nilFunc = .sc .nilFunc:=(rfl)
theorem zbk {op:BinOp} {k:IntKind} {a b:Int}:xY P t op (.sc (.int k a)) (.sc (.int k b)) K ⟨⟩=UU op k a b K ⟨⟩:=(show zk7 P t op (.sc (.int k a)) (.sc (.int k b)) K=znY op k a b K from by simp[zk7])
theorem zdR {op:BinOp} {a b:List UInt8}:xY P t op (.str a) (.str b) K ⟨⟩=zca op a b K ⟨⟩:=(rfl)
theorem zbC {op:BinOp} {cs ds:List C}:xY P t op (.agg cs) (.agg ds) K ⟨⟩=zme op (UA P t) cs ds K ⟨⟩:=(rfl)
theorem NM {op:BinOp} {k:Nat} {rows:List (List C)}:xY P t op (.sl k rows) (.sc (.slice none 0 0)) K ⟨⟩=yr (lay P t) op (.sl k rows) K ⟨⟩:=(rfl)
theorem zdZ {op:BinOp} {e0:TypeId} {k0 b0:Nat} {z0:Option (List Value)} {k:Nat} {rows:List (List C)}:yr (some ⟨.slice e0,k0,b0,z0⟩) op (.sl k rows) K ⟨⟩=(rows≠[]/\zdC op false K ⟨⟩):=(rfl)
theorem GA {op:BinOp} {a:Option Addr} {n cap:Nat}:xY P t op (.sc (.slice a n cap)) (.sc (.slice none 0 0)) K ⟨⟩=yr (lay P t) op (.sc (.slice a n cap)) K ⟨⟩:=(rfl)
theorem zcF {op:BinOp} {e0:TypeId} {k0 b0:Nat} {z0:Option (List Value)} {a:Option Addr} {n cap:Nat}:yr (some ⟨.slice e0,k0,b0,z0⟩) op (.sc (.slice a n cap)) K ⟨⟩=zdC op a.isNone K ⟨⟩:=(rfl)
theorem zaw {b:Bool}:zdC .eql b K ⟨⟩=K (.sc (.bool b)):=(rfl)
theorem zc7 {lk:List LK} {cs ds:List C}:zme .eql (some lk) cs ds K ⟨⟩=zk8 false lk cs ds true K ⟨⟩:=(rfl)
theorem zfw {e:Bool}:zk8 false [] [] [] e K ⟨⟩=K (.sc (.bool e)):=(rfl)
theorem zhB {n e:Bool} {lk:List LK} {k k1 k2:IntKind} {a b:Int} {cs ds:List C}:zk8 n (.int k :: lk) (.sc (.int k1 a) :: cs) (.sc (.int k2 b) :: ds) e K ⟨⟩=(k1=k/\k2=k/\zk8 n lk cs ds (e&&decide (a=b)) K ⟨⟩):=(rfl)
theorem zgx {n e:Bool} {lk:List LK} {a b:List UInt8} {cs ds:List C}:zk8 n (.str :: lk) (.str a :: cs) (.str b :: ds) e K ⟨⟩=zk8 n lk cs ds (e&&decide (a=b)) K ⟨⟩:=(rfl)
theorem zcK {k:IntKind} {a b:Int}:UU .add k a b K ⟨⟩=(inR k (a+b)/\K (.sc (.int k (a+b)))):=(rfl)
theorem zdA {k:IntKind} {a b:Int}:UU .sub k a b K ⟨⟩=(inR k (a-b)/\K (.sc (.int k (a-b)))):=(rfl)
theorem zdd {k:IntKind} {a b:Int}:UU .shr k a b K ⟨⟩=(b=1/\K (.sc (.int k (a / 2)))):=(rfl)
theorem zdU {k:IntKind} {a b:Int}:UU .eql k a b K ⟨⟩=(K (.sc (.bool (decide (a=b))))):=(rfl)
theorem zcy {k:IntKind} {a b:Int}:UU .neq k a b K ⟨⟩=(K (.sc (.bool (!decide (a=b))))):=(rfl)
theorem zdk {k:IntKind} {a b:Int}:UU .lss k a b K ⟨⟩=(K (.sc (.bool (decide (a<b))))):=(rfl)
theorem zb6 {k:IntKind} {a b:Int}:UU .leq k a b K ⟨⟩=(K (.sc (.bool (decide (a<=b))))):=(rfl)
theorem zb4 {k:IntKind} {a b:Int}:UU .gtr k a b K ⟨⟩=(K (.sc (.bool (decide (b<a))))):=(rfl)
theorem zc4 {k:IntKind} {a b:Int}:UU .geq k a b K ⟨⟩=(K (.sc (.bool (decide (b<=a))))):=(rfl)
theorem zcM {a b:List UInt8}:zca .add a b K ⟨⟩=(((a.length+b.length:Nat):Int)<=9223372036854775807/\K (.str (a++b))):=(rfl)
theorem zbE {a b:List UInt8}:zca .eql a b K ⟨⟩=(K (.sc (.bool (decide (a=b))))):=(rfl)
theorem zeI {a b:List UInt8}:zca .neq a b K ⟨⟩=(K (.sc (.bool (!decide (a=b))))):=(rfl)
theorem zdV {a b:List UInt8}:zca .geq a b K ⟨⟩=(K (.sc (.bool (!Op.bytesLess a b)))):=(rfl)
theorem ze6 {b:Bool}:zoo .not (.sc (.bool b)) K ⟨⟩=K (.sc (.bool (!b))):=(rfl)
theorem zd0 {cs:List C} {i:Nat}:Vq (.tup cs) i K ⟨⟩=zjA (cs[i]?) K ⟨⟩:=(rfl)
theorem zoV:zjA (some c) K ⟨⟩=K c:=(rfl)
theorem zct {i off:Nat}:zjy (.ptr i off) K ⟨⟩=K (.ptr i off):=(rfl)
theorem zlr:yR P t c bx K ⟨⟩=x5 (lay P t) c bx K ⟨⟩:=(rfl)
theorem uF {L:Lay} {i off:Nat}:x5 (some L) (.ptr i off) bx K ⟨⟩=zdF (bx[i]?) off L K ⟨⟩:=(rfl)
theorem uE {L:Lay} {cs:List C}:x5 (some L) (.row cs) bx K ⟨⟩=ZP L cs K ⟨⟩:=(rfl)
theorem zkN {L:Lay} {off:Nat} {cs:List C}:zdF (some cs) off L K ⟨⟩=ZP L (cs.drop off) K ⟨⟩:=(rfl)
theorem Hp {fs:List (Nat×Nat×Bool)} {s b:Nat} {z1:Option (List Value)} {cs:List C}:ZP ⟨.struct fs,s,b,z1⟩ cs K ⟨⟩=(s<=cs.length/\K (.agg (cs.take s))):=(show JV ⟨.struct fs,s,b,z1⟩ cs K=(s<=cs.length/\K (.agg (cs.take s))) from by simp[JV,LK.agg])
theorem v8 {ik:IntKind} {s b:Nat} {z1:Option (List Value)} {r:List C}:ZP ⟨.int ik,s,b,z1⟩ (c :: r) K ⟨⟩=K c:=(show JV ⟨.int ik,s,b,z1⟩ (c :: r) K=K c from by simp[JV,LK.agg])
theorem MD {s b:Nat} {z1:Option (List Value)} {r:List C}:ZP ⟨.bool,s,b,z1⟩ (c :: r) K ⟨⟩=K c:=(show JV ⟨.bool,s,b,z1⟩ (c :: r) K=K c from by simp[JV,LK.agg])
theorem zaz {s b:Nat} {z1:Option (List Value)} {r:List C}:ZP ⟨.str,s,b,z1⟩ (c :: r) K ⟨⟩=K c:=(show JV ⟨.str,s,b,z1⟩ (c :: r) K=K c from by simp[JV,LK.agg])
theorem Gs {e:TypeId} {s b:Nat} {z1:Option (List Value)} {r:List C}:ZP ⟨.slice e,s,b,z1⟩ (c :: r) K ⟨⟩=K c:=(show JV ⟨.slice e,s,b,z1⟩ (c :: r) K=K c from by simp[JV,LK.agg])
theorem Na {s b:Nat} {z1:Option (List Value)} {r:List C}:ZP ⟨.other,s,b,z1⟩ (c :: r) K ⟨⟩=K c:=(show JV ⟨.other,s,b,z1⟩ (c :: r) K=K c from by simp[JV,LK.agg])
theorem zkE {f:Nat}:xU P t c f K ⟨⟩=y4 (lay P t) c f K ⟨⟩:=(rfl)
theorem zfr {fs:List (Nat×Nat×Bool)} {s b:Nat} {z1:Option (List Value)} {cs:List C} {f:Nat}:y4 (some ⟨.struct fs,s,b,z1⟩) (.agg cs) f K ⟨⟩=yQ (fs[f]?) cs K ⟨⟩:=(show ye (some ⟨.struct fs,s,b,z1⟩) (.agg cs) f K=Ui (fs[f]?) cs K from by unfold ye Ui;simp only[];cases fs[f]?<;>simp)
theorem zdH {off size:Nat} {cs:List C}:yQ (some (off,size,false)) cs K ⟨⟩=zjA (cs[off]?) K ⟨⟩:=(show Ui (some (off,size,false)) cs K=zpi (cs[off]?) K from by unfold Ui zpi;simp)
theorem zpP {f:Nat}:Qa P t c f K ⟨⟩=zmv (lay P t) c f K ⟨⟩:=(rfl)
theorem zoJ {fs:List (Nat×Nat×Bool)} {s b:Nat} {z1:Option (List Value)} {f:Nat}:zmv (some ⟨.struct fs,s,b,z1⟩) c f K ⟨⟩=zjm (fs[f]?) c K ⟨⟩:=(rfl)
theorem ze8 {off size i q:Nat} {g:Bool}:zjm (some (off,size+1,g)) (.ptr i q) K ⟨⟩=K (.ptr i (q+off)):=(show zln (some (off,size+1,g)) (.ptr i q) K=K (.ptr i (q+off)) from by simp[zln])
theorem zgk {off size:Nat} {g:Bool} {cs:List C}:zjm (some (off,size+1,g)) (.row cs) K ⟨⟩=K (.row (cs.drop off)):=(show zln (some (off,size+1,g)) (.row cs) K=K (.row (cs.drop off)) from by simp[zln])
theorem zpW:Qf P t c d K ⟨⟩=ziL P (lay P t) c d K ⟨⟩:=(rfl)
theorem zag {e s b:Nat} {z1:Option (List Value)} {k:IntKind} {n:Int}:ziL P (some ⟨.slice e,s,b,z1⟩) c (.sc (.int k n)) K ⟨⟩=zgq (lay P e) c n K ⟨⟩:=(rfl)
theorem zaj {m e s b:Nat} {z1:Option (List Value)} {k:IntKind} {n:Int}:ziL P (some ⟨.array (m+1) e,s,b,z1⟩) c (.sc (.int k n)) K ⟨⟩=zlL (lay P e) c m n K ⟨⟩:=(rfl)
theorem zbH {k:Nat} {rows:List (List C)} {L:Lay} {n:Int}:zgq (some L) (.sl k rows) n K ⟨⟩=zjp (C.rows? L.size (.sl k rows)) n K ⟨⟩:=(rfl)
theorem zeV {k:Nat} {rows:List (List C)} {L:Lay} {lo hi mx:Option Int}:zc2 (some L) (.sl k rows) lo hi mx K ⟨⟩=zgQ (C.rows? L.size (.sl k rows)) L.size lo hi mx K ⟨⟩:=(rfl)
theorem zaY {id e k:Nat} {rows:List (List C)} {L:Lay} {n:Int}:zgq (some L) (.own id e k rows) n K ⟨⟩=zjp (C.rows? L.size (.own id e k rows)) n K ⟨⟩:=(rfl)
theorem vU {id e k:Nat} {rows:List (List C)} {L:Lay} {lo hi mx:Option Int}:zc2 (some L) (.own id e k rows) lo hi mx K ⟨⟩=zgQ (C.rows? L.size (.own id e k rows)) L.size lo hi mx K ⟨⟩:=(rfl)
theorem u7 {L:Lay} {lo hi mx:Option Int}:zc2 (some L) (.sc (.slice none 0 0)) lo hi mx K ⟨⟩=znp L.size lo hi mx K ⟨⟩:=(rfl)
theorem zoq {k:Nat} {lo hi:Option Int}:znp k lo hi none K ⟨⟩=(jL 0 lo hi/\K (.sc (.slice none 0 0))):=(rfl)
theorem zaH {v:Value} :zdl P bx t t' (.sc v) K ⟨⟩=zij P t t' (.sc v) K ⟨⟩:=(rfl)
theorem zdW {L:Lay} {n:Int} {j off k m1 cap:Nat}:zgq (some L) (.bs j off k m1 cap) n K ⟨⟩=(k=L.size/\0<=n/\n<(m1:Int)/\K (.ptr j (off+n.toNat*L.size))):=(rfl)
theorem zdr {L:Lay} {lo hi mx:Option Int} {i off k n cap:Nat}:zc2 (some L) (.bs i off k n cap) lo hi mx K ⟨⟩=zeK L.size i off k n cap lo hi mx K ⟨⟩:=(rfl)
theorem zgK {b:Int} {sz i off k n cap:Nat}:zeK sz i off k n cap none (some b) none K ⟨⟩=(n<=cap/\(0<=b/\b<=(cap:Int))/\K (.bs i off k b.toNat cap)):=(rfl)
theorem zf5 {a:Int} {sz i off k n cap:Nat}:zeK sz i off k n cap (some a) none none K ⟨⟩=(sz=k/\n<=cap/\(0<=a/\a<=(n:Int))/\K (.bs i (off+a.toNat*k) k (n-a.toNat) (cap-a.toNat))):=(rfl)
theorem zgg {a b:Int} {sz i off k n cap:Nat}:zeK sz i off k n cap (some a) (some b) none K ⟨⟩=(sz=k/\(0<=a/\a<=b/\b<=(cap:Int))/\K (.bs i (off+a.toNat*k) k (b.toNat-a.toNat) (cap-a.toNat))):=(rfl)
theorem zfJ {a b m1:Int} {sz i off k n cap:Nat}:zeK sz i off k n cap (some a) (some b) (some m1) K ⟨⟩=(sz=k/\(0<=a/\a<=b/\b<=m1/\m1<=(cap:Int))/\K (.bs i (off+a.toNat*k) k (b.toNat-a.toNat) (m1.toNat-a.toNat))):=(rfl)
theorem zgL {i off k n cap:Nat}:xJ P t (.bs i off k n cap) K ⟨⟩=GK (lay P t) (n:Int) K ⟨⟩:=(rfl)
theorem zp4 {n:Nat} {ps:List (Nat×C)}:kE P t n ps ⟨tm,bx,nx,lg⟩ K3 ⟨⟩=zmE P (lay P t) n ps ⟨tm,bx,nx,lg⟩ K3 ⟨⟩:=(rfl)
theorem zph {e s b n:Nat} {z1:Option (List Value)} {ps:List (Nat×C)}:zmE P (some ⟨.slice e,s,b,z1⟩) n ps σ K3 ⟨⟩=zl4 (lay P e) n ps σ K3 ⟨⟩:=(rfl)
theorem zoI {kd:LK} {k b n:Nat} {z1:List Value} {ps:List (Nat×C)}:zl4 (some ⟨kd,k,b,some z1⟩) n ps σ K3 ⟨⟩=(z1.length=k/\0<k/\n*k<=16777216/\(ps.all fun p=>p.2.frz.partB)=true/\zmJ (YC (plA k) (List.replicate n (z1.map zB)).flatten (ps.map fun p=>(p.1,p.2.frz))) k n σ K3 ⟨⟩):=(rfl)
theorem zpf {cs:List C} {k n:Nat}:zmJ (some cs) k n ⟨tm,bx,nx,lg⟩ K3 ⟨⟩=((cs.all C.cellB)=true/\cs.length=n*k/\K3 (.bs bx.length 0 k n n) ⟨tm,bx++[cs],nx,lg⟩):=(rfl)
theorem zql:vD P p t c d ⟨tm,bx,nx,lg⟩ K3 ⟨⟩=zll P (lay P t) p c d ⟨tm,bx,nx,lg⟩ K3 ⟨⟩:=(rfl)
theorem zpb {e s b:Nat} {z1:Option (List Value)}:zll P (some ⟨.slice e,s,b,z1⟩) p c d σ K3 ⟨⟩=zlJ (lay P e) p c d σ K3 ⟨⟩:=(rfl)
theorem zo2 {kd:LK} {k b:Nat} {z1:List Value}:zlJ (some ⟨kd,k,b,some z1⟩) p c d ⟨tm,bx,nx,lg⟩ K3 ⟨⟩=zlD (d.xs? k bx) p k b z1 c ⟨tm,bx,nx,lg⟩ K3 ⟨⟩:=(rfl)
theorem zj2 {i off k k2 n cap:Nat}:C.xs? k bx (.bs i off k2 n cap)=xsB k2 k off n (bx[i]?):=(rfl)
theorem zl5 {k off n:Nat} {cs:List C}:xsB k k off n (some cs)=if off+n*k<=cs.length then some (n,(cs.drop off).take (n*k)) else none:=(show xsB k k off n (some cs)=if off+n*k<=cs.length then some (n,(cs.drop off).take (n*k)) else none from by simp[xsB])
theorem zjl {i:Nat} {cs:List C}:QP i cs bx=(Gi (JK i) some bx).set i cs:=(rfl)
theorem zkA {i j:Nat}:JK i j=if j=i then none else some j:=(rfl)
theorem zhA {i off k n cap:Nat}:C.frz (.bs i off k n cap) = .any:=(show C.frz (.bs i off k n cap) = .any from by rw[C.frz])
theorem zj3 {i off k n cap:Nat} {fp fo:Nat->Option Nat}:C.re fp fo (.bs i off k n cap)=bsO (fp i) off k n cap:=(show C.re fp fo (.bs i off k n cap)=bsO (fp i) off k n cap from by rw[C.re];rfl)
theorem zmD {j off k n cap:Nat}:bsO (some j) off k n cap = .bs j off k n cap:=(rfl)
theorem zmK {off k n cap:Nat}:bsO none off k n cap = .any:=(rfl)
theorem zaQ {i off k n cap:Nat}:C.cellB (.bs i off k n cap)=true:=(rfl)
theorem zaB {i off k n cap:Nat}:C.partB (.bs i off k n cap)=true:=(rfl)
theorem uG {i off k n cap:Nat}:C.cells (.bs i off k n cap) = [.bs i off k n cap]:=(rfl)
theorem zmc {rows:List (List C)} {n:Int}:zjp (some rows) n K ⟨⟩=zpq (rows[n.toNat]?) n K ⟨⟩:=(rfl)
theorem zqi {r:List C} {n:Int}:zpq (some r) n K ⟨⟩=(0<=n/\K (.row r)):=(rfl)
theorem zjo {L:Lay} {m:Nat} {n:Int} {cs:List C}:zlL (some L) (.row cs) m n K ⟨⟩=(0<=n/\n<((m+1:Nat):Int)/\K (.row (cs.drop (n.toNat*L.size)))):=(rfl)
theorem zqa:xK P t c d K ⟨⟩=zmi (lay P t) c d K ⟨⟩:=(rfl)
theorem zn9 {s b:Nat} {z1:Option (List Value)} {l:List UInt8} {k:IntKind} {n:Int}:zmi (some ⟨.str,s,b,z1⟩) (.str l) (.sc (.int k n)) K ⟨⟩=zh7 (l[n.toNat]?) n K ⟨⟩:=(show zn1 (some ⟨.str,s,b,z1⟩) (.str l) (.sc (.int k n)) K=zkS (l[n.toNat]?) n K from by unfold zn1 zkS;simp)
theorem znj {b:UInt8} {n:Int}:zh7 (some b) n K ⟨⟩=(0<=n/\K (.sc (.int .u8 (b.toNat:Int)))):=(rfl)
theorem zpS {lo hi mx:Option C}:xH P t c lo hi mx K ⟨⟩=zmg P t c (vn lo) (vn hi) (vn mx) K ⟨⟩:=(rfl)
theorem zn4 {lo hi mx:Option Int}:zmg P t c (some lo) (some hi) (some mx) K ⟨⟩=zky P (lay P t) c lo hi mx K ⟨⟩:=(rfl)
theorem zaM:vn none=some none:=(rfl)
theorem zbR {k:IntKind} {n:Int}:vn (some (.sc (.int k n)))=some (some n):=(rfl)
theorem zf2 {s b:Nat} {z1:Option (List Value)} {l:List UInt8} {lo hi:Option Int}:zky P (some ⟨.str,s,b,z1⟩) (.str l) lo hi none K ⟨⟩=(jL l.length lo hi/\K (.str (cut l lo hi))):=(rfl)
theorem zaG {e s b:Nat} {z1:Option (List Value)} {lo hi mx:Option Int}:zky P (some ⟨.slice e,s,b,z1⟩) c lo hi mx K ⟨⟩=zc2 (lay P e) c lo hi mx K ⟨⟩:=(rfl)
theorem zmT {rows:List (List C)} {k:Nat} {lo hi:Option Int}:zgQ (some rows) k lo hi none K ⟨⟩=(jL rows.length lo hi/\K (.sl k (cut rows lo hi))):=(rfl)
theorem zmk {rows:List (List C)} {k:Nat} {lo:Option Int} {h m:Int}:zgQ (some rows) k lo (some h) (some m) K ⟨⟩=(m=h/\jL rows.length lo (some h)/\K (.tight k (cut rows lo (some h)))):=(rfl)
theorem zht {α:Type} {l:List α} {a:Int}:cut l (some a) none=l.drop a.toNat:=(rfl)
theorem zf1 {α:Type} {l:List α} {b:Int}:cut l none (some b)=l.take b.toNat:=(rfl)
theorem zfA {α:Type} {l:List α} {a b:Int}:cut l (some a) (some b)=(l.take b.toNat).drop a.toNat:=(rfl)
theorem u9 {n:Nat} {a:Int}:jL n (some a) none=(0<=a/\a<=(n:Int)):=(rfl)
theorem za1 {n:Nat} {b:Int}:jL n none (some b)=(0<=b/\b<=(n:Int)):=(rfl)
theorem uS {n:Nat} {a b:Int}:jL n (some a) (some b)=(0<=a/\a<=b/\b<=(n:Int)):=(rfl)
theorem zce {k:Nat} {rows:List (List C)}:C.rows? k (.sl k rows)=some rows:=(show C.rows? k (.sl k rows)=some rows from by simp[C.rows?])
theorem za2 {id e:Nat} {k:Nat} {rows:List (List C)}:C.rows? k (.own id e k rows)=some rows:=(show C.rows? k (.own id e k rows)=some rows from by simp[C.rows?])
theorem zmb:zij P t t' c K ⟨⟩=zkO P (lay P t') (lay P t) c K ⟨⟩:=(rfl)
theorem ux {k k0:IntKind} {n:Int} {s b:Nat} {z1:Option (List Value)} {L:Lay}:zkO P (some ⟨.int k,s,b,z1⟩) (some L) (.sc (.int k0 n)) K ⟨⟩=(inR k n/\K (.sc (.int k n))):=(rfl)
theorem zfd {s b s2 b2:Nat} {z1 z2:Option (List Value)} {k k0:IntKind} {n:Int}:zkO P (some ⟨.str,s,b,z1⟩) (some ⟨.int k,s2,b2,z2⟩) (.sc (.int k0 n)) K ⟨⟩=K (.str (Utf8.encode n).data.toList):=(rfl)
theorem zeU {l:List UInt8}:xJ P t (.str l) K ⟨⟩=zh3 (lay P t) (l.length:Int) K ⟨⟩:=(rfl)
theorem zfl {k:Nat} {rows:List (List C)}:xJ P t (.sl k rows) K ⟨⟩=GK (lay P t) (rows.length:Int) K ⟨⟩:=(rfl)
theorem zds {id e:Nat} {k:Nat} {rows:List (List C)}:xJ P t (.own id e k rows) K ⟨⟩=GK (lay P t) (rows.length:Int) K ⟨⟩:=(rfl)
theorem zcu:xJ P t (.sc (.slice none 0 0)) K ⟨⟩=GK (lay P t) 0 K ⟨⟩:=(rfl)
theorem zlx {e s b:Nat} {z1:Option (List Value)} {n:Int}:GK (some ⟨.slice e,s,b,z1⟩) n K ⟨⟩=K (.sc (.int .i64 n)):=(rfl)
theorem zlY {s b:Nat} {z1:Option (List Value)} {n:Int}:zh3 (some ⟨.str,s,b,z1⟩) n K ⟨⟩=K (.sc (.int .i64 n)):=(rfl)
theorem zkz {ps:List (Nat×C)}:MN P t ps K ⟨⟩=zmU (lay P t) ps K ⟨⟩:=(rfl)
theorem zgW {fs:List (Nat×Nat×Bool)} {s b:Nat} {z1:List Value} {ps:List (Nat×C)}:zmU (some ⟨.struct fs,s,b,some z1⟩) ps K ⟨⟩=((ps.all fun p=>p.2.partB)=true/\zpw (YC (plS fs) (z1.map zB) ps) K ⟨⟩):=(show zpk (some ⟨.struct fs,s,b,some z1⟩) ps K=((ps.all fun p=>p.2.partB)=true/\aFl (YC (plS fs) (z1.map zB) ps) K) from by unfold zpk aFl;simp only[];rfl)
theorem zpK {cs:List C}:zpw (some cs) K ⟨⟩=K (.agg cs):=(rfl)
theorem zkF {place:Nat->Option (Nat×Nat)} {cs:List C}:YC place cs []=some cs:=(rfl)
theorem zlg {place:Nat->Option (Nat×Nat)} {cs:List C} {i:Nat} {rest:List (Nat×C)}:YC place cs ((i,c) :: rest)=zh6 (place i) place cs c.cells rest:=(rfl)
theorem zkQ {place:Nat->Option (Nat×Nat)} {cs l:List C} {off size:Nat} {rest:List (Nat×C)}:zh6 (some (off,size)) place cs l rest=(if l.length=size/\off+size<=cs.length then YC place (cs.take off++l++cs.drop (off+size)) rest else none):=(rfl)
theorem zn5 {fs:List (Nat×Nat×Bool)} {i:Nat}:plS fs i=(fs[i]?).map fun f=>(f.1,f.2.1):=(rfl)
theorem zoy {k i:Nat}:plA k i=some (i*k,k):=(rfl)
theorem zpy {n:Nat} {ps:List (Nat×C)}:Xi P t n ps nx K2 ⟨⟩=zm9 P (lay P t) n ps nx K2 ⟨⟩:=(rfl)
theorem zoX {e s b n:Nat} {z1:Option (List Value)} {ps:List (Nat×C)}:zm9 P (some ⟨.slice e,s,b,z1⟩) n ps nx K2 ⟨⟩=zmG (lay P e) e n ps nx K2 ⟨⟩:=(rfl)
theorem zou {kd:LK} {k b e n:Nat} {z1:List Value} {ps:List (Nat×C)}:zmG (some ⟨kd,k,b,some z1⟩) e n ps nx K2 ⟨⟩=(z1.length=k/\0<k/\n*k<=16777216/\(ps.all fun p=>p.2.frz.partB)=true/\zlz (YC (plA k) (List.replicate n (z1.map zB)).flatten (ps.map fun p=>(p.1,p.2.frz))) e k n nx K2 ⟨⟩):=(rfl)
theorem zo1 {cs:List C} {e k n:Nat}:zlz (some cs) e k n nx K2 ⟨⟩=((cs.all C.cellB)=true/\cs.length=n*k/\K2 (.own nx e k (XT k n cs)) (nx+1)):=(rfl)
theorem zpc:GJ P t c d ⟨tm,bx,nx,lg⟩ K3 ⟨⟩=zh1 P (lay P t) c d ⟨tm,bx,nx,lg⟩ K3 ⟨⟩:=(rfl)
theorem zlC {e s b:Nat} {z1:Option (List Value)} {k k2:IntKind} {l m:Int}:zh1 P (some ⟨.slice e,s,b,z1⟩) (.sc (.int k l)) (.sc (.int k2 m)) ⟨tm,bx,nx,lg⟩ K3 ⟨⟩=ziw (lay P e) l m ⟨tm,bx,nx,lg⟩ K3 ⟨⟩:=(rfl)
theorem zne {kd:LK} {k b:Nat} {z1:List Value} {l m:Int}:ziw (some ⟨kd,k,b,some z1⟩) l m ⟨tm,bx,nx,lg⟩ K3 ⟨⟩=(z1.length=k/\0<k/\(z1.all Value.oneCell')=true/\0<=l/\l<=m/\(b:Int)*m<=281474976710656/\m<=9223372036854775807/\K3 (.bs bx.length 0 k l.toNat m.toNat) ⟨tm,bx++[(List.replicate m.toNat (z1.map zB)).flatten],nx,lg⟩):=(rfl)
theorem zpX:ziy P t c d nx K2 ⟨⟩=zlE P (lay P t) c d nx K2 ⟨⟩:=(rfl)
theorem zoc {e s b:Nat} {z1:Option (List Value)} {k k2:IntKind} {l m:Int}:zlE P (some ⟨.slice e,s,b,z1⟩) (.sc (.int k l)) (.sc (.int k2 m)) nx K2 ⟨⟩=zno (lay P e) e l m nx K2 ⟨⟩:=(rfl)
theorem zn7 {kd:LK} {k b e:Nat} {z1:List Value} {l m:Int}:zno (some ⟨kd,k,b,some z1⟩) e l m nx K2 ⟨⟩=(z1.length=k/\0<k/\(z1.all Value.oneCell')=true/\0<=l/\l<=m/\(b:Int)*m<=281474976710656/\m<=9223372036854775807/\K2 (.own nx e k (List.replicate l.toNat (z1.map zB))) (nx+1)):=(rfl)
theorem zeo {id e k:Nat} {rows:List (List C)}:vK P t (.own id e k rows) d ⟨tm,bx,nx,lg⟩ K3 ⟨⟩=zlF P (lay P t) id e k rows d ⟨tm,bx,nx,lg⟩ K3 ⟨⟩:=(rfl)
theorem zm7:vx P t c d nx K2 ⟨⟩=zlq P (lay P t) c d nx K2 ⟨⟩:=(rfl)
theorem zn8 {e s b:Nat} {z1:Option (List Value)}:zlq P (some ⟨.slice e,s,b,z1⟩) c d nx K2 ⟨⟩=zmB (lay P e) e c d nx K2 ⟨⟩:=(rfl)
theorem zoi {kd:LK} {k b e:Nat} {z1:List Value}:zmB (some ⟨kd,k,b,some z1⟩) e c d nx K2 ⟨⟩=znC (d.rows? k) c e k b z1 nx K2 ⟨⟩:=(rfl)
theorem zm3 {k k0 b e:Nat} {z1:List Value} {xs rows:List (List C)}:znC (some xs) (.tight k0 rows) e k b z1 nx K2 ⟨⟩=(k0=k/\z1.length=k/\0<k/\rows.length+xs.length<=9223372036854775807/\(rows.length+xs.length)*b<=140737488355328/\(xs = []->K2 (.tight k0 rows) nx)/\(¬xs = []->K2 (.own nx e k (rows++xs)) (nx+1))):=(rfl)
theorem zp {a b:Nat} (h:Nat.ble a b=true):a<=b:=Nat.le_of_ble_eq_true h
theorem lS:(∀ {α:Type} (a b:List α),(a++b).length=a.length+b.length)/\(∀ {α:Type} (a:α) (b:List α),(a :: b).length=b.length+1)/\(∀ {α:Type},([]:List α).length=0)/\(∀ {α β:Type} (f:α->β) (l:List α),(l.map f).length=l.length)/\(∀ {α:Type} (n:Nat) (l:List α),(l.take n).length=min n l.length)/\∀ {α:Type} (n:Nat) (l:List α),(l.drop n).length=l.length-n:=⟨fun _ _=>List.length_append,fun _ _=>List.length_cons,List.length_nil,fun _ _=>List.length_map _,fun _ _=>List.length_take,fun _ _=>List.length_drop⟩
theorem zo4 {α:Type} {x:α} {l:List α}:((x :: l) = [])=False:=by simp
theorem zp6 {p:Prop}:(True->p)=p:=by simp
theorem zpR {p:Prop}:(False->p)=True:=by simp
theorem zp5:(¬False)=True:=by simp
theorem zog {e0 s b id e k:Nat} {z1:Option (List Value)} {rows:List (List C)}:zlF P (some ⟨.slice e0,s,b,z1⟩) id e k rows c σ K3 ⟨⟩=zms (lay P e) e0 id e k rows c σ K3 ⟨⟩:=(rfl)
theorem zn0 {kd:LK} {k0 b e0 id e k:Nat} {z1:List Value} {rows:List (List C)}:zms (some ⟨kd,k0,b,some z1⟩) e0 id e k rows c σ K3 ⟨⟩=(e0=e/\k0=k/\z1.length=k/\0<k/\zlX (c.rows? k) b id e k rows σ K3 ⟨⟩):=(show zpg (some ⟨kd,k0,b,some z1⟩) e0 id e k rows c σ K3=(e0=e/\k0=k/\z1.length=k/\0<k/\zor (c.rows? k) b id e k rows σ K3) from by unfold zpg zor;simp only[];cases c.rows? k<;>simp)
theorem zo5 {xs rows:List (List C)} {b id e k:Nat}:zlX (some xs) b id e k rows ⟨tm,bx,nx,lg⟩ K3 ⟨⟩=(rows.length+xs.length<=9223372036854775807/\(rows.length+xs.length)*b<=140737488355328/\K3 (.own id e k (rows++xs)) ⟨zai id tm,N9 id bx,nx,lg⟩):=(rfl)
theorem zjh {f:FuncId} {fs cs args:List C}:xA P G h (.clo (.func f) fs cs) args ⟨tm,bx,nx,lg⟩ K3 ⟨⟩ ⟨⟩=X8 P G f (fs++args++cs) (C.frzL (fs++args++cs)) ⟨tm,bx,nx,lg⟩ K3 ⟨⟩:=(rfl)
theorem zjH {l:Nat} {items:List (List C)} {sf:Nat->Bool} {args:List C}:xA P G ⟨p,some ⟨l,items,sf⟩,bf⟩ (.sc (.func (.yield l) #[] #[])) args ⟨tm,bx,nx,lg⟩ K3 ⟨⟩ ⟨⟩=yq ⟨l,items,sf⟩ (items[lg]?) args ⟨tm,bx,nx,lg⟩ K3 ⟨⟩ ⟨⟩:=(show Gq P G ⟨p,some ⟨l,items,sf⟩,bf⟩ (.sc (.func (.yield l) #[] #[])) args ⟨tm,bx,nx,lg⟩ K3=kW ⟨l,items,sf⟩ (items[lg]?) args ⟨tm,bx,nx,lg⟩ K3 from by simp[Gq,y9])
theorem zhc {l:Nat} {items:List (List C)} {sf:Nat->Bool} {args it:List C}:yq ⟨l,items,sf⟩ (some it) args ⟨tm,bx,nx,lg⟩ K3 ⟨⟩ ⟨⟩=(ze [] 0 args it/\(∀ j,j<lg->sf j=false)/\K3 (.sc (.bool (!sf lg))) ⟨tm,bx,nx,lg+1⟩):=(rfl)
theorem zny {ι:List Nat} {j:Nat}:upB ι m j=match ι[j]? with | some i=>some i | none=>some (m+(j-ι.length)):=(rfl)
theorem zoe {x1 i:Nat} {r:List Nat}:Xf (x1 :: r) i=if i=x1 then some 0 else (Xf r i).map (·+1):=(rfl)
theorem zjO {fp fo:Nat->Option Nat}:UX fp fo [] = []:=(rfl)
theorem znn {fp fo:Nat->Option Nat} {u:Nat} {r:List (Nat×C)}:UX fp fo ((u,c) :: r)=(u,c.re fp fo) :: UX fp fo r:=(rfl)
theorem zjb {fp fo:Nat->Option Nat}:Gi fp fo [] = []:=(rfl)
theorem znw {fp fo:Nat->Option Nat} {cs:List C} {r:List (List C)}:Gi fp fo (cs :: r)=C.reL fp fo cs :: Gi fp fo r:=(rfl)
theorem zfT {l:List (List C)}:Zd [] l bx=bx:=(rfl)
theorem zg6 {i:Nat} {ι:List Nat} {cs:List C} {r:List (List C)}:Zd (i :: ι) (cs :: r) bx=Zd ι r (bx.set i cs):=(rfl)
theorem zfY {ι κ:List Nat} {n:Nat}:Qu ι κ bx' n ⟨tm,bx,nx,lg⟩=⟨UX some (QD κ) tm,Zd ι (Gi (upB ι bx.length) (upO nx) bx') (Gi some (QD κ) bx)++Gi (upB ι bx.length) (upO nx) (bx'.drop ι.length),nx+n,lg⟩:=(rfl)
theorem zjx {κ:List Nat} {i:Nat}:QD κ i=if i∈κ then none else some i:=(rfl)
theorem zfQ {i:Nat}:km m i=if i<m then some i else none:=(rfl)
theorem zf9 {i:Nat}:Yu m i=if i<m then none else some (i-m):=(rfl)
theorem ziO {f:FuncId} {fs cs args:List C}:zee P G (.clo (.func f) fs cs) args nx K2 ⟨⟩=Mt P G f (C.frzL (fs++args++cs)) nx K2 ⟨⟩:=(rfl)
theorem zoD {kd:LK} {s b:Nat} {z1:List Value}:znf (some ⟨kd,s,b,some z1⟩) ⟨tm,bx,nx,lg⟩ K3 ⟨⟩=((z1.all Value.oneCell')=true/\K3 (.ptr bx.length 0) ⟨tm,bx++[z1.map zB],nx,lg⟩):=(rfl)
theorem zoz:znS c ⟨tm,bx,nx,lg⟩ K3 ⟨⟩=(c.partB=true/\(c.cells.all C.cellB)=true/\K3 (.ptr bx.length 0) ⟨tm,bx++[c.cells],nx,lg⟩):=(rfl)
theorem zow {L:Lay} {i off:Nat}:zly (some L) (.ptr i off) c ⟨tm,bx,nx,lg⟩ K3 ⟨⟩=zmr (bx[i]?) i off L.size c ⟨tm,bx,nx,lg⟩ K3 ⟨⟩:=(rfl)
theorem zoO {cs:List C} {i off size:Nat}:zmr (some cs) i off size c ⟨tm,bx,nx,lg⟩ K3 ⟨⟩=(c.partB=true/\(c.cells.all C.cellB)=true/\c.cells.length=size/\off+size<=cs.length/\K3 .any ⟨tm,bx.set i (cs.take off++c.cells++cs.drop (off+size)),nx,lg⟩):=(rfl)
theorem zf7 {v:Value}:C.frz (.sc v) = .sc v:=(show C.frz (.sc v) = .sc v from by rw[C.frz])
theorem ziD {v:Value} {id:Nat}:C.dg id (.sc v) = .sc v:=(show C.dg id (.sc v) = .sc v from by rw[C.dg])
theorem zkI {v:Value} {n:Nat}:C.sh n (.sc v) = .sc v:=(show C.sh n (.sc v) = .sc v from by rw[C.sh])
theorem zdy {l:List UInt8}:C.frz (.str l) = .str l:=(show C.frz (.str l) = .str l from by rw[C.frz])
theorem zfx {l:List UInt8} {id:Nat}:C.dg id (.str l) = .str l:=(show C.dg id (.str l) = .str l from by rw[C.dg])
theorem zfS {l:List UInt8} {n:Nat}:C.sh n (.str l) = .str l:=(show C.sh n (.str l) = .str l from by rw[C.sh])
theorem zgf {k:Nat} {rows:List (List C)}:C.frz (.sl k rows) = .sl k rows:=(show C.frz (.sl k rows) = .sl k rows from by rw[C.frz])
theorem zj0 {k:Nat} {rows:List (List C)} {id:Nat}:C.dg id (.sl k rows) = .sl k rows:=(show C.dg id (.sl k rows) = .sl k rows from by rw[C.dg])
theorem zi7 {k:Nat} {rows:List (List C)} {n:Nat}:C.sh n (.sl k rows) = .sl k rows:=(show C.sh n (.sl k rows) = .sl k rows from by rw[C.sh])
theorem xC {k:Nat} {rows:List (List C)}:C.frz (.tight k rows) = .tight k rows:=(show C.frz (.tight k rows) = .tight k rows from by rw[C.frz])
theorem zcB {cs:List C}:C.frz (.row cs) = .row cs:=(show C.frz (.row cs) = .row cs from by rw[C.frz])
theorem zfk {cs:List C} {id:Nat}:C.dg id (.row cs) = .row cs:=(show C.dg id (.row cs) = .row cs from by rw[C.dg])
theorem ze7 {cs:List C} {n:Nat}:C.sh n (.row cs) = .row cs:=(show C.sh n (.row cs) = .row cs from by rw[C.sh])
theorem zhH {id:Nat}:C.dg id (.any) = .any:=(show C.dg id (.any) = .any from by rw[C.dg])
theorem zje {i:Nat} {t2:TypeId} {ks:MK} {vs:List C} {n:Nat}:C.sh n (.mo i t2 ks vs) = .mo (n+i) t2 ks vs:=(show C.sh n (.mo i t2 ks vs) = .mo (n+i) t2 ks vs from by rw[C.sh])
theorem ziz {i:Nat} {t2:TypeId} {ks:MK} {vs:List C}:C.fz bx (.mo i t2 ks vs) = .mo i t2 ks vs:=(show C.fz bx (.mo i t2 ks vs) = .mo i t2 ks vs from by rw[C.fz])
theorem zjG {v:Value} {id:Nat} {ks1:MK} {vs1:List C}:C.up id ks1 vs1 (.sc v) = .sc v:=(show C.up id ks1 vs1 (.sc v) = .sc v from by rw[C.up])
theorem ziT {i:Nat} {t2:TypeId} {ks:MK} {vs:List C} {id:Nat} {ks1:MK} {vs1:List C}:C.up id ks1 vs1 (.mo i t2 ks vs)=if i=id then .mo i t2 ks1 vs1 else .mo i t2 ks vs:=(show C.up id ks1 vs1 (.mo i t2 ks vs)=if i=id then .mo i t2 ks1 vs1 else .mo i t2 ks vs from by rw[C.up])
theorem zak {id:Nat} {ks1:MK} {vs1:List C}:ze3 id ks1 vs1 [] = []:=(rfl)
theorem zmp {u:Nat} {r:List (Nat×C)} {id:Nat} {ks1:MK} {vs1:List C}:ze3 id ks1 vs1 ((u,c) :: r)=(u,c.up id ks1 vs1) :: ze3 id ks1 vs1 r:=(rfl)
theorem za3 {id:Nat} {ks1:MK} {vs1:List C}:zcl id ks1 vs1 [] = []:=(rfl)
theorem zcq {id e k:Nat} {rows:List (List C)}:C.frz (.own id e k rows) = .sl k rows:=(show C.frz (.own id e k rows) = .sl k rows from by rw[C.frz])
theorem zbt {i off:Nat}:C.frz (.ptr i off) = .any:=(show C.frz (.ptr i off) = .any from by rw[C.frz])
theorem zgR {id i off:Nat}:C.dg id (.ptr i off) = .ptr i off:=(show C.dg id (.ptr i off) = .ptr i off from by rw[C.dg])
theorem zhq {id i e k:Nat} {rows:List (List C)}:C.dg id (.own i e k rows)=if i=id then .sl k rows else .own i e k rows:=(show C.dg id (.own i e k rows)=if i=id then .sl k rows else .own i e k rows from by rw[C.dg])
theorem zhx {n i e k:Nat} {rows:List (List C)}:C.sh n (.own i e k rows) = .own (n+i) e k rows:=(show C.sh n (.own i e k rows) = .own (n+i) e k rows from by rw[C.sh])
theorem zi9 {v:Value} {fp fo:Nat->Option Nat}:C.re fp fo (.sc v) = .sc v:=(show C.re fp fo (.sc v) = .sc v from by rw[C.re])
theorem zgH {v:Value} {fp:Nat->Option Nat}:C.sel fp (.sc v) = .sc v:=(show C.sel fp (.sc v) = .sc v from by rw[C.sel])
theorem zfH {l:List UInt8} {fp fo:Nat->Option Nat}:C.re fp fo (.str l) = .str l:=(show C.re fp fo (.str l) = .str l from by rw[C.re])
theorem zbP {l:List UInt8} {fp:Nat->Option Nat}:C.sel fp (.str l) = .str l:=(show C.sel fp (.str l) = .str l from by rw[C.sel])
theorem zkj {k:Nat} {rows:List (List C)} {fp fo:Nat->Option Nat}:C.re fp fo (.sl k rows) = .sl k rows:=(show C.re fp fo (.sl k rows) = .sl k rows from by rw[C.re])
theorem zgo {k:Nat} {rows:List (List C)} {fp:Nat->Option Nat}:C.sel fp (.sl k rows) = .sl k rows:=(show C.sel fp (.sl k rows) = .sl k rows from by rw[C.sel])
theorem zaJ {k:Nat} {rows:List (List C)} {fp fo:Nat->Option Nat}:C.re fp fo (.tight k rows) = .tight k rows:=(show C.re fp fo (.tight k rows) = .tight k rows from by rw[C.re])
theorem zg3 {cs:List C} {fp fo:Nat->Option Nat}:C.re fp fo (.row cs) = .row cs:=(show C.re fp fo (.row cs) = .row cs from by rw[C.re])
theorem zcw {cs:List C} {fp:Nat->Option Nat}:C.sel fp (.row cs) = .row cs:=(show C.sel fp (.row cs) = .row cs from by rw[C.sel])
theorem zfc {fp fo:Nat->Option Nat}:C.re fp fo (.any) = .any:=(show C.re fp fo (.any) = .any from by rw[C.re])
theorem zjX {v:Value}:C.fz bx (.sc v) = .sc v:=(show C.fz bx (.sc v) = .sc v from by rw[C.fz])
theorem zg8 {l:List UInt8}:C.fz bx (.str l) = .str l:=(show C.fz bx (.str l) = .str l from by rw[C.fz])
theorem zkh {k:Nat} {rows:List (List C)}:C.fz bx (.sl k rows) = .sl k rows:=(show C.fz bx (.sl k rows) = .sl k rows from by rw[C.fz])
theorem zfR {id e k:Nat} {rows:List (List C)}:C.fz bx (.own id e k rows) = .own id e k rows:=(show C.fz bx (.own id e k rows) = .own id e k rows from by rw[C.fz])
theorem zgX {cs:List C}:C.fz bx (.row cs) = .row cs:=(show C.fz bx (.row cs) = .row cs from by rw[C.fz])
theorem zgY {i off:Nat}:C.fz bx (.ptr i off)=zo6 (bx[i]?) off:=(show C.fz bx (.ptr i off)=zo6 (bx[i]?) off from by rw[C.fz];rfl)
theorem zk3 {off:Nat} {cs:List C}:zo6 (some cs) off = .row ((C.frzL cs).drop off):=(rfl)
theorem v7 {f:Fn} {a b:Array Value}:Value.oneCell' (.func f a b)=true:=(rfl)
theorem zfU {id e k:Nat} {rows:List (List C)} {fp fo:Nat->Option Nat}:C.re fp fo (.own id e k rows)=zon (fo id) e k rows:=(show C.re fp fo (.own id e k rows)=zon (fo id) e k rows from by rw[C.re];rfl)
theorem zhg {i off:Nat} {fp fo:Nat->Option Nat}:C.re fp fo (.ptr i off)=zlc (fp i) off:=(show C.re fp fo (.ptr i off)=zlc (fp i) off from by rw[C.re];rfl)
theorem zcR {i off:Nat} {fp:Nat->Option Nat}:C.sel fp (.ptr i off)=zlc (fp i) off:=(show C.sel fp (.ptr i off)=zlc (fp i) off from by rw[C.sel];rfl)
theorem zkD {j e k:Nat} {rows:List (List C)}:zon (some j) e k rows = .own j e k rows:=(rfl)
theorem zki {j off:Nat}:zlc (some j) off = .ptr j off:=(rfl)
theorem ziN {off:Nat}:zlc none off = .any:=(rfl)
theorem zjr {v:Value} {fr:Fr}:C.fy nx fr bx (.sc v) = .sc v:=(show C.fy nx fr bx (.sc v) = .sc v from by rw[C.fy])
theorem zk4 {k:Nat} {rows:List (List C)} {fr:Fr}:C.fy nx fr bx (.sl k rows) = .sl k rows:=(show C.fy nx fr bx (.sl k rows) = .sl k rows from by rw[C.fy])
theorem zj5 {i off k n cap:Nat} {fr:Fr}:C.fy nx fr bx (.bs i off k n cap)=Z7 nx fr i off k n cap:=(show C.fy nx fr bx (.bs i off k n cap)=Z7 nx fr i off k n cap from by rw[C.fy])
theorem zhf {i off k n cap i2 e k2 cap2:Nat} {rows:List (List C)} {r:Fr}:Z7 nx ((i2,e,k2,rows,cap2) :: r) i off k n cap=if i=i2/\off=0/\k=k2/\n=rows.length/\cap=cap2 then .own nx e k2 rows else Z7 (nx+1) r i off k n cap:=(show Z7 nx ((i2,e,k2,rows,cap2) :: r) i off k n cap=if i=i2/\off=0/\k=k2/\n=rows.length/\cap=cap2 then .own nx e k2 rows else Z7 (nx+1) r i off k n cap from by rw[Z7])
theorem zfB {cs:List C} {fp fo:Nat->Option Nat}:C.re fp fo (.agg cs) = .agg (C.reL fp fo cs):=(show C.re fp fo (.agg cs) = .agg (C.reL fp fo cs) from by rw[C.re])
theorem zfP {cs:List C} {fp fo:Nat->Option Nat}:C.re fp fo (.tup cs) = .tup (C.reL fp fo cs):=(show C.re fp fo (.tup cs) = .tup (C.reL fp fo cs) from by rw[C.re])
theorem zho {fn:Fn} {fs cs:List C} {fp fo:Nat->Option Nat}:C.re fp fo (.clo fn fs cs) = .clo fn (C.reL fp fo fs) (C.reL fp fo cs):=(show C.re fp fo (.clo fn fs cs) = .clo fn (C.reL fp fo fs) (C.reL fp fo cs) from by rw[C.re])
theorem zeW {fp fo:Nat->Option Nat}:C.reL fp fo [] = []:=(show C.reL fp fo [] = [] from by rw[C.reL])
theorem ug {r:List C} {fp fo:Nat->Option Nat}:C.reL fp fo (c :: r)=C.re fp fo c :: C.reL fp fo r:=(show C.reL fp fo (c :: r)=C.re fp fo c :: C.reL fp fo r from by rw[C.reL])
theorem zcb {cs:List C} {fp:Nat->Option Nat}:C.sel fp (.agg cs) = .agg (C.selL fp cs):=(show C.sel fp (.agg cs) = .agg (C.selL fp cs) from by rw[C.sel])
theorem zbB {fn:Fn} {fs cs:List C} {fp:Nat->Option Nat}:C.sel fp (.clo fn fs cs) = .clo fn (C.selL fp fs) (C.selL fp cs):=(show C.sel fp (.clo fn fs cs) = .clo fn (C.selL fp fs) (C.selL fp cs) from by rw[C.sel])
theorem zao {fp:Nat->Option Nat}:C.selL fp [] = []:=(show C.selL fp [] = [] from by rw[C.selL])
theorem MW {r:List C} {fp:Nat->Option Nat}:C.selL fp (c :: r)=C.sel fp c :: C.selL fp r:=(show C.selL fp (c :: r)=C.sel fp c :: C.selL fp r from by rw[C.selL])
theorem zfK {cs:List C} :C.fz bx (.agg cs) = .agg (C.fzL bx cs):=(show C.fz bx (.agg cs) = .agg (C.fzL bx cs) from by rw[C.fz])
theorem zhF {cs:List C} :C.fz bx (.tup cs) = .tup (C.fzL bx cs):=(show C.fz bx (.tup cs) = .tup (C.fzL bx cs) from by rw[C.fz])
theorem zhy {fn:Fn} {fs cs:List C} :C.fz bx (.clo fn fs cs) = .clo fn (C.fzL bx fs) (C.fzL bx cs):=(show C.fz bx (.clo fn fs cs) = .clo fn (C.fzL bx fs) (C.fzL bx cs) from by rw[C.fz])
theorem zc1:C.fzL bx [] = []:=(show C.fzL bx [] = [] from by rw[C.fzL])
theorem ua {r:List C} :C.fzL bx (c :: r)=C.fz bx c :: C.fzL bx r:=(show C.fzL bx (c :: r)=C.fz bx c :: C.fzL bx r from by rw[C.fzL])
theorem zg4 {cs:List C} {fr:Fr}:C.fy nx fr bx (.agg cs) = .agg (C.fyL nx fr bx cs):=(show C.fy nx fr bx (.agg cs) = .agg (C.fyL nx fr bx cs) from by rw[C.fy])
theorem zhl {cs:List C} {fr:Fr}:C.fy nx fr bx (.tup cs) = .tup (C.fyL nx fr bx cs):=(show C.fy nx fr bx (.tup cs) = .tup (C.fyL nx fr bx cs) from by rw[C.fy])
theorem zdj {fr:Fr}:C.fyL nx fr bx [] = []:=(show C.fyL nx fr bx [] = [] from by rw[C.fyL])
theorem uI {r:List C} {fr:Fr}:C.fyL nx fr bx (c :: r)=C.fy nx fr bx c :: C.fyL nx fr bx r:=(show C.fyL nx fr bx (c :: r)=C.fy nx fr bx c :: C.fyL nx fr bx r from by rw[C.fyL])
theorem zbq {cs:List C}:C.frz (.agg cs) = .agg (C.frzL cs):=(show C.frz (.agg cs) = .agg (C.frzL cs) from by rw[C.frz])
theorem zes {fn:Fn} {fs cs:List C}:C.frz (.clo fn fs cs) = .clo fn (C.frzL fs) (C.frzL cs):=(show C.frz (.clo fn fs cs) = .clo fn (C.frzL fs) (C.frzL cs) from by rw[C.frz])
theorem zam:C.frzL [] = []:=(show C.frzL [] = [] from by rw[C.frzL])
theorem M1 {r:List C}:C.frzL (c :: r)=C.frz c :: C.frzL r:=(show C.frzL (c :: r)=C.frz c :: C.frzL r from by rw[C.frzL])
theorem zge {cs:List C} {id:Nat}:C.dg id (.agg cs) = .agg (C.dgL id cs):=(show C.dg id (.agg cs) = .agg (C.dgL id cs) from by rw[C.dg])
theorem zgN {cs:List C} {id:Nat}:C.dg id (.tup cs) = .tup (C.dgL id cs):=(show C.dg id (.tup cs) = .tup (C.dgL id cs) from by rw[C.dg])
theorem zgj {fn:Fn} {fs cs:List C} {id:Nat}:C.dg id (.clo fn fs cs) = .clo fn (C.dgL id fs) (C.dgL id cs):=(show C.dg id (.clo fn fs cs) = .clo fn (C.dgL id fs) (C.dgL id cs) from by rw[C.dg])
theorem zdz {id:Nat}:C.dgL id [] = []:=(show C.dgL id [] = [] from by rw[C.dgL])
theorem zay {r:List C} {id:Nat}:C.dgL id (c :: r)=C.dg id c :: C.dgL id r:=(show C.dgL id (c :: r)=C.dg id c :: C.dgL id r from by rw[C.dgL])
theorem zfI {cs:List C} {n:Nat}:C.sh n (.agg cs) = .agg (C.shL n cs):=(show C.sh n (.agg cs) = .agg (C.shL n cs) from by rw[C.sh])
theorem zfn {cs:List C} {n:Nat}:C.sh n (.tup cs) = .tup (C.shL n cs):=(show C.sh n (.tup cs) = .tup (C.shL n cs) from by rw[C.sh])
theorem zfq {fn:Fn} {fs cs:List C} {n:Nat}:C.sh n (.clo fn fs cs) = .clo fn (C.shL n fs) (C.shL n cs):=(show C.sh n (.clo fn fs cs) = .clo fn (C.shL n fs) (C.shL n cs) from by rw[C.sh])
theorem zbd {n:Nat}:C.shL n [] = []:=(show C.shL n [] = [] from by rw[C.shL])
theorem un {r:List C} {n:Nat}:C.shL n (c :: r)=C.sh n c :: C.shL n r:=(show C.shL n (c :: r)=C.sh n c :: C.shL n r from by rw[C.shL])
theorem uK {id:Nat}:zai id [] = []:=(rfl)
theorem znU {id u:Nat} {r:List (Nat×C)}:zai id ((u,c) :: r)=(u,c.dg id) :: zai id r:=(rfl)
theorem za5 {id:Nat}:N9 id [] = []:=(rfl)
theorem zli {id:Nat} {cs:List C} {r:List (List C)}:N9 id (cs :: r)=C.dgL id cs :: N9 id r:=(rfl)
theorem Ml {l:List UInt8}:C.cellB (.str l)=true:=(rfl)
theorem xX {l:List UInt8}:C.partB (.str l)=true:=(rfl)
theorem M8 {l:List UInt8}:C.cells (.str l) = [.str l]:=(rfl)
theorem ut {k:Nat} {rows:List (List C)}:C.cellB (.sl k rows)=true:=(rfl)
theorem zaL {k:Nat} {rows:List (List C)}:C.partB (.sl k rows)=true:=(rfl)
theorem za6 {k:Nat} {rows:List (List C)}:C.cells (.sl k rows) = [.sl k rows]:=(rfl)
theorem MJ {id e k:Nat} {rows:List (List C)}:C.cellB (.own id e k rows)=true:=(rfl)
theorem xB {id e k:Nat} {rows:List (List C)}:C.partB (.own id e k rows)=true:=(rfl)
theorem Mj {id e k:Nat} {rows:List (List C)}:C.cells (.own id e k rows) = [.own id e k rows]:=(rfl)
theorem Mv {fn:Fn} {fs cs:List C}:C.cellB (.clo fn fs cs)=true:=(rfl)
theorem xF {fn:Fn} {fs cs:List C}:C.partB (.clo fn fs cs)=true:=(rfl)
theorem MF {fn:Fn} {fs cs:List C}:C.cells (.clo fn fs cs) = [.clo fn fs cs]:=(rfl)
theorem zaT {v:Value}:C.cellB (.sc v)=v.oneCell':=(rfl)
theorem ue {v:Value}:C.partB (.sc v)=v.oneCell':=(rfl)
theorem zaN {v:Value}:C.cells (.sc v) = [.sc v]:=(rfl)
theorem Mu {cs:List C}:C.partB (.agg cs)=true:=(rfl)
theorem Md {cs:List C}:C.cells (.agg cs)=cs:=(rfl)
theorem zdM {k:IntKind} {n:Int}:Value.oneCell' (.int k n)=true:=(rfl)
theorem zad {b:Bool}:Value.oneCell' (.bool b)=true:=(rfl)
theorem MG {a:Option Addr} {n m:Nat}:Value.oneCell' (.slice a n m)=true:=(rfl)
theorem Nh {s:ByteArray}:Value.oneCell' (.string s)=true:=(rfl)
theorem ziH {k:Nat} {cs:List C}:XT k 0 cs = []:=(rfl)
theorem zjd {k n:Nat} {cs:List C}:XT k (n+1) cs=cs.take k :: XT k n (cs.drop k):=(rfl)
theorem zkk {i:Nat}:Vu i [] = []:=(rfl)
theorem znq {i:Nat} {r:List C}:Vu i (c :: r)=(i,c) :: Vu (i+1) r:=(rfl)
theorem zey:ziK (.sc (.bool true)) X Y ⟨⟩ ⟨⟩=X:=zg9
theorem vQ:ziK (.sc (.bool false)) X Y ⟨⟩ ⟨⟩=Y:=zbh
theorem br {b:Bool} (hx:b=true->X) (hy:b=false->Y):ziK (.sc (.bool b)) X Y ⟨⟩ ⟨⟩:=ABr.mk hx hy
theorem Jp {f:FuncId} {args fargs a1:List C} {fbx:List (List C)} {q:Nat} {post:C->List (List C)->Nat->Prop} (ι κ:List Nat) (hf:Jz P G f a1 fbx q post) (hq:κ.length=q) (hι:ι.Nodup) (hκ:κ.Nodup) (hb:∀ i∈ι,i<bx.length)
  (ha:C.reL (Xf ι) (Xf κ) args=a1) (hx:(ι.map fun i=>C.reL (Xf ι) (Xf κ) (bx.getD i []))=fbx) (hK:∀ r fbx' n,post r fbx' n->K3 (r.re (upB ι bx.length) (upO nx)) (Qu ι κ fbx' n ⟨tm,bx,nx,lg⟩)):X8 P G f args fargs ⟨tm,bx,nx,lg⟩ K3 ⟨⟩:=
 .inr <| .inr <| .inr <| .inl ⟨ι,κ,post,hι,hκ,hb,by rw[ha,hq];exact hx▸hf,hK⟩
theorem zkK {K4:C->List (List C)->Nat->Prop} {f:FuncId} {args a1:List C} {fbx:List (List C)} {post:C->List (List C)->Nat->Prop} (ι:List Nat) (hf:Jz P G f a1 fbx 0 post) (hι:ι.Nodup) (hb:∀ i∈ι,i<bx.length)
  (ha:C.reL (Xf ι) (Xf []) args=a1) (hx:(ι.map fun i=>C.reL (Xf ι) (Xf []) (bx.getD i []))=fbx) (hK:∀ r fbx' n,post r fbx' n->K4 (r.re (upB ι bx.length) (upO nx)) (Qu ι [] fbx' n ⟨tm,bx,nx,lg⟩).bx (nx+n)):zpv P G f args ⟨tm,bx,nx,lg⟩ K4 ⟨⟩:=
 ⟨ι,post,hι,hb,by rw[ha];exact hx▸hf,hK⟩
theorem ziB {f:FuncId} {args fargs:List C} {r:C} (hf:zoj P f args bx r) (hK:K3 r ⟨tm,bx,nx,lg⟩):X8 P G f args fargs ⟨tm,bx,nx,lg⟩ K3 ⟨⟩:=.inr <| .inr <| .inr <| .inr ⟨r,hf,hK⟩
theorem ziQ {e s1 b1 k by' m i off n cap:Nat} {kd:LK} {z1 z:Option (List Value)} {xs cs:List C} (hl:lay P t=some ⟨.slice e,s1,b1,z1⟩) (hle:lay P e=some ⟨kd,k,by',z⟩) (hx:d.xs? k bx=some (m,xs)) (hb:bx[i]?=some cs) (hxl:xs.length=m*k) (hfit:off+n*k<=cs.length)
  (hK:K3 (.sc (.int .i64 ((min m n:Nat):Int))) ⟨tm,bx.set i (spl cs off (xs.take (min m n*k))),nx,lg⟩):NX P t (.bs i off k n cap) d ⟨tm,bx,nx,lg⟩ K3 ⟨⟩:=by
 show X2 P t _ _ _ _
 unfold X2
 simp only[hl,hle,hx,hb]
 exact ⟨trivial,hxl,hfit,hK⟩
theorem zlI {e s1 b1 k by' m:Nat} {c:C} {kd:LK} {z1 z:Option (List Value)} {xs:List C} (hl:lay P t=some ⟨.slice e,s1,b1,z1⟩) (hle:lay P e=some ⟨kd,k,by',z⟩) (hx:d.xs? k bx=some (m,xs)) (hc:c.rows? k=some []) (hb:∀ i off k n c',c≠.bs i off k n c') (hxl:xs.length=m*k)
  (hK:K3 (.sc (.int .i64 0)) ⟨tm,bx,nx,lg⟩):NX P t c d ⟨tm,bx,nx,lg⟩ K3 ⟨⟩:=by
 show X2 P t _ _ _ _
 unfold X2
 simp only[hl,hle,hx]
 cases c<;>first
  | exact absurd rfl (hb _ _ _ _ _)
  | (simp only[hc];exact ⟨hxl,hK⟩)
theorem zlW {e s1 b1 k by' i off n cap:Nat} {kd:LK} {z1:Option (List Value)} {z:List Value} {cs:List C} (hl:lay P t=some ⟨.slice e,s1,b1,z1⟩) (hle:lay P e=some ⟨kd,k,by',some z⟩) (hb:bx[i]?=some cs) (hz:z.length=k) (hk:0<k) (h1:(z.all Value.oneCell')=true) (hfit:off+n*k<=cs.length)
  (hK:K3 .any ⟨tm,bx.set i (spl cs off (List.replicate n (z.map zB)).flatten),nx,lg⟩):xE P t (.bs i off k n cap) ⟨tm,bx,nx,lg⟩ K3 ⟨⟩:=by
 show Ud P t _ _ _
 unfold Ud
 simp only[hl,hle,hb]
 exact ⟨trivial,hz,hk,h1,hfit,hK⟩
theorem HM {e s1 b1 k by' m:Nat} {kd:LK} {z1:Option (List Value)} {z:List Value} {xs:List C} (hl:lay P t=some ⟨.slice e,s1,b1,z1⟩) (hle:lay P e=some ⟨kd,k,by',some z⟩) (hx:d.xs? k bx=some (m,xs)) (hz:z.length=k) (hk:0<k) (h1:(z.all Value.oneCell')=true) (hxl:xs.length=m*k) (hm:0<m) (h63:m<=9223372036854775807) (hby:m*by'<=140737488355328)
  (hK:∀ cap,m<=cap->cap<=9223372036854775807->K3 (.bs bx.length 0 k m cap) ⟨tm,bx++[xs++List.replicate ((cap-m)*k) .any],nx,lg⟩):VV P t (.sc (.slice none 0 0)) d ⟨tm,bx,nx,lg⟩ K3 ⟨⟩:=by
 show Jt P t _ _ _ _
 unfold Jt
 simp only[hl,hle,hx]
 exact ⟨hz,hk,h1,hxl,hm,h63,hby,fun c h1 h2=>hK c h1 (by unfold maxLen at h2;omega)⟩
theorem vE {e s1 b1 k by' m:Nat} {kd:LK} {z1:Option (List Value)} {z:List Value} {xs:List C} (hl:lay P t=some ⟨.slice e,s1,b1,z1⟩) (hle:lay P e=some ⟨kd,k,by',some z⟩) (hx:d.xs? k bx=some (m,xs)) (hz:z.length=k) (hk:0<k) (h1:(z.all Value.oneCell')=true) (hxl:xs.length=m*k) (h63:m<=9223372036854775807) (hby:m*by'<=140737488355328)
  (h0:m=0->K3 (.tight k []) ⟨tm,bx,nx,lg⟩) (hK:0<m->∀ cap,m<=cap->cap<=9223372036854775807->K3 (.bs bx.length 0 k m cap) ⟨tm,bx++[xs++List.replicate ((cap-m)*k) .any],nx,lg⟩):VV P t (.tight k []) d ⟨tm,bx,nx,lg⟩ K3 ⟨⟩:=by
 show Jt P t _ _ _ _
 unfold Jt
 simp only[hl,hle,hx]
 exact ⟨hz,hk,h1,hxl,trivial,h63,hby,h0,fun hm c h1 h2=>hK hm c h1 (by unfold maxLen at h2;omega)⟩
theorem XU {e s1 b1 k by' m i off n cap:Nat} {kd:LK} {z1:Option (List Value)} {z:List Value} {xs cs:List C} (hl:lay P t=some ⟨.slice e,s1,b1,z1⟩) (hle:lay P e=some ⟨kd,k,by',some z⟩) (hx:d.xs? k bx=some (m,xs)) (hz:z.length=k) (hk:0<k) (h1:(z.all Value.oneCell')=true) (hxl:xs.length=m*k)
  (hb:bx[i]?=some cs) (hfit:off+cap*k<=cs.length) (hn:n<=cap) (h63:n+m<=9223372036854775807) (hby:(n+m)*by'<=140737488355328)
  (hK1:n+m<=cap->K3 (.bs i off k (n+m) cap) ⟨tm,bx.set i (spl cs (off+n*k) xs),nx,lg⟩)
  (hK2:cap<n+m->∀ c',n+m<=c'->c'<=9223372036854775807->K3 (.bs bx.length 0 k (n+m) c') ⟨tm,bx++[(cs.drop off).take (n*k)++xs++List.replicate ((c'-(n+m))*k) .any],nx,lg⟩):VV P t (.bs i off k n cap) d ⟨tm,bx,nx,lg⟩ K3 ⟨⟩:=by
 show Jt P t _ _ _ _
 unfold Jt
 simp only[hl,hle,hx,hb]
 exact ⟨hz,hk,h1,hxl,trivial,hfit,hn,h63,hby,hK1,fun h c h1 h2=>hK2 h c h1 (by unfold maxLen at h2;omega)⟩
theorem zcC {tn e s1 b1 s2 b2 k by':Nat} {kn kq:IntKind} {kd:LK} {z1 z2:Option (List Value)} {z:List Value} {q:Int} (hl:lay P t=some ⟨.slice e,s1,b1,z1⟩) (hln:lay P tn=some ⟨.int kn,s2,b2,z2⟩) (hle:lay P e=some ⟨kd,k,by',some z⟩) (hz:z.length=k) (hk:0<k) (h1:(z.all Value.oneCell')=true)
  (hq:0<q) (h63:q<=9223372036854775807) (hby:q*by'<=140737488355328) (hK:∀ c',q.toNat<=c'->c'<=maxLen->K3 (.bs bx.length 0 k q.toNat c') ⟨tm,bx++[(List.replicate q.toNat (z.map zB)).flatten++List.replicate ((c'-q.toNat)*k) .any],nx,lg⟩) :
  vm P t tn (.sc (.slice none 0 0)) (.sc (.int kq q)) ⟨tm,bx,nx,lg⟩ K3 ⟨⟩:=by
 show HU P t tn _ _ _ _
 unfold HU
 simp only[hl,hln,hle]
 exact ⟨hz,hk,h1,hq,h63,hby,hK⟩
theorem zqj {tn e s1 b1 s2 b2 k by' i off n cap:Nat} {kn kq:IntKind} {kd:LK} {z1 z2:Option (List Value)} {z:List Value} {cs:List C} {q:Int} (hl:lay P t=some ⟨.slice e,s1,b1,z1⟩) (hln:lay P tn=some ⟨.int kn,s2,b2,z2⟩) (hle:lay P e=some ⟨kd,k,by',some z⟩) (hz:z.length=k) (hk:0<k) (h1:(z.all Value.oneCell')=true)
  (hb:bx[i]?=some cs) (hfit:off+cap*k<=cs.length) (hn:n<=cap) (hq:0<q) (h63:(n:Int)+q<=9223372036854775807) (hby:((n:Int)+q)*by'<=140737488355328) (hg:(cap:Int)<n+q)
  (hK:∀ c',n+q.toNat<=c'->c'<=9223372036854775807->K3 (.bs bx.length 0 k (n+q.toNat) c') ⟨tm,bx++[(cs.drop off).take (n*k)++(List.replicate q.toNat (z.map zB)).flatten++List.replicate ((c'-(n+q.toNat))*k) .any],nx,lg⟩):vm P t tn (.bs i off k n cap) (.sc (.int kq q)) ⟨tm,bx,nx,lg⟩ K3 ⟨⟩:=by
 show HU P t tn _ _ _ _
 unfold HU
 simp only[hl,hln,hle,hb]
 exact ⟨hz,hk,h1,trivial,hfit,hn,hq,h63,hby,hg,fun c h1 h2=>hK c h1 (by unfold maxLen at h2;omega)⟩
def opB (P:Program) (fn:Func) (code:Code) (b:Nat->List Bool):Bool:=P.follows .mixedOrders&&(!(fn.name == "runtime.NumGoroutine")&&jz fn.ntmps b code)
theorem znG {fn:Func} {code:Code} {b:Nat->List Bool} (h:opB P fn code b=true):P.follows .mixedOrders=true:=(Bool.and_eq_true_iff.1 h).1
theorem zlP {fn:Func} {code:Code} {b:Nat->List Bool} (h:opB P fn code b=true):(fn.name == "runtime.NumGoroutine")=false:=by
 have:=(Bool.and_eq_true_iff.1 (Bool.and_eq_true_iff.1 h).2).1
 simpa using this
theorem zlU {fn:Func} {code:Code} {b:Nat->List Bool} (h:opB P fn code b=true):jz fn.ntmps b code=true:=(Bool.and_eq_true_iff.1 (Bool.and_eq_true_iff.1 h).2).2
theorem Fun.ofF {f:FuncId} {fn:Func} {code:Code} {args:List C} {r:C} {n:Nat} (b:Nat->List Bool) (hf:P.funcs[f]?=some fn) (hb:fn.body=some code) (hN:args.length<=fn.ntmps) (ho:opB P fn code b=true)
  (h:ZF P G ⟨0,none,b⟩ code (xO P fn.results.toList (fun c σ=>∃ (fr:Fr) (src:Src),ze1 fr σ.bx/\Z9 src=true/\src.length=n/\CLe src 0 (c.fy σ.nx fr σ.bx) r) ⟨⟩) ⟨Vu 0 args,[],0,0⟩ ⟨⟩ ⟨⟩):Fun P G f args r n:=Fun.of_awpF b (znG ho) hf hb (zlP ho) hN (zlU ho) h
theorem Jz.of {f:FuncId} {fn:Func} {code:Code} {args:List C} {bx:List (List C)} {q:Nat} {post:C->List (List C)->Nat->Prop} (b:Nat->List Bool) (hf:P.funcs[f]?=some fn) (hb:fn.body=some code) (hN:args.length<=fn.ntmps) (ho:opB P fn code b=true)
  (h:ZF P G ⟨bx.length,none,b⟩ code (xO P fn.results.toList (fun c σ=>∃ r bx' n,(post r bx' n/\bx.length<=bx'.length)/\∃ src:Src,Z9 src=true/\src.length=n/\za src bx'.length σ.bx bx'/\CLe src bx'.length c r) ⟨⟩) ⟨Vu 0 args,bx,q,0⟩ ⟨⟩ ⟨⟩):Jz P G f args bx q post:=Jz.of_awp b (znG ho) hf hb (zlP ho) hN (zlU ho) h
theorem G9 {f:FuncId} {args fargs:List C} {r:C} {n:Nat} (gargs:List C) (hf:Fun P G f gargs r n) (hr:r.freshB=true) (hl:Jc bx args gargs) (hK:K3 (r.sh nx) ⟨tm,bx,nx+n,lg⟩):X8 P G f args fargs ⟨tm,bx,nx,lg⟩ K3 ⟨⟩:=.inr <| .inr <| .inl ⟨gargs,r,n,hl,hf,hr,hK⟩
theorem call {f:FuncId} {args fargs:List C} {r:C} {n:Nat} (hf:Fun P G f fargs r n) (hK:K3 (r.sh nx) ⟨tm,bx,nx+n,lg⟩):X8 P G f args fargs ⟨tm,bx,nx,lg⟩ K3 ⟨⟩:=.inl ⟨r,n,hf,hK⟩
theorem uB {f:FuncId} {args:List C} {r:C} {n:Nat} (hf:Fun P G f args r n) (hK:K2 (r.sh nx) (nx+n)):Mt P G f args nx K2 ⟨⟩:=vd.mk hf hK
theorem Fun.less {f:FuncId} {args args':List C} {r:C} {n:Nat} (hf:Fun P G f args' r n) (hl:ze [] 0 args args'):Fun P G f args r n:=⟨hf.1,fun R vs hg ha=>hf.2 R vs hg (by
 have:=zx.less _ _ _ hl ha
 refine zx.ext (Ext.refl R) ⟨fun i b hb=>?_,fun id x hx=>?_⟩ _ _ this
 ·simp at hb
 ·have hx:Q2 [] zH.T id=some x:=hx
  simp[Q2]at hx)⟩
theorem MY {f:FuncId} {args fargs a1:List C} {fbx fbx':List (List C)} {r:C} {n q:Nat} (ι κ:List Nat) (hf:ZM P G f a1 fbx q r fbx' n) (hq:κ.length=q) (hι:ι.Nodup) (hκ:κ.Nodup) (hb:∀ i∈ι,i<bx.length)
  (ha:C.reL (Xf ι) (Xf κ) args=a1) (hx:(ι.map fun i=>C.reL (Xf ι) (Xf κ) (bx.getD i []))=fbx) (hK:K3 (r.re (upB ι bx.length) (upO nx)) (Qu ι κ fbx' n ⟨tm,bx,nx,lg⟩)):X8 P G f args fargs ⟨tm,bx,nx,lg⟩ K3 ⟨⟩:=
 .inr <| .inl ⟨ι,κ,r,fbx',n,hι,hκ,hb,by rw[ha,hq];exact hx▸hf,hK⟩
theorem range {A B:Nat->(Exit->St->Prop)->St->Prop} {ps:List Tmp} {f:FuncId} {first cap first' cap':List C} {bx':List (List C)} (items:List (List C)) (sf:Nat->Bool) (m:Nat) (I:Nat->St) (hit:UM P G f first' cap' bx' items) (e1:C.selL (Yu m) first=first') (e2:C.selL (Yu m) cap=cap') (e3:(bx.drop m).map (C.selL (Yu m))=bx')
  (hp:p<=m) (hm:m<=bx.length) (hlen:∀ it∈items,it.length=ps.length) (hI:∀ k,k<=items.length->(I k).bx.length=m) (hw:zS m ⟨[],bx,nx,lg⟩ ((I 0).wt []))
  (hbody:∀ k it,items[k]?=some it->(∀ j,j<k->sf j=false)->A m (ziv (B m (x6 m (Uz m tm) (sf k) (I (k+1)) Q ⟨⟩ ⟨⟩)) ⟨⟩) ((I k).wt (Ze ps it (Uz m tm))))
  (hdone:(∀ j,j<items.length->sf j=false)->Q .normal ((I items.length).wt (Uz m tm))):zeS P G p A B Q ps (.clo (.func f) first cap) ⟨tm,bx,nx,lg⟩ ⟨⟩ ⟨⟩ ⟨⟩:=
 ⟨items,sf,m,I,hp,hm,by rw[e1,e2];exact e3▸hit,hlen,hI,hw,hbody,hdone⟩
theorem loop {B:(Exit->St->Prop)->St->Prop} {ι:Type} (I:ι->St) (ok:ι->Prop) (μ:ι->Nat) (i0:ι) (h0:ok i0) (hw:zS p σ (I i0))
  (hr:∀ i,ok i->B (vi (fun σ'=>∃ j,ok j/\μ j<μ i/\zS p σ' (I j)) Q ⟨⟩ ⟨⟩) (I i)):ziq p B Q σ ⟨⟩ ⟨⟩:=⟨ι,I,ok,μ,i0,h0,hw,hr⟩
theorem Fun.of {f:FuncId} {fn:Func} {code:Code} {args:List C} {r:C} {n:Nat} (b:Nat->List Bool) (hf:P.funcs[f]?=some fn) (hb:fn.body=some code) (hN:args.length<=fn.ntmps) (ho:opB P fn code b=true)
  (h:ZF P G ⟨0,none,b⟩ code (xO P fn.results.toList (fun c σ=>∃ src:Src,Z9 src=true/\src.length=n/\CLe src 0 (c.fz σ.bx) r) ⟨⟩) ⟨Vu 0 args,[],0,0⟩ ⟨⟩ ⟨⟩):Fun P G f args r n:=Fun.of_awp b (znG ho) hf hb (zlP ho) hN (zlU ho) h
theorem ZM.of {f:FuncId} {fn:Func} {code:Code} {args:List C} {bx bx':List (List C)} {r:C} {q n:Nat} (b:Nat->List Bool) (hf:P.funcs[f]?=some fn) (hb:fn.body=some code) (hN:args.length<=fn.ntmps) (ho:opB P fn code b=true) (hlen:bx.length<=bx'.length)
  (h:ZF P G ⟨bx.length,none,b⟩ code (xO P fn.results.toList (fun c σ=>∃ src:Src,Z9 src=true/\src.length=n/\za src bx'.length σ.bx bx'/\CLe src bx'.length c r) ⟨⟩) ⟨Vu 0 args,bx,q,0⟩ ⟨⟩ ⟨⟩):ZM P G f args bx q r bx' n:=ZM.of_awp b (znG ho) hf hb (zlP ho) hN (zlU ho) hlen h
theorem UM.of {f:FuncId} {fn:Func} {code:Code} {first cap:List C} {bx items:List (List C)} (b:Nat->List Bool) (hf:P.funcs[f]?=some fn) (hb:fn.body=some code) (hN:first.length+1+cap.length<=fn.ntmps) (ho:opB P fn code b=true)
  (h:∀ (l:Nat) (sf:Nat->Bool),ZF P G ⟨0,some ⟨l,items,sf⟩,b⟩ code (xO P fn.results.toList (fun c σ=>ziF items sf σ.lg) ⟨⟩) ⟨Vu 0 (first++[.sc (.func (.yield l) #[] #[])]++cap),bx,0,0⟩ ⟨⟩ ⟨⟩):UM P G f first cap bx items:=UM.of_awp b (znG ho) hf hb (zlP ho) hN (zlU ho) h
theorem zoB {i m k n cap b:Nat} {cs xs:List C} {z1:List Value} (A:List C) (hbx:bx[i]?=some cs) (h1:z1.length=k) (h2:0<k) (h3:(z1.all Value.oneCell')=true) (h4:0<m) (hp:p<=i) (hl:cs.length=cap*k) (hn:n<=cap) (hc:cap<=9223372036854775807)
  (h5:n+m<=9223372036854775807) (h6:(n+m)*b<=140737488355328) (hA:C.reL (JK i) some (cs.take (n*k)++xs)=A)
  (hK:∀ c',n+m<=c'->c'<=9223372036854775807->K3 (.bs i 0 k (n+m) c') ⟨UX (JK i) some tm,QP i (A++List.replicate ((c'-(n+m))*k) .any) bx,nx,lg⟩):zlD (some (m,xs)) p k b z1 (.bs i 0 k n cap) ⟨tm,bx,nx,lg⟩ K3 ⟨⟩:=by
 refine ⟨h1,h2,h3,h4,?_⟩
 simp only[hbx]
 exact ⟨trivial,hp,hl,hn,hc,h5,h6,fun c' q1 q2=>by rw[hA];exact hK c' q1 (by unfold maxLen at q2;omega)⟩
theorem zar (k:Nat):((k:Int)+1).toNat=k+1:=by omega
theorem zgT.mk {B:(Exit->St->Prop)->St->Prop} {ι:Type} (I:ι->St) (ok:ι->Prop) (μ:ι->Nat) (i0:ι) (h0:ok i0) (hw:zS p σ (I i0))
  (hr:∀ i,ok i->B (zka (fun σ'=>∃ j,ok j/\μ j<μ i/\zS p σ' (I j)) Q) (I i)):zgT p B Q σ:=⟨ι,I,ok,μ,i0,h0,hw,hr⟩
end
attribute [push_cast] zjE eq_self iff_self List.append_eq zo4 zp6 zpR zp5 zo8 zo9 zpa zoK u7 zoq zkg zgr zft znc zml znl zma zns zjw zkd zmV ziA znF znv zpj zpd zp9 zpU zj1 zn6 zlh zkv znK zos zoY zmu zk1 zmY zfe zjZ zgZ zdi zhr zhV zgp zc3 zdv zel zgz zlt znr znk zmf zeY xS zpD zhb zjB zk5 znE zmm MH zaR zeC Nq Nw ya zaD N3 zhw MA zae zkV zks zmR znx zm4 zlm zl6 zl3 zkt zlS zgt zhm zg2 zha zfE zkf zmM zlM ziV ziY zaX ud MB xP UK UH kN znI zjV zgM zgA uW zac zfj zfz zcd zdB zfb zhN G3 Nt zed zeb zgs zgi Me Nl zb9 zbS Hf Hu zbf zdf kY H0 zep zbg xo ML zek zcD zkB zjU xd znA zjQ zah znt zfi zaq zlR zap ze9 zfW zdp zjq zoZ zhU zej zaK zd9 zkL zc8 zgw uu zbW ME xp zm5 MV GP xn HR xq N2 zbk zdR zbC NM zdZ GA zcF zaw zc7 zfw zhB zgx zcK zdA zdd zdU zcy zdk zb6 zb4 zc4 zcM zbE zeI zdV ze6 zd0 zoV zct zlr uF uE zkN Hp v8 MD zaz Gs Na zkE zfr zdH zpP zoJ ze8 zgk zpW zag zaj zbH zeV zaY vU zaH zdW zdr zgK zf5 zgg zfJ zgL zp4 zph zoI zpf zql zpb zo2 zj2 zl5 zjl zkA zhA zj3 zmD zmK zaQ zaB uG zmc zqi zjo zqa zn9 znj zpS zn4 zaM zbR zf2 zaG zmT zmk zht zf1 zfA u9 za1 uS zce za2 zmb ux zfd zeU zfl zds zcu zlx zlY zkz zgW zpK zkF zlg zkQ zn5 zoy zpy zoX zou zo1 zpc zlC zne zpX zoc zn7 zeo zm7 zn8 zoi zm3 zog zn0 zo5 zjh zjH zhc zny zoe zjO znn zjb znw zfT zg6 zfY zjx zfQ zf9 ziO zoD zoz zow zoO zf7 ziD zkI zdy zfx zfS zgf zj0 zi7 xC zcB zfk ze7 zhH zje ziz zjG ziT zak zmp za3 zcq zbt zgR zhq zhx zi9 zgH zfH zbP zkj zgo zaJ zg3 zcw zfc zjX zg8 zkh zfR zgX zgY zk3 v7 zfU zhg zcR zkD zki ziN zjr zk4 zj5 zhf zfB zfP zho zeW ug zcb zbB zao MW zfK zhF zhy zc1 ua zg4 zhl zdj uI zbq zes zam M1 zge zgN zgj zdz zay zfI zfn zfq zbd un uK znU za5 zli Ml xX M8 ut zaL za6 MJ xB Mj Mv xF MF zaT ue zaN Mu Md zdM zad MG Nh ziH zjd zkk znq zey vQ
attribute [push_cast] Int.ofNat_eq_natCast Bool.not_false Bool.not_true Bool.true_beq Bool.false_beq beq_self_eq_true Bool.true_and ziX zji znT zkn zjS List.map_cons List.map_nil List.getElem?_cons_zero List.getElem?_cons_succ List.getElem?_toArray List.getElem?_nil List.drop_zero List.drop_succ_cons List.drop_nil List.take_succ_cons List.take_zero List.take_nil List.length_cons List.length_nil List.getD_cons_zero List.getD_cons_succ List.set_cons_zero List.set_cons_succ List.cons_append List.nil_append List.append_nil List.all_cons List.all_nil List.tail_cons List.tail_nil List.headD_cons List.headD_nil List.flatten_cons List.flatten_nil List.replicate_succ List.replicate_zero Bool.and_self Bool.and_true Bool.true_and Bool.not_true Bool.not_false Option.bind_some Option.map_some Option.map_none if_true if_false true_and and_true and_self decide_true decide_false Int.ofNat_le Int.ofNat_lt Int.natCast_inj zar Int.toNat_natCast Nat.zero_add Nat.add_zero List.toList_toArray Int.add_zero Int.zero_add Bool.not_not Int.sub_zero Int.natCast_pos Nat.sub_zero Int.cast_ofNat_Int Nat.one_mul Nat.mul_one
namespace CA
theorem cl {P:Program} {G:zk} {f:FuncId} {args fargs:List C} {r:C} {n nx lg:Nat} {tm:List (Nat×C)} {bx:List (List C)} {K3:C->St->Prop} (hf:Fun P G f fargs r n) (hK:K3 (r.sh nx) ⟨tm,bx,nx+n,lg⟩):X8 P G f args fargs ⟨tm,bx,nx,lg⟩ K3 ⟨⟩:=call hf hK
end CA
namespace CB
theorem cl {P:Program} {G:zk} {f:FuncId} {args:List C} {r:C} {n nx:Nat} {K2:C->Nat->Prop} (hf:Fun P G f args r n) (hK:K2 (r.sh nx) (nx+n)):Mt P G f args nx K2 ⟨⟩:=uB hf hK
end CB
end
section
open Go.RowKit
def C.stayB:C->Bool
 | .sc _ | .str _ | .sl _ _ | .tight _ _ | .row _ | .any=>true
 | _=>false
theorem zgv {c:C} (h:c.stayB=true):c.frz=c:=by cases c<;>simp[C.stayB]at h<;>simp[C.frz]
theorem zjR {c:C} {fp fo:Nat->Option Nat} (h:c.stayB=true):c.re fp fo=c:=by cases c<;>simp[C.stayB]at h<;>simp[C.re]
theorem ziI {c:C} {src:Src} {n:Nat} (h:c.stayB=true):CLe src n c c:=by cases c<;>simp[C.stayB]at h<;>simp[CLe]
theorem VB:∀ {cs:List C},(cs.all C.stayB)=true->C.frzL cs=cs
 | [],_=>by simp[C.frzL]
 | c :: r,h=>by
  simp only[List.all_cons,Bool.and_eq_true]at h
  rw[C.frzL,zgv h.1,VB h.2]
theorem zC {fp fo:Nat->Option Nat}:∀ {cs:List C},(cs.all C.stayB)=true->C.reL fp fo cs=cs
 | [],_=>by simp[C.reL]
 | c :: r,h=>by
  simp only[List.all_cons,Bool.and_eq_true]at h
  rw[C.reL,zjR h.1,zC h.2]
theorem zQ {src:Src} {n:Nat}:∀ {cs:List C},(cs.all C.stayB)=true->ze src n cs cs
 | [],_=>by simp[ze]
 | c :: r,h=>by
  simp only[List.all_cons,Bool.and_eq_true]at h
  rw[ze]
  exact ⟨ziI h.1,zQ h.2⟩
theorem zkC {src:Src} {n:Nat} (c:C):CLe src n c .any:=by cases c<;>simp[CLe]
theorem YW {src:Src} {n:Nat}:∀ {cs:List C} {m:Nat},cs.length=m->ze src n cs (List.replicate m .any)
 | [],_,h=>by subst h;simp[ze]
 | c :: r,_,h=>by
  subst h
  rw[List.length_cons,List.replicate_succ,ze]
  exact ⟨zkC c,YW rfl⟩
theorem zbm {src:Src} {n:Nat}:∀ {a b c d:List C},ze src n a c->ze src n b d->ze src n (a++b) (c++d)
 | [],b,[],d,_,h=>h
 | [],b,x :: c,d,h,_=>by simp[ze]at h
 | x :: a,b,[],d,h,_=>by simp[ze]at h
 | x :: a,b,y :: c,d,h,h'=>by
  rw[List.cons_append,List.cons_append,ze]
  rw[ze]at h
  exact ⟨h.1,zbm h.2 h'⟩
def qm (k:Nat) (rows:List (List C)) (c:Nat):List C:=rows.flatten++List.replicate ((c-rows.length)*k) .any
theorem zG {k:Nat}:∀ {rows:List (List C)},(∀ r∈rows,r.length=k)->rows.flatten.length=rows.length*k
 | [],_=>by simp
 | r :: rs,h=>by
  rw[List.flatten_cons,List.length_append,h r List.mem_cons_self,zG fun x hx=>h x (List.mem_cons_of_mem _ hx),List.length_cons,Nat.succ_mul,Nat.add_comm]
theorem Jm {k c:Nat} {rows:List (List C)} (h:∀ r∈rows,r.length=k) (hc:rows.length<=c):(qm k rows c).length=c*k:=by
 unfold qm
 rw[List.length_append,zG h,List.length_replicate,←Nat.add_mul]
 congr 1;omega
abbrev qU (rows:List (List C)):Prop:=∀ r∈rows,(r.all C.stayB)=true
theorem YG {rows:List (List C)} (h:qU rows):(rows.flatten.all C.stayB)=true:=by
 rw[List.all_eq_true]
 intro c hc
 obtain ⟨r,hr,hc⟩:=List.mem_flatten.1 hc
 exact List.all_eq_true.1 (h r hr) c hc
theorem zD {k c:Nat} {rows:List (List C)} (h:qU rows):((qm k rows c).all C.stayB)=true:=by
 unfold qm
 rw[List.all_append,YG h,Bool.true_and,List.all_eq_true]
 intro c hc
 obtain ⟨_,rfl⟩:=List.mem_replicate.1 hc
 rfl
theorem QL {k n:Nat}:∀ {rows:List (List C)},(∀ r∈rows,r.length=k)->rows.flatten.take (n*k)=(rows.take n).flatten:=by
 induction n with
 | zero=>intro rows _;simp
 | succ n ih =>
  intro rows h
  cases rows with
  | nil=>simp
  | cons r rs =>
   have hr:=h r List.mem_cons_self
   rw[List.take_succ_cons,List.flatten_cons,List.flatten_cons,List.take_append,List.take_of_length_le (by rw[hr,Nat.succ_mul];omega),hr,show (n+1)*k-k=n*k by rw[Nat.succ_mul];omega,ih fun x hx=>h x (List.mem_cons_of_mem _ hx)]
theorem VD {k n:Nat}:∀ {rows:List (List C)},(∀ r∈rows,r.length=k)->rows.flatten.drop (n*k)=(rows.drop n).flatten:=by
 induction n with
 | zero=>intro rows _;simp
 | succ n ih =>
  intro rows h
  cases rows with
  | nil=>simp
  | cons r rs =>
   have hr:=h r List.mem_cons_self
   rw[List.drop_succ_cons,List.flatten_cons,List.drop_append,List.drop_of_length_le (by rw[hr,Nat.succ_mul];omega),hr,List.nil_append,show (n+1)*k-k=n*k by rw[Nat.succ_mul];omega,ih fun x hx=>h x (List.mem_cons_of_mem _ hx)]
theorem Jg {src:Src} {m k c:Nat} {rows:List (List C)} {cs:List C} (hk:∀ r∈rows,r.length=k) (hs:qU rows) (hc:rows.length<=c) (hl:cs.length=c*k) (ht:cs.take (rows.length*k)=rows.flatten):ze src m cs (qm k rows c):=by
 have h1:cs=rows.flatten++cs.drop (rows.length*k):=by rw[←ht,List.take_append_drop]
 rw[h1]
 unfold qm
 refine zbm (zQ (YG hs)) (YW ?_)
 rw[List.length_drop,hl,←Nat.sub_mul]
theorem X7 {cs xs:List C} {p:Nat} (h:p+xs.length<=cs.length):(spl cs p xs).length=cs.length:=by
 simp[spl];omega
theorem Ub {cs L X:List C} {p q:Nat} (hp:p<=L.length) (hq:q=p+X.length) (hL:cs.take L.length=L) (hc:L.length+X.length<=cs.length) :
  (spl (spl cs q (L.drop p)) p X).take (L.length+X.length)=L.take p++(X++L.drop p):=by
 subst hq
 apply List.ext_getElem?
 intro j
 have hcur:∀ j,j<L.length->cs[j]?=L[j]?:=fun j hj=>by
  have h:=congrArg (fun l=>l[j]?) hL
  simp only[List.getElem?_take,if_pos hj]at h
  exact h
 simp only[spl,List.getElem?_take,List.getElem?_append,List.getElem?_drop,List.length_take,List.length_append,List.length_drop]
 repeat' (first | split | omega)
 all_goals (first | rfl | omega | exact (List.getElem?_eq_none (by omega)).symm | (congr 1;omega) | (rw[hcur _ (by omega)];first | done | (congr 1;omega)) | (symm;rw[List.getElem?_eq_none];simp;omega) | (rw[List.getElem?_eq_none];simp;omega) | skip)
theorem kT {cs L X:List C} {p q:Nat} (hp:p<=L.length) (hq:q=p+X.length) (hL:cs.take p=L.take p) (hc:L.length+X.length<=cs.length) :
  (spl (spl cs p X) q (L.drop p)).take (L.length+X.length)=L.take p++(X++L.drop p):=by
 subst hq
 apply List.ext_getElem?
 intro j
 have hcur:∀ j,j<p->cs[j]?=L[j]?:=fun j hj=>by
  have h:=congrArg (fun l=>l[j]?) hL
  simp only[List.getElem?_take,if_pos hj]at h
  exact h
 simp only[spl,List.getElem?_take,List.getElem?_append,List.getElem?_drop,List.length_take,List.length_append,List.length_drop]
 repeat' (first | split | omega)
 all_goals (first | rfl | omega | exact (List.getElem?_eq_none (by omega)).symm | (congr 1;omega) | (rw[hcur _ (by omega)];first | done | (congr 1;omega)) | (symm;rw[List.getElem?_eq_none];simp;omega) | (rw[List.getElem?_eq_none];simp;omega) | skip)
theorem zjJ {cs L Z:List C} {p q n:Nat} (hq:q<=L.length) (hpq:p<=q) (hL:cs.take L.length=L) (hn:n=p+(L.length-q)) (hc:L.length<=cs.length) (hz:n+Z.length<=cs.length) :
  (spl (spl cs p (L.drop q)) n Z).take n=L.take p++L.drop q:=by
 subst hn
 apply List.ext_getElem?
 intro j
 have hcur:∀ j,j<L.length->cs[j]?=L[j]?:=fun j hj=>by
  have h:=congrArg (fun l=>l[j]?) hL
  simp only[List.getElem?_take,if_pos hj]at h
  exact h
 simp only[spl,List.getElem?_take,List.getElem?_append,List.getElem?_drop,List.length_take,List.length_append,List.length_drop]
 repeat' (first | split | omega)
 all_goals (first | rfl | omega | exact (List.getElem?_eq_none (by omega)).symm | (congr 1;omega) | (rw[hcur _ (by omega)];first | done | (congr 1;omega)) | (symm;rw[List.getElem?_eq_none];simp;omega) | (rw[List.getElem?_eq_none];simp;omega) | skip)
theorem M2 {P:Program} {f:FuncId} {fn:Func} {t e tR:TypeId} {s1 b1 k by':Nat} {kd:LK} {z1 z:Option (List Value)} (hf:P.funcs[f]?=some fn) (hname:(fn.name == "runtime.NumGoroutine")=false) (hb:fn.body.isNone=true) (hn:Extern.findNext fn=none)
  (he:Extern.find fn=some (Extern.SlicesOverlaps.overlaps #[t,t] #[tR])) (hl:lay P t=some ⟨.slice e,s1,b1,z1⟩) (hle:lay P e=some ⟨kd,k,by',z⟩) {id e' k' i off n c:Nat} {rows bx:List (List C)} {cs:List C} (hbx:bx[i]?=some cs) (hcs:cs≠[]) (hrows:rows≠[]) (hn0:0<n) :
  zoj P f [.own id e' k' rows,.bs i off k n c] bx (.sc (.bool false)):=by
 intro B R L vs hB hO hr
 obtain ⟨v1,us,rfl,h1,hr⟩:=zd.1 hr
 obtain ⟨v2,us,rfl,h2,hr⟩:=zd.1 hr
 rw[zh]at hr
 subst hr
 refine ⟨.bool false,?_,zn.2 rfl⟩
 rw[run_callFunc_extern hf hname hb hn he]
 have ht:=zV hl rfl
 have hz:∀ w,(Go.sizeOf e).run P w = .ok k w:=fun w=>qB hle w
 obtain ⟨hT,a,cap,hv1,_⟩:=Yl.1 h1
 obtain ⟨b,hbi,ad,rfl,had⟩:=q9.1 h2
 obtain ⟨us,ty,e1,e2,e3,e4⟩:=hB.box i b cs hbi hbx
 have hsz:us.size≠0:=by
  have:=zu e2
  simp only[Array.length_toList]at this
  rw[this]
  exact fun h=>hcs (List.eq_nil_of_length_eq_zero h)
 rcases hO.own id e' k' v1 hT with hnil | ⟨g,n',cap',cur,ty',q1,q2,q3,q4,q5,q6,q7,q8⟩ | ⟨_,_,_,_,hmap,_⟩
 rotate_right
 ·rw[hv1]at hmap;unfold Up at hmap;cases hmap
 ·rw[hnil]at hv1
  obtain ⟨_,h0,_⟩:=Value.slice.inj hv1
  exact absurd (List.eq_nil_of_length_eq_zero h0.symm) hrows
 ·rw[q1]
  obtain rfl:=had (by omega)
  have hne:g≠b:=fun h=>q7 (h▸List.mem_of_getElem? hbi)
  rw[Lib.run_overlaps_apart R.w t tR e ht k hz ⟨g,0,none⟩ ⟨b,off,none⟩ n' cap' n c hne ty' ty cur.size us.size (by simp[World.shape?,q3]) (by simp[World.shape?,e1]) hsz (frozen_of_row R.w g 0 _ _ q3) (frozen_of_row R.w g _ _ _ q3)]
  rfl
theorem ZI {m k:Nat} {z:List C} (hz:z.length=k):(List.replicate m z).flatten.length=m*k:=by
 have h:=zG (k:=k) (rows:=List.replicate m z) fun r hr=>by rw[(List.mem_replicate.1 hr).2];exact hz
 rw[h,List.length_replicate]
section
variable {P:Program} {t tn e s1 b1 s2 b2 k by' m i off n cap nx lg:Nat} {kd:LK} {kn kq:IntKind} {z1 z2 z3:Option (List Value)} {z:List Value} {cs xs:List C} {bx:List (List C)} {tm:List (Nat×C)} {d:C} {q:Int} {K3:C->St->Prop}
theorem zi5 (hl:lay P t=some ⟨.slice e,s1,b1,z1⟩) (hln:lay P tn=some ⟨.int kn,s2,b2,z2⟩) (hle:lay P e=some ⟨kd,k,by',some z⟩) (hz:z.length=k) (hk:0<k) (h1:(z.all Value.oneCell')=true)
  (hb:bx[i]?=some cs) (hfit:off+cap*k<=cs.length) (hn:n<=cap) (hq:0<q) (h63:(n:Int)+q<=9223372036854775807) (hby:((n:Int)+q)*by'<=140737488355328) (hg:(cap:Int)<n+q)
  (hK:∀ c' B,n+q.toNat<=c'->c'<=9223372036854775807->B.length=c'*k->B.take (n*k)=(cs.drop off).take (n*k)->K3 (.bs bx.length 0 k (n+q.toNat) c') ⟨tm,bx++[B],nx,lg⟩):vm P t tn (.bs i off k n cap) (.sc (.int kq q)) ⟨tm,bx,nx,lg⟩ K3 ⟨⟩:=by
 have hnk:n*k<=cap*k:=Nat.mul_le_mul_right _ hn
 refine zqj hl hln hle hz hk h1 hb hfit hn hq h63 hby hg fun c' g1 g2=>hK c' _ g1 g2 ?_ ?_
 ·rw[List.length_append,List.length_append,ZI (k:=k) (by simpa using hz),List.length_replicate,List.length_take,List.length_drop,Nat.min_eq_left (by omega),←Nat.add_mul,←Nat.add_mul]
  congr 1;omega
 ·rw[List.append_assoc,List.take_left' (by rw[List.length_take,List.length_drop];omega)]
theorem Xa (hl:lay P t=some ⟨.slice e,s1,b1,z1⟩) (hle:lay P e=some ⟨kd,k,by',z3⟩) (hx:d.xs? k bx=some (m,xs)) (hb:bx[i]?=some cs) (hxl:xs.length=m*k) (hfit:off+n*k<=cs.length)
  (hK:∀ B,B=spl cs off (xs.take (min m n*k))->B.length=cs.length->K3 (.sc (.int .i64 ((min m n:Nat):Int))) ⟨tm,bx.set i B,nx,lg⟩):NX P t (.bs i off k n cap) d ⟨tm,bx,nx,lg⟩ K3 ⟨⟩:=
 ziQ hl hle hx hb hxl hfit (hK _ rfl (by
  have h1:min m n*k<=n*k:=Nat.mul_le_mul_right _ (Nat.min_le_right _ _)
  exact X7 (by rw[List.length_take];omega)))
theorem zkq (hl:lay P t=some ⟨.slice e,s1,b1,z1⟩) (hle:lay P e=some ⟨kd,k,by',some z⟩) (hb:bx[i]?=some cs) (hz:z.length=k) (hk:0<k) (h1:(z.all Value.oneCell')=true) (hfit:off+n*k<=cs.length)
  (hK:∀ B Z,B=spl cs off Z->Z.length=n*k->B.length=cs.length->K3 .any ⟨tm,bx.set i B,nx,lg⟩):xE P t (.bs i off k n cap) ⟨tm,bx,nx,lg⟩ K3 ⟨⟩:=by
 have hZ:(List.replicate n (z.map zB)).flatten.length=n*k:=ZI (by simpa using hz)
 exact zlW hl hle hb hz hk h1 hfit (hK _ _ rfl hZ (X7 (by omega)))
end
theorem V6 {k i off n c:Nat} {bx:List (List C)} {cs:List C} (hb:bx[i]?=some cs) (h:off+n*k<=cs.length):C.xs? k bx (.bs i off k n c)=some (n,(cs.drop off).take (n*k)):=by
 simp[C.xs?,hb,h]
theorem YX {k c i:Nat} {rows:List (List C)} (hk:∀ r∈rows,r.length=k) (hi:i<=rows.length):((qm k rows c).drop (i*k)).take ((rows.length-i)*k)=rows.flatten.drop (i*k):=by
 have hf:=zG hk
 have h1:i*k<=rows.length*k:=Nat.mul_le_mul_right _ hi
 unfold qm
 rw[List.drop_append_of_le_length (by omega),List.take_left' (by rw[List.length_drop,hf,Nat.sub_mul])]
theorem XO {k i:Nat} {rows:List (List C)} {x:List C} (hk:∀ r∈rows,r.length=k):rows.flatten.take (i*k)++(x++rows.flatten.drop (i*k))=(rows.take i++x :: rows.drop i).flatten:=by
 rw[QL hk,VD hk];simp
theorem HZ {bx:List (List C)} {i e k c:Nat} {rows:List (List C)} {cs:List C} (hb:bx[i]?=some cs) (hc:0<c) (h1:rows.length<=c) (h2:c<=9223372036854775807) (hl:cs.length=c*k) (hk:∀ r∈rows,r.length=k) (hs:(cs.all C.stayB)=true) (ht:cs.take (rows.length*k)=rows.flatten) :
  ze1 [(i,e,k,rows,c)] bx:=by
 refine ⟨by simp,fun x hx=>?_⟩
 rw[List.mem_singleton]at hx
 subst hx
 exact ⟨cs,hb,hc,h1,by unfold maxLen;exact h2,hl,hk,by rw[VB hs];exact ht⟩
theorem zdt {k c:Nat} {rows:List (List C)} (hk:∀ r∈rows,r.length=k):(qm k rows c).take (rows.length*k)=rows.flatten:=by
 unfold qm;rw[List.take_left' (zG hk)]
theorem zy {bx:List (List C)} {i e k c:Nat} {rows:List (List C)} (hb:bx[i]?=some (qm k rows c)) (hc:0<c) (h1:rows.length<=c) (h2:c<=9223372036854775807) (hk:∀ r∈rows,r.length=k) (hs:qU rows):ze1 [(i,e,k,rows,c)] bx:=
 HZ hb hc h1 h2 (Jm hk h1) hk (zD hs) (zdt hk)
theorem vC {k c i:Nat} {rows:List (List C)} {row:List C} (hk:∀ r∈rows,r.length=k) (hr:row.length=k) (hi:i<rows.length):(qm k rows c).take (i*k)++row++(qm k rows c).drop (i*k+k)=qm k (rows.set i row) c:=by
 have hf:=zG hk
 have h1:(i+1)*k<=rows.length*k:=Nat.mul_le_mul_right _ hi
 rw[Nat.succ_mul]at h1
 unfold qm
 rw[List.take_append_of_le_length (by omega),List.drop_append_of_le_length (by omega),←Nat.succ_mul,QL hk,VD hk,List.length_set,←List.append_assoc]
 congr 1
 rw[List.set_eq_take_append_cons_drop,if_pos hi]
 simp
def RLe:List (List C)->List (List C)->Prop
 | [],[]=>True
 | a :: r,b :: s=>ze [] 0 a b/\RLe r s
 | _,_=>False
theorem RLe.len:∀ {a b:List (List C)},RLe a b->a.length=b.length
 | [],[],_=>rfl
 | _ :: r,_ :: s,h=>by rw[List.length_cons,List.length_cons,RLe.len h.2]
theorem ze.len {src:Src} {n:Nat}:∀ {a b:List C},ze src n a b->a.length=b.length
 | [],[],_=>rfl
 | [],_ :: _,h=>by simp[ze]at h
 | _ :: _,[],h=>by simp[ze]at h
 | _ :: r,_ :: s,h=>by
  rw[ze]at h
  rw[List.length_cons,List.length_cons,ze.len h.2]
theorem zcY {R:Env} {c d:C} {v:Value} (h:CLe [] 0 c d) (hr:Rep R zH c v):Rep R zH d v:=by
 refine Rep.ext (Ext.refl R) (T:=Jh [] 0 zH) ⟨fun i b hb=>?_,fun id x hx=>?_⟩ _ _ (Rep.less _ _ _ h hr)
 ·simp at hb
 ·have hx:Q2 [] zH.T id=some x:=hx
  simp[Q2]at hx
theorem Uw {R:Env} {b:Nat}:∀ {cs ds:List C} {o:Nat},ze [] 0 cs ds->zK R cs b o->zK R ds b o
 | [],[],_,_,h=>h
 | [],_ :: _,_,h,_=>by simp[ze]at h
 | _ :: _,[],_,h,_=>by simp[ze]at h
 | c :: r,d :: s,o,h,hr=>by
  rw[ze]at h
  obtain ⟨⟨v,h1,h2,h3,h4⟩,h5⟩:=qf.1 hr
  exact qf.2 ⟨⟨v,h1,h2,zcY h.1 h3,h4⟩,Uw h.2 h5⟩
theorem ko {R:Env} {k b:Nat}:∀ {a c:List (List C)} {o:Nat},RLe a c->zM R a k b o->zM R c k b o
 | [],[],_,_,h=>h
 | x :: r,y :: s,o,h,hr=>by
  unfold zM at hr ⊢
  exact ⟨(ze.len h.1).symm.trans hr.1,Uw h.1 hr.2.1,ko h.2 hr.2.2⟩
theorem zaF {R:Env} {L:Loc} {id e k:Nat} {a c:List (List C)} {v:Value} (h:RLe a c) (hr:Rep R L (.own id e k a) v):Rep R L (.own id e k c) v:=by
 obtain ⟨h1,ad,cap,h2,h3,h4,h5⟩:=Yl.1 hr
 refine Yl.2 ⟨h1,ad,cap,by rw[h2,h.len],by rw[←h.len];exact h3,h4,?_⟩
 rcases h5 with h5 | ⟨b,o,h5,h6⟩
 ·subst h5
  have:=h.len
  exact .inl (List.eq_nil_of_length_eq_zero (by simpa using this.symm))
 ·exact .inr ⟨b,o,h5,ko h h6⟩
theorem Fun.resX {P:Program} {G:zk} {f:FuncId} {args:List C} {r r':C} {n:Nat} (hf:Fun P G f args r n) (h:∀ R L v,Rep R L r v->Rep R L r' v):Fun P G f args r' n:=
 ⟨hf.1,fun R vs hg ha=>(hf.2 R vs hg ha).mono fun e w' ⟨v,R',L',h1,h2,h3,h4⟩=>⟨v,R',L',h1,h2,h3,h _ _ _ h4⟩⟩
theorem uv {R:Env} {L:Loc} {cs ds:List C} {v:Value} (h:∀ vs,zx R L cs vs->zx R L ds vs) (hr:Rep R L (.agg cs) v):Rep R L (.agg ds) v:=by
 obtain ⟨vs,h1,h2⟩:=jJ.1 hr
 exact jJ.2 ⟨vs,h1,h _ h2⟩
theorem Yi {R:Env} {L:Loc} {c d:C} {cs ds:List C} {vs:List Value} (h:∀ v,Rep R L c v->Rep R L d v) (h':∀ vs,zx R L cs vs->zx R L ds vs) (hr:zx R L (c :: cs) vs):zx R L (d :: ds) vs:=by
 obtain ⟨v,us,rfl,h1,h2⟩:=zd.1 hr
 exact zd.2 ⟨v,us,rfl,h _ h1,h' _ h2⟩
end
section
open Go.RowKit
def zdX (k:Nat) (rows:List (List C)) (r:C) (bx':List (List C)) (n:Nat):Prop:=
 n=0/\((rows≠[]/\∃ c,rows.length<=c/\c<=9223372036854775807/\r = .bs 1 0 k rows.length c/\bx' = [[],qm k rows c])∨(rows = []/\(r = .sc (.slice none 0 0)/\bx' = []∨r = .bs 0 0 k 0 0/\bx' = [[]])))
def znZ (k m:Nat) (ins:List (List C)) (r:C) (bx':List (List C)) (n:Nat):Prop:=
 n=0/\∃ c,ins.length<=c/\c<=9223372036854775807/\(r = .bs 0 0 k ins.length c/\bx' = [qm k ins c]∨r = .bs 1 0 k ins.length c/\bx' = [List.replicate m .any,qm k ins c])
section
variable {G:zk}
theorem XE (rows:List (List C)) (hk:∀ r∈rows,r.length=6) (hs:qU rows) (hl:rows.length<=100000) :
  Jz Tryz.prog G 178 [.sl 6 rows] [] 0 (zdX 6 rows):=by
 refine Jz.bySlice (fun h=>?_) (fun h a cap hr=>?_)
 ·refine Jz.of (fun i=>if i=1000000+22 then [true,true] else []) Tryz.func178 rfl (zp rfl) (by kernel_rfl) ?_;dsimp only[Tryz.f178]
  push_cast -dsimp
  refine ⟨h,XU Zw Zo rfl rfl (by decide) rfl (zG hk) rfl (Nat.le_refl _) (Nat.le_refl _) (by omega) (by omega) (fun hc=>absurd hc ?_) (fun _ c hc hm=>?_)⟩
  ·have:=List.length_pos_iff.2 h;omega
  ·push_cast -dsimp
   rw[Nat.zero_add]at hc
   refine ⟨_,_,_,⟨⟨rfl,.inl ⟨h,c,hc,hm,rfl,rfl⟩⟩,Nat.zero_le _⟩,[],rfl,rfl,?_,by push_cast -dsimp [zb,za,CLe,ze]⟩
   push_cast -dsimp [zb,za,CLe,ze]
   exact zQ (zD hs)
 ·cases a with
  | none =>
   refine Jz.of (fun i=>if i=1000000+22 then [true,true] else []) Tryz.func178 rfl (zp rfl) (by kernel_rfl) ?_;dsimp only[Tryz.f178]
   push_cast -dsimp [hr,Option.isNone_none]
   exact ⟨_,_,_,⟨⟨rfl,.inr ⟨h,.inl ⟨rfl,rfl⟩⟩⟩,Nat.zero_le _⟩,[],rfl,rfl,by push_cast -dsimp [zb,za,CLe,ze],by push_cast -dsimp [zb,za,CLe,ze]⟩
  | some a =>
   refine Jz.of (fun i=>if i=1000000+22 then [true,true] else []) Tryz.func178 rfl (zp rfl) (by kernel_rfl) ?_;dsimp only[Tryz.f178]
   push_cast -dsimp [hr,Option.isNone_some]
   have hx:C.xs? 6 [[]] (C.sc (.slice (some a) 0 cap))=some (0,[]):=by simp[C.xs?,hr]
   refine XU Zw Zo hx rfl (by decide) rfl rfl rfl (Nat.le_refl _) (Nat.le_refl _) (by omega) (by omega) (fun _=>?_) (fun hc=>absurd hc (by omega))
   push_cast -dsimp
   exact ⟨_,_,_,⟨⟨rfl,.inr ⟨h,.inr ⟨rfl,rfl⟩⟩⟩,Nat.zero_le _⟩,[],rfl,rfl,by (push_cast -dsimp [zb,za,CLe,ze];simp[spl,ze]),by push_cast -dsimp [zb,za,CLe,ze]⟩
theorem Vp (rows:List (List C)) (x:List C) (i c e:Nat) (hk:∀ r∈rows,r.length=6) (hx:x.length=6) (hs:qU rows) (hsx:(x.all C.stayB)=true) (hl:rows.length<=100000) (hi:i<=rows.length) (hc:rows.length<=c) (hcm:c<=9223372036854775807) :
  Jz Tryz.prog G 177 [.bs 0 0 6 rows.length c,.sc (.int .i64 i),.own 0 e 6 [x]] [qm 6 rows c] 1 (znZ 6 (c*6) (rows.take i++x :: rows.drop i)):=by
 refine Jz.of (fun j=>if j=1000000+22 then [true,true] else if j=11 then [false,false,false,false,false,false,false,false,true] else if j=15 then [false,false,false,false,false,false,false,false,true] else []) Tryz.func177 rfl (zp rfl) (by kernel_rfl) ?_;dsimp only[Tryz.f177]
 push_cast -dsimp
 have hlen:(rows.take i++x :: rows.drop i).length=rows.length+1:=by simp;omega
 have hki:∀ r∈rows.take i++x :: rows.drop i,r.length=6:=fun r hr=>by
  rcases List.mem_append.1 hr with hr | hr
  ·exact hk r (List.mem_of_mem_take hr)
  ·rcases List.mem_cons.1 hr with rfl | hr
   ·exact hx
   ·exact hk r (List.mem_of_mem_drop hr)
 have hsi:qU (rows.take i++x :: rows.drop i):=fun r hr=>by
  rcases List.mem_append.1 hr with hr | hr
  ·exact hs r (List.mem_of_mem_take hr)
  ·rcases List.mem_cons.1 hr with rfl | hr
   ·exact hsx
   ·exact hs r (List.mem_of_mem_drop hr)
 have hbl:=Jm hk hc
 have hfl:=zG hk
 have hxl:[x].flatten.length=1*6:=by simp[hx]
 have hpre:(qm 6 rows c).take rows.flatten.length=rows.flatten:=by unfold qm;rw[List.take_left]
 refine ⟨hc,⟨by omega,hi⟩,br (fun h=>?_) (fun h=>?_)⟩
 ·push_cast -dsimp
  refine XU Zw Zo rfl rfl (by decide) rfl hxl rfl (by rw[hbl];omega) hc (by simp;omega) (by simp;omega) (fun h1=>?_) (fun h1 c' h2 h3=>?_)
  ·push_cast -dsimp
   have hi':i=rows.length:=of_decide_eq_true h
   refine ⟨_,_,_,⟨⟨rfl,c,by rw[hlen];exact h1,hcm,.inl ⟨rfl,rfl⟩⟩,Nat.le_refl _⟩,[],rfl,rfl,?_,by push_cast -dsimp [zb,za,CLe,ze,hlen]⟩
   push_cast -dsimp [zb,za,CLe,ze]
   have h6:rows.length*6+6<=c*6:=by have:rows.length+1<=c:=h1;omega
   refine Jg hki hsi (by rw[hlen];exact h1) (by rw[X7 (by rw[hbl,hx];exact h6),hbl]) ?_
   rw[hlen,hi',List.take_length,List.drop_length]
   unfold spl
   rw[←hfl,hpre,List.take_left' (by simp[hx,hfl];omega)]
   simp
  ·push_cast -dsimp
   have hi':i=rows.length:=of_decide_eq_true h
   have h2':rows.length+1<=c':=h2
   refine ⟨_,_,_,⟨⟨rfl,c',by rw[hlen];exact h2,h3,.inr ⟨rfl,rfl⟩⟩,Nat.le_of_ble_eq_true rfl⟩,[],rfl,rfl,?_,by push_cast -dsimp [zb,za,CLe,ze,hlen]⟩
   push_cast -dsimp [zb,za,CLe,ze]
   refine ⟨YW hbl,Jg hki hsi (by rw[hlen];exact h2) (by simp[hx,hbl];omega) ?_⟩
   rw[hlen,hi',List.take_length,List.drop_length,←hfl,hpre,List.take_left' (by simp[hx,hfl];omega)]
   simp
 ·have hne:i≠rows.length:=of_decide_eq_false h
  push_cast -dsimp
  refine ⟨⟨by omega,by omega⟩,br (fun h1=>?_) (fun h1=>?_)⟩
  ·have h1':(c:Int)<(rows.length:Int)+1:=of_decide_eq_true h1
   push_cast -dsimp
   (try simp only[lS]);repeat refine And.intro (by omega) ?_
   refine zi5 Zw zle Zo rfl (by decide) rfl rfl (by rw[hbl];omega) (by omega) (by omega) (by omega) (by omega) (by omega) (fun c' B h2 h3 hBl hBt=>?_)
   have e1:((rows.length:Int)+1-(i:Int)).toNat=rows.length+1-i:=by omega
   rw[e1]at h2 ⊢
   have e2:i+(rows.length+1-i)=rows.length+1:=by omega
   rw[e2]at h2 ⊢
   push_cast -dsimp
   (try simp only[lS]);repeat refine And.intro (by omega) ?_
   refine Xa Zw Zo rfl rfl hxl (by rw[hBl];omega) (fun B1 hB1 hl1=>?_)
   rw[hBl]at hl1
   push_cast -dsimp
   (try simp only[lS]);repeat refine And.intro (by omega) ?_
   have hbp:=YX (c:=c) hk hi
   refine Xa Zw Zo (V6 rfl (by rw[hbl];omega)) rfl (by rw[hbp,List.length_drop,hfl];omega) (by rw[hl1];omega) (fun B2 hB2 hl2=>?_)
   rw[hl1]at hl2
   have hX:[x].flatten.take (min [x].length (rows.length+1-i)*6)=x:=by
    rw[List.length_singleton,Nat.min_eq_left (by omega),List.take_of_length_le (by omega)];simp
   rw[hX]at hB1
   rw[hbp,show min (rows.length-i) (rows.length-i)*6=(rows.length-i)*6 by omega,List.take_of_length_le (by rw[List.length_drop,hfl];omega),hB1]at hB2
   push_cast -dsimp
   refine ⟨_,_,_,⟨⟨rfl,c',by rw[hlen];exact h2,h3,.inr ⟨rfl,rfl⟩⟩,Nat.le_of_ble_eq_true rfl⟩,[],rfl,rfl,?_,by push_cast -dsimp [zb,za,CLe,ze,hlen]⟩
   push_cast -dsimp [zb,za,CLe,ze]
   refine ⟨YW hbl,Jg hki hsi (by rw[hlen];exact h2) hl2 ?_⟩
   rw[hlen,←XO hk,hB2]
   have hg:=kT (cs:=B) (L:=rows.flatten) (X:=x) (p:=i*6) (q:=(i+1)*6) (by omega) (by omega) (by
    rw[hBt,List.drop_zero];unfold qm;rw[List.take_append_of_le_length (by omega)]) (by omega)
   rw[hfl,hx]at hg
   rw[←hg]
   congr 1;omega
  ·have h1':¬(c:Int)<(rows.length:Int)+1:=of_decide_eq_false h1
   push_cast -dsimp
   (try simp only[lS]);repeat refine And.intro (by omega) ?_
   refine ziB (M2 (P:=Tryz.prog) (tR:=4) Tryz.func211 (by kernel_rfl) (by kernel_rfl) (by kernel_rfl) (by kernel_rfl) Zw Zo rfl (List.ne_nil_of_length_pos (by rw[hbl];omega)) (by simp) (by omega)) ?_
   push_cast -dsimp
   (try simp only[lS]);repeat refine And.intro (by omega) ?_
   have hbp:=YX (c:=c) hk hi
   refine Xa Zw Zo (V6 rfl (by rw[hbl];omega)) rfl (by simp[hbl];omega) (by rw[hbl];omega) (fun B1 hB1 hl1=>?_)
   rw[hbl]at hl1
   rw[List.take_take,Nat.min_eq_left (by omega),show min (rows.length+1-i) (rows.length-i)*6=(rows.length-i)*6 by omega,hbp]at hB1
   push_cast -dsimp
   (try simp only[lS]);repeat refine And.intro (by omega) ?_
   refine Xa Zw Zo rfl rfl hxl (by rw[hl1];omega) (fun B2 hB2 hl2=>?_)
   rw[hl1]at hl2
   have hX:[x].flatten.take (min [x].length (rows.length+1-i)*6)=x:=by
    rw[List.length_singleton,Nat.min_eq_left (by omega),List.take_of_length_le (by omega)];simp
   rw[hX,hB1]at hB2
   push_cast -dsimp
   have hcc:rows.length+1<=c:=by omega
   refine ⟨_,_,_,⟨⟨rfl,c,by rw[hlen];exact hcc,hcm,.inl ⟨rfl,rfl⟩⟩,Nat.le_of_ble_eq_true rfl⟩,[],rfl,rfl,?_,by push_cast -dsimp [zb,za,CLe,ze,hlen]⟩
   push_cast -dsimp [zb,za,CLe,ze]
   refine Jg hki hsi (by rw[hlen];exact hcc) hl2 ?_
   rw[hlen,←XO hk,hB2]
   have hg:=Ub (cs:=qm 6 rows c) (L:=rows.flatten) (X:=x) (p:=i*6) (q:=(i+1)*6) (by omega) (by omega) hpre (by omega)
   rw[hfl,hx]at hg
   rw[←hg]
   congr 1;omega
theorem yS {e:Nat} (x:List C) (hx:x.length=6) (hsx:(x.all C.stayB)=true) :
  Jz Tryz.prog G 177 [.sc (.slice none 0 0),.sc (.int .i64 0),.own 0 e 6 [x]] [] 1 (fun r bx' n=>n=0/\∃ c,1<=c/\c<=9223372036854775807/\r = .bs 0 0 6 1 c/\bx' = [qm 6 [x] c]):=by
 refine Jz.of (fun j=>if j=1000000+22 then [true,true] else if j=11 then [false,false,false,false,false,false,false,false,true] else if j=15 then [false,false,false,false,false,false,false,false,true] else []) Tryz.func177 rfl (zp rfl) (by kernel_rfl) ?_;dsimp only[Tryz.f177]
 push_cast -dsimp
 refine HM Zw Zo rfl rfl (by decide) rfl (by simp[hx]) (by simp) (by simp) (by simp) (fun c h1 h2=>?_)
 push_cast -dsimp
 refine ⟨_,_,_,⟨⟨rfl,c,h1,h2,rfl,rfl⟩,Nat.zero_le _⟩,[],rfl,rfl,?_,by push_cast -dsimp [zb,za,CLe,ze]⟩
 push_cast -dsimp [zb,za,CLe,ze]
 have:=zQ (src:=[]) (n:=1) (zD (k:=6) (c:=c) (rows:=[x]) fun r hr=>by
  rw[List.mem_singleton.1 hr];exact hsx)
 unfold qm at this ⊢
 simpa using this
theorem zgC (rows:List (List C)) (i c:Nat) (hk:∀ r∈rows,r.length=6) (hs:qU rows) (hl:rows.length<=100000) (hi:i<rows.length) (hc:rows.length<=c) (hcm:c<=9223372036854775807) :
  ZM Tryz.prog G 236 [.bs 0 0 6 rows.length c,.sc (.int .i64 i),.sc (.int .i64 ((i:Int)+1))] [qm 6 rows c] 0 (.bs 0 0 6 (rows.length-1) c) [qm 6 (rows.take i++rows.drop (i+1)) c] 0:=by
 refine ZM.of (fun j=>if j=1000000+22 then [true,true] else if j=5 then [false,false,false,false,false,false,true,false] else []) Tryz.func236 rfl (zp rfl) (by kernel_rfl) (zp rfl) ?_;dsimp only[Tryz.f236]
 have h1:((i:Int)=(i:Int)+1)=False:=eq_false (by omega)
 have hbl:=Jm hk hc
 have hfl:=zG hk
 have hpre:(qm 6 rows c).take rows.flatten.length=rows.flatten:=by unfold qm;rw[List.take_left]
 have hlen:(rows.take i++rows.drop (i+1)).length=rows.length-1:=by simp;omega
 have hki:∀ r∈rows.take i++rows.drop (i+1),r.length=6:=fun r hr=>by
  rcases List.mem_append.1 hr with hr | hr
  ·exact hk r (List.mem_of_mem_take hr)
  ·exact hk r (List.mem_of_mem_drop hr)
 have hsi:qU (rows.take i++rows.drop (i+1)):=fun r hr=>by
  rcases List.mem_append.1 hr with hr | hr
  ·exact hs r (List.mem_of_mem_take hr)
  ·exact hs r (List.mem_of_mem_drop hr)
 have hbp:=YX (c:=c) (i:=i+1) hk hi
 push_cast -dsimp [h1]
 (try simp only[lS]);repeat refine And.intro (by omega) ?_
 have hxl:(List.drop ((i+1)*6) rows.flatten).length=(rows.length-(i+1))*6:=by rw[List.length_drop,hfl];omega
 refine XU Zw Zo (V6 rfl (by rw[hbl];omega)) rfl (by decide) rfl (by rw[hbp,hxl]) rfl (by rw[hbl];omega) (by omega) (by omega) (by omega) (fun _=>?_) (fun h=>absurd h (by omega))
 rw[hbp]
 have e1:i+(rows.length-(i+1))=rows.length-1:=by omega
 rw[e1]
 generalize hB1:spl (qm 6 rows c) (0+i*6) (List.drop ((i+1)*6) rows.flatten)=B1
 have hl1:B1.length=c*6:=by rw[←hB1,X7 (by rw[hbl,hxl];omega),hbl]
 push_cast -dsimp
 (try simp only[lS]);repeat refine And.intro (by omega) ?_
 refine zkq Zw Zo rfl rfl (by decide) rfl (by rw[hl1];omega) (fun B2 Z hB2 hZ hl2=>?_)
 rw[hl1]at hl2
 push_cast -dsimp
 refine ⟨[],rfl,rfl,?_,by push_cast -dsimp [zb,za,CLe,ze]⟩
 push_cast -dsimp [zb,za,CLe,ze]
 refine Jg hki hsi (by rw[hlen];omega) hl2 ?_
 have hg:=zjJ (cs:=qm 6 rows c) (L:=rows.flatten) (Z:=Z) (p:=i*6) (q:=(i+1)*6) (n:=(rows.length-1)*6) (by omega) (by omega) hpre (by omega) (by omega) (by rw[hZ];omega)
 rw[hlen,hB2,←hB1,List.flatten_append,←QL hk,←VD hk,←hg,Nat.zero_add]
end
end
section
structure zX where
 name:List UInt8
 ino:Int
deriving DecidableEq,Inhabited
structure zw where
 ino:Int
 kind:Int
 links:Int
 data:List UInt8
 parent:Int
 es:List zX
deriving DecidableEq,Inhabited
def zZ (xs:List zw):Prop:=xs.Pairwise fun a b=>a.ino<b.ino
def zF (n:Int) (xs:List zw):Bool:=xs.any fun x=>x.ino==n
def jb (n:Int) (xs:List zw):Nat:=(xs.filter fun x=>decide (x.ino<n)).length
def qg (n:Int) (xs:List zw):List zw:=xs.filter fun x=>x.ino != n
def YM (n:Int) (xs:List zw):Option zw:=xs.find? fun x=>x.ino==n
def QX (x:zw):List zw->List zw
 | []=>[x]
 | y :: r=>if x.ino<y.ino then x :: y :: r else y :: QX x r
def qP (x:zw) (xs:List zw):List zw:=QX x (qg x.ino xs)
theorem k8 (n:Int):∀ (xs:List zw) (i:Nat),i<=xs.length->(∀ t (h:t<xs.length),t<i->xs[t].ino<n)->(∀ t (h:t<xs.length),i<=t->n<=xs[t].ino)->jb n xs=i
 | [],i,h,_,_=>by simp at h;simp[jb,h]
 | x :: r,0,_,_,h2=>by
  have hx:n<=x.ino:=h2 0 (by simp) (Nat.le_refl _)
  have ih:=k8 n r 0 (Nat.zero_le _) (fun t h h'=>absurd h' (Nat.not_lt_zero _)) (fun t h _=>h2 (t+1) (by simp;omega) (Nat.zero_le _))
  unfold jb at ih ⊢
  rw[List.filter_cons_of_neg (by simp;omega)]
  exact ih
 | x :: r,i+1,h,h1,h2=>by
  have hx:x.ino<n:=h1 0 (by simp) (Nat.succ_pos _)
  have ih:=k8 n r i (by simpa using h) (fun t h h'=>h1 (t+1) (by simp;omega) (by omega)) (fun t h h'=>h2 (t+1) (by simp;omega) (by omega))
  unfold jb at ih ⊢
  rw[List.filter_cons_of_pos (by simp;omega),List.length_cons,ih]
theorem zih (n:Int) (xs:List zw) (i:Nat) (hi:i<xs.length) (h1:∀ t (h:t<xs.length),t<i->xs[t].ino<n) (h2:n<=xs[i].ino) (hR:zZ xs):zF n xs=decide (xs[i].ino=n):=by
 by_cases h:xs[i].ino=n
 ·rw[decide_eq_true h]
  exact List.any_eq_true.2 ⟨xs[i],List.getElem_mem hi,by simp[h]⟩
 ·rw[decide_eq_false h]
  apply Bool.eq_false_iff.2
  intro hh
  obtain ⟨y,hy,e⟩:=List.any_eq_true.1 hh
  obtain ⟨t,ht,rfl⟩:=List.getElem_of_mem hy
  have e:xs[t].ino=n:=by simpa using e
  rcases Nat.lt_trichotomy t i with h3 | h3 | h3
  ·have:=h1 t ht h3;omega
  ·subst h3;exact h e
  ·have:=(List.pairwise_iff_getElem.1 hR) i t hi ht h3;omega
theorem zbD (n:Int) (xs:List zw) (h1:∀ t (h:t<xs.length),xs[t].ino<n):zF n xs=false:=by
 apply Bool.eq_false_iff.2
 intro hh
 obtain ⟨y,hy,e⟩:=List.any_eq_true.1 hh
 obtain ⟨t,ht,rfl⟩:=List.getElem_of_mem hy
 have e:xs[t].ino=n:=by simpa using e
 have:=h1 t ht
 omega
theorem Hn {n:Int} {xs:List zw} (h:zF n xs=false):YM n xs=none:=by
 unfold YM zF at *
 rw[List.find?_eq_none]
 intro x hx hh
 rw[List.any_eq_false]at h
 exact h x hx hh
theorem uo (n:Int) (xs:List zw) (hR:zZ xs):∃ i,i<=xs.length/\(∀ t (h:t<xs.length),t<i->xs[t].ino<n)/\(∀ t (h:t<xs.length),i<=t->n<=xs[t].ino):=by
 induction xs with
 | nil=>exact ⟨0,Nat.le_refl _,fun t h=>absurd h (Nat.not_lt_zero _),fun t h=>absurd h (Nat.not_lt_zero _)⟩
 | cons x r ih =>
  by_cases hx:x.ino<n
  ·obtain ⟨i,h1,h2,h3⟩:=ih (List.pairwise_cons.1 hR).2
   refine ⟨i+1,by simp;omega,fun t h ht=>?_,fun t h ht=>?_⟩
   ·cases t with
    | zero=>exact hx
    | succ t=>exact h2 t (by simpa using h) (by omega)
   ·cases t with
    | zero=>omega
    | succ t=>exact h3 t (by simpa using h) (by omega)
  ·refine ⟨0,Nat.zero_le _,fun t h ht=>absurd ht (Nat.not_lt_zero _),fun t h _=>?_⟩
   cases t with
   | zero=>simp;omega
   | succ t =>
    have:=(List.pairwise_cons.1 hR).1 (r[t]'(by simpa using h)) (List.getElem_mem _)
    simp;omega
theorem zjK (n:Int) (xs:List zw):jb n xs<=xs.length:=List.length_filter_le _ _
theorem zdD {n:Int} {xs:List zw} (hR:zZ xs):(∀ t (h:t<xs.length),t<jb n xs->xs[t].ino<n)/\(∀ t (h:t<xs.length),jb n xs<=t->n<=xs[t].ino):=by
 obtain ⟨i,h1,h2,h3⟩:=uo n xs hR
 rw[k8 n xs i h1 h2 h3]
 exact ⟨h2,h3⟩
theorem zhL {n:Int} {xs:List zw} (hR:zZ xs) (h:zF n xs=true):∃ hlt:jb n xs<xs.length,xs[jb n xs].ino=n:=by
 obtain ⟨h2,h3⟩:=zdD (n:=n) hR
 by_cases hlt:jb n xs<xs.length
 ·refine ⟨hlt,?_⟩
  have:=zih n xs _ hlt h2 (h3 _ hlt (Nat.le_refl _)) hR
  rw[h]at this
  exact of_decide_eq_true this.symm
 ·have:=zbD n xs (fun t h=>h2 t h (by omega))
  rw[h]at this;cases this
theorem kV {n:Int} {xs:List zw} (hR:zZ xs) (h:zF n xs=true):∃ hlt:jb n xs<xs.length,YM n xs=some xs[jb n xs]:=by
 obtain ⟨hlt,he⟩:=zhL hR h
 refine ⟨hlt,?_⟩
 obtain ⟨h2,h3⟩:=zdD (n:=n) hR
 unfold YM
 rw[List.find?_eq_some_iff_getElem]
 exact ⟨by simp[he],_,hlt,rfl,fun j hj=>by have:=h2 j (by omega) hj;simp;omega⟩
theorem jD {y:zw} {r:List zw}:zZ (y :: r)↔(∀ z∈r,y.ino<z.ino)/\zZ r:=List.pairwise_cons
theorem Xy {n:Int} {y:zw} {r:List zw} (h:y.ino<n):jb n (y :: r)=jb n r+1:=by
 unfold jb
 rw[List.filter_cons_of_pos (by simpa using h),List.length_cons]
theorem V9 {n:Int} {xs:List zw} (h:∀ z∈xs,n<=z.ino):jb n xs=0:=by
 unfold jb
 rw[List.length_eq_zero_iff,List.filter_eq_nil_iff]
 intro z hz
 have:=h z hz
 simp;omega
theorem XJ {n:Int} {xs:List zw} (h:zF n xs=false):qg n xs=xs:=by
 unfold qg
 rw[List.filter_eq_self]
 intro z hz
 unfold zF at h
 rw[List.any_eq_false]at h
 have:=h z hz
 simpa using this
theorem X4 {n:Int} {y:zw} {r:List zw} (h:y.ino<n):zF n (y :: r)=zF n r:=by
 unfold zF
 rw[List.any_cons,show (y.ino==n)=false by rw[beq_eq_false_iff_ne];omega,Bool.false_or]
theorem Q6 {n:Int} {xs:List zw} (h:∀ z∈xs,n<z.ino):zF n xs=false:=by
 unfold zF
 rw[List.any_eq_false]
 intro z hz
 have:=h z hz
 simp;omega
theorem Jr {n:Int} {y:zw} {r:List zw} (h:y.ino≠n):qg n (y :: r)=y :: qg n r:=by
 unfold qg
 rw[List.filter_cons_of_pos (by simpa using h)]
theorem jY {n:Int} {y:zw} {r:List zw} (h:y.ino=n):qg n (y :: r)=qg n r:=by
 unfold qg
 rw[List.filter_cons_of_neg (by simpa using h)]
theorem yC {n:Int}:∀ {xs:List zw},zZ xs->zF n xs=true->xs.take (jb n xs)++xs.drop (jb n xs+1)=qg n xs
 | [],_,h=>by cases h
 | y :: r,hR,h=>by
  obtain ⟨h1,h2⟩:=jD.1 hR
  by_cases hy:y.ino<n
  ·rw[Xy hy,List.take_succ_cons,List.drop_succ_cons,List.cons_append,yC h2 (by rwa [X4 hy]at h),Jr (by omega)]
  ·have hr0:jb n (y :: r)=0:=V9 fun z hz=>by
    rcases List.mem_cons.1 hz with rfl | hz
    ·omega
    ·have:=h1 z hz;omega
   by_cases he:y.ino=n
   ·rw[hr0,jY he,XJ (Q6 fun z hz=>by have:=h1 z hz;omega)];rfl
   ·exfalso
    rw[Q6 fun z hz=>by
     rcases List.mem_cons.1 hz with rfl | hz
     ·omega
     ·have:=h1 z hz;omega]at h
    cases h
theorem znB {x y:zw} {r:List zw} (h:y.ino<x.ino):QX x (y :: r)=y :: QX x r:=by
 rw[QX,if_neg (by omega)]
theorem zc6 {x:zw} {xs:List zw} (h:∀ z∈xs,x.ino<z.ino):QX x xs=x :: xs:=by
 cases xs with
 | nil=>rfl
 | cons y r=>rw[QX,if_pos (h y List.mem_cons_self)]
theorem Qb {x y:zw} {r:List zw} (h:y.ino<x.ino):qP x (y :: r)=y :: qP x r:=by
 unfold qP
 rw[Jr (by omega),znB h]
theorem MT {x:zw}:∀ {xs:List zw},zZ xs->zF x.ino xs=true->xs.set (jb x.ino xs) x=qP x xs
 | [],_,h=>by cases h
 | y :: r,hR,h=>by
  obtain ⟨h1,h2⟩:=jD.1 hR
  by_cases hy:y.ino<x.ino
  ·rw[Xy hy,List.set_cons_succ,MT h2 (by rwa [X4 hy]at h),Qb hy]
  ·have hr0:jb x.ino (y :: r)=0:=V9 fun z hz=>by
    rcases List.mem_cons.1 hz with rfl | hz
    ·omega
    ·have:=h1 z hz;omega
   by_cases he:y.ino=x.ino
   ·unfold qP
    rw[hr0,jY he,XJ (Q6 fun z hz=>by have:=h1 z hz;omega),zc6 fun z hz=>by have:=h1 z hz;omega];rfl
   ·exfalso
    rw[Q6 fun z hz=>by
     rcases List.mem_cons.1 hz with rfl | hz
     ·omega
     ·have:=h1 z hz;omega]at h
    cases h
theorem zcc {x:zw}:∀ {xs:List zw},zZ xs->zF x.ino xs=false->xs.take (jb x.ino xs)++x :: xs.drop (jb x.ino xs)=qP x xs
 | [],_,_=>rfl
 | y :: r,hR,h=>by
  obtain ⟨h1,h2⟩:=jD.1 hR
  by_cases hy:y.ino<x.ino
  ·rw[Xy hy,List.take_succ_cons,List.drop_succ_cons,List.cons_append,zcc h2 (by rwa [X4 hy]at h),Qb hy]
  ·have hne:y.ino≠x.ino:=by
    intro e
    unfold zF at h
    rw[List.any_cons,e]at h
    simp at h
   have hr0:jb x.ino (y :: r)=0:=V9 fun z hz=>by
    rcases List.mem_cons.1 hz with rfl | hz
    ·omega
    ·have:=h1 z hz;omega
   unfold qP
   rw[hr0,XJ h,zc6 fun z hz=>by
    rcases List.mem_cons.1 hz with rfl | hz
    ·omega
    ·have:=h1 z hz;omega]
   rfl
theorem xa {x:zw}:∀ {xs:List zw} {z:zw},z∈QX x xs↔z=x∨z∈xs
 | [],z=>by simp[QX]
 | y :: r,z=>by
  rw[QX]
  split
  ·simp
  ·rw[List.mem_cons,xa,List.mem_cons]
   constructor
   ·rintro (h | h | h)<;>simp[h]
   ·rintro (h | h | h)<;>simp[h]
theorem kx {n:Int} {xs:List zw} (h:zZ xs):zZ (qg n xs):=List.Pairwise.filter _ h
theorem GX {x:zw}:∀ {xs:List zw},zZ xs->(∀ z∈xs,z.ino≠x.ino)->zZ (QX x xs)
 | [],_,_=>by simp[QX,zZ]
 | y :: r,h,hne=>by
  obtain ⟨h1,h2⟩:=jD.1 h
  have hy:=hne y List.mem_cons_self
  rw[QX]
  split
  ·next hlt =>
   refine jD.2 ⟨fun z hz=>?_,h⟩
   rcases List.mem_cons.1 hz with rfl | hz
   ·exact hlt
   ·have:=h1 z hz;omega
  ·next hlt =>
   refine jD.2 ⟨fun z hz=>?_,GX h2 fun z hz=>hne z (List.mem_cons_of_mem _ hz)⟩
   rcases xa.1 hz with rfl | hz
   ·omega
   ·exact h1 z hz
theorem qd {x:zw} {xs:List zw} (h:zZ xs):zZ (qP x xs):=GX (kx h) fun z hz=>by
 have:=(List.mem_filter.1 hz).2
 simpa using this
theorem zc9 {x:zw}:∀ {xs:List zw},(QX x xs).length=xs.length+1
 | []=>rfl
 | y :: r=>by
  rw[QX]
  split
  ·rfl
  ·rw[List.length_cons,zc9,List.length_cons]
theorem Qp {n:Int} {xs:List zw}:(qg n xs).length<=xs.length:=List.length_filter_le _ _
theorem zcU {x:zw} {xs:List zw}:(qP x xs).length<=xs.length+1:=by
 unfold qP
 rw[zc9]
 have:=Qp (n:=x.ino) (xs:=xs)
 omega
end
section
open CA CB
open Go.RowKit
abbrev k9 (e:zX):List C:=[.str e.name,.sc (.int .i64 e.ino)]
abbrev zL (es:List zX):List (List C):=es.map k9
abbrev Xg (x:zw):List C:=[.sc (.int .i64 x.ino),.sc (.int .i64 x.kind),.sc (.int .i64 x.links),.str x.data,.sc (.int .i64 x.parent),.sl 2 (zL x.es)]
abbrev zt (xs:List zw):List (List C):=xs.map Xg
structure FsV where
 maxI:Int
 maxB:Int
 next:Int
 xs:List zw
deriving DecidableEq,Inhabited
abbrev fsC (f:FsV):List C:=[.sc (.int .i64 f.maxI),.sc (.int .i64 f.maxB),.sc (.int .i64 f.next),.sl 6 (zt f.xs)]
theorem jh (xs:List zw) (i:Nat) (h:i<xs.length):(zt xs)[i]?=some (Xg xs[i]):=by simp[List.getElem?_map,List.getElem?_eq_getElem h]
theorem JD (xs:List zX) (i:Nat) (h:i<xs.length):(zL xs)[i]?=some (k9 xs[i]):=by simp[List.getElem?_map,List.getElem?_eq_getElem h]
def vX:zw:=⟨0,0,0,[],0,[]⟩
def zg (n:Int) (xs:List zw):zw:=(YM n xs).getD vX
def Vl (a b:Int):Int:=if a<b then -1 else if b<a then 1 else 0
section
variable {G:zk}
theorem zdw (a:Int):Fun Tryz.prog G 237 [.sc (.int .i64 a)] (.sc (.bool false)) 0:=by
 refine Fun.of (fun _=>[]) Tryz.func237 rfl (zp rfl) (by kernel_rfl) ?_;dsimp only[Tryz.f237]
 push_cast -dsimp
 exact ⟨[],rfl,rfl,by push_cast -dsimp [zb,za,CLe,ze]⟩
theorem xh (a b:Int):Fun Tryz.prog G 210 [.sc (.int .i64 a),.sc (.int .i64 b)] (.sc (.int .i64 (Vl a b))) 0:=by
 refine Fun.of (fun _=>[]) Tryz.func210 rfl (zp rfl) (by kernel_rfl) ?_;dsimp only[Tryz.f210]
 push_cast -dsimp
 refine cl (zdw a) ?_;push_cast -dsimp
 refine cl (zdw b) ?_;push_cast -dsimp
 refine br (fun h=>?_) (fun h=>?_)
 ·have h:=of_decide_eq_true h
  push_cast -dsimp
  exact ⟨[],rfl,rfl,by (push_cast -dsimp [zb,za,CLe,ze];simp[Vl,h])⟩
 ·have h:=of_decide_eq_false h
  push_cast -dsimp
  refine br (fun h1=>?_) (fun h1=>?_)
  ·have h1:=of_decide_eq_true h1
   push_cast -dsimp
   exact ⟨[],rfl,rfl,by (push_cast -dsimp [zb,za,CLe,ze];simp[Vl,h,h1])⟩
  ·have h1:=of_decide_eq_false h1
   push_cast -dsimp
   exact ⟨[],rfl,rfl,by (push_cast -dsimp [zb,za,CLe,ze];simp[Vl,h,h1])⟩
theorem zcm (x:zw) (n:Int):Fun Tryz.prog G 225 [.agg (Xg x),.sc (.int .i64 n)] (.sc (.int .i64 (Vl x.ino n))) 0:=by
 refine Fun.of (fun _=>[]) Tryz.func225 rfl (zp rfl) (by kernel_rfl) ?_;dsimp only[Tryz.f225]
 push_cast -dsimp
 refine cl (xh x.ino n) ?_;push_cast -dsimp
 exact ⟨[],rfl,rfl,by push_cast -dsimp [zb,za,CLe,ze]⟩
theorem x4 (xs:List zw) (n:Int) (hl:xs.length<=100000) (hR:zZ xs) :
  Fun Tryz.prog G 208 [.sl 6 (zt xs),.sc (.int .i64 n),.clo (.func 225) [] []] (.tup [.sc (.int .i64 (jb n xs:Nat)),.sc (.bool (zF n xs))]) 0:=by
 refine Fun.of (fun _=>[]) Tryz.func208 rfl (zp rfl) (by kernel_rfl) ?_;dsimp only[Tryz.f208]
 push_cast -dsimp
 refine loop (fun p:Nat×Nat=>⟨[(0,.sl 6 (zt xs)),(1,.sc (.int .i64 n)),(2,.clo (.func 225) [] []),(8,.sc (.int .i64 (xs.length:Nat))),(9,.sc (.int .i64 p.1)),(10,.sc (.int .i64 p.2))],[],0,0⟩)
  (fun p=>p.1<=p.2/\p.2<=xs.length/\(∀ t (h:t<xs.length),t<p.1->xs[t].ino<n)/\∀ t (h:t<xs.length),p.2<=t->n<=xs[t].ino) (fun p=>p.2-p.1) (0,xs.length) ⟨Nat.zero_le _,Nat.le_refl _,fun t _ h=>by (simp at h),fun t h h'=>by (dsimp only at h';omega)⟩ ?_ ?_
 ·exact zS.mk [] rfl rfl (Nat.le_refl _) rfl (by push_cast -dsimp [zb,za,CLe,ze,List.length_map]) (by push_cast -dsimp [zb,za,CLe,ze])
 ·rintro ⟨i,j⟩ ⟨h1,h2,h3,h4⟩
  dsimp only at h1 h2 h3 h4 ⊢
  by_cases h:i<j
  ·obtain ⟨m,hm⟩:∃ m,m=(i+j) / 2:=⟨_,rfl⟩
   have hmi:((i:Int)+(j:Int)) / 2=(m:Int):=by omega
   have hml:m<xs.length:=by omega
   have hat:=jh xs m hml
   push_cast -dsimp [h,hmi,hat]
   (try simp only[lS]);repeat refine And.intro (by omega) ?_
   refine cl (zcm xs[m] n) ?_;push_cast -dsimp
   by_cases hc:xs[m].ino<n
   ·have hcv:Vl xs[m].ino n = -1:=by simp[Vl,hc]
    push_cast -dsimp [hcv]
    (try simp only[lS]);repeat refine And.intro (by omega) ?_
    refine ⟨(m+1,j),⟨by omega,h2,fun t ht hlt=>?_,h4⟩,by dsimp only;omega,zS.mk [] rfl rfl (Nat.le_refl _) rfl (by push_cast -dsimp [zb,za,CLe,ze]) (by push_cast -dsimp [zb,za,CLe,ze])⟩
    dsimp only at hlt
    rcases Nat.lt_or_ge t m with q | q
    ·have:=(List.pairwise_iff_getElem.1 hR) t m ht hml q;omega
    ·have:t=m:=by omega
     subst this;exact hc
   ·have hcv:(Vl xs[m].ino n<0)=False:=eq_false (by unfold Vl;rw[if_neg hc];split<;>omega)
    push_cast -dsimp [hcv]
    (try simp only[lS]);repeat refine And.intro (by omega) ?_
    refine ⟨(i,m),⟨by omega,by omega,h3,fun t ht hge=>?_⟩,by dsimp only;omega,zS.mk [] rfl rfl (Nat.le_refl _) rfl (by push_cast -dsimp [zb,za,CLe,ze]) (by push_cast -dsimp [zb,za,CLe,ze])⟩
    dsimp only at hge
    rcases Nat.lt_or_ge m t with q | q
    ·have:=(List.pairwise_iff_getElem.1 hR) m t hml ht q;omega
    ·have:t=m:=by omega
     subst this;omega
  ·have hij:i=j:=by omega
   subst hij
   have hrk:=k8 n xs i h2 h3 h4
   push_cast -dsimp [h]
   refine br (fun hx=>?_) (fun hx=>?_)
   ·have hx:i<xs.length:=by simpa using hx
    have hat:=jh xs i hx
    have hh:=zih n xs i hx h3 (h4 i hx (Nat.le_refl _)) hR
    push_cast -dsimp [hx,hat]
    (try simp only[lS]);repeat refine And.intro (by omega) ?_
    refine cl (zcm xs[i] n) ?_;push_cast -dsimp
    have hcv:decide (Vl xs[i].ino n=0)=zF n xs:=by
     rw[hh]
     have:=h4 i hx (Nat.le_refl _)
     unfold Vl
     rw[if_neg (by omega)]
     split
     ·rw[decide_eq_false (by omega),decide_eq_false (by omega)]
     ·rw[decide_eq_true (by rfl),decide_eq_true (by omega)]
    push_cast -dsimp [hcv]
    exact ⟨[],rfl,rfl,by push_cast -dsimp [zb,za,CLe,ze,hrk]⟩
   ·have hx:¬i<xs.length:=by simpa using hx
    have hh:=zbD n xs fun t ht=>h3 t ht (by omega)
    push_cast -dsimp [hx]
    exact ⟨[],rfl,rfl,by push_cast -dsimp [zb,za,CLe,ze,hrk,hh]⟩
theorem zcE (f:FsV) (n:Int) (hl:f.xs.length<=100000) (hR:zZ f.xs):Fun Tryz.prog G 193 [.agg (fsC f),.sc (.int .i64 n)] (.tup [.sc (.int .i64 (jb n f.xs:Nat)),.sc (.bool (zF n f.xs))]) 0:=by
 refine Fun.of (fun _=>[]) Tryz.func193 rfl (zp rfl) (by kernel_rfl) ?_;dsimp only[Tryz.f193]
 push_cast -dsimp
 refine cl (x4 f.xs n hl hR) ?_;push_cast -dsimp
 exact ⟨[],rfl,rfl,by push_cast -dsimp [zb,za,CLe,ze]⟩
end
end
section
open Go.RowKit Go.ChangeMaps Go.ChangeShapes Go.WideShapes Go.Deep Go.Joins
def NF (W:World):Env:=⟨W,fun _ _=>False,fun _=>False⟩
theorem Fun.answers {P:Program} {G:zk} {f:FuncId} {args:List C} {u:Value} {n:Nat} (h:Fun P G f args (.sc u) n) {W:World} {vs:List Value} (hg:Y7 G (NF W)) (ha:zx (NF W) zH args vs) :
  Calls P f vs.toArray W fun e w'=>e = .returned u/\Below W.heap.size W w':=by
 refine (h.2 (NF W) vs hg ha).mono ?_
 rintro e w' ⟨v,R',L',rfl,rfl,st,hr⟩
 rw[zn]at hr
 subst hr
 exact ⟨rfl,st.below⟩
section
variable {H:Type} {enc:TypeId×Value->H} {P:Program} {W:World}
def Opn (enc:TypeId×Value->H) (P:Program) (W:World) (t:TypeId) (Q:C->Prop):Prop:=
 ∀ (fuel:Nat) (cs:List Value) (x:DataW H×List MemPlace),DataW.trod enc P W 0 (fun _=>true) true fuel t cs=some x->∃ v c,cs = [v]/\Q c/\Rep (NF W) zH c v/\v.oneCell'=true
def Yc (enc:TypeId×Value->H) (P:Program) (W:World) (t:TypeId) (k:Nat) (Q:List C->Prop):Prop:=
 ∀ (fuel:Nat) (cs:List Value) (x:DataW H×List MemPlace),DataW.trod enc P W 0 (fun _=>true) true fuel t cs=some x ->
  ∃ row,Q row/\row.length=k/\cs.length=k/\∀ (j:Nat) c v,row[j]?=some c->cs[j]?=some v->Rep (NF W) zH c v/\v.oneCell'=true
theorem Opn.int {t:TypeId} {k:IntKind} (ht:P.underlying t=some (.int k)):Opn enc P W t fun c=>∃ n,c = .sc (.int k n)/\(Lit.int k n).wf=true:=fun fuel cs x h=>by
 obtain ⟨n,rfl,_,hw⟩:=DataW.trod_int ht h
 exact ⟨_,_,rfl,⟨n,rfl,hw⟩,zn.2 rfl,rfl⟩
theorem Opn.bool {t:TypeId} (ht:P.underlying t=some .bool):Opn enc P W t fun c=>∃ b,c = .sc (.bool b):=fun fuel cs x h=>by
 obtain ⟨n,rfl,_⟩:=DataW.trod_bool ht h
 exact ⟨_,_,rfl,⟨n,rfl⟩,zn.2 rfl,rfl⟩
theorem Opn.str {t:TypeId} (ht:P.underlying t=some .string):Opn enc P W t fun c=>∃ l:List UInt8,c = .str l/\l.length<=maxLen:=fun fuel cs x h=>by
 obtain ⟨s,rfl,_,hs⟩:=DataW.trod_string ht h
 exact ⟨_,_,rfl,⟨s.data.toList,rfl,by rw[Array.length_toList];exact hs⟩,zR.2 (by cases s;simp),rfl⟩
theorem Yc.one {t:TypeId} {Q:C->Prop} (h:Opn enc P W t Q):Yc enc P W t 1 fun row=>∃ c,row = [c]/\Q c:=fun fuel cs x hx=>by
 obtain ⟨v,c,rfl,hq,hr,ho⟩:=h fuel cs x hx
 refine ⟨[c],⟨c,rfl,hq⟩,rfl,rfl,fun j c' v' h1 h2=>?_⟩
 cases j with
 | zero=>cases h1;cases h2;exact ⟨hr,ho⟩
 | succ j=>cases h1
theorem X6 {α:Type} {Q:Nat->α->Prop}:∀ n:Nat,(∀ i,i<n->∃ x,Q i x)->∃ l:List α,l.length=n/\∀ i (h:i<l.length),Q i l[i]
 | 0,_=>⟨[],rfl,fun i h=>absurd h (Nat.not_lt_zero _)⟩
 | n+1,h=>by
  obtain ⟨l,hl,hq⟩:=X6 n fun i hi=>h i (by omega)
  obtain ⟨x,hx⟩:=h n (by omega)
  refine ⟨l++[x],by simp[hl],fun i hi=>?_⟩
  rcases Nat.lt_or_ge i n with h1 | h1
  ·rw[List.getElem_append_left (by omega)];exact hq i (by omega)
  ·have:i=n:=by simp[hl]at hi;omega
   subst this
   rw[List.getElem_append_right (by omega)]
   simpa [hl] using hx
theorem Yc.struct {t:TypeId} {fs:Array Field} {Qs:Nat->C->Prop} (hs:P.underlying t=some (.struct fs)) (hone:oneCellFields P fs=true) (hC:P.cellsOf t=fs.size)
  (h:∀ (j:Nat) f,fs[j]?=some f->Opn enc P W f.type (Qs j)):Yc enc P W t fs.size fun row=>row.length=fs.size/\∀ (j:Nat) c,row[j]?=some c->Qs j c:=fun fuel cs x hx=>by
 obtain ⟨ys,n',hn',hy,hlen,hyl,hf⟩:=DataW.trod_struct hs hx
 rw[hC]at hlen
 obtain ⟨row,hl,hq⟩:=X6 (Q:=fun j (c:C)=>Qs j c/\∃ v,cs[j]?=some v/\Rep (NF W) zH c v/\v.oneCell'=true) fs.size (fun j hj=>by
  have hfj:fs[j]?=some fs[j]:=Array.getElem?_eq_getElem hj
  obtain ⟨ho,hk⟩:=hone_of hone j _ hfj
  have h1:=hf j _ hfj
  rw[ho,hk]at h1
  have hone':(cs.drop j).take 1 = [cs[j]'(by omega)]:=by
   rw[List.drop_eq_getElem_cons (by omega)]
   rfl
  rw[hone',List.getElem?_eq_getElem (by omega)]at h1
  obtain ⟨v,c,e,hq,hr,hoc⟩:=h j _ hfj _ _ _ h1
  cases e
  exact ⟨c,hq,_,List.getElem?_eq_getElem (by omega),hr,hoc⟩)
 refine ⟨row,⟨hl,fun j c hj=>?_⟩,hl,hlen,fun j c v h1 h2=>?_⟩
 ·obtain ⟨hj',rfl⟩:=List.getElem?_eq_some_iff.1 hj
  exact (hq j hj').1
 ·obtain ⟨hj',rfl⟩:=List.getElem?_eq_some_iff.1 h1
  obtain ⟨_,v',e,hr,ho⟩:=hq j hj'
  rw[h2]at e;cases e
  exact ⟨hr,ho⟩
theorem Opn.slice {t e:TypeId} {k:Nat} {Q:List C->Prop} (ht:P.underlying t=some (.slice e)) (hC:P.cellsOf e=k) (hk:0<k) (h:Yc enc P W e k Q):Opn enc P W t fun c=>∃ rows,c = .sl k rows/\rows.length<=maxLen/\∀ r∈rows,Q r:=fun fuel cs x hx=>by
 rcases open_slice ht hx with h0 | ⟨a,len,cap,m,n,D,Pl,hcs,hb,hl,hm,hmm,hx,hi⟩
 ·exact ⟨_,.sl k [],h0.1,⟨[],rfl,Nat.zero_le _,fun r hr=>by cases hr⟩,U2.2 ⟨none,0,rfl,Nat.le_refl _,Nat.zero_le _,.inl rfl⟩,rfl⟩
 ·simp only[if_true]at hmm
  subst hmm
  obtain ⟨rows,hrl,hq⟩:=X6 (Q:=fun i (row:List C)=>Q row/\row.length=k/\∀ (j:Nat) c,row[j]?=some c->∃ v,W.cell? (a.add (i*k+j))=some v/\Rep (NF W) zH c v/\v.oneCell'=true) len (fun i hlt=>by
   obtain ⟨cs',hc,ht'⟩:=hi i (by omega)
   rw[hC]at hc
   obtain ⟨row,hq,hl1,hl2,hr⟩:=h _ _ _ ht'
   obtain ⟨_,hcl,hat⟩:=World.cells?_some hc
   refine ⟨row,hq,hl1,fun j c hj=>?_⟩
   have hjl:j<k:=by have:=(List.getElem?_eq_some_iff.1 hj).1;omega
   have hv:cs'[j]?=some (cs'[j]'(by omega)):=List.getElem?_eq_getElem (by omega)
   obtain ⟨hr1,hr2⟩:=hr j c _ hj hv
   refine ⟨_,?_,hr1,hr2⟩
   rw[←Go.Deep.add_add,hat j hjl,hv])
  refine ⟨_,.sl k rows,hcs,⟨rows,rfl,by omega,fun r hr=>?_⟩,?_,rfl⟩
  ·obtain ⟨i,hi',rfl⟩:=List.getElem_of_mem hr
   exact (hq i hi').1
  ·refine U2.2 ⟨some a,m,by rw[hrl],by omega,by omega,?_⟩
   by_cases h0:rows = []
   ·exact .inl h0
   ·have hpos:0<rows.length:=List.length_pos_iff.2 h0
    obtain ⟨b,off,spot⟩:=a
    obtain ⟨_,hl0,h00⟩:=hq 0 hpos
    obtain ⟨v0,hc0,_⟩:=h00 0 ((rows[0]'hpos)[0]'(by omega)) (List.getElem?_eq_getElem _)
    have hspot:spot=none:=by simpa [Addr.add] using World.cell?_spot hc0
    subst hspot
    refine .inr ⟨b,off,rfl,qQ fun i row hrow=>?_⟩
    obtain ⟨hi',rfl⟩:=List.getElem?_eq_some_iff.1 hrow
    obtain ⟨_,hlr,hcr⟩:=hq i hi'
    refine ⟨hlr,zY fun j c hj=>?_⟩
    obtain ⟨v,h1,h2,h3⟩:=hcr j c hj
    rw[Addr.add_lit]at h1
    exact ⟨v,by rw[Nat.add_assoc];exact h1,fun hf=>hf,h2,h3⟩
theorem Opn.arg {r:Reach} {b0:Nat} {t:TypeId} {Q:C->Prop} {v:Value} {d:DataW H} {p:List MemPlace} (h:Opn enc P W t Q) (hv:v.cells = #[v]) (hd:DataW.Trod enc P W 0 (fun _=>true) true t v d p):∃ c,Q c/\Rep (NF W) zH c v:=by
 obtain ⟨fuel,hf⟩:=hd
 rw[hv]at hf
 obtain ⟨v',c,e,hq,hr,_⟩:=h _ _ _ hf
 cases e
 exact ⟨c,hq,hr⟩
theorem Yc.arg {r:Reach} {b0:Nat} {t:TypeId} {fs:Array Field} {k:Nat} {Q:List C->Prop} {v:Value} {d:DataW H} {p:List MemPlace} (h:Yc enc P W t k Q) (hs:P.underlying t=some (.struct fs)) (hval:Value.okWide P W r b0 t v)
  (hd:DataW.Trod enc P W 0 (fun _=>true) true t v d p):∃ row,Q row/\Rep (NF W) zH (.agg row) v:=by
 obtain ⟨cs,rfl,hsz⟩:=okWide_struct hs hval
 obtain ⟨fuel,hf⟩:=hd
 obtain ⟨row,hq,h1,h2,hr⟩:=h _ _ _ hf
 refine ⟨row,hq,jJ.2 ⟨cs,rfl,JS ?_ fun i c v hc hv=>(hr i c v hc hv).1⟩⟩
 have:cs.toList.length=k:=h2
 omega
end
end
section
open Go.RowKit Go.ChangeMaps Go.ChangeShapes Go.WideShapes Go.Deep Go.Joins
theorem Mx {α:Type} {f:α->List C} {q:α->Prop}:∀ {rows:List (List C)},(∀ r∈rows,∃ a,r=f a/\q a)->∃ xs:List α,rows=xs.map f/\∀ x∈xs,q x
 | [],_=>⟨[],rfl,fun x h=>by cases h⟩
 | r :: rows,h=>by
  obtain ⟨xs,rfl,hq⟩:=Mx fun r' hr=>h r' (List.mem_cons_of_mem _ hr)
  obtain ⟨o,rfl,ho⟩:=h r List.mem_cons_self
  exact ⟨o :: xs,rfl,fun x hx=>by
   rcases List.mem_cons.1 hx with rfl | hx
   ·exact ho
   ·exact hq x hx⟩
section
variable {H:Type} {enc:TypeId×Value->H} {W:World}
theorem zjF:Yc enc Tryz.prog W 108 2 fun row=>∃ o:zX,row=k9 o/\o.name.length<=maxLen:=fun fuel cs x hx=>by
 obtain ⟨row,⟨hl,hq⟩,h1,h2,h3⟩:=Yc.struct (W:=W) (enc:=enc) (Qs:=fun j c=>match j with | 0=>∃ l:List UInt8,c = .str l/\l.length<=maxLen | 1=>∃ n,c = .sc (.int .i64 n)/\(Lit.int .i64 n).wf=true | _=>True) Tryz.underlying108 (by kernel_rfl) (by kernel_rfl) (fun j f hj=>by
  match j,hj with
  | 0,hj=>cases hj;exact Opn.str Tryz.underlying9
  | 1,hj=>cases hj;exact Opn.int Tryz.underlying3
  | j+2,hj=>simp at hj) fuel cs x hx
 match row,h1,hq,h3 with
 | [c0,c1],_,hq,h3 =>
  obtain ⟨a,rfl,ha⟩:=hq 0 c0 rfl
  obtain ⟨k,rfl,_⟩:=hq 1 c1 rfl
  exact ⟨_,⟨⟨a,k⟩,rfl,ha⟩,rfl,h2,h3⟩
theorem zgl:Opn enc Tryz.prog W 73 fun c=>∃ xs:List zX,c = .sl 2 (zL xs)/\xs.length<=maxLen/\∀ x∈xs,x.name.length<=maxLen:=fun fuel cs x hx=>by
 obtain ⟨v,c,rfl,⟨rows,rfl,hl,hr⟩,h1,h2⟩:=Opn.slice (W:=W) (enc:=enc) Tryz.underlying73 (show Tryz.prog.cellsOf 108=2 by kernel_rfl) (by decide) zjF fuel cs x hx
 obtain ⟨xs,rfl,hq⟩:=Mx hr
 exact ⟨v,_,rfl,⟨xs,rfl,by simpa using hl,hq⟩,h1,h2⟩
def zhu (x:zw):Prop:=x.data.length<=maxLen/\x.es.length<=maxLen/\∀ e∈x.es,e.name.length<=maxLen
theorem zbL:Yc enc Tryz.prog W 75 6 fun row=>∃ o:zw,row=Xg o/\zhu o:=fun fuel cs x hx=>by
 obtain ⟨row,⟨hl,hq⟩,h1,h2,h3⟩:=Yc.struct (W:=W) (enc:=enc) (Qs:=fun j c=>match j with | 0=>∃ n,c = .sc (.int .i64 n)/\(Lit.int .i64 n).wf=true | 1=>∃ n,c = .sc (.int .i64 n)/\(Lit.int .i64 n).wf=true | 2=>∃ n,c = .sc (.int .i64 n)/\(Lit.int .i64 n).wf=true | 3=>∃ l:List UInt8,c = .str l/\l.length<=maxLen | 4=>∃ n,c = .sc (.int .i64 n)/\(Lit.int .i64 n).wf=true | 5=>∃ xs:List zX,c = .sl 2 (zL xs)/\xs.length<=maxLen/\∀ x∈xs,x.name.length<=maxLen | _=>True) Tryz.underlying75 (by kernel_rfl) (by kernel_rfl) (fun j f hj=>by
  match j,hj with
  | 0,hj=>cases hj;exact Opn.int Tryz.underlying3
  | 1,hj=>cases hj;exact Opn.int Tryz.underlying3
  | 2,hj=>cases hj;exact Opn.int Tryz.underlying3
  | 3,hj=>cases hj;exact Opn.str Tryz.underlying9
  | 4,hj=>cases hj;exact Opn.int Tryz.underlying3
  | 5,hj=>cases hj;exact zgl
  | j+6,hj=>simp at hj) fuel cs x hx
 match row,h1,hq,h3 with
 | [c0,c1,c2,c3,c4,c5],_,hq,h3 =>
  obtain ⟨a,rfl,_⟩:=hq 0 c0 rfl
  obtain ⟨b,rfl,_⟩:=hq 1 c1 rfl
  obtain ⟨c,rfl,_⟩:=hq 2 c2 rfl
  obtain ⟨d,rfl,hd⟩:=hq 3 c3 rfl
  obtain ⟨e,rfl,_⟩:=hq 4 c4 rfl
  obtain ⟨f,rfl,hf⟩:=hq 5 c5 rfl
  exact ⟨_,⟨⟨a,b,c,d,e,f⟩,rfl,hd,hf⟩,rfl,h2,h3⟩
theorem zhR:Opn enc Tryz.prog W 22 fun c=>∃ xs:List zw,c = .sl 6 (zt xs)/\xs.length<=maxLen/\∀ x∈xs,zhu x:=fun fuel cs x hx=>by
 obtain ⟨v,c,rfl,⟨rows,rfl,hl,hr⟩,h1,h2⟩:=Opn.slice (W:=W) (enc:=enc) Tryz.underlying22 (show Tryz.prog.cellsOf 75=6 by kernel_rfl) (by decide) zbL fuel cs x hx
 obtain ⟨xs,rfl,hq⟩:=Mx hr
 exact ⟨v,_,rfl,⟨xs,rfl,by simpa using hl,hq⟩,h1,h2⟩
theorem zna:Yc enc Tryz.prog W 24 4 fun row=>∃ f:FsV,row=fsC f/\f.xs.length<=maxLen/\∀ x∈f.xs,zhu x:=fun fuel cs x hx=>by
 obtain ⟨row,⟨hl,hq⟩,h1,h2,h3⟩:=Yc.struct (W:=W) (enc:=enc) (Qs:=fun j c=>match j with | 0=>∃ n,c = .sc (.int .i64 n)/\(Lit.int .i64 n).wf=true | 1=>∃ n,c = .sc (.int .i64 n)/\(Lit.int .i64 n).wf=true | 2=>∃ n,c = .sc (.int .i64 n)/\(Lit.int .i64 n).wf=true | 3=>∃ xs:List zw,c = .sl 6 (zt xs)/\xs.length<=maxLen/\∀ x∈xs,zhu x | _=>True) Tryz.underlying24 (by kernel_rfl) (by kernel_rfl) (fun j f hj=>by
  match j,hj with
  | 0,hj=>cases hj;exact Opn.int Tryz.underlying3
  | 1,hj=>cases hj;exact Opn.int Tryz.underlying3
  | 2,hj=>cases hj;exact Opn.int Tryz.underlying3
  | 3,hj=>cases hj;exact zhR
  | j+4,hj=>simp at hj) fuel cs x hx
 match row,h1,hq,h3 with
 | [c0,c1,c2,c3],_,hq,h3 =>
  obtain ⟨a,rfl,_⟩:=hq 0 c0 rfl
  obtain ⟨b,rfl,_⟩:=hq 1 c1 rfl
  obtain ⟨c,rfl,_⟩:=hq 2 c2 rfl
  obtain ⟨d,rfl,hd⟩:=hq 3 c3 rfl
  exact ⟨_,⟨⟨a,b,c,d⟩,rfl,hd⟩,rfl,h2,h3⟩
end
end
section
open Go
structure zh4 (κ:Type) where
 lt:κ->κ->Bool
 irr:∀ a,lt a a=false
 tr:∀ {a b c},lt a b=true->lt b c=true->lt a c=true
 tot:∀ {a b},lt a b=false->lt b a=false->a=b
theorem Nc:∀ a:List UInt8,Op.bytesLess a a=false
 | []=>rfl
 | c :: a=>by
  have h:¬c<c:=by simp
  simp[Op.bytesLess,Nc a]
theorem Hh:∀ {a b c:List UInt8},Op.bytesLess a b=true->Op.bytesLess b c=true->Op.bytesLess a c=true
 | _,[],_,h,_=>by unfold Op.bytesLess at h;cases h
 | [],y :: b,[],_,h2=>by unfold Op.bytesLess at h2;cases h2
 | [],y :: b,z :: c,_,_=>rfl
 | x :: a,y :: b,[],_,h2=>by unfold Op.bytesLess at h2;cases h2
 | x :: a,y :: b,z :: c,h1,h2=>by
  unfold Op.bytesLess at h1 h2 ⊢
  simp only[Bool.or_eq_true,Bool.and_eq_true,decide_eq_true_eq,beq_iff_eq]at h1 h2 ⊢
  rcases h1 with h1 | ⟨rfl,h1⟩
  ·rcases h2 with h2 | ⟨rfl,h2⟩
   ·exact .inl (UInt8.lt_trans h1 h2)
   ·exact .inl h1
  ·rcases h2 with h2 | ⟨rfl,h2⟩
   ·exact .inl h2
   ·exact .inr ⟨rfl,Hh h1 h2⟩
theorem NY:∀ {a b:List UInt8},Op.bytesLess a b=false->Op.bytesLess b a=false->a=b
 | [],[],_,_=>rfl
 | [],y :: b,h,_=>by unfold Op.bytesLess at h;cases h
 | x :: a,[],_,h=>by unfold Op.bytesLess at h;cases h
 | x :: a,y :: b,h1,h2=>by
  unfold Op.bytesLess at h1 h2
  simp only[Bool.or_eq_false_iff,decide_eq_false_iff_not,Bool.and_eq_false_iff,beq_eq_false_iff_ne]at h1 h2
  obtain ⟨g1,g2⟩:=h1
  obtain ⟨g3,g4⟩:=h2
  have hxy:x=y:=by
   apply UInt8.toNat_inj.1
   have e1:¬x.toNat<y.toNat:=fun h=>g1 (UInt8.lt_iff_toNat_lt.2 h)
   have e2:¬y.toNat<x.toNat:=fun h=>g3 (UInt8.lt_iff_toNat_lt.2 h)
   omega
  subst hxy
  have h3:Op.bytesLess a b=false:=by rcases g2 with g | g;exact absurd rfl g;exact g
  have h4:Op.bytesLess b a=false:=by rcases g4 with g | g;exact absurd rfl g;exact g
  rw[NY h3 h4]
theorem zcz:∀ a b:List UInt8,(Lib.compareBytes a b<0)=(Op.bytesLess a b=true)
 | [],[]=>by simp[Lib.compareBytes,Op.bytesLess]
 | [],_ :: _=>by simp[Lib.compareBytes,Op.bytesLess]
 | _ :: _,[]=>by simp[Lib.compareBytes,Op.bytesLess]
 | a :: x,b :: y=>by
  unfold Lib.compareBytes Op.bytesLess
  by_cases h1:a<b
  ·simp[h1]
  ·rw[if_neg h1]
   by_cases h2:b<a
   ·have:a≠b:=fun e=>by subst e;exact h1 h2
    simp[h1,h2,this]
   ·have e:a=b:=by
     apply UInt8.toNat_inj.1
     have e1:¬a.toNat<b.toNat:=fun h=>h1 (UInt8.lt_iff_toNat_lt.2 h)
     have e2:¬b.toNat<a.toNat:=fun h=>h2 (UInt8.lt_iff_toNat_lt.2 h)
     omega
    rw[if_neg h2,zcz x y]
    subst e
    simp[h1]
theorem zbX:∀ a b:List UInt8,(Lib.compareBytes a b=0)=(a=b)
 | [],[]=>by simp[Lib.compareBytes]
 | [],_ :: _=>by simp[Lib.compareBytes]
 | _ :: _,[]=>by simp[Lib.compareBytes]
 | a :: x,b :: y=>by
  unfold Lib.compareBytes
  by_cases h1:a<b
  ·have:a≠b:=fun e=>by subst e;simp at h1
   simp[h1,this]
  ·rw[if_neg h1]
   by_cases h2:b<a
   ·have:a≠b:=fun e=>by subst e;exact h1 h2
    simp[h2,this]
   ·have e:a=b:=by
     apply UInt8.toNat_inj.1
     have e1:¬a.toNat<b.toNat:=fun h=>h1 (UInt8.lt_iff_toNat_lt.2 h)
     have e2:¬b.toNat<a.toNat:=fun h=>h2 (UInt8.lt_iff_toNat_lt.2 h)
     omega
    rw[if_neg h2,zbX x y]
    subst e
    simp
def j9:zh4 (List UInt8):=⟨Op.bytesLess,Nc,Hh,NY⟩
def j3:zh4 Int:=⟨fun a b=>decide (a<b),fun a=>by simp,fun h1 h2=>by simp at h1 h2 ⊢;omega,fun h1 h2=>by simp at h1 h2;omega⟩
section
variable {α κ:Type} [DecidableEq κ] (o:zh4 κ) (key:α->κ)
def qD (xs:List α):Prop:=xs.Pairwise fun a b=>o.lt (key a) (key b)=true
def qh (n:κ) (xs:List α):Nat:=(xs.filter fun x=>o.lt (key x) n).length
def JR (n:κ) (xs:List α):Bool:=xs.any fun x=>decide (key x=n)
def Ja (n:κ) (xs:List α):Option α:=xs.find? fun x=>decide (key x=n)
def YZ (n:κ) (xs:List α):List α:=xs.filter fun x=>!decide (key x=n)
def Va (x:α):List α->List α
 | []=>[x]
 | y :: r=>if o.lt (key x) (key y) then x :: y :: r else y :: Va x r
variable {o:zh4 κ} {key:α->κ}
theorem zh4.asym {a b:κ} (h:o.lt a b=true):o.lt b a=false:=by
 cases h':o.lt b a with
 | false=>rfl
 | true=>have:=o.tr h h';rw[o.irr]at this;cases this
theorem QG (n:κ):∀ (xs:List α) (i:Nat),i<=xs.length->(∀ t (h:t<xs.length),t<i->o.lt (key xs[t]) n=true)->(∀ t (h:t<xs.length),i<=t->o.lt (key xs[t]) n=false)->qh o key n xs=i
 | [],i,h,_,_=>by simp at h;simp[qh,h]
 | x :: r,0,_,_,h2=>by
  have hx:o.lt (key x) n=false:=h2 0 (by simp) (Nat.le_refl _)
  have ih:=QG n r 0 (Nat.zero_le _) (fun t h h'=>absurd h' (Nat.not_lt_zero _)) (fun t h _=>h2 (t+1) (by simp;omega) (Nat.zero_le _))
  unfold qh at ih ⊢
  rw[List.filter_cons_of_neg (by simp[hx])]
  exact ih
 | x :: r,i+1,h,h1,h2=>by
  have hx:o.lt (key x) n=true:=h1 0 (by simp) (Nat.succ_pos _)
  have ih:=QG n r i (by simpa using h) (fun t h h'=>h1 (t+1) (by simp;omega) (by omega)) (fun t h h'=>h2 (t+1) (by simp;omega) (by omega))
  unfold qh at ih ⊢
  rw[List.filter_cons_of_pos (by simp[hx]),List.length_cons,ih]
theorem QZ (n:κ) (xs:List α):qh o key n xs<=xs.length:=List.length_filter_le _ _
theorem Je {y:α} {r:List α}:qD o key (y :: r)↔(∀ z∈r,o.lt (key y) (key z)=true)/\qD o key r:=List.pairwise_cons
theorem uV {n:κ} {y:α} {r:List α} (h:o.lt (key y) n=true):qh o key n (y :: r)=qh o key n r+1:=by
 unfold qh
 rw[List.filter_cons_of_pos (by simpa using h),List.length_cons]
theorem zaZ {n:κ} {y:α} {r:List α} (hR:qD o key (y :: r)) (h:o.lt (key y) n=false):qh o key n (y :: r)=0:=by
 obtain ⟨h1,_⟩:=Je.1 hR
 unfold qh
 rw[List.length_eq_zero_iff,List.filter_eq_nil_iff]
 intro z hz
 rcases List.mem_cons.1 hz with rfl | hz
 ·simp[h]
 ·have h3:=h1 z hz
  cases h4:o.lt (key z) n with
  | false=>simp
  | true=>have:=o.tr h3 h4;rw[h]at this;cases this
theorem zdT {n:κ} {y:α} {r:List α} (hR:qD o key (y :: r)) (h:o.lt (key y) n=false):JR key n (y :: r)=decide (key y=n):=by
 obtain ⟨h1,_⟩:=Je.1 hR
 unfold JR
 rw[List.any_cons]
 have:(r.any fun x=>decide (key x=n))=false:=List.any_eq_false.2 fun z hz=>by
  have h3:=h1 z hz
  simp only[decide_eq_true_eq]
  rintro rfl
  rw[h3]at h;cases h
 rw[this,Bool.or_false]
theorem Z5 (n:κ):∀ {xs:List α},qD o key xs->(∀ t (h:t<xs.length),t<qh o key n xs->o.lt (key xs[t]) n=true)/\(∀ t (h:t<xs.length),qh o key n xs<=t->o.lt (key xs[t]) n=false) /\
  (JR key n xs=true->∃ h:qh o key n xs<xs.length,key xs[qh o key n xs]=n/\Ja key n xs=some xs[qh o key n xs]/\YZ key n xs=xs.take (qh o key n xs)++xs.drop (qh o key n xs+1)/\∀ x,key x=n->Va o key x (YZ key n xs)=xs.set (qh o key n xs) x) /\
  (JR key n xs=false->Ja key n xs=none/\YZ key n xs=xs/\∀ x,key x=n->Va o key x xs=xs.take (qh o key n xs)++x :: xs.drop (qh o key n xs))
 | [],_=>⟨fun t h=>absurd h (Nat.not_lt_zero _),fun t h=>absurd h (Nat.not_lt_zero _),fun h=>(by cases h),fun _=>⟨rfl,rfl,fun x _=>rfl⟩⟩
 | y :: r,hR=>by
  obtain ⟨h1,h2⟩:=Je.1 hR
  obtain ⟨i1,i2,i3,i4⟩:=Z5 n h2
  cases hy:o.lt (key y) n with
  | true =>
   have hne:key y≠n:=by rintro rfl;rw[o.irr]at hy;cases hy
   have hrk:=uV (r:=r) hy
   have hhas:JR key n (y :: r)=JR key n r:=by unfold JR;rw[List.any_cons,decide_eq_false hne,Bool.false_or]
   have hfind:Ja key n (y :: r)=Ja key n r:=by unfold Ja;rw[List.find?_cons_of_neg (by simpa using hne)]
   have hless:YZ key n (y :: r)=y :: YZ key n r:=by unfold YZ;rw[List.filter_cons_of_pos (by simpa using hne)]
   have hput:∀ x q,key x=n->Va o key x (y :: q)=y :: Va o key x q:=fun x q hx=>by
    rw[Va,hx,zh4.asym hy];rfl
   rw[hhas,hfind,hless,hrk]
   refine ⟨fun t h ht=>?_,fun t h ht=>?_,fun h=>?_,fun h=>?_⟩
   ·cases t with
    | zero=>exact hy
    | succ t=>exact i1 t (by simpa using h) (by omega)
   ·cases t with
    | zero=>omega
    | succ t=>exact i2 t (by simpa using h) (by omega)
   ·obtain ⟨g,g1,g2,g3,g4⟩:=i3 h
    refine ⟨by simp;omega,by simpa using g1,by simpa using g2,by rw[g3];simp,fun x hx=>?_⟩
    rw[hput x _ hx,g4 x hx];simp
   ·obtain ⟨g1,g2,g3⟩:=i4 h
    refine ⟨g1,by rw[g2],fun x hx=>?_⟩
    rw[hput x _ hx,g3 x hx];simp
  | false =>
   have hrk:=zaZ hR hy
   have hhas:=zdT hR hy
   rw[hrk,hhas]
   have hno:∀ z∈r,key z≠n:=fun z hz=>by
    have h3:=h1 z hz
    rintro rfl
    rw[h3]at hy;cases hy
   have hlr:YZ key n r=r:=by
    unfold YZ
    rw[List.filter_eq_self]
    intro z hz
    simpa using hno z hz
   refine ⟨fun t h ht=>absurd ht (Nat.not_lt_zero _),fun t h _=>?_,fun h=>?_,fun h=>?_⟩
   ·cases t with
    | zero=>exact hy
    | succ t =>
     have h3:=h1 (r[t]'(by simpa using h)) (List.getElem_mem _)
     show o.lt (key (r[t]'(by simpa using h))) n=false
     cases h4:o.lt (key (r[t]'(by simpa using h))) n with
     | false=>rfl
     | true=>have:=o.tr h3 h4;rw[hy]at this;cases this
   ·have hk:key y=n:=of_decide_eq_true h
    have hl:YZ key n (y :: r)=r:=by
     show (y :: r).filter (fun x=>!decide (key x=n))=r
     rw[List.filter_cons_of_neg (by simpa using hk)];exact hlr
    refine ⟨by simp,hk,by unfold Ja;rw[List.find?_cons_of_pos (by simpa using hk)];rfl,by rw[hl];simp,fun x hx=>?_⟩
    rw[hl]
    cases r with
    | nil=>rfl
    | cons z q =>
     have h3:=h1 z List.mem_cons_self
     rw[hk]at h3
     rw[Va,hx,h3];rfl
   ·have hk:key y≠n:=of_decide_eq_false h
    have hny:o.lt n (key y)=true:=by
     cases h5:o.lt n (key y) with
     | true=>rfl
     | false=>exact absurd (o.tot hy h5) hk
    refine ⟨?_,?_,fun x hx=>?_⟩
    ·unfold Ja
     rw[List.find?_eq_none]
     intro z hz
     rcases List.mem_cons.1 hz with rfl | hz
     ·simpa using hk
     ·simpa using hno z hz
    ·show (y :: r).filter (fun x=>!decide (key x=n))=y :: r
     rw[List.filter_cons_of_pos (by simpa using hk)]
     exact congrArg _ hlr
    ·rw[Va,hx,hny];rfl
theorem xI (n:κ) {xs:List α} (hR:qD o key xs) {i:Nat} (hi:qh o key n xs=i) (h:i<xs.length):JR key n xs=decide (key xs[i]=n):=by
 subst hi
 obtain ⟨_,_,h3,_⟩:=Z5 n hR
 cases hh:JR key n xs with
 | true=>obtain ⟨_,g,_⟩:=h3 hh;rw[decide_eq_true g]
 | false =>
  symm
  rw[decide_eq_false_iff_not]
  intro e
  unfold JR at hh
  rw[List.any_eq_false]at hh
  exact hh _ (List.getElem_mem h) (decide_eq_true e)
theorem HK (n:κ) {xs:List α} (hR:qD o key xs) (hi:qh o key n xs=xs.length):JR key n xs=false:=by
 obtain ⟨_,_,h3,_⟩:=Z5 n hR
 cases hh:JR key n xs with
 | false=>rfl
 | true=>obtain ⟨g,_⟩:=h3 hh;omega
theorem V1 (n:κ) {xs:List α} (h:qD o key xs):qD o key (YZ key n xs):=h.filter _
theorem QB {x y:α}:∀ {xs:List α},y∈Va o key x xs↔y=x∨y∈xs
 | []=>by simp[Va]
 | z :: r=>by
  unfold Va
  split
  ·simp
  ·rw[List.mem_cons,QB,List.mem_cons]
   constructor
   ·rintro (h | h | h)
    ·exact .inr (.inl h)
    ·exact .inl h
    ·exact .inr (.inr h)
   ·rintro (h | h | h)
    ·exact .inr (.inl h)
    ·exact .inl h
    ·exact .inr (.inr h)
theorem Ue {n:κ} {y:α} {xs:List α}:y∈YZ key n xs↔y∈xs/\key y≠n:=by unfold YZ;simp
theorem Zu {x:α}:∀ {xs:List α},qD o key xs->(∀ y∈xs,key y≠key x)->qD o key (Va o key x xs)
 | [],_,_=>by unfold Va qD;simp
 | y :: r,hR,hne=>by
  obtain ⟨h1,h2⟩:=Je.1 hR
  unfold Va
  cases hxy:o.lt (key x) (key y) with
  | true =>
   rw[if_pos rfl,Je]
   refine ⟨fun z hz=>?_,hR⟩
   rcases List.mem_cons.1 hz with rfl | hz
   ·exact hxy
   ·exact o.tr hxy (h1 z hz)
  | false =>
   rw[if_neg (by simp),Je]
   have hyx:o.lt (key y) (key x)=true:=by
    cases h:o.lt (key y) (key x) with
    | true=>rfl
    | false=>exact absurd (o.tot h hxy) (hne y List.mem_cons_self)
   refine ⟨fun z hz=>?_,Zu h2 fun z hz=>hne z (List.mem_cons_of_mem _ hz)⟩
   rcases QB.1 hz with rfl | hz
   ·exact hyx
   ·exact h1 z hz
theorem Uc {x:α} {xs:List α} (h:qD o key xs):qD o key (Va o key x (YZ key (key x) xs)):=
 Zu (V1 _ h) fun y hy=>(Ue.1 hy).2
theorem Uq (n:κ) (xs:List α):(YZ key n xs).length<=xs.length:=List.length_filter_le _ _
theorem Vn (x:α):∀ xs:List α,(Va o key x xs).length=xs.length+1
 | []=>rfl
 | y :: r=>by
  unfold Va
  split
  ·rfl
  ·rw[List.length_cons,Vn x r];rfl
end
end
section
open Go.RowKit
section
variable {G:zk}
theorem za4 (rows:List (List C)) (hk:∀ r∈rows,r.length=2) (hs:qU rows) (hl:rows.length<=100000) :
  Jz Tryz.prog G 232 [.sl 2 rows] [] 0 (zdX 2 rows):=by
 refine Jz.bySlice (fun h=>?_) (fun h a cap hr=>?_)
 ·refine Jz.of (fun i=>if i=1000000+73 then [true,true] else []) Tryz.func232 rfl (zp rfl) (by kernel_rfl) ?_;dsimp only[Tryz.f232]
  push_cast -dsimp
  refine ⟨h,XU Qg J3 rfl rfl (by decide) rfl (zG hk) rfl (Nat.le_refl _) (Nat.le_refl _) (by omega) (by omega) (fun hc=>absurd hc ?_) (fun _ c hc hm=>?_)⟩
  ·have:=List.length_pos_iff.2 h;omega
  ·push_cast -dsimp
   rw[Nat.zero_add]at hc
   refine ⟨_,_,_,⟨⟨rfl,.inl ⟨h,c,hc,hm,rfl,rfl⟩⟩,Nat.zero_le _⟩,[],rfl,rfl,?_,by push_cast -dsimp [zb,za,CLe,ze]⟩
   push_cast -dsimp [zb,za,CLe,ze]
   exact zQ (zD hs)
 ·cases a with
  | none =>
   refine Jz.of (fun i=>if i=1000000+73 then [true,true] else []) Tryz.func232 rfl (zp rfl) (by kernel_rfl) ?_;dsimp only[Tryz.f232]
   push_cast -dsimp [hr,Option.isNone_none]
   exact ⟨_,_,_,⟨⟨rfl,.inr ⟨h,.inl ⟨rfl,rfl⟩⟩⟩,Nat.zero_le _⟩,[],rfl,rfl,by push_cast -dsimp [zb,za,CLe,ze],by push_cast -dsimp [zb,za,CLe,ze]⟩
  | some a =>
   refine Jz.of (fun i=>if i=1000000+73 then [true,true] else []) Tryz.func232 rfl (zp rfl) (by kernel_rfl) ?_;dsimp only[Tryz.f232]
   push_cast -dsimp [hr,Option.isNone_some]
   have hx:C.xs? 2 [[]] (C.sc (.slice (some a) 0 cap))=some (0,[]):=by simp[C.xs?,hr]
   refine XU Qg J3 hx rfl (by decide) rfl rfl rfl (Nat.le_refl _) (Nat.le_refl _) (by omega) (by omega) (fun _=>?_) (fun hc=>absurd hc (by omega))
   push_cast -dsimp
   exact ⟨_,_,_,⟨⟨rfl,.inr ⟨h,.inr ⟨rfl,rfl⟩⟩⟩,Nat.zero_le _⟩,[],rfl,rfl,by (push_cast -dsimp [zb,za,CLe,ze];simp[spl,ze]),by push_cast -dsimp [zb,za,CLe,ze]⟩
theorem yJ (rows:List (List C)) (x:List C) (i c e:Nat) (hk:∀ r∈rows,r.length=2) (hx:x.length=2) (hs:qU rows) (hsx:(x.all C.stayB)=true) (hl:rows.length<=100000) (hi:i<=rows.length) (hc:rows.length<=c) (hcm:c<=9223372036854775807) :
  Jz Tryz.prog G 233 [.bs 0 0 2 rows.length c,.sc (.int .i64 i),.own 0 e 2 [x]] [qm 2 rows c] 1 (znZ 2 (c*2) (rows.take i++x :: rows.drop i)):=by
 refine Jz.of (fun j=>if j=1000000+73 then [true,true] else if j=11 then [false,false,false,false,false,false,false,false,true] else if j=15 then [false,false,false,false,false,false,false,false,true] else []) Tryz.func233 rfl (zp rfl) (by kernel_rfl) ?_;dsimp only[Tryz.f233]
 push_cast -dsimp
 have hlen:(rows.take i++x :: rows.drop i).length=rows.length+1:=by simp;omega
 have hki:∀ r∈rows.take i++x :: rows.drop i,r.length=2:=fun r hr=>by
  rcases List.mem_append.1 hr with hr | hr
  ·exact hk r (List.mem_of_mem_take hr)
  ·rcases List.mem_cons.1 hr with rfl | hr
   ·exact hx
   ·exact hk r (List.mem_of_mem_drop hr)
 have hsi:qU (rows.take i++x :: rows.drop i):=fun r hr=>by
  rcases List.mem_append.1 hr with hr | hr
  ·exact hs r (List.mem_of_mem_take hr)
  ·rcases List.mem_cons.1 hr with rfl | hr
   ·exact hsx
   ·exact hs r (List.mem_of_mem_drop hr)
 have hbl:=Jm hk hc
 have hfl:=zG hk
 have hxl:[x].flatten.length=1*2:=by simp[hx]
 have hpre:(qm 2 rows c).take rows.flatten.length=rows.flatten:=by unfold qm;rw[List.take_left]
 refine ⟨hc,⟨by omega,hi⟩,br (fun h=>?_) (fun h=>?_)⟩
 ·push_cast -dsimp
  refine XU Qg J3 rfl rfl (by decide) rfl hxl rfl (by rw[hbl];omega) hc (by simp;omega) (by simp;omega) (fun h1=>?_) (fun h1 c' h2 h3=>?_)
  ·push_cast -dsimp
   have hi':i=rows.length:=of_decide_eq_true h
   refine ⟨_,_,_,⟨⟨rfl,c,by rw[hlen];exact h1,hcm,.inl ⟨rfl,rfl⟩⟩,Nat.le_refl _⟩,[],rfl,rfl,?_,by push_cast -dsimp [zb,za,CLe,ze,hlen]⟩
   push_cast -dsimp [zb,za,CLe,ze]
   have h6:rows.length*2+2<=c*2:=by have:rows.length+1<=c:=h1;omega
   refine Jg hki hsi (by rw[hlen];exact h1) (by rw[X7 (by rw[hbl,hx];exact h6),hbl]) ?_
   rw[hlen,hi',List.take_length,List.drop_length]
   unfold spl
   rw[←hfl,hpre,List.take_left' (by simp[hx,hfl];omega)]
   simp
  ·push_cast -dsimp
   have hi':i=rows.length:=of_decide_eq_true h
   have h2':rows.length+1<=c':=h2
   refine ⟨_,_,_,⟨⟨rfl,c',by rw[hlen];exact h2,h3,.inr ⟨rfl,rfl⟩⟩,Nat.le_of_ble_eq_true rfl⟩,[],rfl,rfl,?_,by push_cast -dsimp [zb,za,CLe,ze,hlen]⟩
   push_cast -dsimp [zb,za,CLe,ze]
   refine ⟨YW hbl,Jg hki hsi (by rw[hlen];exact h2) (by simp[hx,hbl];omega) ?_⟩
   rw[hlen,hi',List.take_length,List.drop_length,←hfl,hpre,List.take_left' (by simp[hx,hfl];omega)]
   simp
 ·have hne:i≠rows.length:=of_decide_eq_false h
  push_cast -dsimp
  refine ⟨⟨by omega,by omega⟩,br (fun h1=>?_) (fun h1=>?_)⟩
  ·have h1':(c:Int)<(rows.length:Int)+1:=of_decide_eq_true h1
   push_cast -dsimp
   (try simp only[lS]);repeat refine And.intro (by omega) ?_
   refine zi5 Qg zle J3 rfl (by decide) rfl rfl (by rw[hbl];omega) (by omega) (by omega) (by omega) (by omega) (by omega) (fun c' B h2 h3 hBl hBt=>?_)
   have e1:((rows.length:Int)+1-(i:Int)).toNat=rows.length+1-i:=by omega
   rw[e1]at h2 ⊢
   have e2:i+(rows.length+1-i)=rows.length+1:=by omega
   rw[e2]at h2 ⊢
   push_cast -dsimp
   (try simp only[lS]);repeat refine And.intro (by omega) ?_
   refine Xa Qg J3 rfl rfl hxl (by rw[hBl];omega) (fun B1 hB1 hl1=>?_)
   rw[hBl]at hl1
   push_cast -dsimp
   (try simp only[lS]);repeat refine And.intro (by omega) ?_
   have hbp:=YX (c:=c) hk hi
   refine Xa Qg J3 (V6 rfl (by rw[hbl];omega)) rfl (by rw[hbp,List.length_drop,hfl];omega) (by rw[hl1];omega) (fun B2 hB2 hl2=>?_)
   rw[hl1]at hl2
   have hX:[x].flatten.take (min [x].length (rows.length+1-i)*2)=x:=by
    rw[List.length_singleton,Nat.min_eq_left (by omega),List.take_of_length_le (by omega)];simp
   rw[hX]at hB1
   rw[hbp,show min (rows.length-i) (rows.length-i)*2=(rows.length-i)*2 by omega,List.take_of_length_le (by rw[List.length_drop,hfl];omega),hB1]at hB2
   push_cast -dsimp
   refine ⟨_,_,_,⟨⟨rfl,c',by rw[hlen];exact h2,h3,.inr ⟨rfl,rfl⟩⟩,Nat.le_of_ble_eq_true rfl⟩,[],rfl,rfl,?_,by push_cast -dsimp [zb,za,CLe,ze,hlen]⟩
   push_cast -dsimp [zb,za,CLe,ze]
   refine ⟨YW hbl,Jg hki hsi (by rw[hlen];exact h2) hl2 ?_⟩
   rw[hlen,←XO hk,hB2]
   have hg:=kT (cs:=B) (L:=rows.flatten) (X:=x) (p:=i*2) (q:=(i+1)*2) (by omega) (by omega) (by
    rw[hBt,List.drop_zero];unfold qm;rw[List.take_append_of_le_length (by omega)]) (by omega)
   rw[hfl,hx]at hg
   rw[←hg]
   congr 1;omega
  ·have h1':¬(c:Int)<(rows.length:Int)+1:=of_decide_eq_false h1
   push_cast -dsimp
   (try simp only[lS]);repeat refine And.intro (by omega) ?_
   refine ziB (M2 (P:=Tryz.prog) (tR:=4) Tryz.func254 (by kernel_rfl) (by kernel_rfl) (by kernel_rfl) (by kernel_rfl) Qg J3 rfl (List.ne_nil_of_length_pos (by rw[hbl];omega)) (by simp) (by omega)) ?_
   push_cast -dsimp
   (try simp only[lS]);repeat refine And.intro (by omega) ?_
   have hbp:=YX (c:=c) hk hi
   refine Xa Qg J3 (V6 rfl (by rw[hbl];omega)) rfl (by simp[hbl];omega) (by rw[hbl];omega) (fun B1 hB1 hl1=>?_)
   rw[hbl]at hl1
   rw[List.take_take,Nat.min_eq_left (by omega),show min (rows.length+1-i) (rows.length-i)*2=(rows.length-i)*2 by omega,hbp]at hB1
   push_cast -dsimp
   (try simp only[lS]);repeat refine And.intro (by omega) ?_
   refine Xa Qg J3 rfl rfl hxl (by rw[hl1];omega) (fun B2 hB2 hl2=>?_)
   rw[hl1]at hl2
   have hX:[x].flatten.take (min [x].length (rows.length+1-i)*2)=x:=by
    rw[List.length_singleton,Nat.min_eq_left (by omega),List.take_of_length_le (by omega)];simp
   rw[hX,hB1]at hB2
   push_cast -dsimp
   have hcc:rows.length+1<=c:=by omega
   refine ⟨_,_,_,⟨⟨rfl,c,by rw[hlen];exact hcc,hcm,.inl ⟨rfl,rfl⟩⟩,Nat.le_of_ble_eq_true rfl⟩,[],rfl,rfl,?_,by push_cast -dsimp [zb,za,CLe,ze,hlen]⟩
   push_cast -dsimp [zb,za,CLe,ze]
   refine Jg hki hsi (by rw[hlen];exact hcc) hl2 ?_
   rw[hlen,←XO hk,hB2]
   have hg:=Ub (cs:=qm 2 rows c) (L:=rows.flatten) (X:=x) (p:=i*2) (q:=(i+1)*2) (by omega) (by omega) hpre (by omega)
   rw[hfl,hx]at hg
   rw[←hg]
   congr 1;omega
theorem zg1 {e:Nat} (x:List C) (hx:x.length=2) (hsx:(x.all C.stayB)=true) :
  Jz Tryz.prog G 233 [.sc (.slice none 0 0),.sc (.int .i64 0),.own 0 e 2 [x]] [] 1 (fun r bx' n=>n=0/\∃ c,1<=c/\c<=9223372036854775807/\r = .bs 0 0 2 1 c/\bx' = [qm 2 [x] c]):=by
 refine Jz.of (fun j=>if j=1000000+73 then [true,true] else if j=11 then [false,false,false,false,false,false,false,false,true] else if j=15 then [false,false,false,false,false,false,false,false,true] else []) Tryz.func233 rfl (zp rfl) (by kernel_rfl) ?_;dsimp only[Tryz.f233]
 push_cast -dsimp
 refine HM Qg J3 rfl rfl (by decide) rfl (by simp[hx]) (by simp) (by simp) (by simp) (fun c h1 h2=>?_)
 push_cast -dsimp
 refine ⟨_,_,_,⟨⟨rfl,c,h1,h2,rfl,rfl⟩,Nat.zero_le _⟩,[],rfl,rfl,?_,by push_cast -dsimp [zb,za,CLe,ze]⟩
 push_cast -dsimp [zb,za,CLe,ze]
 have:=zQ (src:=[]) (n:=1) (zD (k:=2) (c:=c) (rows:=[x]) fun r hr=>by
  rw[List.mem_singleton.1 hr];exact hsx)
 unfold qm at this ⊢
 simpa using this
end
end
end Go.Proofs.YtiblepfehggicaaGreatDoor.Vcg
section
namespace Go.Proofs
open Go.Shelf
def Tryz.lays169_ren:Go.Shelf.Ren:=⟨fun | 169=>119 | n=>n,fun | 70=>156 | 9=>9 | 0=>0 | 72=>159 | 37=>157 | 127=>199 | 3=>3 | 5=>5 | n=>n,fun | n=>n⟩
theorem Tryz.lays169:Go.Proofs.Lays.n169 Tryz.prog Tryz.lays169_ren:={
 mixed:=by kernel_rfl
 f169:=Tryz.func119.trans (congrArg some (by kernel_rfl))
 t0:=Tryz.underlying0
 a0:=Tryz.isAgg0
 z0:=Tryz.sizeOf0
 v0:=Tryz.zeroValue0
 t3:=Tryz.underlying3
 a3:=Tryz.isAgg3
 z3:=Tryz.sizeOf3
 v3:=Tryz.zeroValue3
 t9:=Tryz.underlying9
 a9:=Tryz.isAgg9
 z9:=Tryz.sizeOf9
 v9:=Tryz.zeroValue9
 t37:=Tryz.underlying157
 a37:=Tryz.isAgg157
 z37:=Tryz.sizeOf157
 v37:=Tryz.zeroValue157
 t70:=Tryz.underlying156
 a70:=Tryz.isAgg156
 z70:=Tryz.sizeOf156
 v70:=Tryz.zeroValue156
 t72:=Tryz.underlying159
 a72:=Tryz.isAgg159
 z72:=Tryz.sizeOf159
 v72:=Tryz.zeroValue159
 t127:=Tryz.underlying199
 a127:=Tryz.isAgg199
 z127:=Tryz.sizeOf199
 v127:=Tryz.zeroValue199 }
theorem Tryz.Builder_Extra_169:Builder.Extra Tryz.prog Tryz.lays169_ren:={
 sizeBuilder:=by kernel_rfl
 liesBuilder:=by kernel_rfl
 t5:=Tryz.underlying5
 a5:=Tryz.isAgg5
 z5:=Tryz.sizeOf5
 v5:=Tryz.zeroValue5
 infoByte:=by kernel_rfl
 cellsByte:=by kernel_rfl
 sizeByte:=by kernel_rfl
 neB5:=by decide }
open Go.RowKit in
theorem Tryz.Builder_String_any (B b:Nat) (l:List UInt8) (w:World) (h:Lib.IsBuilder 159 5 B b (Lib.byteCells l) w) (hBw:B<=w.heap.size) :
  Calls Tryz.prog 119 #[.pointer (some ⟨b,0,none⟩)] w fun e w'=>e = .returned (.string ⟨l.toArray⟩)/\Below B w w':=Any.Builder_String_any Tryz.lays169 Tryz.Builder_Extra_169 B b l w h hBw
def Tryz.lays156_ren:Go.Shelf.Ren:=⟨fun | 156=>78 | 165=>117 | 166=>118 | 169=>119 | 240=>159 | 241=>160 | 276=>194 | 277=>195 | n=>n,fun | 31=>33 | 9=>9 | 3=>3 | 4=>4 | 0=>0 | 20=>20 | 72=>159 | 76=>163 | 70=>156 | 37=>157 | 75=>162 | 127=>199 | 164=>233 | 5=>5 | 80=>165 | n=>n,fun | n=>n⟩
theorem Tryz.lays156:Go.Proofs.Lays.n156 Tryz.prog Tryz.lays156_ren:={
 mixed:=by kernel_rfl
 f156:=Tryz.func78.trans (congrArg some (by kernel_rfl))
 f165:=Tryz.func117.trans (congrArg some (by kernel_rfl))
 f166:=Tryz.func118.trans (congrArg some (by kernel_rfl))
 f169:=Tryz.func119.trans (congrArg some (by kernel_rfl))
 f240:=Tryz.func159.trans (congrArg some (by kernel_rfl))
 f241:=Tryz.func160.trans (congrArg some (by kernel_rfl))
 f276:=Tryz.func194.trans (congrArg some (by kernel_rfl))
 f277:=Tryz.func195.trans (congrArg some (by kernel_rfl))
 t0:=Tryz.underlying0
 a0:=Tryz.isAgg0
 z0:=Tryz.sizeOf0
 v0:=Tryz.zeroValue0
 t3:=Tryz.underlying3
 a3:=Tryz.isAgg3
 z3:=Tryz.sizeOf3
 v3:=Tryz.zeroValue3
 t4:=Tryz.underlying4
 a4:=Tryz.isAgg4
 z4:=Tryz.sizeOf4
 v4:=Tryz.zeroValue4
 t9:=Tryz.underlying9
 a9:=Tryz.isAgg9
 z9:=Tryz.sizeOf9
 v9:=Tryz.zeroValue9
 t20:=Tryz.underlying20
 a20:=Tryz.isAgg20
 z20:=Tryz.sizeOf20
 v20:=Tryz.zeroValue20
 t31:=Tryz.underlying33
 a31:=Tryz.isAgg33
 z31:=Tryz.sizeOf33
 v31:=Tryz.zeroValue33
 t37:=Tryz.underlying157
 a37:=Tryz.isAgg157
 z37:=Tryz.sizeOf157
 v37:=Tryz.zeroValue157
 t70:=Tryz.underlying156
 a70:=Tryz.isAgg156
 z70:=Tryz.sizeOf156
 v70:=Tryz.zeroValue156
 t72:=Tryz.underlying159
 a72:=Tryz.isAgg159
 z72:=Tryz.sizeOf159
 v72:=Tryz.zeroValue159
 t75:=Tryz.underlying162
 a75:=Tryz.isAgg162
 z75:=Tryz.sizeOf162
 v75:=Tryz.zeroValue162
 t76:=Tryz.underlying163
 a76:=Tryz.isAgg163
 z76:=Tryz.sizeOf163
 v76:=Tryz.zeroValue163
 t127:=Tryz.underlying199
 a127:=Tryz.isAgg199
 z127:=Tryz.sizeOf199
 v127:=Tryz.zeroValue199
 t164:=Tryz.underlying233
 a164:=Tryz.isAgg233
 z164:=Tryz.sizeOf233
 v164:=Tryz.zeroValue233 }
theorem Tryz.Builder_Extra_156:Builder.Extra Tryz.prog Tryz.lays156_ren:={
 sizeBuilder:=by kernel_rfl
 liesBuilder:=by kernel_rfl
 t5:=Tryz.underlying5
 a5:=Tryz.isAgg5
 z5:=Tryz.sizeOf5
 v5:=Tryz.zeroValue5
 infoByte:=by kernel_rfl
 cellsByte:=by kernel_rfl
 sizeByte:=by kernel_rfl
 neB5:=by decide }
open Go.RowKit in
theorem Tryz.strings_Join_none (a:Option Addr) (c:Nat) (sep:ByteArray) (w:World) :
  Calls Tryz.prog 78 #[.slice a 0 c,.string sep] w fun e w'=>e = .returned (.string ⟨#[]⟩)/\w'=w:=Any.strings_Join_none Tryz.lays156 Tryz.Builder_Extra_156 a c sep w
open Go.RowKit in
theorem Tryz.strings_Join (bk o c:Nat) (xs:List ByteArray) (sep:ByteArray) (w:World) (hcells:∀ (j:Nat) x,xs[j]?=some x->w.cell? ⟨bk,o+j,none⟩=some (.string x)) (hbk:bk<w.heap.size) (hN:xs.length<=140737488355328) (hcap:xs.length<=c) (hlen:(Lib.join (xs.map (·.data.toList)) sep.data.toList).length<=140737488355328) :
  Calls Tryz.prog 78 #[.slice (some ⟨bk,o,none⟩) xs.length c,.string sep] w fun e w'=>e = .returned (.string ⟨(Lib.join (xs.map (·.data.toList)) sep.data.toList).toArray⟩)/\Below w.heap.size w w':=Any.strings_Join Tryz.lays156 Tryz.Builder_Extra_156 bk o c xs sep w hcells hbk hN hcap hlen
def Tryz.lays162_ren:Go.Shelf.Ren:=⟨fun | 162=>153 | 232=>187 | 227=>188 | 234=>189 | 236=>190 | 228=>222 | 271=>223 | 151=>224 | 120=>248 | 197=>185 | 152=>249 | 260=>220 | 137=>260 | 119=>261 | 224=>246 | 225=>245 | 217=>244 | 266=>258 | n=>n,fun | 9=>9 | 4=>4 | 3=>3 | 5=>5 | 117=>224 | 116=>223 | 0=>0 | 124=>227 | 21=>21 | 105=>218 | 46=>230 | 119=>261 | 139=>264 | 138=>263 | n=>n,fun | 3=>5 | 4=>6 | n=>n⟩
theorem Tryz.lays162:Go.Proofs.Lays.n162 Tryz.prog Tryz.lays162_ren:={
 mixed:=by kernel_rfl
 f119:=Tryz.func261.trans (congrArg some (by kernel_rfl))
 f120:=Tryz.func248.trans (congrArg some (by kernel_rfl))
 f137:=Tryz.func260.trans (congrArg some (by kernel_rfl))
 f151:=Tryz.func224.trans (congrArg some (by kernel_rfl))
 f152:=Tryz.func249.trans (congrArg some (by kernel_rfl))
 f162:=Tryz.func153.trans (congrArg some (by kernel_rfl))
 f197:=Tryz.func185.trans (congrArg some (by kernel_rfl))
 f217:=Tryz.func244.trans (congrArg some (by kernel_rfl))
 f224:=Tryz.func246.trans (congrArg some (by kernel_rfl))
 f225:=Tryz.func245.trans (congrArg some (by kernel_rfl))
 f227:=Tryz.func188.trans (congrArg some (by kernel_rfl))
 f228:=Tryz.func222.trans (congrArg some (by kernel_rfl))
 f232:=Tryz.func187.trans (congrArg some (by kernel_rfl))
 f234:=Tryz.func189.trans (congrArg some (by kernel_rfl))
 f236:=Tryz.func190.trans (congrArg some (by kernel_rfl))
 f260:=Tryz.func220.trans (congrArg some (by kernel_rfl))
 f266:=Tryz.func258.trans (congrArg some (by kernel_rfl))
 f271:=Tryz.func223.trans (congrArg some (by kernel_rfl))
 t0:=Tryz.underlying0
 a0:=Tryz.isAgg0
 z0:=Tryz.sizeOf0
 v0:=Tryz.zeroValue0
 t3:=Tryz.underlying3
 a3:=Tryz.isAgg3
 z3:=Tryz.sizeOf3
 v3:=Tryz.zeroValue3
 t4:=Tryz.underlying4
 a4:=Tryz.isAgg4
 z4:=Tryz.sizeOf4
 v4:=Tryz.zeroValue4
 t5:=Tryz.underlying5
 a5:=Tryz.isAgg5
 z5:=Tryz.sizeOf5
 v5:=Tryz.zeroValue5
 t9:=Tryz.underlying9
 a9:=Tryz.isAgg9
 z9:=Tryz.sizeOf9
 v9:=Tryz.zeroValue9
 t21:=Tryz.underlying21
 a21:=Tryz.isAgg21
 z21:=Tryz.sizeOf21
 v21:=Tryz.zeroValue21
 t46:=Tryz.underlying230
 a46:=Tryz.isAgg230
 z46:=Tryz.sizeOf230
 v46:=Tryz.zeroValue230
 t105:=Tryz.underlying218
 a105:=Tryz.isAgg218
 z105:=Tryz.sizeOf218
 v105:=Tryz.zeroValue218
 t116:=Tryz.underlying223
 a116:=Tryz.isAgg223
 z116:=Tryz.sizeOf223
 t117:=Tryz.underlying224
 a117:=Tryz.isAgg224
 z117:=Tryz.sizeOf224
 v117:=Tryz.zeroValue224
 t119:=Tryz.underlying261
 a119:=Tryz.isAgg261
 z119:=Tryz.sizeOf261
 t124:=Tryz.underlying227
 a124:=Tryz.isAgg227
 z124:=Tryz.sizeOf227
 v124:=Tryz.zeroValue227
 t138:=Tryz.underlying263
 a138:=Tryz.isAgg263
 z138:=Tryz.sizeOf263
 v138:=Tryz.zeroValue263
 t139:=Tryz.underlying264
 a139:=Tryz.isAgg264
 z139:=Tryz.sizeOf264
 v139:=Tryz.zeroValue264
 g3:=by kernel_rfl
 g4:=by kernel_rfl }
def Tryz.lays119_ren:Go.Shelf.Ren:=⟨fun | 119=>261 | n=>n,fun | 21=>21 | 4=>4 | n=>n,fun | n=>n⟩
theorem Tryz.lays119:Go.Proofs.Lays.n119 Tryz.prog Tryz.lays119_ren:={
 mixed:=by kernel_rfl
 f119:=Tryz.func261.trans (congrArg some (by kernel_rfl))
 t4:=Tryz.underlying4
 a4:=Tryz.isAgg4
 z4:=Tryz.sizeOf4
 v4:=Tryz.zeroValue4
 t21:=Tryz.underlying21
 a21:=Tryz.isAgg21
 z21:=Tryz.sizeOf21
 v21:=Tryz.zeroValue21 }
theorem Tryz.utf8_ValidRune (r:Int) (w:World) :
  Calls Tryz.prog 261 #[.int .i32 r] w fun e w'=>e = .returned (.bool (Lib.validRune r))/\w'=w:=Any.utf8_ValidRune Tryz.lays119 r w
def Tryz.lays106_ren:Go.Shelf.Ren:=⟨fun | 106=>253 | 213=>263 | 265=>266 | n=>n,fun | 9=>9 | 3=>3 | n=>n,fun | n=>n⟩
theorem Tryz.lays106:Go.Proofs.Lays.n106 Tryz.prog Tryz.lays106_ren:={
 mixed:=by kernel_rfl
 f106:=Tryz.func253.trans (congrArg some (by kernel_rfl))
 f213:=Tryz.func263.trans (congrArg some (by kernel_rfl))
 f265:=Tryz.func266.trans (congrArg some (by kernel_rfl))
 t3:=Tryz.underlying3
 a3:=Tryz.isAgg3
 z3:=Tryz.sizeOf3
 v3:=Tryz.zeroValue3
 t9:=Tryz.underlying9
 a9:=Tryz.isAgg9
 z9:=Tryz.sizeOf9
 v9:=Tryz.zeroValue9 }
open Go.RowKit in
theorem Tryz.strings_Compare (a b:ByteArray) (w:World) :
  Calls Tryz.prog 253 #[.string a,.string b] w fun e w'=>e = .returned (.int .i64 (Lib.compareBytes a.data.toList b.data.toList))/\w'=w:=Any.strings_Compare Tryz.lays106 a b w
def Tryz.lays137_ren:Go.Shelf.Ren:=⟨fun | 137=>260 | 217=>244 | 266=>258 | n=>n,fun | 9=>9 | 5=>5 | 3=>3 | n=>n,fun | n=>n⟩
theorem Tryz.lays137:Go.Proofs.Lays.n137 Tryz.prog Tryz.lays137_ren:={
 mixed:=by kernel_rfl
 f137:=Tryz.func260.trans (congrArg some (by kernel_rfl))
 f217:=Tryz.func244.trans (congrArg some (by kernel_rfl))
 f266:=Tryz.func258.trans (congrArg some (by kernel_rfl))
 t3:=Tryz.underlying3
 a3:=Tryz.isAgg3
 z3:=Tryz.sizeOf3
 v3:=Tryz.zeroValue3
 t5:=Tryz.underlying5
 a5:=Tryz.isAgg5
 z5:=Tryz.sizeOf5
 v5:=Tryz.zeroValue5
 t9:=Tryz.underlying9
 a9:=Tryz.isAgg9
 z9:=Tryz.sizeOf9
 v9:=Tryz.zeroValue9 }
open Go.RowKit in
theorem Tryz.strings_IndexByte (s:ByteArray) (c:Int) (w:World) :
  Calls Tryz.prog 260 #[.string s,.int .u8 c] w fun e w'=>e = .returned (.int .i64 (Lib.indexByte s.data.toList c.toNat.toUInt8))/\w'=w:=Any.strings_IndexByte Tryz.lays137 s c w
def Tryz.lays143_ren:Go.Shelf.Ren:=⟨fun | 143=>186 | 219=>221 | 217=>244 | 225=>245 | 224=>246 | 267=>247 | 266=>258 | 314=>259 | n=>n,fun | 9=>9 | 3=>3 | 4=>4 | 5=>5 | 46=>230 | 146=>273 | 51=>272 | n=>n,fun | 1=>4 | n=>n⟩
theorem Tryz.lays143:Go.Proofs.Lays.n143 Tryz.prog Tryz.lays143_ren:={
 mixed:=by kernel_rfl
 f143:=Tryz.func186.trans (congrArg some (by kernel_rfl))
 f217:=Tryz.func244.trans (congrArg some (by kernel_rfl))
 f219:=Tryz.func221.trans (congrArg some (by kernel_rfl))
 f224:=Tryz.func246.trans (congrArg some (by kernel_rfl))
 f225:=Tryz.func245.trans (congrArg some (by kernel_rfl))
 f266:=Tryz.func258.trans (congrArg some (by kernel_rfl))
 f267:=Tryz.func247.trans (congrArg some (by kernel_rfl))
 f314:=Tryz.func259.trans (congrArg some (by kernel_rfl))
 t3:=Tryz.underlying3
 a3:=Tryz.isAgg3
 z3:=Tryz.sizeOf3
 v3:=Tryz.zeroValue3
 t4:=Tryz.underlying4
 a4:=Tryz.isAgg4
 z4:=Tryz.sizeOf4
 v4:=Tryz.zeroValue4
 t5:=Tryz.underlying5
 a5:=Tryz.isAgg5
 z5:=Tryz.sizeOf5
 v5:=Tryz.zeroValue5
 t9:=Tryz.underlying9
 a9:=Tryz.isAgg9
 z9:=Tryz.sizeOf9
 v9:=Tryz.zeroValue9
 t46:=Tryz.underlying230
 a46:=Tryz.isAgg230
 z46:=Tryz.sizeOf230
 v46:=Tryz.zeroValue230
 t51:=Tryz.underlying272
 a51:=Tryz.isAgg272
 z51:=Tryz.sizeOf272
 v51:=Tryz.zeroValue272
 t146:=Tryz.underlying273
 a146:=Tryz.isAgg273
 z146:=Tryz.sizeOf273
 v146:=Tryz.zeroValue273
 g1:=by kernel_rfl }
open Go.RowKit Go.Lib in
theorem Tryz.strings_Index_one (s:ByteArray) (c:UInt8) (w:World) :
  Calls Tryz.prog 186 #[.string s,.string ⟨#[c]⟩] w fun e w'=>e = .returned (.int .i64 (Lib.indexByte s.data.toList c))/\w'=w:=Any.strings_Index_one Tryz.lays143 s c w
def Tryz.lays99_ren:Go.Shelf.Ren:=⟨fun | 99=>81 | 206=>122 | n=>n,fun | 9=>9 | 4=>4 | 3=>3 | n=>n,fun | n=>n⟩
theorem Tryz.lays99:Go.Proofs.Lays.n99 Tryz.prog Tryz.lays99_ren:={
 mixed:=by kernel_rfl
 f99:=Tryz.func81.trans (congrArg some (by kernel_rfl))
 f206:=Tryz.func122.trans (congrArg some (by kernel_rfl))
 t3:=Tryz.underlying3
 a3:=Tryz.isAgg3
 z3:=Tryz.sizeOf3
 v3:=Tryz.zeroValue3
 t4:=Tryz.underlying4
 a4:=Tryz.isAgg4
 z4:=Tryz.sizeOf4
 v4:=Tryz.zeroValue4
 t9:=Tryz.underlying9
 a9:=Tryz.isAgg9
 z9:=Tryz.sizeOf9
 v9:=Tryz.zeroValue9 }
open Go.RowKit Go.Lib in
theorem Tryz.strings_HasPrefix (s p:ByteArray) (w:World) :
  Calls Tryz.prog 81 #[.string s,.string p] w fun e w'=>e = .returned (.bool (Lib.hasPrefix s.data.toList p.data.toList))/\w'=w:=Any.strings_HasPrefix Tryz.lays99 s p w
def Tryz.lays100_ren:Go.Shelf.Ren:=⟨fun | 100=>38 | 207=>73 | n=>n,fun | 9=>9 | 4=>4 | 3=>3 | n=>n,fun | n=>n⟩
theorem Tryz.lays100:Go.Proofs.Lays.n100 Tryz.prog Tryz.lays100_ren:={
 mixed:=by kernel_rfl
 f100:=Tryz.func38.trans (congrArg some (by kernel_rfl))
 f207:=Tryz.func73.trans (congrArg some (by kernel_rfl))
 t3:=Tryz.underlying3
 a3:=Tryz.isAgg3
 z3:=Tryz.sizeOf3
 v3:=Tryz.zeroValue3
 t4:=Tryz.underlying4
 a4:=Tryz.isAgg4
 z4:=Tryz.sizeOf4
 v4:=Tryz.zeroValue4
 t9:=Tryz.underlying9
 a9:=Tryz.isAgg9
 z9:=Tryz.sizeOf9
 v9:=Tryz.zeroValue9 }
open Go.RowKit Go.Lib in
theorem Tryz.strings_HasSuffix (s p:ByteArray) (w:World) (hs:s.size<=9223372036854775807) :
  Calls Tryz.prog 38 #[.string s,.string p] w fun e w'=>e = .returned (.bool (Lib.hasSuffix s.data.toList p.data.toList))/\w'=w:=Any.strings_HasSuffix Tryz.lays100 s p w hs
def Tryz.lays152_ren:Go.Shelf.Ren:=⟨fun | 152=>249 | 137=>260 | 119=>261 | 224=>246 | 225=>245 | 217=>244 | 266=>258 | n=>n,fun | 9=>9 | 21=>21 | 3=>3 | 4=>4 | 5=>5 | 0=>0 | 46=>230 | n=>n,fun | n=>n⟩
theorem Tryz.lays152:Go.Proofs.Lays.n152 Tryz.prog Tryz.lays152_ren:={
 mixed:=by kernel_rfl
 f119:=Tryz.func261.trans (congrArg some (by kernel_rfl))
 f137:=Tryz.func260.trans (congrArg some (by kernel_rfl))
 f152:=Tryz.func249.trans (congrArg some (by kernel_rfl))
 f217:=Tryz.func244.trans (congrArg some (by kernel_rfl))
 f224:=Tryz.func246.trans (congrArg some (by kernel_rfl))
 f225:=Tryz.func245.trans (congrArg some (by kernel_rfl))
 f266:=Tryz.func258.trans (congrArg some (by kernel_rfl))
 t0:=Tryz.underlying0
 a0:=Tryz.isAgg0
 z0:=Tryz.sizeOf0
 v0:=Tryz.zeroValue0
 t3:=Tryz.underlying3
 a3:=Tryz.isAgg3
 z3:=Tryz.sizeOf3
 v3:=Tryz.zeroValue3
 t4:=Tryz.underlying4
 a4:=Tryz.isAgg4
 z4:=Tryz.sizeOf4
 v4:=Tryz.zeroValue4
 t5:=Tryz.underlying5
 a5:=Tryz.isAgg5
 z5:=Tryz.sizeOf5
 v5:=Tryz.zeroValue5
 t9:=Tryz.underlying9
 a9:=Tryz.isAgg9
 z9:=Tryz.sizeOf9
 v9:=Tryz.zeroValue9
 t21:=Tryz.underlying21
 a21:=Tryz.isAgg21
 z21:=Tryz.sizeOf21
 v21:=Tryz.zeroValue21
 t46:=Tryz.underlying230
 a46:=Tryz.isAgg230
 z46:=Tryz.sizeOf230
 v46:=Tryz.zeroValue230 }
open Go.RowKit Go.Lib in
theorem Tryz.strings_IndexRune_ascii (s:ByteArray) (r:Int) (w:World) (h0:0<=r) (h1:r<128) :
  Calls Tryz.prog 249 #[.string s,.int .i32 r] w fun e w'=>e = .returned (.int .i64 (Lib.indexByte s.data.toList r.toNat.toUInt8))/\w'=w:=Any.strings_IndexRune_ascii Tryz.lays152 s r w h0 h1
def Tryz.lays226_ren:Go.Shelf.Ren:=⟨fun | 226=>262 | n=>n,fun | 3=>3 | 4=>4 | n=>n,fun | n=>n⟩
theorem Tryz.lays226:Go.Proofs.Lays.n226 Tryz.prog Tryz.lays226_ren:={
 mixed:=by kernel_rfl
 f226:=Tryz.func262.trans (congrArg some (by kernel_rfl))
 t3:=Tryz.underlying3
 a3:=Tryz.isAgg3
 z3:=Tryz.sizeOf3
 v3:=Tryz.zeroValue3
 t4:=Tryz.underlying4
 a4:=Tryz.isAgg4
 z4:=Tryz.sizeOf4
 v4:=Tryz.zeroValue4 }
open Go.RowKit Go.Lib in
theorem Tryz.strings_shouldUseASCIISet (n:Int) (w:World) :
  Calls Tryz.prog 262 #[.int .i64 n] w fun e w'=>e = .returned (.bool (decide (8<n)))/\w'=w:=Any.strings_shouldUseASCIISet Tryz.lays226 n w
def Tryz.lays153_ren:Go.Shelf.Ren:=⟨fun | 153=>250 | 152=>249 | 226=>262 | 227=>188 | 228=>222 | 137=>260 | 119=>261 | 224=>246 | 225=>245 | 217=>244 | 266=>258 | n=>n,fun | 9=>9 | 3=>3 | 4=>4 | 5=>5 | 21=>21 | 117=>224 | 116=>223 | 0=>0 | 46=>230 | 124=>227 | n=>n,fun | n=>n⟩
theorem Tryz.lays153:Go.Proofs.Lays.n153 Tryz.prog Tryz.lays153_ren:={
 mixed:=by kernel_rfl
 f119:=Tryz.func261.trans (congrArg some (by kernel_rfl))
 f137:=Tryz.func260.trans (congrArg some (by kernel_rfl))
 f152:=Tryz.func249.trans (congrArg some (by kernel_rfl))
 f153:=Tryz.func250.trans (congrArg some (by kernel_rfl))
 f217:=Tryz.func244.trans (congrArg some (by kernel_rfl))
 f224:=Tryz.func246.trans (congrArg some (by kernel_rfl))
 f225:=Tryz.func245.trans (congrArg some (by kernel_rfl))
 f226:=Tryz.func262.trans (congrArg some (by kernel_rfl))
 f227:=Tryz.func188.trans (congrArg some (by kernel_rfl))
 f228:=Tryz.func222.trans (congrArg some (by kernel_rfl))
 f266:=Tryz.func258.trans (congrArg some (by kernel_rfl))
 t0:=Tryz.underlying0
 a0:=Tryz.isAgg0
 z0:=Tryz.sizeOf0
 v0:=Tryz.zeroValue0
 t3:=Tryz.underlying3
 a3:=Tryz.isAgg3
 z3:=Tryz.sizeOf3
 v3:=Tryz.zeroValue3
 t4:=Tryz.underlying4
 a4:=Tryz.isAgg4
 z4:=Tryz.sizeOf4
 v4:=Tryz.zeroValue4
 t5:=Tryz.underlying5
 a5:=Tryz.isAgg5
 z5:=Tryz.sizeOf5
 v5:=Tryz.zeroValue5
 t9:=Tryz.underlying9
 a9:=Tryz.isAgg9
 z9:=Tryz.sizeOf9
 v9:=Tryz.zeroValue9
 t21:=Tryz.underlying21
 a21:=Tryz.isAgg21
 z21:=Tryz.sizeOf21
 v21:=Tryz.zeroValue21
 t46:=Tryz.underlying230
 a46:=Tryz.isAgg230
 z46:=Tryz.sizeOf230
 v46:=Tryz.zeroValue230
 t116:=Tryz.underlying223
 a116:=Tryz.isAgg223
 z116:=Tryz.sizeOf223
 t117:=Tryz.underlying224
 a117:=Tryz.isAgg224
 z117:=Tryz.sizeOf224
 v117:=Tryz.zeroValue224
 t124:=Tryz.underlying227
 a124:=Tryz.isAgg227
 z124:=Tryz.sizeOf227
 v124:=Tryz.zeroValue227 }
open Go.RowKit Go.Lib in
theorem Tryz.strings_IndexAny_long (hv116:∀ w,(zeroValue 223).run Tryz.prog w = .ok (.agg (Array.replicate 256 (.bool false))) w) (s chars:ByteArray) (w:World) (h2:2<=chars.size) (h8:8<s.size) (hs:s.size<4294967281) (hcs:chars.size<4294967281) (hascii:∀ (j:Nat) b,chars.data.toList[j]?=some b->b.toNat<128) :
  Calls Tryz.prog 250 #[.string s,.string chars] w fun e w'=>e = .returned (.int .i64 (Lib.indexAny s.data.toList chars.data.toList))/\w'=((w.alloc (.cells (Lib.setCells chars.data.toList) 223)).alloc (.cells (Lib.setCells chars.data.toList) 223)):=Any.strings_IndexAny_long Tryz.lays153 hv116 (by kernel_rfl) s chars w h2 h8 hs hcs hascii
end Go.Proofs
end
namespace Go.Proofs.YtiblepfehggicaaGreatDoor.Vcg
section
open CA CB
open Go.RowKit
section
variable {G:zk}
theorem jI (f:FsV) (n:Int) (hl:f.xs.length<=100000) (hR:zZ f.xs):Fun Tryz.prog G 158 [.agg (fsC f),.sc (.int .i64 n)] (.tup [.agg (Xg (zg n f.xs)),.sc (.bool (zF n f.xs))]) 0:=by
 refine Fun.of (fun _=>[]) Tryz.func158 rfl (zp rfl) (by kernel_rfl) ?_;dsimp only[Tryz.f158]
 push_cast -dsimp
 refine cl (zcE f n hl hR) ?_;push_cast -dsimp
 cases hh:zF n f.xs with
 | false =>
  have hg:zg n f.xs=vX:=by unfold zg;rw[Hn hh];rfl
  push_cast -dsimp [hh]
  exact ⟨[],rfl,rfl,by push_cast -dsimp [zb,za,CLe,ze,hg,vX]⟩
 | true =>
  obtain ⟨hlt,hg⟩:=kV hR hh
  have hg:zg n f.xs=f.xs[jb n f.xs]:=by unfold zg;rw[hg];rfl
  have hat:=jh f.xs _ hlt
  push_cast -dsimp [hh,hat]
  (try simp only[lS]);repeat refine And.intro (by omega) ?_
  exact ⟨[],rfl,rfl,by push_cast -dsimp [zb,za,CLe,ze,hg]⟩
theorem zN {xs:List zw}:∀ r∈zt xs,r.length=6:=fun r hr=>by
 obtain ⟨x,_,rfl⟩:=List.mem_map.1 hr;rfl
theorem zo {xs:List zw}:qU (zt xs):=fun r hr=>by
 obtain ⟨x,_,rfl⟩:=List.mem_map.1 hr;rfl
theorem Yq (f:FsV) (x:zw) (hl:f.xs.length<=90000) (hR:zZ f.xs) :
  Fun Tryz.prog G 203 [.agg (fsC f),.agg (Xg x)] (.agg [.sc (.int .i64 f.maxI),.sc (.int .i64 f.maxB),.sc (.int .i64 f.next),.own 0 75 6 (zt (qP x f.xs))]) 1:=by
 have hll:(zt f.xs).length=f.xs.length:=List.length_map ..
 refine Fun.ofF (fun _=>[]) Tryz.func203 rfl (zp rfl) (by kernel_rfl) ?_;dsimp only[Tryz.f203]
 push_cast -dsimp
 refine cl (zcE f x.ino (by omega) hR) ?_;push_cast -dsimp
 refine Jp [] [] (XE (zt f.xs) zN zo (by omega)) rfl (by decide) (by decide) (by simp) (by push_cast -dsimp) (by push_cast -dsimp) (fun r bx' m hp=>?_)
 obtain ⟨rfl,⟨hne,c,h1,h2,rfl,rfl⟩ | ⟨he,⟨rfl,rfl⟩ | ⟨rfl,rfl⟩⟩⟩:=hp
 ·have hbl:=Jm zN h1
  have hre:∀ fp fo,C.reL fp fo (qm 6 (zt f.xs) c)=qm 6 (zt f.xs) c:=fun fp fo=>zC (zD zo)
  have hpos:=List.length_pos_iff.2 hne
  cases hh:zF x.ino f.xs with
  | true =>
   obtain ⟨hlt,_⟩:=kV hR hh
   have hst:=vC (c:=c) (rows:=zt f.xs) (row:=Xg x) (i:=jb x.ino f.xs) zN rfl (by omega)
   have hset:zt (qP x f.xs)=(zt f.xs).set (jb x.ino f.xs) (Xg x):=by rw[←MT hR hh];simp[List.map_set]
   push_cast -dsimp [hh,hre,hst]
   refine ⟨by omega,by omega,by rw[hbl];omega,[(4,75,6,(zt f.xs).set (jb x.ino f.xs) (Xg x),c)],[.inl 0],?_,rfl,rfl,by push_cast -dsimp [zb,za,CLe,ze,hset,List.length_set]⟩
   rw[←hset]
   refine zy (by rw[hset];rfl) (by omega) (by rw[hset,List.length_set];exact h1) h2 zN zo
  | false =>
   have hset:zt (qP x f.xs)=(zt f.xs).take (jb x.ino f.xs)++Xg x :: (zt f.xs).drop (jb x.ino f.xs):=by rw[←zcc hR hh];simp
   have hrl:=zjK x.ino f.xs
   have hsl:(zt (qP x f.xs)).length=(zt f.xs).length+1:=by rw[hset];simp;omega
   push_cast -dsimp [hh,hre]
   refine Jp [4] [0] (Vp (e:=75) (zt f.xs) (Xg x) (jb x.ino f.xs) c zN rfl zo rfl (by omega) (by omega) h1 h2) rfl (by decide) (by decide) (by simp) (by push_cast -dsimp) (by push_cast -dsimp [hre]) (fun r bx' m hp=>?_)
   rw[←hset]at hp
   have hre2:∀ fp fo c,C.reL fp fo (qm 6 (zt (qP x f.xs)) c)=qm 6 (zt (qP x f.xs)) c:=fun fp fo c=>zC (zD zo)
   obtain ⟨rfl,c',g1,g2,⟨rfl,rfl⟩ | ⟨rfl,rfl⟩⟩:=hp
   ·push_cast -dsimp [hre2,hre]
    exact ⟨[(4,75,6,zt (qP x f.xs),c')],[.inl 1],zy rfl (by omega) g1 g2 zN zo,rfl,rfl,by push_cast -dsimp [zb,za,CLe,ze]⟩
   ·have hra:∀ fp fo,C.reL fp fo (List.replicate (c*6) .any)=List.replicate (c*6) .any:=fun fp fo=>zC (by simp[List.all_replicate,C.stayB])
    push_cast -dsimp [hre2,hre,hra]
    exact ⟨[(5,75,6,zt (qP x f.xs),c')],[.inl 1],zy rfl (by omega) g1 g2 zN zo,rfl,rfl,by push_cast -dsimp [zb,za,CLe,ze]⟩
 ·have he:f.xs = []:=by simpa using he
  have hh:zF x.ino f.xs=false:=by rw[he];rfl
  have hr0:jb x.ino f.xs=0:=by rw[he];rfl
  have hset:qP x f.xs = [x]:=by rw[he];rfl
  push_cast -dsimp [hh,hr0]
  refine Jp [] [0] (yS (e:=75) (Xg x) rfl rfl) rfl (by decide) (by decide) (by simp) (by push_cast -dsimp) (by push_cast -dsimp) (fun r bx' m hp=>?_)
  obtain ⟨rfl,c,g1,g2,rfl,rfl⟩:=hp
  have hre:∀ fp fo,C.reL fp fo (qm 6 [Xg x] c)=qm 6 [Xg x] c:=fun fp fo=>zC (zD (zo (xs:=[x])))
  push_cast -dsimp [hre]
  exact ⟨[(3,75,6,zt [x],c)],[.inl 1],zy rfl (by omega) g1 g2 zN zo,rfl,rfl,by push_cast -dsimp [zb,za,CLe,ze,hset]⟩
 ·have he:f.xs = []:=by simpa using he
  have hh:zF x.ino f.xs=false:=by rw[he];rfl
  have hr0:jb x.ino f.xs=0:=by rw[he];rfl
  have hset:qP x f.xs = [x]:=by rw[he];rfl
  push_cast -dsimp [hh,hr0]
  refine Jp [3] [0] (Vp (e:=75) [] (Xg x) 0 0 (fun r hr=>by cases hr) rfl (fun r hr=>by cases hr) rfl (by simp) (by simp) (by simp) (by simp)) rfl (by decide) (by decide) (by simp) (by push_cast -dsimp) (by push_cast -dsimp [qm]) (fun r bx' m hp=>?_)
  obtain ⟨rfl,c,g1,g2,hp⟩:=hp
  have hre:∀ fp fo,C.reL fp fo (qm 6 [Xg x] c)=qm 6 [Xg x] c:=fun fp fo=>zC (zD (zo (xs:=[x])))
  rcases hp with ⟨rfl,rfl⟩ | ⟨rfl,rfl⟩
  ·push_cast -dsimp [hre]
   exact ⟨[(3,75,6,zt [x],c)],[.inl 1],zy rfl (Nat.lt_of_lt_of_le (Nat.zero_lt_succ _) g1) g1 g2 zN zo,rfl,rfl,by push_cast -dsimp [zb,za,CLe,ze,hset]⟩
  ·push_cast -dsimp [hre]
   exact ⟨[(4,75,6,zt [x],c)],[.inl 1],zy rfl (Nat.lt_of_lt_of_le (Nat.zero_lt_succ _) g1) g1 g2 zN zo,rfl,rfl,by push_cast -dsimp [zb,za,CLe,ze,hset]⟩
theorem zgF (f:FsV) (n:Int) (hl:f.xs.length<=90000) (hR:zZ f.xs) (h0:f.xs≠[]) :
  Fun Tryz.prog G 207 [.agg (fsC f),.sc (.int .i64 n)] (.agg [.sc (.int .i64 f.maxI),.sc (.int .i64 f.maxB),.sc (.int .i64 f.next),.own 0 75 6 (zt (qg n f.xs))]) 1:=by
 have hll:(zt f.xs).length=f.xs.length:=List.length_map ..
 refine Fun.ofF (fun _=>[]) Tryz.func207 rfl (zp rfl) (by kernel_rfl) ?_;dsimp only[Tryz.f207]
 push_cast -dsimp
 refine cl (zcE f n (by omega) hR) ?_;push_cast -dsimp
 refine Jp [] [] (XE (zt f.xs) zN zo (by omega)) rfl (by decide) (by decide) (by simp) (by push_cast -dsimp) (by push_cast -dsimp) (fun r bx' m hp=>?_)
 obtain ⟨rfl,⟨hne,c,h1,h2,rfl,rfl⟩ | ⟨he,_⟩⟩:=hp
 ·have hre:∀ fp fo,C.reL fp fo (qm 6 (zt f.xs) c)=qm 6 (zt f.xs) c:=fun fp fo=>zC (zD zo)
  have hpos:=List.length_pos_iff.2 hne
  cases hh:zF n f.xs with
  | true =>
   obtain ⟨hlt,_⟩:=kV hR hh
   have hset:zt (qg n f.xs)=(zt f.xs).take (jb n f.xs)++(zt f.xs).drop (jb n f.xs+1):=by rw[←yC hR hh];simp
   have hsl:(zt (qg n f.xs)).length=(zt f.xs).length-1:=by rw[hset];simp;omega
   have hd:=zgC (G:=G) (zt f.xs) (jb n f.xs) c zN zo (by omega) (by omega) h1 h2
   rw[←hset,←hsl]at hd
   have hre2:∀ fp fo,C.reL fp fo (qm 6 (zt (qg n f.xs)) c)=qm 6 (zt (qg n f.xs)) c:=fun fp fo=>zC (zD zo)
   push_cast -dsimp [hh,hre]
   (try simp only[lS]);repeat refine And.intro (by omega) ?_
   rw[hll]at hd
   refine MY [3] [] hd rfl (by decide) (by decide) (by simp) (by push_cast -dsimp) (by push_cast -dsimp [hre]) ?_
   push_cast -dsimp [hre,hre2]
   exact ⟨[(3,75,6,zt (qg n f.xs),c)],[.inl 0],zy rfl (by omega) (by omega) h2 zN zo,rfl,rfl,by push_cast -dsimp [zb,za,CLe,ze]⟩
  | false =>
   push_cast -dsimp [hh,hre]
   exact ⟨[(3,75,6,zt f.xs,c)],[.inl 0],zy rfl (by omega) h1 h2 zN zo,rfl,rfl,by push_cast -dsimp [zb,za,CLe,ze,XJ hh]⟩
 ·exact absurd (by simpa using he) h0
theorem zgb (f:FsV) (hl:f.xs.length<=90000) (h0:f.xs≠[]) (h1:-4611686018427387904<=f.next) (h2:f.next<=4611686018427387904) :
  Fun Tryz.prog G 201 [.agg (fsC f)] (.tup [.agg [.sc (.int .i64 f.maxI),.sc (.int .i64 f.maxB),.sc (.int .i64 (f.next+1)),.own 0 75 6 (zt f.xs)],.sc (.int .i64 f.next)]) 1:=by
 have hll:(zt f.xs).length=f.xs.length:=List.length_map ..
 refine Fun.ofF (fun _=>[]) Tryz.func201 rfl (zp rfl) (by kernel_rfl) ?_;dsimp only[Tryz.f201]
 push_cast -dsimp
 (try simp only[lS]);repeat refine And.intro (by omega) ?_
 refine Jp [] [] (XE (zt f.xs) zN zo (by omega)) rfl (by decide) (by decide) (by simp) (by push_cast -dsimp) (by push_cast -dsimp) (fun r bx' m hp=>?_)
 obtain ⟨rfl,⟨hne,c,h1,h2,rfl,rfl⟩ | ⟨he,_⟩⟩:=hp
 ·have hre:∀ fp fo,C.reL fp fo (qm 6 (zt f.xs) c)=qm 6 (zt f.xs) c:=fun fp fo=>zC (zD zo)
  have hpos:=List.length_pos_iff.2 hne
  push_cast -dsimp [hre]
  exact ⟨[(3,75,6,zt f.xs,c)],[.inl 0],zy rfl (by omega) h1 h2 zN zo,rfl,rfl,by push_cast -dsimp [zb,za,CLe,ze]⟩
 ·exact absurd (by simpa using he) h0
theorem zg7 {R:Env} {L:Loc} {id e:Nat} {v:Value} (h:Rep R L (.own id e 6 [[.sc (.int .i64 1),.sc (.int .i64 2),.sc (.int .i64 0),.str [],.sc (.int .i64 1),.sc (.slice none 0 0)]]) v):Rep R L (.own id e 6 (zt [⟨1,2,0,[],1,[]⟩])) v:=
 zaF (by simp[RLe,ze,CLe]) h
end
end
end Go.Proofs.YtiblepfehggicaaGreatDoor.Vcg
