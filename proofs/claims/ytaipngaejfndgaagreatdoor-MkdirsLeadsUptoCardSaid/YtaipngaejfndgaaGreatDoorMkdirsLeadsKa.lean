/- What the proof of MkdirsLeads leans on, part 1: Vcg1 Vcg2 Vcg3 Vcg4 Vcg5 Vcg6 Vcg7 Vcg28 Vcg8 Vcg9 Vcg10 Vcg11 Vcg29 Vcg12 Vcg19 Vcg23. No condition beyond what each theorem states. -/
import Derived.WalkKit
import Derived.Sort.LoopGhostIn
import Derived.Deep.MidRow
import Derived.IntWalk
import Derived.CallsIn
import Derived.Laws.StructEq
import Derived.Laws.Cover3
import Derived.Lib.ConvBytes
import Derived.Laws.BytesArg
import Derived.Laws.IdiomStrings
import Derived.MapKept
import Derived.RangeFuncRecord
import Derived.TacticsIn
import Derived.ArgAppend
set_option linter.unusedVariables false
set_option linter.unusedSimpArgs false
set_option linter.unusedSectionVars false
set_option maxRecDepth 100000
set_option maxHeartbeats 4000000
namespace Go.Proofs.YtaipngaejfndgaaGreatDoor.Vcg
section
open Go.RowKit
inductive MK where
 | int (k:IntKind) (l:List Int)
 | str (l:List (List UInt8))
def MK.vals:MK->List Value
 | .int k l=>l.map (Value.int k)
 | .str l=>l.map fun s=>Value.string ⟨s.toArray⟩
def Um (b:Nat) (kvs vvs:List Value):Value:=.iface b (.tuple #[.agg kvs.toArray,.agg vvs.toArray])
def _root_.Go.Value.ownB:Value->Option Nat
 | .slice (some a) _ _=>some a.block
 | .iface b _=>some b
 | _=>none
inductive C where
 | sc (v:Value)
 | str (l:List UInt8)
 | agg (cs:List C)
 | tup (cs:List C)
 | sl (k:Nat) (rows:List (List C))
 | tight (k:Nat) (rows:List (List C))
 | own (id:Nat) (e:TypeId) (k:Nat) (rows:List (List C))
 | ptr (i off:Nat)
 | row (cs:List C)
 | clo (fn:Fn) (first captured:List C)
 | bs (i off k n c:Nat)
 | mo (id:Nat) (t:TypeId) (ks:MK) (vs:List C)
 | any
instance:Inhabited C:=⟨.any⟩
structure Env where
 w:World
 M:Nat->Nat->Prop
 F:Nat->Prop
abbrev Own:=Nat->Option (TypeId×Nat×Value)
structure Loc where
 β:List Nat
 T:Own
abbrev zu:Loc:=⟨[],fun _=>none⟩
mutual
def Rep (R:Env):Loc->C->Value->Prop
 | _,.sc u,v=>v=u
 | _,.str l,v=>v = .string ⟨l.toArray⟩
 | T,.agg cs,v=>∃ vs,v = .agg vs/\zm R T cs vs.toList
 | T,.tup cs,v=>∃ vs,v = .tuple vs/\zm R T cs vs.toList
 | _,.sl k rows,v=>∃ a cap,v = .slice a rows.length cap/\rows.length<=cap/\cap<=maxLen/\(rows = []∨∃ b o,a=some ⟨b,o,none⟩/\zA R rows k b o)
 | _,.tight k rows,v=>∃ a,v = .slice a rows.length rows.length/\rows.length<=maxLen/\(rows = []∨∃ b o,a=some ⟨b,o,none⟩/\zA R rows k b o)
 | T,.own id e k rows,v=>T.T id=some (e,k,v)/\∃ a cap,v = .slice a rows.length cap/\rows.length<=cap/\cap<=maxLen/\(rows = []∨∃ b o,a=some ⟨b,o,none⟩/\zA R rows k b o)
 | T,.ptr i off,v=>∃ b,T.β[i]?=some b/\v = .pointer (some ⟨b,off,none⟩)
 | _,.row cs,v=>∃ b o,v = .pointer (some ⟨b,o,none⟩)/\zy R cs b o
 | T,.clo fn first cap,v=>∃ fs cs,v = .func fn fs cs/\zm R T first fs.toList/\zm R T cap cs.toList
 | T,.bs i off _ n c,v=>∃ b,T.β[i]?=some b/\∃ ad,v = .slice (some ad) n c/\(n+c≠0->ad=⟨b,off,none⟩)
 | T,.mo id t ks vs,v=>∃ b vvs,v = .map (some b)/\T.T id=some (t,0,Um b ks.vals vvs)/\zm R zu vs vvs
 | _,.any,_=>True
def zm (R:Env):Loc->List C->List Value->Prop
 | _,[],vs=>vs = []
 | T,c :: r,vs=>∃ v us,vs=v :: us/\Rep R T c v/\zm R T r us
def zy (R:Env):List C->Nat->Nat->Prop
 | [],_,_=>True
 | c :: r,b,o=>(∃ v,R.w.cell? ⟨b,o,none⟩=some v/\¬R.M b o/\Rep R zu c v/\v.oneCell'=true)/\zy R r b (o+1)
def zA (R:Env):List (List C)->Nat->Nat->Nat->Prop
 | [],_,_,_=>True
 | row :: r,k,b,o=>row.length=k/\zy R row b o/\zA R r k b (o+k)
end
structure Ext (R R':Env):Prop where
 cell:∀ b o v,R.w.cell? ⟨b,o,none⟩=some v->¬R.M b o->R'.w.cell? ⟨b,o,none⟩=some v/\¬R'.M b o
 whole:∀ b cs ty fl,R.w.heap[b]?=some (.cells cs ty fl)->(∀ o,¬R.M b o)->R'.w.heap[b]?=some (.cells cs ty fl)/\∀ o,¬R'.M b o
theorem Ext.refl (R:Env):Ext R R:=⟨fun _ _ _ h h'=>⟨h,h'⟩,fun _ _ _ _ h h'=>⟨h,h'⟩⟩
theorem Ext.trans {A B D:Env} (h:Ext A B) (h':Ext B D):Ext A D:=
 ⟨fun b o v hc hm=>let ⟨x,y⟩:=h.cell b o v hc hm;h'.cell b o v x y,fun b cs ty fl hc hm=>let ⟨x,y⟩:=h.whole b cs ty fl hc hm;h'.whole b cs ty fl x y⟩
structure zx (L L':Loc):Prop where
 box:∀ (i b:Nat),L.β[i]?=some b->L'.β[i]?=some b
 own:∀ id x,L.T id=some x->L'.T id=some x
theorem zx.refl (T:Loc):zx T T:=⟨fun _ _ h=>h,fun _ _ h=>h⟩
theorem zx.trans {A B D:Loc} (h:zx A B) (h':zx B D):zx A D:=⟨fun i b e=>h'.box i b (h.box i b e),fun i b e=>h'.own i b (h.own i b e)⟩
theorem zx.none (T:Loc):zx zu T:=⟨fun _ _ h=>by simp at h,fun _ _ h=>by cases h⟩
mutual
theorem Rep.ext {R R':Env} (h:Ext R R'):∀ {T T':Loc} (hT:zx T T') (c:C) (v:Value),Rep R T c v->Rep R' T' c v
 | _,_,_,.sc _,_,hv=>hv
 | _,_,_,.str _,_,hv=>hv
 | _,_,hT,.agg cs,_,hv=>by
  unfold Rep at hv ⊢
  obtain ⟨vs,e,hl⟩:=hv
  exact ⟨vs,e,zm.ext h hT cs _ hl⟩
 | _,_,hT,.tup cs,_,hv=>by
  unfold Rep at hv ⊢
  obtain ⟨vs,e,hl⟩:=hv
  exact ⟨vs,e,zm.ext h hT cs _ hl⟩
 | _,_,hT,.sl k rows,_,hv=>by
  unfold Rep at hv ⊢
  obtain ⟨a,cap,e,h1,h2,h3⟩:=hv
  refine ⟨a,cap,e,h1,h2,?_⟩
  rcases h3 with h3 | ⟨b,o,e,h3⟩
  ·exact .inl h3
  ·exact .inr ⟨b,o,e,zA.ext h rows k b o h3⟩
 | _,_,hT,.tight k rows,_,hv=>by
  unfold Rep at hv ⊢
  obtain ⟨a,e,h2,h3⟩:=hv
  refine ⟨a,e,h2,?_⟩
  rcases h3 with h3 | ⟨b,o,e,h3⟩
  ·exact .inl h3
  ·exact .inr ⟨b,o,e,zA.ext h rows k b o h3⟩
 | _,_,hT,.own id e k rows,_,hv=>by
  unfold Rep at hv ⊢
  obtain ⟨ht,a,cap,e,h1,h2,h3⟩:=hv
  refine ⟨hT.own _ _ ht,a,cap,e,h1,h2,?_⟩
  rcases h3 with h3 | ⟨b,o,e,h3⟩
  ·exact .inl h3
  ·exact .inr ⟨b,o,e,zA.ext h rows k b o h3⟩
 | _,_,hT,.ptr i off,_,hv=>by
  unfold Rep at hv ⊢
  obtain ⟨b,hb,e⟩:=hv
  exact ⟨b,hT.box i b hb,e⟩
 | _,_,hT,.row cs,_,hv=>by
  unfold Rep at hv ⊢
  obtain ⟨b,o,e,hc⟩:=hv
  exact ⟨b,o,e,zy.ext h cs b o hc⟩
 | _,_,hT,.clo fn first cap,_,hv=>by
  unfold Rep at hv ⊢
  obtain ⟨fs,cs,e,h1,h2⟩:=hv
  exact ⟨fs,cs,e,zm.ext h hT first _ h1,zm.ext h hT cap _ h2⟩
 | _,_,hT,.bs i off k n c,_,hv=>by
  unfold Rep at hv ⊢
  obtain ⟨b,hb,e⟩:=hv
  exact ⟨b,hT.box i b hb,e⟩
 | _,_,hT,.mo id t ks vs,_,hv=>by
  unfold Rep at hv ⊢
  obtain ⟨b,vvs,e,ht,hl⟩:=hv
  exact ⟨b,vvs,e,hT.own _ _ ht,zm.ext h (zx.refl _) vs _ hl⟩
 | _,_,_,.any,_,_=>by unfold Rep;trivial
theorem zm.ext {R R':Env} (h:Ext R R'):∀ {T T':Loc} (hT:zx T T') (cs:List C) (vs:List Value),zm R T cs vs->zm R' T' cs vs
 | _,_,_,[],_,hv=>hv
 | _,_,hT,c :: r,_,hv=>by
  unfold zm at hv ⊢
  obtain ⟨v,us,e,h1,h2⟩:=hv
  exact ⟨v,us,e,Rep.ext h hT c v h1,zm.ext h hT r us h2⟩
theorem zy.ext {R R':Env} (h:Ext R R'):∀ (cs:List C) (b o:Nat),zy R cs b o->zy R' cs b o
 | [],_,_,_=>by unfold zy;trivial
 | c :: r,b,o,hv=>by
  unfold zy at hv ⊢
  obtain ⟨⟨v,hc,hm,h1,h2⟩,h3⟩:=hv
  obtain ⟨hc',hm'⟩:=h.cell b o v hc hm
  exact ⟨⟨v,hc',hm',Rep.ext h (zx.refl _) c v h1,h2⟩,zy.ext h r b (o+1) h3⟩
theorem zA.ext {R R':Env} (h:Ext R R'):∀ (rows:List (List C)) (k b o:Nat),zA R rows k b o->zA R' rows k b o
 | [],_,_,_,_=>by unfold zA;trivial
 | row :: r,k,b,o,hv=>by
  unfold zA at hv ⊢
  exact ⟨hv.1,zy.ext h row b o hv.2.1,zA.ext h r k b (o+k) hv.2.2⟩
end
theorem zg {R:Env} {T:Loc} {vs:List Value}:zm R T [] vs↔vs = []:=by unfold zm;rfl
theorem zd {R:Env} {T:Loc} {c:C} {r:List C} {vs:List Value}:zm R T (c :: r) vs↔∃ v us,vs=v :: us/\Rep R T c v/\zm R T r us:=by
 constructor<;>intro h
 ·unfold zm at h;exact h
 ·unfold zm;exact h
theorem zl {R:Env} {T:Loc}:∀ {cs:List C} {vs:List Value},zm R T cs vs->vs.length=cs.length
 | [],_,h=>by rw[zg.1 h];rfl
 | c :: r,_,h=>by
  obtain ⟨v,us,rfl,_,h2⟩:=zd.1 h
  simp[zl h2]
theorem jA {R:Env} {T:Loc}:∀ {cs:List C} {vs:List Value},zm R T cs vs->∀ (i:Nat) (c:C),cs[i]?=some c->∃ v,vs[i]?=some v/\Rep R T c v
 | [],_,h,i,c,hc=>by simp at hc
 | c0 :: r,_,h,i,c,hc=>by
  obtain ⟨v,us,rfl,h1,h2⟩:=zd.1 h
  cases i with
  | zero=>simp at hc;subst hc;exact ⟨v,rfl,h1⟩
  | succ i=>simpa using jA h2 i c (by simpa using hc)
theorem Jq {R:Env} {T:Loc}:∀ {cs:List C} {vs:List Value},vs.length=cs.length->(∀ (i:Nat) c v,cs[i]?=some c->vs[i]?=some v->Rep R T c v)->zm R T cs vs
 | [],vs,hl,_=>zg.2 (List.eq_nil_of_length_eq_zero (by simpa using hl))
 | c :: r,[],hl,_=>by simp at hl
 | c :: r,v :: us,hl,h=>zd.2 ⟨v,us,rfl,h 0 c v rfl rfl,Jq (by simpa using hl) fun i c' v' hc hv=>h (i+1) c' v' (by simpa using hc) (by simpa using hv)⟩
theorem zi {R:Env} {T:Loc}:∀ {cs ds:List C} {vs us:List Value},zm R T cs vs->zm R T ds us->zm R T (cs++ds) (vs++us)
 | [],_,_,_,h,h'=>by rw[zg.1 h];exact h'
 | c :: r,_,_,_,h,h'=>by
  obtain ⟨v,us,rfl,h1,h2⟩:=zd.1 h
  exact zd.2 ⟨v,_,rfl,h1,zi h2 h'⟩
theorem qp {R:Env} {T:Loc}:∀ (n:Nat) {cs:List C} {vs:List Value},zm R T cs vs->zm R T (cs.drop n) (vs.drop n)
 | 0,_,_,h=>h
 | n+1,[],_,h=>by rw[zg.1 h];exact zg.2 (by simp)
 | n+1,c :: r,_,h=>by
  obtain ⟨v,us,rfl,h1,h2⟩:=zd.1 h
  exact qp n h2
theorem qd {R:Env} {T:Loc}:∀ (n:Nat) {cs:List C} {vs:List Value},zm R T cs vs->zm R T (cs.take n) (vs.take n)
 | 0,_,_,h=>zg.2 rfl
 | n+1,[],_,h=>by rw[zg.1 h];exact zg.2 (by simp)
 | n+1,c :: r,_,h=>by
  obtain ⟨v,us,rfl,h1,h2⟩:=zd.1 h
  exact zd.2 ⟨v,_,rfl,h1,qd n h2⟩
theorem jp {R:Env} {b o:Nat}:zy R [] b o:=by unfold zy;trivial
theorem zN {R:Env} {c:C} {r:List C} {b o:Nat}:zy R (c :: r) b o↔(∃ v,R.w.cell? ⟨b,o,none⟩=some v/\¬R.M b o/\Rep R zu c v/\v.oneCell'=true)/\zy R r b (o+1):=by
 constructor<;>intro h
 ·unfold zy at h;exact h
 ·unfold zy;exact h
theorem jq {R:Env}:∀ {cs:List C} {b o:Nat},zy R cs b o->∀ (i:Nat) (c:C),cs[i]?=some c->∃ v,R.w.cell? ⟨b,o+i,none⟩=some v/\¬R.M b (o+i)/\Rep R zu c v/\v.oneCell'=true
 | [],_,_,_,i,c,hc=>by simp at hc
 | c0 :: r,b,o,h,i,c,hc=>by
  obtain ⟨h1,h2⟩:=zN.1 h
  cases i with
  | zero=>simp at hc;subst hc;exact h1
  | succ i =>
   have:=jq h2 i c (by simpa using hc)
   rwa [Nat.add_assoc,Nat.add_comm 1 i]at this
theorem zK {R:Env}:∀ {cs:List C} {b o:Nat},(∀ (i:Nat) c,cs[i]?=some c->∃ v,R.w.cell? ⟨b,o+i,none⟩=some v/\¬R.M b (o+i)/\Rep R zu c v/\v.oneCell'=true)->zy R cs b o
 | [],_,_,_=>jp
 | c0 :: r,b,o,h=>zN.2 ⟨h 0 c0 rfl,zK fun i c hc=>by
   have:=h (i+1) c (by simpa using hc)
   rwa [show o+(i+1)=o+1+i by omega]at this⟩
theorem Ym {R:Env}:∀ (n:Nat) {cs:List C} {b o:Nat},zy R cs b o->zy R (cs.drop n) b (o+n)
 | 0,_,_,_,h=>h
 | n+1,[],_,_,h=>jp
 | n+1,c :: r,b,o,h=>by
  have:=Ym n (zN.1 h).2
  rwa [show o+1+n=o+(n+1) by omega]at this
theorem YA {R:Env} {k b o:Nat}:zA R [] k b o:=by unfold zA;trivial
theorem qD {R:Env} {row:List C} {r:List (List C)} {k b o:Nat}:zA R (row :: r) k b o↔row.length=k/\zy R row b o/\zA R r k b (o+k):=by
 constructor<;>intro h
 ·unfold zA at h;exact h
 ·unfold zA;exact h
theorem qE {R:Env}:∀ {rows:List (List C)} {k b o:Nat},zA R rows k b o->∀ (i:Nat) row,rows[i]?=some row->row.length=k/\zy R row b (o+i*k)
 | [],_,_,_,_,i,c,hc=>by simp at hc
 | r0 :: r,k,b,o,h,i,row,hc=>by
  obtain ⟨h0,h1,h2⟩:=qD.1 h
  cases i with
  | zero=>simp at hc;subst hc;exact ⟨h0,by simpa using h1⟩
  | succ i =>
   have:=qE h2 i row (by simpa using hc)
   rwa [show o+k+i*k=o+(i+1)*k by rw[Nat.add_mul];omega]at this
theorem qr {R:Env}:∀ {rows:List (List C)} {k b o:Nat},(∀ (i:Nat) row,rows[i]?=some row->row.length=k/\zy R row b (o+i*k))->zA R rows k b o
 | [],_,_,_,_=>YA
 | r0 :: r,k,b,o,h=>qD.2 ⟨(h 0 r0 rfl).1,by simpa using (h 0 r0 rfl).2,qr fun i row hc=>by
   have:=h (i+1) row (by simpa using hc)
   rwa [show o+(i+1)*k=o+k+i*k by rw[Nat.add_mul];omega]at this⟩
theorem Xm {R:Env} {k b:Nat}:∀ (n:Nat) {rows:List (List C)} {o:Nat},zA R rows k b o->zA R (rows.drop n) k b (o+n*k)
 | 0,_,o,h=>by simpa using h
 | n+1,[],_,h=>YA
 | n+1,c :: r,o,h=>by
  have:=Xm n (qD.1 h).2.2
  rwa [show o+k+n*k=o+(n+1)*k by rw[Nat.add_mul];omega]at this
theorem Xj {R:Env} {k b:Nat}:∀ (n:Nat) {rows:List (List C)} {o:Nat},zA R rows k b o->zA R (rows.take n) k b o
 | 0,_,_,h=>YA
 | n+1,[],_,h=>YA
 | n+1,c :: r,o,h=>qD.2 ⟨(qD.1 h).1,(qD.1 h).2.1,Xj n (qD.1 h).2.2⟩
theorem qm {R:Env} {k b:Nat}:∀ {rows:List (List C)} {o:Nat},zA R rows k b o->zy R rows.flatten b o/\rows.flatten.length=rows.length*k
 | [],_,h=>⟨jp,by simp⟩
 | c :: r,o,h=>by
  obtain ⟨h0,h1,h2⟩:=qD.1 h
  obtain ⟨h3,h4⟩:=qm h2
  refine ⟨zK fun i x hx=>?_,by simp[h4,h0,Nat.add_mul];omega⟩
  rw[List.flatten_cons]at hx
  rcases Nat.lt_or_ge i c.length with hi | hi
  ·rw[List.getElem?_append_left hi]at hx
   exact jq h1 i x hx
  ·rw[List.getElem?_append_right hi]at hx
   have:=jq h3 (i-c.length) x hx
   rwa [show o+k+(i-c.length)=o+i by omega]at this
def zt:Value->C
 | .string s=>.str s.data.toList
 | .agg vs=>.agg (vs.toList.map .sc)
 | v=>.sc v
theorem zbv {R:Env} {T:Loc}:∀ vs:List Value,zm R T (vs.map .sc) vs
 | []=>zg.2 rfl
 | v :: r=>zd.2 ⟨v,_,rfl,by unfold Rep;rfl,zbv r⟩
theorem qT (R:Env) (T:Loc) (v:Value):Rep R T (zt v) v:=by
 unfold zt
 split
 ·unfold Rep;simp
 ·unfold Rep;exact ⟨_,rfl,zbv _⟩
 ·unfold Rep;rfl
def C.cellB:C->Bool
 | .sc v=>v.oneCell'
 | .agg _ | .tup _ | .any=>false
 | _=>true
theorem Rep.oneCell {R:Env} {T:Loc} {c:C} {v:Value} (h:Rep R T c v) (hc:c.cellB=true):v.oneCell'=true:=by
 cases c<;>simp only[C.cellB]at hc<;>unfold Rep at h
 case sc u=>subst h;exact hc
 case str l=>subst h;rfl
 case agg=>cases hc
 case tup=>cases hc
 case sl=>obtain ⟨_,_,rfl,_⟩:=h;rfl
 case tight=>obtain ⟨_,rfl,_⟩:=h;rfl
 case own=>obtain ⟨_,_,_,rfl,_⟩:=h;rfl
 case ptr=>obtain ⟨_,_,rfl⟩:=h;rfl
 case row=>obtain ⟨_,_,rfl,_⟩:=h;rfl
 case clo=>obtain ⟨_,_,rfl,_⟩:=h;rfl
 case bs=>obtain ⟨_,_,_,rfl,_⟩:=h;rfl
 case mo=>obtain ⟨_,_,rfl,_⟩:=h;rfl
 case any=>cases hc
def C.cells:C->List C
 | .agg cs=>cs
 | c=>[c]
mutual
/-- what a callee may know of it: no owner, no place of the caller's -/
def C.frz:C->C
 | .own _ _ k rows=>.sl k rows
 | .ptr _ _=>.any
 | .bs _ _ _ _ _=>.any
 | .mo _ _ _ _=>.any
 | .agg cs=>.agg (C.frzL cs)
 | .tup cs=>.tup (C.frzL cs)
 | .clo fn first cap=>.clo fn (C.frzL first) (C.frzL cap)
 | .sc v=>.sc v
 | .str l=>.str l
 | .sl k rows=>.sl k rows
 | .tight k rows=>.tight k rows
 | .row cs=>.row cs
 | .any=>.any
def C.frzL:List C->List C
 | []=>[]
 | c :: r=>c.frz :: C.frzL r
end
mutual
theorem Rep.frz {R:Env} {L:Loc} (L':Loc):∀ (c:C) (v:Value),Rep R L c v->Rep R L' c.frz v
 | .sc _,_,h=>by unfold C.frz;unfold Rep at h ⊢;exact h
 | .str _,_,h=>by unfold C.frz;unfold Rep at h ⊢;exact h
 | .agg cs,_,h=>by
  unfold C.frz;unfold Rep at h ⊢
  obtain ⟨vs,e,hl⟩:=h
  exact ⟨vs,e,zm.frz L' cs _ hl⟩
 | .tup cs,_,h=>by
  unfold C.frz;unfold Rep at h ⊢
  obtain ⟨vs,e,hl⟩:=h
  exact ⟨vs,e,zm.frz L' cs _ hl⟩
 | .sl k rows,_,h=>by unfold C.frz;unfold Rep at h ⊢;exact h
 | .tight k rows,_,h=>by unfold C.frz;unfold Rep at h ⊢;exact h
 | .own id e k rows,_,h=>by unfold C.frz;unfold Rep at h ⊢;exact h.2
 | .ptr i off,_,h=>by unfold C.frz;unfold Rep;trivial
 | .bs i off k n c,_,h=>by unfold C.frz;unfold Rep;trivial
 | .mo i t ks vs,_,h=>by unfold C.frz;unfold Rep;trivial
 | .row cs,_,h=>by unfold C.frz;unfold Rep at h ⊢;exact h
 | .clo fn first cap,_,h=>by
  unfold C.frz;unfold Rep at h ⊢
  obtain ⟨fs,cs,e,h1,h2⟩:=h
  exact ⟨fs,cs,e,zm.frz L' first _ h1,zm.frz L' cap _ h2⟩
 | .any,_,_=>by unfold C.frz;unfold Rep;trivial
theorem zm.frz {R:Env} {L:Loc} (L':Loc):∀ (cs:List C) (vs:List Value),zm R L cs vs->zm R L' (C.frzL cs) vs
 | [],_,h=>by unfold C.frzL;rw[zg]at h ⊢;exact h
 | c :: r,_,h=>by
  unfold C.frzL;rw[zd]at h ⊢
  obtain ⟨v,us,e,h1,h2⟩:=h
  exact ⟨v,us,e,Rep.frz L' c v h1,zm.frz L' r us h2⟩
end
mutual
/-- one owner gone -/
def C.dg (id:Nat):C->C
 | .own i e k rows=>if i=id then .sl k rows else .own i e k rows
 | .ptr i off=>.ptr i off
 | .bs i off k n c=>.bs i off k n c
 | .mo i t ks vs=>if i=id then .any else .mo i t ks vs
 | .agg cs=>.agg (C.dgL id cs)
 | .tup cs=>.tup (C.dgL id cs)
 | .clo fn first cap=>.clo fn (C.dgL id first) (C.dgL id cap)
 | .sc v=>.sc v
 | .str l=>.str l
 | .sl k rows=>.sl k rows
 | .tight k rows=>.tight k rows
 | .row cs=>.row cs
 | .any=>.any
def C.dgL (id:Nat):List C->List C
 | []=>[]
 | c :: r=>c.dg id :: C.dgL id r
end
mutual
theorem Rep.dg {R:Env} {L L':Loc} {id:Nat} (hb:∀ (i b:Nat),L.β[i]?=some b->L'.β[i]?=some b) (hT:∀ i x,i≠id->L.T i=some x->L'.T i=some x):∀ (c:C) (v:Value),Rep R L c v->Rep R L' (c.dg id) v
 | .sc _,_,h=>by unfold C.dg;unfold Rep at h ⊢;exact h
 | .str _,_,h=>by unfold C.dg;unfold Rep at h ⊢;exact h
 | .agg cs,_,h=>by
  unfold C.dg;unfold Rep at h ⊢
  obtain ⟨vs,e,hl⟩:=h
  exact ⟨vs,e,zm.dg hb hT cs _ hl⟩
 | .tup cs,_,h=>by
  unfold C.dg;unfold Rep at h ⊢
  obtain ⟨vs,e,hl⟩:=h
  exact ⟨vs,e,zm.dg hb hT cs _ hl⟩
 | .sl k rows,_,h=>by unfold C.dg;unfold Rep at h ⊢;exact h
 | .tight k rows,_,h=>by unfold C.dg;unfold Rep at h ⊢;exact h
 | .own i e k rows,_,h=>by
  unfold C.dg;unfold Rep at h
  split
  ·unfold Rep;exact h.2
  ·unfold Rep;exact ⟨hT _ _ (by assumption) h.1,h.2⟩
 | .ptr i off,_,h=>by
  unfold C.dg;unfold Rep at h ⊢
  obtain ⟨b,e,h⟩:=h
  exact ⟨b,hb _ _ e,h⟩
 | .bs i off k n c,_,h=>by
  unfold C.dg;unfold Rep at h ⊢
  obtain ⟨b,e,h⟩:=h
  exact ⟨b,hb _ _ e,h⟩
 | .mo i t ks vs,_,h=>by
  unfold C.dg;unfold Rep at h
  split
  ·unfold Rep;trivial
  ·unfold Rep
   obtain ⟨b,vvs,e,ht,hl⟩:=h
   exact ⟨b,vvs,e,hT _ _ (by assumption) ht,hl⟩
 | .row cs,_,h=>by unfold C.dg;unfold Rep at h ⊢;exact h
 | .clo fn first cap,_,h=>by
  unfold C.dg;unfold Rep at h ⊢
  obtain ⟨fs,cs,e,h1,h2⟩:=h
  exact ⟨fs,cs,e,zm.dg hb hT first _ h1,zm.dg hb hT cap _ h2⟩
 | .any,_,_=>by unfold C.dg;unfold Rep;trivial
theorem zm.dg {R:Env} {L L':Loc} {id:Nat} (hb:∀ (i b:Nat),L.β[i]?=some b->L'.β[i]?=some b) (hT:∀ i x,i≠id->L.T i=some x->L'.T i=some x):∀ (cs:List C) (vs:List Value),zm R L cs vs->zm R L' (C.dgL id cs) vs
 | [],_,h=>by unfold C.dgL;rw[zg]at h ⊢;exact h
 | c :: r,_,h=>by
  unfold C.dgL;rw[zd]at h ⊢
  obtain ⟨v,us,e,h1,h2⟩:=h
  exact ⟨v,us,e,Rep.dg hb hT c v h1,zm.dg hb hT r us h2⟩
end
mutual
/-- owners, told anew from n on -/
def C.sh (n:Nat):C->C
 | .own i e k rows=>.own (n+i) e k rows
 | .ptr i off=>.ptr i off
 | .bs i off k m c=>.bs i off k m c
 | .mo i t ks vs=>.mo (n+i) t ks vs
 | .agg cs=>.agg (C.shL n cs)
 | .tup cs=>.tup (C.shL n cs)
 | .clo fn first cap=>.clo fn (C.shL n first) (C.shL n cap)
 | .sc v=>.sc v
 | .str l=>.str l
 | .sl k rows=>.sl k rows
 | .tight k rows=>.tight k rows
 | .row cs=>.row cs
 | .any=>.any
def C.shL (n:Nat):List C->List C
 | []=>[]
 | c :: r=>c.sh n :: C.shL n r
end
mutual
theorem Rep.sh {R:Env} {L L':Loc} {n:Nat} (hb:∀ (i b:Nat),L.β[i]?=some b->L'.β[i]?=some b) (hT:∀ i x,L.T i=some x->L'.T (n+i)=some x):∀ (c:C) (v:Value),Rep R L c v->Rep R L' (c.sh n) v
 | .sc _,_,h=>by unfold C.sh;unfold Rep at h ⊢;exact h
 | .str _,_,h=>by unfold C.sh;unfold Rep at h ⊢;exact h
 | .agg cs,_,h=>by
  unfold C.sh;unfold Rep at h ⊢
  obtain ⟨vs,e,hl⟩:=h
  exact ⟨vs,e,zm.sh hb hT cs _ hl⟩
 | .tup cs,_,h=>by
  unfold C.sh;unfold Rep at h ⊢
  obtain ⟨vs,e,hl⟩:=h
  exact ⟨vs,e,zm.sh hb hT cs _ hl⟩
 | .sl k rows,_,h=>by unfold C.sh;unfold Rep at h ⊢;exact h
 | .tight k rows,_,h=>by unfold C.sh;unfold Rep at h ⊢;exact h
 | .own i e k rows,_,h=>by
  unfold C.sh;unfold Rep at h ⊢
  exact ⟨hT _ _ h.1,h.2⟩
 | .ptr i off,_,h=>by
  unfold C.sh;unfold Rep at h ⊢
  obtain ⟨b,e,h⟩:=h
  exact ⟨b,hb _ _ e,h⟩
 | .bs i off k m c,_,h=>by
  unfold C.sh;unfold Rep at h ⊢
  obtain ⟨b,e,h⟩:=h
  exact ⟨b,hb _ _ e,h⟩
 | .mo i t ks vs,_,h=>by
  unfold C.sh;unfold Rep at h ⊢
  obtain ⟨b,vvs,e,ht,hl⟩:=h
  exact ⟨b,vvs,e,hT _ _ ht,hl⟩
 | .row cs,_,h=>by unfold C.sh;unfold Rep at h ⊢;exact h
 | .clo fn first cap,_,h=>by
  unfold C.sh;unfold Rep at h ⊢
  obtain ⟨fs,cs,e,h1,h2⟩:=h
  exact ⟨fs,cs,e,zm.sh hb hT first _ h1,zm.sh hb hT cap _ h2⟩
 | .any,_,_=>by unfold C.sh;unfold Rep;trivial
theorem zm.sh {R:Env} {L L':Loc} {n:Nat} (hb:∀ (i b:Nat),L.β[i]?=some b->L'.β[i]?=some b) (hT:∀ i x,L.T i=some x->L'.T (n+i)=some x):∀ (cs:List C) (vs:List Value),zm R L cs vs->zm R L' (C.shL n cs) vs
 | [],_,h=>by unfold C.shL;rw[zg]at h ⊢;exact h
 | c :: r,_,h=>by
  unfold C.shL;rw[zd]at h ⊢
  obtain ⟨v,us,e,h1,h2⟩:=h
  exact ⟨v,us,e,Rep.sh hb hT c v h1,zm.sh hb hT r us h2⟩
end
mutual
/-- the content of one owned map, anew -/
def C.up (id:Nat) (ks':MK) (vs':List C):C->C
 | .mo i t ks vs=>if i=id then .mo i t ks' vs' else .mo i t ks vs
 | .own i e k rows=>if i=id then .any else .own i e k rows
 | .ptr i off=>.ptr i off
 | .bs i off k n c=>.bs i off k n c
 | .agg cs=>.agg (C.upL id ks' vs' cs)
 | .tup cs=>.tup (C.upL id ks' vs' cs)
 | .clo fn first cap=>.clo fn (C.upL id ks' vs' first) (C.upL id ks' vs' cap)
 | .sc v=>.sc v
 | .str l=>.str l
 | .sl k rows=>.sl k rows
 | .tight k rows=>.tight k rows
 | .row cs=>.row cs
 | .any=>.any
def C.upL (id:Nat) (ks':MK) (vs':List C):List C->List C
 | []=>[]
 | c :: r=>c.up id ks' vs' :: C.upL id ks' vs' r
end
theorem Ge {b b':Nat} {k v k' v':List Value} (h:Um b k v=Um b' k' v'):b=b'/\k=k'/\v=v':=by
 unfold Um at h
 simp only[Value.iface.injEq,Value.tuple.injEq,Array.mk.injEq,List.cons.injEq,Value.agg.injEq,and_true]at h
 obtain ⟨h1,h2,h3⟩:=h
 exact ⟨h1,by simpa using h2,by simpa using h3⟩
mutual
theorem Rep.up {R:Env} {L L':Loc} {id:Nat} {ks':MK} {vs':List C} {t0:TypeId} {b0:Nat} {kvs vvs vvs':List Value} (hb:∀ (i b:Nat),L.β[i]?=some b->L'.β[i]?=some b) (hT:∀ i x,i≠id->L.T i=some x->L'.T i=some x)
  (h0:L.T id=some (t0,0,Um b0 kvs vvs)) (h1:L'.T id=some (t0,0,Um b0 ks'.vals vvs')) (hr:zm R zu vs' vvs'):∀ (c:C) (v:Value),Rep R L c v->Rep R L' (c.up id ks' vs') v
 | .sc _,_,h=>by unfold C.up;unfold Rep at h ⊢;exact h
 | .str _,_,h=>by unfold C.up;unfold Rep at h ⊢;exact h
 | .agg cs,_,h=>by
  unfold C.up;unfold Rep at h ⊢
  obtain ⟨vs,e,hl⟩:=h
  exact ⟨vs,e,zm.up hb hT h0 h1 hr cs _ hl⟩
 | .tup cs,_,h=>by
  unfold C.up;unfold Rep at h ⊢
  obtain ⟨vs,e,hl⟩:=h
  exact ⟨vs,e,zm.up hb hT h0 h1 hr cs _ hl⟩
 | .sl k rows,_,h=>by unfold C.up;unfold Rep at h ⊢;exact h
 | .tight k rows,_,h=>by unfold C.up;unfold Rep at h ⊢;exact h
 | .own i e k rows,_,h=>by
  unfold C.up;unfold Rep at h
  split
  ·unfold Rep;trivial
  ·unfold Rep;exact ⟨hT _ _ (by assumption) h.1,h.2⟩
 | .mo i t ks vs,_,h=>by
  unfold C.up;unfold Rep at h
  obtain ⟨b,us,e,ht,hl⟩:=h
  split
  ·rename_i hi
   subst hi
   rw[h0]at ht
   simp only[Option.some.injEq,Prod.mk.injEq]at ht
   obtain ⟨rfl,_,hm⟩:=ht
   obtain ⟨rfl,_,_⟩:=Ge hm
   unfold Rep
   exact ⟨b0,vvs',e,h1,hr⟩
  ·unfold Rep
   exact ⟨b,us,e,hT _ _ (by assumption) ht,hl⟩
 | .ptr i off,_,h=>by
  unfold C.up;unfold Rep at h ⊢
  obtain ⟨b,e,h⟩:=h
  exact ⟨b,hb _ _ e,h⟩
 | .bs i off k n c,_,h=>by
  unfold C.up;unfold Rep at h ⊢
  obtain ⟨b,e,h⟩:=h
  exact ⟨b,hb _ _ e,h⟩
 | .row cs,_,h=>by unfold C.up;unfold Rep at h ⊢;exact h
 | .clo fn first cap,_,h=>by
  unfold C.up;unfold Rep at h ⊢
  obtain ⟨fs,cs,e,h2,h3⟩:=h
  exact ⟨fs,cs,e,zm.up hb hT h0 h1 hr first _ h2,zm.up hb hT h0 h1 hr cap _ h3⟩
 | .any,_,_=>by unfold C.up;unfold Rep;trivial
theorem zm.up {R:Env} {L L':Loc} {id:Nat} {ks':MK} {vs':List C} {t0:TypeId} {b0:Nat} {kvs vvs vvs':List Value} (hb:∀ (i b:Nat),L.β[i]?=some b->L'.β[i]?=some b) (hT:∀ i x,i≠id->L.T i=some x->L'.T i=some x)
  (h0:L.T id=some (t0,0,Um b0 kvs vvs)) (h1:L'.T id=some (t0,0,Um b0 ks'.vals vvs')) (hr:zm R zu vs' vvs'):∀ (cs:List C) (vs:List Value),zm R L cs vs->zm R L' (C.upL id ks' vs' cs) vs
 | [],_,h=>by unfold C.upL;rw[zg]at h ⊢;exact h
 | c :: r,_,h=>by
  unfold C.upL;rw[zd]at h ⊢
  obtain ⟨v,us,e,h2,h3⟩:=h
  exact ⟨v,us,e,Rep.up hb hT h0 h1 hr c v h2,zm.up hb hT h0 h1 hr r us h3⟩
end
end
section
open Go.RowKit
inductive LK where
 | int (k:IntKind)
 | bool
 | str
 | slice (e:TypeId)
 | struct (fs:List (Nat×Nat×Bool))
 | array (n:Nat) (e:TypeId)
 | other
def LK.agg:LK->Bool
 | .struct _ | .array _ _=>true
 | _=>false
structure Lay where
 kind:LK
 size:Nat
 bytes:Nat
 zero:Option (List Value)
def zdu (P:Program) (t:TypeId):Bool:=match P.underlying t with | some (.struct _) | some (.array _ _)=>true | _=>false
def J5 (P:Program):TypeDesc->LK
 | .int k=>.int k
 | .bool=>.bool
 | .string=>.str
 | .slice e=>.slice e
 | .struct fs=>if fs.toList.all (fun f=>(P.underlying f.type).isSome) then .struct (fs.toList.map fun f=>(f.offset,((P.info? f.type).map (·.size)).getD 0,zdu P f.type)) else .array 0 0
 | .array n e=>.array n e
 | _=>.other
def lay (P:Program) (t:TypeId):Option Lay:=
 match P.info? t,P.underlying t with
 | some i,some d=>some ⟨J5 P d,i.size,i.bytes,i.zero.map (·.cells.toList)⟩
 | _,_=>none
def kV (P:Program):Nat->List Field->Option (List LK)
 | _,[]=>some []
 | j,f :: fs=>if f.name != "_"&&f.offset==j then match P.underlying f.type with
   | some .bool=>(kV P (j+1) fs).map (LK.bool :: ·)
   | some (.int k)=>(kV P (j+1) fs).map (LK.int k :: ·)
   | some .string=>(kV P (j+1) fs).map (LK.str :: ·)
   | _=>none
  else none
def U6 (P:Program) (t:TypeId):Option (List LK):=
 match P.underlying t with
 | some (.struct fs)=>if P.stoodInHeld t||P.eqGuardType P.depth t then none else kV P 0 fs.toList
 | _=>none
theorem zL {P:Program} {t:TypeId} {L:Lay} (h:lay P t=some L):∃ i d,P.info? t=some i/\P.underlying t=some d/\L.kind=J5 P d/\L.size=i.size/\L.bytes=i.bytes/\L.zero=i.zero.map (·.cells.toList):=by
 unfold lay at h
 split at h
 ·rename_i i d hi hd
  cases h
  exact ⟨i,d,hi,hd,rfl,rfl,rfl,rfl⟩
 ·cases h
theorem zG {P:Program} {t e:TypeId} {L:Lay} (h:lay P t=some L) (hk:L.kind = .slice e):P.underlying t=some (.slice e):=by
 obtain ⟨i,d,_,hd,h1,_⟩:=zL h
 rw[hk]at h1
 cases d<;>simp only[J5]at h1<;>first | (cases h1;exact hd) | (cases h1;done) | (split at h1<;>cases h1)
theorem zet {P:Program} {t e:TypeId} {n:Nat} {L:Lay} (h:lay P t=some L) (hk:L.kind = .array (n+1) e):P.underlying t=some (.array (n+1) e):=by
 obtain ⟨i,d,_,hd,h1,_⟩:=zL h
 rw[hk]at h1
 cases d<;>simp only[J5]at h1<;>try cases h1
 ·exact hd
 ·split at h1<;>cases h1
theorem XY {P:Program} {t:TypeId} {L:Lay} (h:lay P t=some L) (hk:L.kind = .str):P.underlying t=some .string:=by
 obtain ⟨i,d,_,hd,h1,_⟩:=zL h
 rw[hk]at h1
 cases d<;>simp only[J5]at h1<;>first | (cases h1;exact hd) | (cases h1;done) | (split at h1<;>cases h1)
theorem zho {P:Program} {t:TypeId} {L:Lay} (h:lay P t=some L) (hk:L.kind = .bool):P.underlying t=some .bool:=by
 obtain ⟨i,d,_,hd,h1,_⟩:=zL h
 rw[hk]at h1
 cases d<;>simp only[J5]at h1<;>first | (cases h1;exact hd) | (cases h1;done) | (split at h1<;>cases h1)
theorem zf6 {P:Program} {t:TypeId} {L:Lay} (h:lay P t=some L):(P.underlying t).isSome=true:=by
 obtain ⟨i,d,_,hd,_⟩:=zL h
 rw[hd];rfl
theorem Zq {P:Program} {t:TypeId} {k:IntKind} {L:Lay} (h:lay P t=some L) (hk:L.kind = .int k):P.underlying t=some (.int k):=by
 obtain ⟨i,d,_,hd,h1,_⟩:=zL h
 rw[hk]at h1
 cases d<;>simp only[J5]at h1<;>first | (cases h1;exact hd) | (cases h1;done) | (split at h1<;>cases h1)
theorem Q7 {P:Program} {t:TypeId} {fs:List (Nat×Nat×Bool)} {L:Lay} (h:lay P t=some L) (hk:L.kind = .struct fs) :
  ∃ fields:Array Field,P.underlying t=some (.struct fields)/\(∀ f∈fields.toList,(P.underlying f.type).isSome=true)/\fs=fields.toList.map fun f=>(f.offset,((P.info? f.type).map (·.size)).getD 0,zdu P f.type):=by
 obtain ⟨i,d,_,hd,h1,_⟩:=zL h
 rw[hk]at h1
 cases d<;>simp only[J5]at h1<;>try cases h1
 split at h1
 ·rename_i fs0 hall
  cases h1
  exact ⟨_,hd,fun f hf=>List.all_eq_true.1 hall f hf,rfl⟩
 ·cases h1
theorem zjx {P:Program} {t:TypeId} {L:Lay} (h:lay P t=some L) (w:World):(isAgg t).run P w = .ok L.kind.agg w:=by
 obtain ⟨i,d,_,hd,h1,_⟩:=zL h
 unfold isAgg
 rw[Sem.run_bind,run_underlying hd w,h1]
 cases d<;>first | rfl | (simp only[J5];split<;>rfl)
theorem kJ {P:Program} {t:TypeId} {d:TypeDesc} (h:P.underlying t=some d) (w:World):(isAgg t).run P w = .ok (zdu P t) w:=by
 unfold isAgg zdu
 rw[Sem.run_bind,run_underlying h w,h]
 cases d<;>rfl
theorem qg {P:Program} {t:TypeId} {L:Lay} (h:lay P t=some L) (w:World):(sizeOf t).run P w = .ok L.size w:=by
 obtain ⟨i,d,hi,hd,h1,h2,_⟩:=zL h
 simp[sizeOf,typeInfo,hi,h2]
theorem ziH {P:Program} {t:TypeId} {L:Lay} (h:lay P t=some L):(P.info? t).map (·.size)=some L.size:=by
 obtain ⟨i,d,hi,hd,h1,h2,_⟩:=zL h
 simp[hi,h2]
def inR (k:IntKind) (n:Int):Prop:=k.min<=n/\n<=k.max
theorem XF {k:IntKind} {n:Int} (h:inR k n):k.wrap n=n:=by
 unfold inR at h
 cases k<;>simp[IntKind.min,IntKind.max,IntKind.bits,IntKind.signed,IntKind.wrap]at h ⊢<;>first | omega | (split<;>omega)
theorem zj1 (n:Int):inR .i64 n=(-9223372036854775808<=n/\n<=9223372036854775807):=by simp[inR,IntKind.min,IntKind.max,IntKind.bits,IntKind.signed]
theorem zov (n:Int):inR .u8 n=(0<=n/\n<=255):=by simp[inR,IntKind.min,IntKind.max,IntKind.bits,IntKind.signed]
theorem zj6 (n:Int):inR .u16 n=(0<=n/\n<=65535):=by simp[inR,IntKind.min,IntKind.max,IntKind.bits,IntKind.signed]
theorem zk3 (n:Int):inR .i32 n=(-2147483648<=n/\n<=2147483647):=by simp[inR,IntKind.min,IntKind.max,IntKind.bits,IntKind.signed]
theorem zkg (n:Int):inR .u64 n=(0<=n/\n<=18446744073709551615):=by simp[inR,IntKind.min,IntKind.max,IntKind.bits,IntKind.signed]
def C.rows? (k:Nat):C->Option (List (List C))
 | .sl k' rows=>if k'=k then some rows else none
 | .tight k' rows=>if k'=k then some rows else none
 | .own _ _ k' rows=>if k'=k then some rows else none
 | .sc (.slice none 0 0)=>some []
 | .sc (.slice _ 0 cap)=>if cap<=maxLen then some [] else none
 | _=>none
theorem Rep.rows {R:Env} {L:Loc} {c:C} {v:Value} {k:Nat} {rows:List (List C)} (h:Rep R L c v) (hc:c.rows? k=some rows) :
  ∃ a cap,v = .slice a rows.length cap/\rows.length<=cap/\cap<=maxLen/\(rows = []∨∃ b o,a=some ⟨b,o,none⟩/\zA R rows k b o):=by
 unfold C.rows? at hc
 split at hc
 ·split at hc
  ·cases hc;subst_vars;unfold Rep at h;exact h
  ·cases hc
 ·split at hc
  ·cases hc;subst_vars;unfold Rep at h
   obtain ⟨a,e,h2,h3⟩:=h
   exact ⟨a,_,e,Nat.le_refl _,h2,h3⟩
  ·cases hc
 ·split at hc
  ·cases hc;subst_vars;unfold Rep at h;exact h.2
  ·cases hc
 ·cases hc;unfold Rep at h;exact ⟨none,0,h,Nat.le_refl _,Nat.zero_le _,.inl rfl⟩
 ·split at hc
  ·cases hc;unfold Rep at h;exact ⟨_,_,h,Nat.zero_le _,by assumption,.inl rfl⟩
  ·cases hc
 ·cases hc
def Xp (B:Nat->Prop) (R:Env) (β:List Nat) (e:TypeId) (k:Nat) (v:Value):Prop:=
 v = .slice none 0 0∨(∃ g n cap cur ty,v = .slice (some ⟨g,0,none⟩) n cap/\B g/\R.w.heap[g]?=some (.cells cur ty (0,0))/\n<=cap/\cap<=maxLen/\cur.size=cap*k/\g∉β/\∀ o,n*k<=o->R.M g o) ∨
  ∃ g es kvs vvs,v=Um g kvs vvs/\B g/\R.w.heap[g]?=some (.map es es.size)/\g∉β/\es.toList.map (·.key)=kvs/\es.toList.map (·.val)=vvs/\∀ (i:Nat) (e:MapEntry),es[i]?=some e->e.born=i
structure Qn (B:Nat->Prop) (R:Env) (L:Loc):Prop where
 own:∀ id e k v,L.T id=some (e,k,v)->Xp B R L.β e k v
 apart:∀ id id' e k v e' k' v' b,L.T id=some (e,k,v)->L.T id'=some (e',k',v')->v.ownB=some b->v'.ownB=some b->id=id'
abbrev zmf (L:Loc) (a b:Nat):Prop:=∀ id,a<=id->id<b->L.T id=none
structure qS (R:Env) (L:Loc) (bx:List (List C)):Prop where
 len:L.β.length=bx.length
 nodup:L.β.Nodup
 box:∀ (i b:Nat) cs,L.β[i]?=some b->bx[i]?=some cs->∃ vs ty,R.w.heap[b]?=some (.cells vs ty (0,0))/\zm R L cs vs.toList/\(∀ v∈vs.toList,v.oneCell'=true)/\∀ o,R.M b o
abbrev zk:=Nat->Option (List C)
def YN (G:zk) (R:Env):Prop:=∀ g cs,G g=some cs->zy R cs g 0/\(∃ vs ty fl,R.w.heap[g]?=some (.cells vs ty fl)/\vs.size=cs.length)/\∀ o,¬R.M g o
structure Fit (G:zk) (B:Nat->Prop) (bx:List (List C)) (R:Env) (L:Loc):Prop where
 glob:YN G R
 boxes:qS R L bx
 owns:Qn B R L
 base:∀ g,R.w.heap.size<=g->B g
structure zW (nx nx':Nat) (R:Env) (L:Loc) (R':Env) (L':Loc):Prop where
 below:Below R.w.heap.size R.w R'.w
 fgn:R'.F=R.F
 box:L'.β=L.β
 mt:∀ b o,b<R.w.heap.size->(R'.M b o↔R.M b o)
 old:∀ id,id<nx∨nx'<=id->L'.T id=L.T id
 new:∀ id e k v,nx<=id->id<nx'->L'.T id=some (e,k,v)->Xp (fun g=>R.w.heap.size<=g) R' L.β e k v
 apart:∀ id id' e k v e' k' v' b,nx<=id->id<nx'->nx<=id'->id'<nx'->L'.T id=some (e,k,v)->L'.T id'=some (e',k',v')->v.ownB=some b->v'.ownB=some b->id=id'
theorem MU {w:World} {b o:Nat} {v:Value} (h:w.cell? ⟨b,o,none⟩=some v):b<w.heap.size:=block_lt_of_cell h
theorem Ext.of_below {R R':Env} (hb:Below R.w.heap.size R.w R'.w) (hm:∀ b o,b<R.w.heap.size->(R'.M b o↔R.M b o)):Ext R R':=
 ⟨fun b o v hc h=>⟨by rw[hb.cell (p:=⟨b,o,none⟩) (MU hc)];exact hc,fun h'=>h ((hm b o (MU hc)).1 h')⟩,fun b cs ty fl hc h=>⟨by rw[hb.block b (Array.getElem?_eq_some_iff.1 hc).1];exact hc,fun o h'=>h o ((hm b o (Array.getElem?_eq_some_iff.1 hc).1).1 h')⟩⟩
theorem zW.ext {nx nx':Nat} {R R':Env} {L L':Loc} (h:zW nx nx' R L R' L'):Ext R R':=Ext.of_below h.below h.mt
theorem zW.le {nx nx':Nat} {R R':Env} {L L':Loc} (h:zW nx nx' R L R' L') (hL:zmf L nx nx'):zx L L':=
 ⟨fun i b e=>by rw[h.box];exact e,fun id x e=>by
  rw[h.old id (by
   rcases Nat.lt_or_ge id nx with hi | hi
   ·exact .inl hi
   ·rcases Nat.lt_or_ge id nx' with hj | hj
    ·rw[hL id hi hj]at e;cases e
    ·exact .inr hj)]
  exact e⟩
theorem zW.refl (nx:Nat) (R:Env) (L:Loc):zW nx nx R L R L:=
 ⟨Below.refl _ _,rfl,rfl,fun _ _ _=>Iff.rfl,fun _ _=>rfl,fun id e k v h h'=>by omega,fun id id' e k v e' k' v' b h h'=>by omega⟩
theorem zI {w:World} {b:Nat} {o:Obj} (h:w.heap[b]?=some o):b<w.heap.size:=(Array.getElem?_eq_some_iff.1 h).1
theorem Xp.step {B:Nat->Prop} {nx nx':Nat} {R R':Env} {L L':Loc} (h:zW nx nx' R L R' L') {e:TypeId} {k:Nat} {v:Value} (ho:Xp B R L.β e k v):Xp B R' L'.β e k v:=by
 rcases ho with ho | ⟨g,n,cap,cur,_,e1,e2,e3,e4,e5,e6,e7,e8⟩ | ⟨g,es,kvs,vvs,e1,e2,e3,e4,e5⟩
 ·exact .inl ho
 ·exact .inr (.inl ⟨g,n,cap,cur,_,e1,e2,by rw[h.below.block g (zI e3)];exact e3,e4,e5,e6,by rw[h.box];exact e7,fun o ho=>(h.mt g o (zI e3)).2 (e8 o ho)⟩)
 ·exact .inr (.inr ⟨g,es,kvs,vvs,e1,e2,by rw[h.below.block g (zI e3)];exact e3,by rw[h.box];exact e4,e5⟩)
theorem Xp.move {B B':Nat->Prop} {R R':Env} {β β':List Nat} {e:TypeId} {k:Nat} {v:Value} (ho:Xp B R β e k v)
  (h:∀ g,v.ownB=some g->B g->g<R.w.heap.size->g∉β->B' g/\R'.w.heap[g]?=R.w.heap[g]?/\g∉β'/\∀ o,R.M g o->R'.M g o):Xp B' R' β' e k v:=by
 rcases ho with ho | ⟨g,n,cap,cur,_,e1,e2,e3,e4,e5,e6,e7,e8⟩ | ⟨g,es,kvs,vvs,e1,e2,e3,e4,e5⟩
 ·exact .inl ho
 ·obtain ⟨h1,h2,h3,h4⟩:=h g (by rw[e1];rfl) e2 (zI e3) e7
  exact .inr (.inl ⟨g,n,cap,cur,_,e1,h1,h2.trans e3,e4,e5,e6,h3,fun o ho=>h4 o (e8 o ho)⟩)
 ·obtain ⟨h1,h2,h3,_⟩:=h g (by rw[e1];rfl) e2 (zI e3) e4
  exact .inr (.inr ⟨g,es,kvs,vvs,e1,h1,h2.trans e3,h3,e5⟩)
theorem Xp.held {B:Nat->Prop} {R:Env} {β:List Nat} {e:TypeId} {k:Nat} {v:Value} (ho:Xp B R β e k v) {b:Nat} (hb:v.ownB=some b):(∃ cs t f,R.w.heap[b]?=some (.cells cs t f))∨∃ es cl,R.w.heap[b]?=some (.map es cl):=by
 rcases ho with ho | ⟨g,n,cap,cur,_,e1,e2,e3,_⟩ | ⟨g,es,kvs,vvs,e1,e2,e3,_⟩
 ·subst ho;cases hb
 ·subst e1;cases hb;exact .inl ⟨_,_,_,e3⟩
 ·subst e1;cases hb;exact .inr ⟨_,_,e3⟩
theorem Xp.block {B:Nat->Prop} {R:Env} {β:List Nat} {e:TypeId} {k:Nat} {v:Value} (ho:Xp B R β e k v) {b:Nat} (hb:v.ownB=some b):B b/\b<R.w.heap.size/\b∉β:=by
 rcases ho with ho | ⟨g,n,cap,cur,_,e1,e2,e3,e4,e5,e6,e7,e8⟩ | ⟨g,es,kvs,vvs,e1,e2,e3,e4,e5⟩
 ·subst ho;cases hb
 ·subst e1;cases hb;exact ⟨e2,zI e3,e7⟩
 ·subst e1;cases hb;exact ⟨e2,zI e3,e4⟩
theorem Xp.base {B B':Nat->Prop} {R:Env} {β:List Nat} {e:TypeId} {k:Nat} {v:Value} (ho:Xp B R β e k v) (hB:∀ g,B g->B' g):Xp B' R β e k v:=by
 rcases ho with ho | ⟨g,n,cap,cur,_,e1,e2,e3⟩ | ⟨g,es,kvs,vvs,e1,e2,e3⟩
 ·exact .inl ho
 ·exact .inr (.inl ⟨g,n,cap,cur,_,e1,hB _ e2,e3⟩)
 ·exact .inr (.inr ⟨g,es,kvs,vvs,e1,hB _ e2,e3⟩)
theorem qS.step {bx:List (List C)} {nx nx':Nat} {R R':Env} {L L':Loc} (h:zW nx nx' R L R' L') (hL:zmf L nx nx') (hb:qS R L bx):qS R' L' bx:=by
 refine ⟨by rw[h.box];exact hb.len,by rw[h.box];exact hb.nodup,fun i b cs hi hc=>?_⟩
 rw[h.box]at hi
 obtain ⟨vs,ty,e1,e2,e3,e4⟩:=hb.box i b cs hi hc
 exact ⟨vs,ty,by rw[h.below.block b (zI e1)];exact e1,zm.ext h.ext (h.le hL) _ _ e2,e3,fun o=>(h.mt b o (zI e1)).2 (e4 o)⟩
theorem YN.ext {G:zk} {R R':Env} (h:Ext R R') (hg:YN G R):YN G R':=fun g cs e=>by
 obtain ⟨h1,⟨vs,ty,fl,h2,h3⟩,h4⟩:=hg g cs e
 obtain ⟨h5,h6⟩:=h.whole g vs ty fl h2 h4
 exact ⟨zy.ext h cs g 0 h1,⟨vs,ty,fl,h5,h3⟩,h6⟩
theorem zW.cases {nx nx':Nat} {R R':Env} {L L':Loc} (h:zW nx nx' R L R' L') {id:Nat} {x} (e:L'.T id=some x):L.T id=some x∨(nx<=id/\id<nx'):=by
 rcases Nat.lt_or_ge id nx with hi | hi
 ·rw[h.old id (.inl hi)]at e;exact .inl e
 ·rcases Nat.lt_or_ge id nx' with hj | hj
  ·exact .inr ⟨hi,hj⟩
  ·rw[h.old id (.inr hj)]at e;exact .inl e
theorem Fit.step {G:zk} {B:Nat->Prop} {nx nx':Nat} {bx:List (List C)} {R R':Env} {L L':Loc} (hL:zmf L nx nx') (h:zW nx nx' R L R' L') (hf:Fit G B bx R L):Fit G B bx R' L':=by
 have hnew:∀ id e k v b,nx<=id->id<nx'->L'.T id=some (e,k,v)->v.ownB=some b->R.w.heap.size<=b:=fun id e k v b hi hj ht hb=>((h.new id e k v hi hj ht).block hb).1
 have hold:∀ id e k v b,L.T id=some (e,k,v)->v.ownB=some b->b<R.w.heap.size:=fun id e k v b ht hb=>((hf.owns.own id e k v ht).block hb).2.1
 refine ⟨hf.glob.ext h.ext,hf.boxes.step h hL,⟨fun id e k v ht=>?_,fun id id' e k v e' k' v' b h1 h2 h3 h4=>?_⟩,fun g hg=>hf.base g (Nat.le_trans h.below.size hg)⟩
 ·rcases h.cases ht with hi | ⟨hi,hj⟩
  ·exact (hf.owns.own id e k v hi).step h
  ·rw[h.box]
   exact (h.new id e k v hi hj ht).base hf.base
 ·rcases h.cases h1 with hi | ⟨hi,hj⟩<;>rcases h.cases h2 with hi' | ⟨hi',hj'⟩
  ·exact hf.owns.apart id id' e k v e' k' v' b hi hi' h3 h4
  ·have:=hnew id' e' k' v' b hi' hj' h2 h4
   have:=hold id e k v b hi h3
   omega
  ·have:=hnew id e k v b hi hj h1 h3
   have:=hold id' e' k' v' b hi' h4
   omega
  ·exact h.apart id id' e k v e' k' v' b hi hj hi' hj' h1 h2 h3 h4
theorem zW.trans {a b c:Nat} {R R1 R2:Env} {L L1 L2:Loc} (hab:a<=b) (hbc:b<=c) (h:zW a b R L R1 L1) (k:zW b c R1 L1 R2 L2):zW a c R L R2 L2:=by
 have hsz:=h.below.size
 refine ⟨h.below.trans (k.below.mono hsz),k.fgn.trans h.fgn,k.box.trans h.box,fun x o hx=>(k.mt x o (by omega)).trans (h.mt x o hx),fun id hi=>(k.old id (by omega)).trans (h.old id (by omega)),fun id e s v hi hj ht=>?_,fun id id' e s v e' s' v' q hi hi2 hj hj2 h1 h2 h3 h4=>?_⟩
 ·rcases Nat.lt_or_ge id b with hj' | hj'
  ·rw[k.old id (.inl hj')]at ht
   have:=h.new id e s v hi hj' ht
   have:=Xp.step k (L:=L1) (by rw[h.box];exact this)
   rw[k.box,h.box]at this
   exact this
  ·have:=k.new id e s v hj' hj ht
   rw[h.box]at this
   exact this.base fun g hg=>Nat.le_trans hsz hg
 ·have key:∀ id e s v q,a<=id->id<c->L2.T id=some (e,s,v)->v.ownB=some q->(id<b/\L1.T id=some (e,s,v)/\q<R1.w.heap.size)∨(b<=id/\R1.w.heap.size<=q):=fun id e s v q hi hj ht hq=>by
   rcases Nat.lt_or_ge id b with hj' | hj'
   ·rw[k.old id (.inl hj')]at ht
    exact .inl ⟨hj',ht,((h.new id e s v hi hj' ht).block hq).2.1⟩
   ·exact .inr ⟨hj',((k.new id e s v hj' hj ht).block hq).1⟩
  rcases key id e s v q hi hi2 h1 h3 with ⟨x1,x2,x3⟩ | ⟨x1,x2⟩<;>rcases key id' e' s' v' q hj hj2 h2 h4 with ⟨y1,y2,y3⟩ | ⟨y1,y2⟩
  ·exact h.apart id id' e s v e' s' v' q hi x1 hj y1 x2 y2 h3 h4
  ·omega
  ·omega
  ·exact k.apart id id' e s v e' s' v' q x1 hi2 y1 hj2 h1 h2 h3 h4
def qA (P:Program) (o:Oper) (ρ:Operand->Value) (w:World) (post:Value->World->Prop):Prop:=
 match (execOp ρ o).run P w with
 | .ok (.value v) w'=>post v w'
 | .ok .skip w'=>post undef w'
 | .ok (.enter f args) w'=>Calls P f args w' fun e w''=>∃ v,e = .returned v/\post v w''
 | .ok (.round l f tmps assign body) w'=>RoundIn Fence.wide 0 P l f tmps assign body w' fun e w''=>∃ v,e = .returned v/\post v w''
 | _=>False
theorem qA.mono {P:Program} {o:Oper} {ρ:Operand->Value} {w:World} {p q:Value->World->Prop} (h:qA P o ρ w p) (hpq:∀ v w',p v w'->q v w'):qA P o ρ w q:=by
 unfold qA at h ⊢
 split at h
 ·exact hpq _ _ h
 ·exact hpq _ _ h
 ·exact h.mono fun e w' ⟨v,e1,e2⟩=>⟨v,e1,hpq _ _ e2⟩
 ·exact h.mono fun e w' ⟨v,e1,e2⟩=>⟨v,e1,hpq _ _ e2⟩
 ·exact h.elim
theorem qA.value {P:Program} {o:Oper} {ρ:Operand->Value} {w w':World} {v:Value} {p:Value->World->Prop} (h:(execOp ρ o).run P w = .ok (.value v) w') (hp:p v w'):qA P o ρ w p:=by
 unfold qA;rw[h];exact hp
def zo (P:Program) (G:zk) (bx:List (List C)) (ev:Operand->C) (nx:Nat) (o:Oper) (c:C) (nx':Nat):Prop:=
 nx<=nx'/\∀ (B:Nat->Prop) (R:Env) (L:Loc) (ρ:Operand->Value),Fit G B bx R L->zmf L nx nx'->(∀ x,Rep R L (ev x) (ρ x)) ->
  qA P o ρ R.w fun v w'=>∃ R' L',R'.w=w'/\zW nx nx' R L R' L'/\Rep R' L' c v
theorem zo.of_same {P:Program} {G:zk} {bx:List (List C)} {ev:Operand->C} {nx:Nat} {o:Oper} {c:C}
  (h:∀ (B:Nat->Prop) (R:Env) (L:Loc) (ρ:Operand->Value),Fit G B bx R L->(∀ x,Rep R L (ev x) (ρ x))->∃ v,(execOp ρ o).run P R.w = .ok (.value v) R.w/\Rep R L c v):zo P G bx ev nx o c nx:=
 ⟨Nat.le_refl _,fun B R L ρ hf _ hr=>by
  obtain ⟨v,h1,h2⟩:=h B R L ρ hf hr
  exact qA.value h1 ⟨R,L,rfl,zW.refl _ _ _,h2⟩⟩
end
section
open Go.RowKit
section
variable {P:Program} {G:zk} {bx:List (List C)} {ev:Operand->C} {nx:Nat} {o:Oper}
def ABr (c:C) (X Y:Prop):Prop:=match c with | .sc (.bool b)=>(b=true->X)/\(b=false->Y) | _=>False
def zi2 (c:C) (U X Y:Prop):Prop:=match c with | .sc (.bool b)=>(b=true->X)/\(b=false->Y) | .sc (.tuple _)=>U | _=>False
theorem zi2.out {c:C} {U X Y:Prop} (h:zi2 c U X Y):(∃ b,c = .sc (.bool b)/\(b=true->X)/\(b=false->Y))∨((∃ vs,c = .sc (.tuple vs))/\U):=by
 unfold zi2 at h
 split at h
 ·exact .inl ⟨_,rfl,h⟩
 ·exact .inr ⟨⟨_,rfl⟩,h⟩
 ·exact h.elim
theorem zfN {X Y:Prop}:ABr (.sc (.bool true)) X Y=X:=by simp[ABr]
theorem zeb {X Y:Prop}:ABr (.sc (.bool false)) X Y=Y:=by simp[ABr]
theorem ABr.mk {b:Bool} {X Y:Prop} (hx:b=true->X) (hy:b=false->Y):ABr (.sc (.bool b)) X Y:=⟨hx,hy⟩
theorem ABr.congr {c c':C} {X Y:Prop} (h:c=c'):ABr c X Y=ABr c' X Y:=by rw[h]
theorem ABr.out {c:C} {X Y:Prop} (h:ABr c X Y):∃ b,c = .sc (.bool b)/\(b=true->X)/\(b=false->Y):=by
 unfold ABr at h
 split at h
 ·exact ⟨_,rfl,h⟩
 ·exact h.elim
theorem zj {R:Env} {L:Loc} {u v:Value}:Rep R L (.sc u) v↔v=u:=by
 constructor<;>intro h
 ·unfold Rep at h;exact h
 ·unfold Rep;exact h
theorem zC {R:Env} {L:Loc} {l:List UInt8} {v:Value}:Rep R L (.str l) v↔v = .string ⟨l.toArray⟩:=by
 constructor<;>intro h
 ·unfold Rep at h;exact h
 ·unfold Rep;exact h
theorem jd {R:Env} {L:Loc} {cs:List C} {v:Value}:Rep R L (.agg cs) v↔∃ vs,v = .agg vs/\zm R L cs vs.toList:=by
 constructor<;>intro h
 ·unfold Rep at h;exact h
 ·unfold Rep;exact h
theorem Zr {R:Env} {L:Loc} {cs:List C} {v:Value}:Rep R L (.tup cs) v↔∃ vs,v = .tuple vs/\zm R L cs vs.toList:=by
 constructor<;>intro h
 ·unfold Rep at h;exact h
 ·unfold Rep;exact h
theorem U9 {R:Env} {L:Loc} {k:Nat} {rows:List (List C)} {v:Value}:Rep R L (.sl k rows) v↔∃ a cap,v = .slice a rows.length cap/\rows.length<=cap/\cap<=maxLen/\(rows = []∨∃ b o,a=some ⟨b,o,none⟩/\zA R rows k b o):=by
 constructor<;>intro h
 ·unfold Rep at h;exact h
 ·unfold Rep;exact h
theorem jK {R:Env} {L:Loc} {k:Nat} {rows:List (List C)} {v:Value}:Rep R L (.tight k rows) v↔∃ a,v = .slice a rows.length rows.length/\rows.length<=maxLen/\(rows = []∨∃ b o,a=some ⟨b,o,none⟩/\zA R rows k b o):=by
 constructor<;>intro h
 ·unfold Rep at h;exact h
 ·unfold Rep;exact h
theorem JY {R:Env} {L:Loc} {id e k:Nat} {rows:List (List C)} {v:Value}:Rep R L (.own id e k rows) v↔L.T id=some (e,k,v)/\∃ a cap,v = .slice a rows.length cap/\rows.length<=cap/\cap<=maxLen/\(rows = []∨∃ b o,a=some ⟨b,o,none⟩/\zA R rows k b o):=by
 constructor<;>intro h
 ·unfold Rep at h;exact h
 ·unfold Rep;exact h
theorem jH {R:Env} {L:Loc} {i off:Nat} {v:Value}:Rep R L (.ptr i off) v↔∃ b,L.β[i]?=some b/\v = .pointer (some ⟨b,off,none⟩):=by
 constructor<;>intro h
 ·unfold Rep at h;exact h
 ·unfold Rep;exact h
theorem qB {R:Env} {L:Loc} {i off k n c:Nat} {v:Value}:Rep R L (.bs i off k n c) v↔∃ b,L.β[i]?=some b/\∃ ad,v = .slice (some ad) n c/\(n+c≠0->ad=⟨b,off,none⟩):=by
 constructor<;>intro h
 ·unfold Rep at h;exact h
 ·unfold Rep;exact h
theorem jC {R:Env} {L:Loc} {cs:List C} {v:Value}:Rep R L (.row cs) v↔∃ b o,v = .pointer (some ⟨b,o,none⟩)/\zy R cs b o:=by
 constructor<;>intro h
 ·unfold Rep at h;exact h
 ·unfold Rep;exact h
theorem Jy {R:Env} {L:Loc} {fn:Fn} {first cap:List C} {v:Value}:Rep R L (.clo fn first cap) v↔∃ fs cs,v = .func fn fs cs/\zm R L first fs.toList/\zm R L cap cs.toList:=by
 constructor<;>intro h
 ·unfold Rep at h;exact h
 ·unfold Rep;exact h
theorem zce {x:Operand} (ho:o.op = .move x):zo P G bx ev nx o (ev x) nx:=
 .of_same fun B R L ρ hf hr=>⟨_,by unfold execOp;simp[ho],hr x⟩
theorem yw {x:Operand} (ho:o.op = .assign x):zo P G bx ev nx o (ev x) nx:=
 .of_same fun B R L ρ hf hr=>⟨_,by unfold execOp;simp[ho],hr x⟩
theorem zdK {c a b:Operand} {t:Bool} (ho:o.op = .pick c a b) (hc:ev c = .sc (.bool t)):zo P G bx ev nx o (if t then ev a else ev b) nx:=
 .of_same fun B R L ρ hf hr=>⟨if t then ρ a else ρ b,by
  have h:=hr c
  rw[hc,zj]at h
  unfold execOp;cases t<;>simp[ho,h,asBool],by cases t<;>simp[hr a,hr b]⟩
def Jw (L:Lay) (cs:List C) (K:C->Prop):Prop:=
 if L.kind.agg then L.size<=cs.length/\K (.agg (cs.take L.size)) else match cs with | c :: _=>K c | []=>False
def ye (P:Program) (t:TypeId) (c:C) (bx:List (List C)) (K:C->Prop):Prop:=
 match lay P t with
 | none=>False
 | some L=>match c with
  | .ptr i off=>match bx[i]? with
   | some cs=>Jw L (cs.drop off) K
   | none=>False
  | .row cs=>Jw L cs K
  | _=>False
theorem Addr.add_none (b o j:Nat):(⟨b,o,none⟩:Addr).add j=⟨b,o+j,none⟩:=by unfold Addr.add;split<;>simp_all
theorem XL {t:TypeId} {L:Lay} (hl:lay P t=some L) (w:World) (b off:Nat) (cs:List C) {R:Env} {Lc:Loc} {vs:List Value} (hlen:cs.length<=vs.length)
  (hv:∀ (j:Nat) v,vs[j]?=some v->w.cell? ⟨b,off+j,none⟩=some v) (hrep:∀ (j:Nat) c v,cs[j]?=some c->vs[j]?=some v->Rep R Lc c v) (K:C->Prop) (hK:Jw L cs K) :
  ∃ v c,(Instr.loadAt t (.pointer (some ⟨b,off,none⟩))).run P w = .ok v w/\Rep R Lc c v/\K c:=by
 unfold Jw at hK
 cases ha:L.kind.agg with
 | true =>
  rw[ha]at hK
  simp only[if_true]at hK
  obtain ⟨hs,hK⟩:=hK
  refine ⟨.agg (vs.take L.size).toArray,_,?_,jd.2 ⟨_,rfl,?_⟩,hK⟩
  ·obtain ⟨i,d,h1,h2,h3,h4,_⟩:=zL hl
   refine run_loadAt_mid w b off t (vs.take L.size) d (fun j v hj=>?_) h2 ?_ ?_
   ·rw[List.getElem?_take]at hj
    split at hj
    ·exact hv j v hj
    ·cases hj
   ·rw[h3]at ha;cases d<;>simp only[J5,LK.agg]at ha<;>first | (cases ha;done) | rfl
   ·rw[ziH hl,List.length_take];congr 1;omega
  ·refine Jq (by simp;omega) fun i c v hc hv'=>?_
   simp only[List.getElem?_take]at hc hv'
   split at hc
   ·rw[if_pos (by assumption)]at hv'
    exact hrep i c v hc hv'
   ·cases hc
 | false =>
  rw[ha]at hK
  simp only[Bool.false_eq_true,if_false]at hK
  cases cs with
  | nil=>exact hK.elim
  | cons c r =>
   cases vs with
   | nil=>simp at hlen
   | cons v us =>
    refine ⟨v,c,?_,hrep 0 c v rfl rfl,hK⟩
    have hc:=hv 0 v rfl
    have hag:=zjx hl w
    rw[ha]at hag
    simp only[Instr.loadAt,Instr.sureAddr,Sem.run_bind,Sem.run_pure,Result.andThen_ok,loadVar,hag]
    rw[Nat.add_zero]at hc
    simp[load,Sem.run,hc]
theorem zcG {t:TypeId} {c0:C} (K:C->Prop) (h:ye P t c0 bx K) :
  ∃ c,(∀ (R:Env) (Lc:Loc) (v0:Value),qS R Lc bx->Rep R Lc c0 v0->∃ v ad,v0 = .pointer (some ad)/\(Instr.loadAt t v0).run P R.w = .ok v R.w/\Rep R Lc c v)/\K c:=by
 unfold ye at h
 cases hl:lay P t with
 | none=>simp[hl]at h
 | some L =>
  simp only[hl]at h
  have hcase:∃ cs:List C,Jw L cs K/\((∃ i off U7,c0 = .ptr i off/\bx[i]?=some U7/\cs=U7.drop off)∨c0 = .row cs):=by
   split at h
   ·rename_i i off
    split at h
    ·rename_i U7 hfull
     exact ⟨_,h,.inl ⟨i,off,U7,rfl,hfull,rfl⟩⟩
    ·exact h.elim
   ·rename_i cs
    exact ⟨cs,h,.inr rfl⟩
   ·exact h.elim
  obtain ⟨cs,hK,hcs⟩:=hcase
  have htake:∃ c,K c/\Jw L cs (fun x=>x=c):=by
   unfold Jw at hK ⊢
   split
   ·rename_i hg;rw[if_pos hg]at hK;exact ⟨_,hK.2,hK.1,rfl⟩
   ·rename_i hg;rw[if_neg hg]at hK
    cases cs with
    | nil=>exact hK.elim
    | cons c r=>exact ⟨c,hK,rfl⟩
  obtain ⟨c,hKc,htk⟩:=htake
  refine ⟨c,fun R Lc v0 hbx hra=>?_,hKc⟩
  rcases hcs with ⟨i,off,U7,rfl,hfull,rfl⟩ | rfl
  ·rw[jH]at hra
   obtain ⟨b,hb,hv⟩:=hra
   obtain ⟨vs,ty,hh,hL,h1,_⟩:=hbx.box i b U7 hb hfull
   obtain ⟨v,c',hrun,hrep,rfl⟩:=XL hl R.w b off (U7.drop off) (R:=R) (Lc:=Lc) (vs:=vs.toList.drop off) (by
     have:=zl hL;simp at this ⊢;omega)
    (fun j v hj=>by
     rw[List.getElem?_drop]at hj
     rw[cell_of_row R.w b (off+j) vs ty _ hh]
     simpa using hj)
    (fun j c v hc hv=>by
     rw[List.getElem?_drop]at hc hv
     obtain ⟨v',e1,e2⟩:=jA hL _ _ hc
     rw[hv]at e1;cases e1;exact e2) _ htk
   exact ⟨v,_,hv,by rw[hv];exact hrun,hrep⟩
  ·rw[jC]at hra
   obtain ⟨b,off,hv,hcells⟩:=hra
   have hvs:∃ vs:List Value,vs.length=cs.length/\(∀ (j:Nat) v,vs[j]?=some v->R.w.cell? ⟨b,off+j,none⟩=some v)/\∀ (j:Nat) c v,cs[j]?=some c->vs[j]?=some v->Rep R Lc c v:=by
    clear htk hv hK h
    induction cs generalizing off with
    | nil=>exact ⟨[],rfl,fun j v h=>by simp at h,fun j c v h=>by simp at h⟩
    | cons x r ih =>
     obtain ⟨⟨v0,e1,e2,e3,e4⟩,h2⟩:=zN.1 hcells
     obtain ⟨us,g1,g2,g3⟩:=ih (off+1) h2
     refine ⟨v0 :: us,by simp[g1],fun j v hj=>?_,fun j c v hc hv=>?_⟩
     ·cases j with
      | zero=>simp at hj;subst hj;exact e1
      | succ j =>
       have:=g2 j v (by simpa using hj)
       rwa [show off+(j+1)=off+1+j by omega]
     ·cases j with
      | zero=>simp at hc hv;subst hc hv;exact Rep.ext (Ext.refl R) (zx.none Lc) _ _ e3
      | succ j=>exact g3 j c v (by simpa using hc) (by simpa using hv)
   obtain ⟨vs,g1,g2,g3⟩:=hvs
   obtain ⟨v,c',hrun,hrep,rfl⟩:=XL hl R.w b off cs (R:=R) (Lc:=Lc) (vs:=vs) (by omega) g2 g3 _ htk
   exact ⟨v,_,hv,by rw[hv];exact hrun,hrep⟩
theorem ze9 {t:TypeId} {a:Operand} (ho:o.op = .load t a) (K:C->Prop) (h:ye P t (ev a) bx K):∃ c,zo P G bx ev nx o c nx/\K c:=by
 obtain ⟨c,h1,h2⟩:=zcG K h
 refine ⟨c,.of_same fun B R Lc ρ hf hr=>?_,h2⟩
 obtain ⟨v,ad,_,e2,e3⟩:=h1 R Lc (ρ a) hf.boxes (hr a)
 refine ⟨v,?_,e3⟩
 unfold execOp
 simp only[ho]
 rw[Sem.run_bind,e2];rfl
end
end
section
open Go.RowKit
section
variable {P:Program} {G:zk} {bx:List (List C)} {ev:Operand->C} {nx:Nat} {o:Oper}
def zo7 (op:BinOp) (k:IntKind) (a b:Int) (K:C->Prop):Prop:=
 match op with
 | .add=>inR k (a+b)/\K (.sc (.int k (a+b)))
 | .sub=>inR k (a-b)/\K (.sc (.int k (a-b)))
 | .mul=>inR k (a*b)/\K (.sc (.int k (a*b)))
 | .quo=>0<=a/\0<b/\inR k a/\K (.sc (.int k (a / b)))
 | .rem=>0<=a/\0<b/\K (.sc (.int k (a % b)))
 | .shr=>b=1/\K (.sc (.int k (a / 2)))
 | .eql=>K (.sc (.bool (decide (a=b))))
 | .neq=>K (.sc (.bool (!decide (a=b))))
 | .lss=>K (.sc (.bool (decide (a<b))))
 | .leq=>K (.sc (.bool (decide (a<=b))))
 | .gtr=>K (.sc (.bool (decide (b<a))))
 | .geq=>K (.sc (.bool (decide (b<=a))))
 | _=>False
def zpT (op:BinOp) (a b:List UInt8) (K:C->Prop):Prop:=
 match op with
 | .add=>((a.length+b.length:Nat):Int)<=9223372036854775807/\K (.str (a++b))
 | .eql=>K (.sc (.bool (decide (a=b))))
 | .neq=>K (.sc (.bool (!decide (a=b))))
 | .lss=>K (.sc (.bool (Op.bytesLess a b)))
 | .geq=>K (.sc (.bool (!Op.bytesLess a b)))
 | .leq=>K (.sc (.bool (Op.bytesLess a b||decide (a=b))))
 | .gtr=>K (.sc (.bool (!(Op.bytesLess a b||decide (a=b)))))
 | _=>False
def zoV (op:BinOp) (a b:Bool) (K:C->Prop):Prop:=
 match op with
 | .eql=>K (.sc (.bool (a==b)))
 | .neq=>K (.sc (.bool (!(a==b))))
 | _=>False
def aEq (n:Bool):List LK->List C->List C->Bool->(C->Prop)->Prop
 | [],[],[],e,K=>K (.sc (.bool (if n then !e else e)))
 | .int k :: ks,.sc (.int k1 a) :: r,.sc (.int k2 b) :: s,e,K=>k1=k/\k2=k/\aEq n ks r s (e&&decide (a=b)) K
 | .bool :: ks,.sc (.bool a) :: r,.sc (.bool b) :: s,e,K=>aEq n ks r s (e&&(a==b)) K
 | .str :: ks,.str a :: r,.str b :: s,e,K=>aEq n ks r s (e&&decide (a=b)) K
 | _,_,_,_,_=>False
def zqg (op:BinOp) (ks:Option (List LK)) (aa0 bs:List C) (K:C->Prop):Prop:=
 match op,ks with
 | .eql,some ks=>aEq false ks aa0 bs true K
 | .neq,some ks=>aEq true ks aa0 bs true K
 | _,_=>False
def Gd (op:BinOp) (b:Bool) (K:C->Prop):Prop:=
 match op with
 | .eql=>K (.sc (.bool b))
 | .neq=>K (.sc (.bool (!b)))
 | _=>False
def zl2 (l:Option Lay) (op:BinOp) (x:C) (K:C->Prop):Prop:=
 match l with
 | some ⟨.slice _,_,_,_⟩=>match x with
  | .sl _ rows=>rows≠[]/\Gd op false K
  | .tight _ rows=>rows≠[]/\Gd op false K
  | .own _ _ _ rows=>rows≠[]/\Gd op false K
  | .bs _ _ _ _ _=>Gd op false K
  | .sc (.slice a _ _)=>Gd op a.isNone K
  | _=>False
 | _=>False
def zme (P:Program) (t:TypeId) (op:BinOp) (x y:C) (K:C->Prop):Prop:=
 match x,y with
 | .sc (.int k a),.sc (.int k' b)=>k=k'/\zo7 op k a b K
 | .str a,.str b=>zpT op a b K
 | .sc (.bool a),.sc (.bool b)=>match lay P t with | some ⟨.bool,_,_,_⟩=>zoV op a b K | _=>False
 | .agg aa0,.agg bs=>zqg op (U6 P t) aa0 bs K
 | c,.sc (.slice none 0 0)=>zl2 (lay P t) op c K
 | _,_=>False
theorem uN {P:Program} {j:Nat} {f:Field} {fs:List Field} {ks:List LK} (h:kV P j (f :: fs)=some ks) :
  f.name ≠ "_"/\f.offset=j/\∃ ks',kV P (j+1) fs=some ks'/\((P.underlying f.type=some .bool/\ks = .bool :: ks')∨(∃ k,P.underlying f.type=some (.int k)/\ks = .int k :: ks')∨(P.underlying f.type=some .string/\ks = .str :: ks')):=by
 unfold kV at h
 split at h
 ·rename_i hc
  simp only[Bool.and_eq_true,bne_iff_ne,ne_eq,beq_iff_eq]at hc
  refine ⟨hc.1,hc.2,?_⟩
  split at h
  ·rename_i hu
   obtain ⟨ks',h1,rfl⟩:=Option.map_eq_some_iff.1 h
   exact ⟨ks',h1,.inl ⟨hu,rfl⟩⟩
  ·rename_i k hu
   obtain ⟨ks',h1,rfl⟩:=Option.map_eq_some_iff.1 h
   exact ⟨ks',h1,.inr (.inl ⟨k,hu,rfl⟩)⟩
  ·rename_i hu
   obtain ⟨ks',h1,rfl⟩:=Option.map_eq_some_iff.1 h
   exact ⟨ks',h1,.inr (.inr ⟨hu,rfl⟩)⟩
  ·cases h
 ·cases h
theorem Qf {P:Program} {w:World} {t:TypeId} {d:TypeDesc} (hu:P.underlying t=some d) (hd:zdu P t=false) {xs:Array Value} {j:Nat} {v:Value} {r:List Value} (hx:xs.toList.drop j=v :: r):(part t xs j).run P w = .ok v w:=by
 have h1:xs[j]?=some v:=by
  have:(xs.toList.drop j)[0]?=some v:=by rw[hx];rfl
  simpa using this
 unfold part
 rw[Sem.run_bind,kJ hu,hd]
 simp[h1]
theorem N5 {xs:Array Value} {j:Nat} {v:Value} {r:List Value} (hx:xs.toList.drop j=v :: r):xs.toList.drop (j+1)=r:=by
 rw[←List.drop_drop,hx];rfl
def eqR:List C->List C->Bool
 | .sc (.int _ a) :: r,.sc (.int _ b) :: s=>decide (a=b)&&eqR r s
 | .sc (.bool a) :: r,.sc (.bool b) :: s=>(a==b)&&eqR r s
 | .str a :: r,.str b :: s=>decide (a=b)&&eqR r s
 | _,_=>true
def uf:List LK->List C->List C->Prop
 | [],[],[]=>True
 | .int k :: ks,.sc (.int k1 _) :: r,.sc (.int k2 _) :: s=>k1=k/\k2=k/\uf ks r s
 | .bool :: ks,.sc (.bool _) :: r,.sc (.bool _) :: s=>uf ks r s
 | .str :: ks,.str _ :: r,.str _ :: s=>uf ks r s
 | _,_,_=>False
theorem zlW {n:Bool} {K:C->Prop} (ks:List LK) (aa0 bs:List C) (e:Bool) (h:aEq n ks aa0 bs e K):uf ks aa0 bs/\K (.sc (.bool (if n then !(e&&eqR aa0 bs) else (e&&eqR aa0 bs)))):=by
 fun_induction aEq n ks aa0 bs e K with
 | case1 e K=>exact ⟨trivial,by simpa [eqR] using h⟩
 | case2 k ks k1 a r k2 b s e K ih =>
  obtain ⟨h1,h2,h3⟩:=h
  obtain ⟨g1,g2⟩:=ih h3
  exact ⟨⟨h1,h2,g1⟩,by simpa [eqR,Bool.and_assoc] using g2⟩
 | case3 ks a r b s e K ih =>
  obtain ⟨g1,g2⟩:=ih h
  exact ⟨g1,by simpa [eqR,Bool.and_assoc] using g2⟩
 | case4 ks a r b s e K ih =>
  obtain ⟨g1,g2⟩:=ih h
  exact ⟨g1,by simpa [eqR,Bool.and_assoc] using g2⟩
 | case5=>exact h.elim
theorem zeL {P:Program} {w:World} {xs ys:Array Value} {R1 R2:Env} {L1 L2:Loc}:∀ (fs:List Field) (j:Nat) (ks:List LK) (aa0 bs:List C),kV P j fs=some ks->uf ks aa0 bs ->
  zm R1 L1 aa0 (xs.toList.drop j)->zm R2 L2 bs (ys.toList.drop j)->(Op.eqFields 9999 xs ys fs).run P w = .ok (eqR aa0 bs) w
 | [],j,ks,aa0,bs,hk,h,ha,hb=>by
  simp only[kV,Option.some.injEq]at hk
  subst hk
  match aa0,bs,h with
  | [],[],_=>simp[Op.eqFields,eqR]
 | f :: fs,j,ks,aa0,bs,hk,h,ha,hb=>by
  obtain ⟨hn,ho,ks',hk',hc⟩:=uN hk
  have step:∀ (c c':C) (r s:List C) (v u:Value) (q:Bool),zm R1 L1 (c :: r) (xs.toList.drop j)->zm R2 L2 (c' :: s) (ys.toList.drop j)->(∀ v,Rep R1 L1 c v->∀ u,Rep R2 L2 c' u->(Op.equalIn 9999 f.type v u).run P w = .ok q w)->zdu P f.type=false->(∃ d,P.underlying f.type=some d) ->
    uf ks' r s->eqR (c :: r) (c' :: s)=(q&&eqR r s)->(Op.eqFields 9999 xs ys (f :: fs)).run P w = .ok (eqR (c :: r) (c' :: s)) w:=by
   intro c c' r s v u q ea eb hq hag ⟨d,hd⟩ hfit he
   obtain ⟨v,rest,e1,hv,hr⟩:=zd.1 ea
   obtain ⟨u,rest',e2,hu,hs⟩:=zd.1 eb
   have p1:=Qf (w:=w) hd hag (xs:=xs) (j:=f.offset) (by rw[ho];exact e1)
   have p2:=Qf (w:=w) hd hag (xs:=ys) (j:=f.offset) (by rw[ho];exact e2)
   have ih:=zeL (w:=w) fs (j+1) ks' r s hk' hfit (by rw[N5 e1];exact hr) (by rw[N5 e2];exact hs)
   simp only[Op.eqFields,hn,ne_eq,not_false_eq_true,if_true,Sem.run_bind,p1,p2,hq v hv u hu,Result.andThen_ok,he]
   cases q
   ·simp
   ·simpa using ih
  rcases hc with ⟨hu,rfl⟩ | ⟨k,hu,rfl⟩ | ⟨hu,rfl⟩
  ·match aa0,bs,h,ha,hb with
   | .sc (.bool a) :: r,.sc (.bool b) :: s,h,ha,hb =>
    exact step _ _ r s undef undef (a==b) ha hb (fun v hv u hu'=>by
     rw[zj]at hv hu';subst hv hu'
     exact run_equalIn_bool' w 9998 f.type a b hu) (by unfold zdu;rw[hu]) ⟨_,hu⟩ h (by simp[eqR])
  ·match aa0,bs,h,ha,hb with
   | .sc (.int k1 a) :: r,.sc (.int k2 b) :: s,h,ha,hb =>
    have h1:=h.1
    have h2:=h.2.1
    subst h1 h2
    exact step _ _ r s undef undef (decide (a=b)) ha hb (fun v hv u hu'=>by
     rw[zj]at hv hu';subst hv hu'
     rw[run_equalIn_int w 9998 f.type _ _ a b hu];rfl) (by unfold zdu;rw[hu]) ⟨_,hu⟩ h.2.2 (by simp[eqR])
  ·match aa0,bs,h,ha,hb with
   | .str a :: r,.str b :: s,h,ha,hb =>
    exact step _ _ r s undef undef (decide (a=b)) ha hb (fun v hv u hu'=>by
     rw[zC]at hv hu';subst hv hu'
     rw[run_equalIn_string w 9998 f.type _ _ hu,ByteArray.toList_mk,ByteArray.toList_mk]
     by_cases hab:a=b<;>simp[hab]) (by unfold zdu;rw[hu]) ⟨_,hu⟩ h (by simp[eqR])
theorem Hl (a b:List UInt8):(a==b)=decide (a=b):=by by_cases h:a=b<;>simp[h]
theorem zf1 {op:BinOp} {t t':TypeId} {x y:Operand} (ho:o.op = .binOp op t x y t') (K:C->Prop) (h:zme P t op (ev x) (ev y) K):∃ c,zo P G bx ev nx o c nx/\K c:=by
 unfold zme at h
 split at h
 ·rename_i k a k' b hx hy
  obtain ⟨rfl,h⟩:=h
  have key:∀ (v:Value),K (.sc v)->(∀ w:World,(do eqGuard op t x y (.int k a) (.int k b);binOp op t (.int k a) (.int k b):Sem Value).run P w = .ok v w)->∃ c,zo P G bx ev nx o c nx/\K c:=fun v hK hrun =>
   ⟨_,.of_same fun B R L ρ hf hr=>⟨v,by
    have h1:=hr x;rw[hx,zj]at h1
    have h2:=hr y;rw[hy,zj]at h2
    unfold execOp
    simp only[ho,h1,h2]
    rw[Sem.run_bind,hrun R.w];rfl,zj.2 rfl⟩,hK⟩
  unfold zo7 at h
  split at h
  ·exact key _ h.2 fun w=>by simp[eqGuard,binOp,Op.intArith,XF h.1]
  ·exact key _ h.2 fun w=>by simp[eqGuard,binOp,Op.intArith,XF h.1]
  ·exact key _ h.2 fun w=>by simp[eqGuard,binOp,Op.intArith,XF h.1]
  ·obtain ⟨h0,h1,h2,hK⟩:=h
   have hq:inR k (a / b):=by
    unfold inR at h2 ⊢
    have e1:a / b<=a:=Int.ediv_le_self b h0
    have e2:0<=a / b:=Int.ediv_nonneg h0 (by omega)
    have e3:k.min<=0:=by cases k<;>simp[IntKind.min,IntKind.bits,IntKind.signed]
    omega
   exact key _ hK fun w=>by simp[eqGuard,binOp,Op.intDiv,show b≠0 by omega,Int.tdiv_eq_ediv_of_nonneg h0,XF hq]
  ·obtain ⟨h0,h1,hK⟩:=h
   exact key _ hK fun w=>by simp[eqGuard,binOp,Op.intDiv,show b≠0 by omega,Int.tmod_eq_emod_of_nonneg h0]
  ·obtain ⟨rfl,hK⟩:=h
   have hs:Op.shift .shr k a k 1=pure (.int k (a / 2)):=shift_shr k k a 1 (by decide) (by cases k<;>decide)
   exact key _ hK fun w=>by simp[eqGuard,binOp,hs]
  ·exact key _ h fun w=>by
    simp only[eqGuard,binOp,Op.intCmp]
    simp[show (a==b)=decide (a=b) from rfl]
  ·exact key _ h fun w=>by
    simp only[eqGuard,binOp,Op.intCmp]
    simp[bne,show (a==b)=decide (a=b) from rfl]
  ·exact key _ h fun w=>by simp[eqGuard,binOp,Op.intCmp]
  ·exact key _ h fun w=>by simp[eqGuard,binOp,Op.intCmp]
  ·exact key _ h fun w=>by simp[eqGuard,binOp,Op.intCmp]
  ·exact key _ h fun w=>by simp[eqGuard,binOp,Op.intCmp]
  ·exact h.elim
 ·rename_i a b hx hy
  have key:∀ (c:C) (v:Value),K c->(∀ (R:Env) (L:Loc),Rep R L c v)->(∀ w:World,(do eqGuard op t x y (.string ⟨a.toArray⟩) (.string ⟨b.toArray⟩);binOp op t (.string ⟨a.toArray⟩) (.string ⟨b.toArray⟩):Sem Value).run P w = .ok v w)->∃ c,zo P G bx ev nx o c nx/\K c:=fun c v hK hv hrun =>
   ⟨_,.of_same fun B R L ρ hf hr=>⟨v,by
    have h1:=hr x;rw[hx,zC]at h1
    have h2:=hr y;rw[hy,zC]at h2
    unfold execOp
    simp only[ho,h1,h2]
    rw[Sem.run_bind,hrun R.w];rfl,hv R L⟩,hK⟩
  have sb:∀ t,∀ (R:Env) (L:Loc),Rep R L (.sc (.bool t)) (.bool t):=fun t R L=>zj.2 rfl
  unfold zpT at h
  split at h
  ·refine key _ (.string (⟨a.toArray⟩++⟨b.toArray⟩)) h.2 (fun R L=>zC.2 (by rw[ByteArray.mk_append_mk])) fun w=>?_
   have h1:=h.1
   have hs:¬(((ByteArray.mk a.toArray).size+(ByteArray.mk b.toArray).size:Nat):Int)>IntKind.i64.max:=by
    rw[show IntKind.i64.max=9223372036854775807 from rfl]
    have e1:(ByteArray.mk a.toArray).size=a.length:=by simp[ByteArray.size]
    have e2:(ByteArray.mk b.toArray).size=b.length:=by simp[ByteArray.size]
    rw[e1,e2];omega
   simp only[eqGuard,binOp,Op.stringOp,if_neg hs]
   simp
  ·exact key _ _ h (sb _) fun w=>by simp[eqGuard,binOp,Op.stringOp,Hl]
  ·exact key _ _ h (sb _) fun w=>by simp[eqGuard,binOp,Op.stringOp,Hl]
  ·exact key _ _ h (sb _) fun w=>by simp[eqGuard,binOp,Op.stringOp]
  ·exact key _ _ h (sb _) fun w=>by simp[eqGuard,binOp,Op.stringOp]
  ·exact key _ _ h (sb _) fun w=>by simp[eqGuard,binOp,Op.stringOp,Hl]
  ·exact key _ _ h (sb _) fun w=>by simp[eqGuard,binOp,Op.stringOp,Hl]
  ·exact h.elim
 ·rename_i a b hx hy
  split at h<;>try exact h.elim
  rename_i hlb
  have hu:=zho hlb rfl
  have key:∀ (v:Value),K (.sc v)->(∀ w:World,(do eqGuard op t x y (.bool a) (.bool b);binOp op t (.bool a) (.bool b):Sem Value).run P w = .ok v w)->∃ c,zo P G bx ev nx o c nx/\K c:=fun v hK hrun =>
   ⟨_,.of_same fun B R L ρ hf hr=>⟨v,by
    have h1:=hr x;rw[hx,zj]at h1
    have h2:=hr y;rw[hy,zj]at h2
    unfold execOp
    simp only[ho,h1,h2]
    rw[Sem.run_bind,hrun R.w];rfl,zj.2 rfl⟩,hK⟩
  have he:∀ w,(Op.equal t (.bool a) (.bool b)).run P w = .ok (a==b) w:=fun w=>by
   show (Op.equalIn (9999+1) t (.bool a) (.bool b)).run P w=_
   rw[Op.equalIn,Sem.run_bind,run_underlying hu]
   rfl
  unfold zoV at h
  split at h
  ·exact key _ h fun w=>by simp[eqGuard,binOp,he w]
  ·exact key _ h fun w=>by simp[eqGuard,binOp,he w]
  ·exact h.elim
 ·rename_i aa0 bs hx hy
  have main:∀ (n:Bool) (ks:List LK),U6 P t=some ks->aEq n ks aa0 bs true K->op=(if n then .neq else .eql)->∃ c,zo P G bx ev nx o c nx/\K c:=fun n ks hk h hop=>by
   have hkl:=hk
   unfold U6 at hk
   split at hk
   ·rename_i fs hu
    split at hk
    ·cases hk
    ·rename_i hno
     simp only[Bool.or_eq_true,not_or,Bool.not_eq_true]at hno
     have hfo:P.fieldsOf t=fs:=by simp[Program.fieldsOf,hu]
     obtain ⟨hfit,hK⟩:=zlW ks aa0 bs true h
     refine ⟨_,.of_same fun B R L ρ hf hr=>?_,hK⟩
     have h1:=hr x;rw[hx,jd]at h1
     have h2:=hr y;rw[hy,jd]at h2
     obtain ⟨xs,e1,q1⟩:=h1
     obtain ⟨ys,e2,q2⟩:=h2
     refine ⟨.bool (if n then !(true&&eqR aa0 bs) else (true&&eqR aa0 bs)),?_,zj.2 rfl⟩
     have he:(Op.equal t (.agg xs) (.agg ys)).run P R.w = .ok (eqR aa0 bs) R.w:=by
      show (Op.equalIn (9999+1) t (.agg xs) (.agg ys)).run P R.w=_
      rw[run_equalIn_struct R.w 9999 t xs ys (by rw[hfo];exact hu) hno.1,hfo]
      exact zeL fs.toList 0 ks aa0 bs hk hfit q1 q2
     have hg:(eqGuard op t x y (.agg xs) (.agg ys)).run P R.w = .ok () R.w:=by
      unfold eqGuard
      cases n<;>simp[hop,hno.2,run_program]
     unfold execOp
     simp only[ho,e1,e2]
     rw[Sem.run_bind,Sem.run_bind,hg]
     cases n<;>simp[hop,binOp,he]
   ·cases hk
  unfold zqg at h
  split at h
  ·rename_i ks hk
   exact main false ks hk h rfl
  ·rename_i ks hk
   exact main true ks hk h rfl
  ·exact h.elim
 ·rename_i hy
  unfold zl2 at h
  split at h
  ·rename_i el k b z hl
   have ht:=zG hl rfl
   have key:∀ (b:Bool),Gd op b K->(∀ (B:Nat->Prop) (R:Env) (L:Loc) (v:Value),Fit G B bx R L->Rep R L (ev x) v->∃ a l c,v = .slice a l c/\a.isNone=b)->∃ c,zo P G bx ev nx o c nx/\K c:=fun b hK hv=>by
    have run:∀ (n:Bool),op=(if n then .neq else .eql)->∃ c,zo P G bx ev nx o c nx/\c = .sc (.bool (if n then !b else b)):=fun n hop =>
     ⟨_,.of_same fun B R L ρ hf hr=>⟨.bool (if n then !b else b),by
      have h1:=hr x
      have h2:=hr y;rw[hy,zj]at h2
      obtain ⟨a,l,c,e,he⟩:=hv B R L _ hf h1
      unfold execOp
      simp only[ho,e,h2]
      subst he
      cases n<;>simp[hop,eqGuard,binOp,run_equal_slice_nil R.w t el a l c ht],zj.2 rfl⟩,rfl⟩
    unfold Gd at hK
    split at hK
    ·obtain ⟨c,h1,rfl⟩:=run false rfl;exact ⟨_,h1,hK⟩
    ·obtain ⟨c,h1,rfl⟩:=run true rfl;exact ⟨_,h1,hK⟩
    ·exact hK.elim
   have rows:∀ (k:Nat) (rs:List (List C)),(ev x).rows? k=some rs->rs≠[]->Gd op false K->∃ c,zo P G bx ev nx o c nx/\K c:=fun k rs hr hne hK =>
    key false hK fun B R L v hf hv=>by
     obtain ⟨a,cap,e,h1,h2,h3⟩:=hv.rows hr
     rcases h3 with h3 | ⟨b,o,e2,_⟩
     ·exact absurd h3 hne
     ·exact ⟨a,_,cap,e,by rw[e2];rfl⟩
   split at h
   ·rename_i k rs hx;exact rows k rs (by rw[hx];simp[C.rows?]) h.1 h.2
   ·rename_i k rs hx;exact rows k rs (by rw[hx];simp[C.rows?]) h.1 h.2
   ·rename_i k rs hx;exact rows k rs (by rw[hx];simp[C.rows?]) h.1 h.2
   ·rename_i hx
    exact key false h fun B R L v hf hv=>by
     rw[hx]at hv
     unfold Rep at hv
     obtain ⟨b,_,ad,e,_⟩:=hv
     exact ⟨_,_,_,e,rfl⟩
   ·rename_i hx
    exact key _ h fun B R L v hf hv=>by
     rw[hx,zj]at hv
     exact ⟨_,_,_,hv,rfl⟩
   ·exact h.elim
  ·exact h.elim
 ·exact h.elim
def aUn (op:UnOp) (x:C) (K:C->Prop):Prop:=
 match op,x with
 | .not,.sc (.bool b)=>K (.sc (.bool (!b)))
 | .neg,.sc (.int k n)=>inR k (0-n)/\K (.sc (.int k (0-n)))
 | _,_=>False
theorem zlk {op:UnOp} {t:TypeId} {x:Operand} (ho:o.op = .unOp op t x) (K:C->Prop) (h:aUn op (ev x) K):∃ c,zo P G bx ev nx o c nx/\K c:=by
 unfold aUn at h
 split at h
 ·rename_i b hx
  exact ⟨_,.of_same fun B R L ρ hf hr=>⟨.bool (!b),by
   have h1:=hr x;rw[hx,zj]at h1
   unfold execOp
   simp[ho,h1,Op.unary],zj.2 rfl⟩,h⟩
 ·rename_i k n hx
  exact ⟨_,.of_same fun B R L ρ hf hr=>⟨.int k (0-n),by
   have h1:=hr x;rw[hx,zj]at h1
   have:=XF h.1
   unfold execOp
   simp only[ho,h1,Op.unary,Op.intArith,this,Sem.run_bind,Sem.run_pure,Result.andThen_ok],zj.2 rfl⟩,h.2⟩
 ·exact h.elim
def Z2 (c:C) (i:Nat) (K:C->Prop):Prop:=
 match c with
 | .tup cs=>match cs[i]? with
  | some c=>K c
  | none=>False
 | _=>False
theorem GS {t:Operand} {i:Nat} (ho:o.op = .extract t i) (K:C->Prop) (h:Z2 (ev t) i K):∃ c,zo P G bx ev nx o c nx/\K c:=by
 unfold Z2 at h
 split at h
 ·rename_i cs hev
  split at h
  ·rename_i c hc
   exact ⟨c,.of_same fun B R L ρ hf hr=>by
    have h1:=hr t;rw[hev,Zr]at h1
    obtain ⟨vs,e,hl⟩:=h1
    obtain ⟨v,hv,hrep⟩:=jA hl i c hc
    refine ⟨v,?_,hrep⟩
    have hv':vs[i]?=some v:=by simpa using hv
    unfold execOp
    simp[ho,e,Instr.extract,hv'],h⟩
  ·exact h.elim
 ·exact h.elim
theorem JS {R:Env} {L:Loc} {ρ:Operand->Value} (hr:∀ x,Rep R L (ev x) (ρ x)):∀ l:List Operand,zm R L (l.map ev) (l.map ρ)
 | []=>zg.2 rfl
 | x :: r=>zd.2 ⟨_,_,rfl,hr x,JS hr r⟩
theorem zcm {fn:Fn} {first captured:Array Operand} (ho:o.op = .makeFunc fn first captured):zo P G bx ev nx o (.clo fn (first.toList.map ev) (captured.toList.map ev)) nx:=
 .of_same fun B R L ρ hf hr=>⟨.func fn (first.map ρ) (captured.map ρ),by
  unfold execOp
  simp[ho,Instr.makeFunc],Jy.2 ⟨_,_,rfl,by rw[Array.toList_map];exact JS hr _,by rw[Array.toList_map];exact JS hr _⟩⟩
def zo4 (c:C) (K:C->Prop):Prop:=
 match c with
 | .ptr i off=>K (.ptr i off)
 | .row cs=>K (.row cs)
 | .clo (.func f) first cap=>K (.clo (.func f) first cap)
 | .sc (.func (.yield l) fs cs)=>K (.sc (.func (.yield l) fs cs))
 | _=>False
theorem zhB {x:Operand} (ho:o.op = .nilCheck x) (K:C->Prop) (h:zo4 (ev x) K):∃ c,zo P G bx ev nx o c nx/\K c:=by
 unfold zo4 at h
 split at h
 ·rename_i i off hev
  exact ⟨_,.of_same fun B R L ρ hf hr=>by
   have h1:=hr x;rw[hev]at h1
   have h2:=jH.1 h1
   obtain ⟨b,_,e⟩:=h2
   exact ⟨ρ x,by unfold execOp;simp[ho,e],h1⟩,h⟩
 ·rename_i cs hev
  exact ⟨_,.of_same fun B R L ρ hf hr=>by
   have h1:=hr x;rw[hev]at h1
   have h2:=jC.1 h1
   obtain ⟨b,_,e,_⟩:=h2
   exact ⟨ρ x,by unfold execOp;simp[ho,e],h1⟩,h⟩
 ·rename_i f first cap hev
  exact ⟨_,.of_same fun B R L ρ hf hr=>by
   have h1:=hr x;rw[hev]at h1
   have h2:=Jy.1 h1
   obtain ⟨fs,cs,e,_⟩:=h2
   exact ⟨ρ x,by unfold execOp;simp[ho,e],h1⟩,h⟩
 ·rename_i f fs cs hev
  exact ⟨_,.of_same fun B R L ρ hf hr=>by
   have h1:=hr x;rw[hev]at h1
   have h2:=zj.1 h1
   exact ⟨ρ x,by unfold execOp;simp[ho,h2],h1⟩,h⟩
 ·exact h.elim
def vy (P:Program) (t:TypeId) (c:C) (f:Nat) (K:C->Prop):Prop:=
 match lay P t with
 | some ⟨.struct fs,_,_,_⟩=>match fs[f]?,c with
  | some (off,size,agg),.agg cs =>
   if agg then off+size<=cs.length/\K (.agg ((cs.drop off).take size)) else match cs[off]? with
    | some c=>K c
    | none=>False
  | _,_=>False
 | _=>False
theorem Ho {fields:Array Field} {fs:List (Nat×Nat×Bool)} (h:fs=fields.toList.map fun f=>(f.offset,((P.info? f.type).map (·.size)).getD 0,zdu P f.type)) {f:Nat} {off size:Nat} {agg:Bool} (hf:fs[f]?=some (off,size,agg)) :
  ∃ fd,fields[f]?=some fd/\fd.offset=off/\((P.info? fd.type).map (·.size)).getD 0=size/\zdu P fd.type=agg:=by
 subst h
 rw[List.getElem?_map]at hf
 cases hq:fields.toList[f]? with
 | none=>rw[hq]at hf;cases hf
 | some fd =>
  rw[hq]at hf
  cases hf
  exact ⟨fd,by simpa using hq,rfl,rfl,rfl⟩
theorem ZQ {t:TypeId} {size:Nat} (h:((P.info? t).map (·.size)).getD 0=size) (h0:size≠0):∃ i,P.info? t=some i/\i.size=size:=by
 cases hq:P.info? t with
 | none=>simp[hq]at h;omega
 | some i=>exact ⟨i,rfl,by simpa [hq] using h⟩
theorem uZ {t:TypeId} {x:Operand} {f:Nat} (ho:o.op = .field t x f) (K:C->Prop) (h:vy P t (ev x) f K):∃ c,zo P G bx ev nx o c nx/\K c:=by
 unfold vy at h
 split at h
 ·rename_i fs s b z hl
  obtain ⟨fields,hfu,hall,hfs⟩:=Q7 hl rfl
  split at h
  ·rename_i off size agg cs hfi hev
   obtain ⟨fd,hfd,h1,h2,h3⟩:=Ho hfs hfi
   obtain ⟨d,hd⟩:=Option.isSome_iff_exists.mp (hall fd (Array.mem_toList_iff.2 (Array.mem_of_getElem? hfd)))
   cases agg with
   | true =>
    simp only[if_true]at h
    refine ⟨_,.of_same fun B R L ρ hf hr=>?_,h.2⟩
    have hx:=hr x;rw[hev,jd]at hx
    obtain ⟨vs,e,hrl⟩:=hx
    have hi:∃ i,P.info? fd.type=some i/\i.size=size:=by
     cases hq:P.info? fd.type with
     | none=>unfold Program.underlying at hd;simp[hq]at hd
     | some i=>exact ⟨i,rfl,by simpa [hq] using h2⟩
    obtain ⟨i,hi1,hi2⟩:=hi
    refine ⟨.agg (vs.extract off (off+size)),?_,jd.2 ⟨_,rfl,?_⟩⟩
    ·have hag:=kJ hd R.w
     rw[h3]at hag
     unfold execOp
     simp[ho,e,Instr.field,run_underlying hfu,hfd,part,asAgg,h1,hag,sizeOf,typeInfo,hi1,hi2]
    ·rw[Array.toList_extract]
     have:=qd size (qp off hrl)
     rw[List.extract_eq_take_drop,show off+size-off=size by omega]
     exact this
   | false =>
    simp only[Bool.false_eq_true,if_false]at h
    split at h
    ·rename_i c hc
     refine ⟨c,.of_same fun B R L ρ hf hr=>?_,h⟩
     have hx:=hr x;rw[hev,jd]at hx
     obtain ⟨vs,e,hrl⟩:=hx
     obtain ⟨v,hv,hrep⟩:=jA hrl off c hc
     have hv':vs[off]?=some v:=by simpa using hv
     have hag:=kJ hd R.w
     rw[h3]at hag
     refine ⟨v,?_,hrep⟩
     unfold execOp
     simp[ho,e,Instr.field,run_underlying hfu,hfd,part,asAgg,h1,hag,hv']
    ·exact h.elim
  ·exact h.elim
 ·exact h.elim
end
end
section
open Go.RowKit
section
variable {P:Program} {G:zk} {bx:List (List C)} {ev:Operand->C} {nx:Nat} {o:Oper}
def Xz (P:Program) (t:TypeId) (c:C) (f:Nat) (K:C->Prop):Prop:=
 match lay P t with
 | some ⟨.struct fs,_,_,_⟩=>match fs[f]?,c with
  | some (off,size,_),.ptr i o=>if size=0 then False else K (.ptr i (o+off))
  | some (off,size,_),.row cs=>if size=0 then False else K (.row (cs.drop off))
  | _,_=>False
 | _=>False
theorem UP {t:TypeId} {x:Operand} {f:Nat} (ho:o.op = .fieldAddr t x f) (K:C->Prop) (h:Xz P t (ev x) f K):∃ c,zo P G bx ev nx o c nx/\K c:=by
 unfold Xz at h
 split at h
 ·rename_i fs s b z hl
  obtain ⟨fields,hfu,hall,hfs⟩:=Q7 hl rfl
  split at h
  ·rename_i off size agg i o' hfi hev
   obtain ⟨fd,hfd,h1,h2,h3⟩:=Ho hfs hfi
   split at h
   ·exact h.elim
   ·rename_i h0
    obtain ⟨i',hi1,hi2⟩:=ZQ h2 h0
    refine ⟨_,.of_same fun B R L ρ hf hr=>?_,h⟩
    have hx:=hr x;rw[hev,jH]at hx
    obtain ⟨bb,hb,e⟩:=hx
    refine ⟨.pointer (some ⟨bb,o'+off,none⟩),?_,jH.2 ⟨bb,hb,rfl⟩⟩
    unfold execOp
    simp[ho,e,Instr.fieldAt,run_underlying hfu,hfd,Instr.sureAddr,fieldPlace,sizeOf,typeInfo,hi1,hi2,h0,h1,Addr.add_none]
  ·rename_i off size agg cs hfi hev
   obtain ⟨fd,hfd,h1,h2,h3⟩:=Ho hfs hfi
   split at h
   ·exact h.elim
   ·rename_i h0
    obtain ⟨i',hi1,hi2⟩:=ZQ h2 h0
    refine ⟨_,.of_same fun B R L ρ hf hr=>?_,h⟩
    have hx:=hr x;rw[hev,jC]at hx
    obtain ⟨bb,o',e,hc⟩:=hx
    refine ⟨.pointer (some ⟨bb,o'+off,none⟩),?_,jC.2 ⟨bb,_,rfl,Ym off hc⟩⟩
    unfold execOp
    simp[ho,e,Instr.fieldAt,run_underlying hfu,hfd,Instr.sureAddr,fieldPlace,sizeOf,typeInfo,hi1,hi2,h0,h1,Addr.add_none]
  ·exact h.elim
 ·exact h.elim
def Xw (P:Program) (t:TypeId) (c:C) (i:C) (K:C->Prop):Prop:=
 match lay P t,i with
 | some ⟨.slice e,_,_,_⟩,.sc (.int _ n)=>match lay P e with
  | some L=>match c with
   | .bs j off k m _=>k=L.size/\0<=n/\n<(m:Int)/\K (.ptr j (off+n.toNat*L.size))
   | c=>match c.rows? L.size with
    | some rows=>match rows[n.toNat]? with
     | some r=>0<=n/\K (.row r)
     | none=>False
    | none=>False
  | none=>False
 | some ⟨.array (m+1) e,_,_,_⟩,.sc (.int _ n)=>match lay P e with
  | some L=>match c with
   | .ptr j off=>0<=n/\n<((m+1:Nat):Int)/\K (.ptr j (off+n.toNat*L.size))
   | .row cs=>0<=n/\n<((m+1:Nat):Int)/\K (.row (cs.drop (n.toNat*L.size)))
   | _=>False
  | none=>False
 | _,_=>False
theorem Uz {t:TypeId} {x i:Operand} (ho:o.op = .indexAddr t x i) (K:C->Prop) (h:Xw P t (ev x) (ev i) K):∃ c,zo P G bx ev nx o c nx/\K c:=by
 unfold Xw at h
 split at h
 ·rename_i e s b z kk n hl hi
  have ht:=zG hl rfl
  split at h
  ·rename_i L hLe
   split at h
   ·rename_i j off k m cap hev
    obtain ⟨rfl,h0,hm,hK⟩:=h
    refine ⟨_,.of_same fun B R Lc ρ hf hr=>?_,hK⟩
    have hx:=hr x;rw[hev,qB]at hx
    have hy:=hr i;rw[hi,zj]at hy
    obtain ⟨bb,hb,ad,e',had⟩:=hx
    obtain rfl:=had (by omega)
    refine ⟨.pointer (some ⟨bb,off+n.toNat*L.size,none⟩),?_,jH.2 ⟨bb,hb,rfl⟩⟩
    have hin:0<=n/\n<(m:Int):=⟨h0,hm⟩
    have hsz:=qg hLe R.w
    unfold execOp
    simp[ho,e',hy,Instr.indexAt,run_underlying ht,asIntOf,hin,hsz,Addr.add_none]
   split at h
   ·rename_i rows hrows
    split at h
    ·rename_i r hrow
     refine ⟨_,.of_same fun B R Lc ρ hf hr=>?_,h.2⟩
     have hx:=hr x
     have hy:=hr i;rw[hi,zj]at hy
     obtain ⟨a,cap,ev',h1,h2,h3⟩:=hx.rows hrows
     rcases h3 with h3 | ⟨bb,off,ea,h3⟩
     ·subst h3;simp at hrow
     ·subst ea
      obtain ⟨g1,g2⟩:=qE h3 _ r hrow
      have hlt:n.toNat<rows.length:=(List.getElem?_eq_some_iff.1 hrow).1
      refine ⟨.pointer (some ⟨bb,off+n.toNat*L.size,none⟩),?_,jC.2 ⟨_,_,rfl,g2⟩⟩
      have hin:0<=n/\n<(rows.length:Int):=⟨h.1,by omega⟩
      have hsz:=qg hLe R.w
      unfold execOp
      simp[ho,ev',hy,Instr.indexAt,run_underlying ht,asIntOf,hin,hsz,Addr.add_none]
    ·exact h.elim
   ·exact h.elim
  ·exact h.elim
 ·rename_i m e s b z kk n hl hi
  have ht:=zet hl rfl
  split at h
  ·rename_i L hLe
   split at h
   ·rename_i j off hev
    refine ⟨_,.of_same fun B R Lc ρ hf hr=>?_,h.2.2⟩
    have hx:=hr x;rw[hev,jH]at hx
    have hy:=hr i;rw[hi,zj]at hy
    obtain ⟨bb,hb,e'⟩:=hx
    refine ⟨.pointer (some ⟨bb,off+n.toNat*L.size,none⟩),?_,jH.2 ⟨bb,hb,rfl⟩⟩
    have hin:0<=n/\n<((m+1:Nat):Int):=⟨h.1,h.2.1⟩
    have hsz:=qg hLe R.w
    unfold execOp
    simp only[ho,e',hy,Instr.indexAt,run_underlying ht,asIntOf,Instr.sureAddr,Sem.run_bind,Sem.run_pure,Result.andThen_ok,hsz,Addr.add_none,if_pos hin]
   ·rename_i cs hev
    refine ⟨_,.of_same fun B R Lc ρ hf hr=>?_,h.2.2⟩
    have hx:=hr x;rw[hev,jC]at hx
    have hy:=hr i;rw[hi,zj]at hy
    obtain ⟨bb,off,e',hc⟩:=hx
    refine ⟨.pointer (some ⟨bb,off+n.toNat*L.size,none⟩),?_,jC.2 ⟨bb,_,rfl,Ym _ hc⟩⟩
    have hin:0<=n/\n<((m+1:Nat):Int):=⟨h.1,h.2.1⟩
    have hsz:=qg hLe R.w
    unfold execOp
    simp only[ho,e',hy,Instr.indexAt,run_underlying ht,asIntOf,Instr.sureAddr,Sem.run_bind,Sem.run_pure,Result.andThen_ok,hsz,Addr.add_none,if_pos hin]
   ·exact h.elim
  ·exact h.elim
 ·exact h.elim
def yC (P:Program) (t:TypeId) (c i:C) (K:C->Prop):Prop:=
 match lay P t,c,i with
 | some ⟨.str,_,_,_⟩,.str l,.sc (.int _ n)=>match l[n.toNat]? with
  | some b=>0<=n/\K (.sc (.int .u8 (b.toNat:Int)))
  | none=>False
 | _,_,_=>False
theorem zaE {t:TypeId} {x i:Operand} (ho:o.op = .index t x i) (K:C->Prop) (h:yC P t (ev x) (ev i) K):∃ c,zo P G bx ev nx o c nx/\K c:=by
 unfold yC at h
 split at h
 ·rename_i s b z l kk n hl hev hi
  have ht:=XY hl rfl
  split at h
  ·rename_i bt hbt
   refine ⟨_,.of_same fun B R Lc ρ hf hr=>?_,h.2⟩
   have hx:=hr x;rw[hev,zC]at hx
   have hy:=hr i;rw[hi,zj]at hy
   have hlt:n.toNat<l.length:=(List.getElem?_eq_some_iff.1 hbt).1
   refine ⟨.int .u8 (bt.toNat:Int),?_,zj.2 rfl⟩
   have hsz:(ByteArray.mk l.toArray).size=l.length:=by simp[ByteArray.size]
   have hr1:=run_index_string (P:=P) R.w t ⟨l.toArray⟩ kk n ht
   rw[dif_pos ⟨h.1,by rw[hsz];omega⟩]at hr1
   have hget:(ByteArray.mk l.toArray)[n.toNat]'(by rw[hsz];exact hlt)=bt:=by
    have:=(List.getElem?_eq_some_iff.1 hbt).2
    rw[←this];rfl
   rw[hget]at hr1
   unfold execOp
   simp only[ho,hx,hy]
   rw[Sem.run_bind,hr1];rfl
  ·exact h.elim
 ·exact h.elim
def vb:Option C->Option (Option Int)
 | none=>some none
 | some (.sc (.int _ n))=>some (some n)
 | _=>none
def cut {α:Type} (l:List α) (lo hi:Option Int):List α:=
 match lo,hi with
 | none,none=>l
 | some a,none=>l.drop a.toNat
 | none,some b=>l.take b.toNat
 | some a,some b=>(l.take b.toNat).drop a.toNat
def jj (n:Nat) (lo hi:Option Int):Prop:=
 match lo,hi with
 | none,none=>True
 | some a,none=>0<=a/\a<=(n:Int)
 | none,some b=>0<=b/\b<=(n:Int)
 | some a,some b=>0<=a/\a<=b/\b<=(n:Int)
def zkL (sz i off k n cap:Nat) (lo hi mx:Option Int) (K:C->Prop):Prop:=
 match lo,hi,mx with
 | none,none,none=>n<=cap/\K (.bs i off k n cap)
 | none,some b,none=>n<=cap/\(0<=b/\b<=(cap:Int))/\K (.bs i off k b.toNat cap)
 | some a,none,none=>sz=k/\n<=cap/\(0<=a/\a<=(n:Int))/\K (.bs i (off+a.toNat*k) k (n-a.toNat) (cap-a.toNat))
 | some a,some b,none=>sz=k/\(0<=a/\a<=b/\b<=(cap:Int))/\K (.bs i (off+a.toNat*k) k (b.toNat-a.toNat) (cap-a.toNat))
 | none,some b,some m=>(0<=b/\b<=m/\m<=(cap:Int))/\K (.bs i off k b.toNat m.toNat)
 | some a,some b,some m=>sz=k/\(0<=a/\a<=b/\b<=m/\m<=(cap:Int))/\K (.bs i (off+a.toNat*k) k (b.toNat-a.toNat) (m.toNat-a.toNat))
 | _,none,some _=>False
theorem zkL.out {sz i off k n cap:Nat} {lo hi mx:Option Int} {K:C->Prop} (h:zkL sz i off k n cap lo hi mx K) :
  (lo≠none->sz=k)/\(mx≠none->hi≠none)/\0<=lo.getD 0/\lo.getD 0<=hi.getD n/\hi.getD n<=mx.getD cap/\mx.getD cap<=(cap:Int) /\
   K (.bs i (off+(lo.getD 0).toNat*k) k ((hi.getD n).toNat-(lo.getD 0).toNat) ((mx.getD cap).toNat-(lo.getD 0).toNat)):=by
 unfold zkL at h
 split at h
 ·exact ⟨by simp,by simp,by simp,by simp,by simp;omega,by simp,by simpa using h.2⟩
 ·exact ⟨by simp,by simp,by simp,by simp;omega,by simp;omega,by simp,by simpa using h.2.2⟩
 ·exact ⟨by simp;exact h.1,by simp,by simp;omega,by simp;omega,by simp;omega,by simp,by simpa using h.2.2.2⟩
 ·exact ⟨by simp;exact h.1,by simp,by simp;omega,by simp;omega,by simp;omega,by simp,by simpa using h.2.2⟩
 ·exact ⟨by simp,by simp,by simp,by simp;omega,by simp;omega,by simp;omega,by simpa using h.2⟩
 ·exact ⟨by simp;exact h.1,by simp,by simp;omega,by simp;omega,by simp;omega,by simp;omega,by simpa using h.2.2⟩
 ·exact h.elim
def zmX (k:Nat) (lo hi mx:Option Int) (K:C->Prop):Prop:=match mx,hi with
 | none,_=>jj 0 lo hi/\K (.sc (.slice none 0 0))
 | some m,some h=>m=h/\jj 0 lo (some h)/\K (.tight k (cut [] lo (some h)))
 | some _,none=>False
def yV (P:Program) (t:TypeId) (c:C) (lo hi mx:Option C) (K:C->Prop):Prop:=
 match vb lo,vb hi,vb mx with
 | some lo,some hi,some mx=>match lay P t with
  | some ⟨.str,_,_,_⟩=>match c,mx with
   | .str l,none=>jj l.length lo hi/\K (.str (cut l lo hi))
   | _,_=>False
  | some ⟨.slice e,_,_,_⟩=>match lay P e with
   | some L=>match c with
    | .bs i off k n cap=>zkL L.size i off k n cap lo hi mx K
    | .sc (.slice none 0 0)=>zmX L.size lo hi mx K
    | c=>match c.rows? L.size with
     | some rows=>match mx,hi with
      | none,_=>jj rows.length lo hi/\K (.sl L.size (cut rows lo hi))
      | some m,some h=>m=h/\jj rows.length lo hi/\K (.tight L.size (cut rows lo hi))
      | some _,none=>False
     | none=>False
   | none=>False
  | _=>False
 | _,_,_=>False
theorem QN {x:Option C} (h:vb x=some none):x=none:=by
 unfold vb at h;split at h
 ·rfl
 ·cases h
 ·cases h
theorem zcD {x:Option C} {n:Int} (h:vb x=some (some n)):∃ k,x=some (.sc (.int k n)):=by
 unfold vb at h;split at h
 ·cases h
 ·cases h;exact ⟨_,rfl⟩
 ·cases h
theorem kB {α:Type} (l:List α) {lo hi:Option Int} (h:jj l.length lo hi):(cut l lo hi).length=((hi.map (·.toNat)).getD l.length)-((lo.map (·.toNat)).getD 0):=by
 cases lo<;>cases hi<;>simp[cut,jj]at h ⊢<;>omega
theorem J7 {w:World} {isS:Bool} {n cap:Nat} {lo hi mx:Option Value} {lo' hi' mx':Option Int} (hlo:lo=lo'.map (fun x=>Value.int .i64 x)∨∃ k,lo=lo'.map (fun x=>Value.int k x))
  (hhi:∃ k,hi=hi'.map (fun x=>Value.int k x)) (hmx:∃ k,mx=mx'.map (fun x=>Value.int k x)) (hok:jj n lo' hi') (hcap:n<=cap) (hm:mx'=none∨(mx'=hi'/\hi'≠none)) :
  (Instr.sliceBounds isS n cap lo hi mx).run P w = .ok ((lo'.map (·.toNat)).getD 0,(hi'.map (·.toNat)).getD n,(mx'.map (·.toNat)).getD cap) w:=by
 have hlo':∃ k,lo=lo'.map (fun x=>Value.int k x):=by rcases hlo with h | h;exact ⟨_,h⟩;exact h
 obtain ⟨k1,rfl⟩:=hlo'
 obtain ⟨k2,rfl⟩:=hhi
 obtain ⟨k3,rfl⟩:=hmx
 rcases hm with rfl | ⟨rfl,hne⟩
 ·cases lo' with
  | none=>cases hi' with
   | none=>simp[Instr.sliceBounds]
   | some b =>
    simp only[jj]at hok
    have h1:0<=b/\b<=(cap:Int):=by omega
    simp[Instr.sliceBounds,Instr.sliceBound,asIntOf,h1]
  | some a=>cases hi' with
   | none =>
    simp only[jj]at hok
    simp[Instr.sliceBounds,Instr.sliceBound,asIntOf,hok]
   | some b =>
    simp only[jj]at hok
    have h1:0<=b/\b<=(cap:Int):=by omega
    have h2:0<=a/\a<=((b.toNat:Nat):Int):=by omega
    simp only[Instr.sliceBounds,Instr.sliceBound,asIntOf,Option.map_some,Option.map_none,Sem.run_bind,Sem.run_pure,Result.andThen_ok,if_pos h1,if_pos h2]
    simp
 ·cases mx' with
  | none=>exact absurd rfl hne
  | some b=>cases lo' with
   | none =>
    simp only[jj]at hok
    have h1:0<=b/\b<=(cap:Int):=by omega
    have h2:0<=b/\b<=((b.toNat:Nat):Int):=by omega
    simp only[Instr.sliceBounds,Instr.sliceBound,asIntOf,Option.map_some,Option.map_none,Sem.run_bind,Sem.run_pure,Result.andThen_ok,if_pos h1,if_pos h2]
    simp
   | some a =>
    simp only[jj]at hok
    have h1:0<=b/\b<=(cap:Int):=by omega
    have h2:0<=b/\b<=((b.toNat:Nat):Int):=by omega
    have h3:0<=a/\a<=((b.toNat:Nat):Int):=by omega
    simp only[Instr.sliceBounds,Instr.sliceBound,asIntOf,Option.map_some,Option.map_none,Sem.run_bind,Sem.run_pure,Result.andThen_ok,if_pos h1,if_pos h2,if_pos h3]
    simp
theorem xT {w:World} {n cap:Nat} {lo hi mx:Option Value} {lo' hi' mx':Option Int} (hlo:∃ k,lo=lo'.map (fun x=>Value.int k x)) (hhi:∃ k,hi=hi'.map (fun x=>Value.int k x)) (hmx:∃ k,mx=mx'.map (fun x=>Value.int k x))
  (h0:0<=lo'.getD 0) (h1:lo'.getD 0<=hi'.getD n) (h2:hi'.getD n<=mx'.getD cap) (h3:mx'.getD cap<=(cap:Int)) (hmh:mx'≠none->hi'≠none) :
  (Instr.sliceBounds true n cap lo hi mx).run P w = .ok ((lo'.getD 0).toNat,(hi'.getD n).toNat,(mx'.getD cap).toNat) w:=by
 obtain ⟨k1,rfl⟩:=hlo
 obtain ⟨k2,rfl⟩:=hhi
 obtain ⟨k3,rfl⟩:=hmx
 have sb:∀ (k:IntKind) (a:Int) (y:Nat) (c:BoundsCode),0<=a->a<=(y:Int)->(Instr.sliceBound (.int k a) y c).run P w = .ok a.toNat w:=fun k a y c p q=>by
  simp[Instr.sliceBound,asIntOf,p,q]
 cases mx' with
 | none=>cases hi' with
  | none=>cases lo' with
   | none=>simp[Instr.sliceBounds]
   | some a =>
    simp only[Option.getD_some,Option.getD_none]at h0 h1 h2 h3
    simp only[Instr.sliceBounds,Option.map_some,Option.map_none,Sem.run_bind,Sem.run_pure,Result.andThen_ok,sb k1 a n _ h0 h1]
    simp
  | some b=>cases lo' with
   | none =>
    simp only[Option.getD_some,Option.getD_none]at h0 h1 h2 h3
    simp only[Instr.sliceBounds,Option.map_some,Option.map_none,Sem.run_bind,Sem.run_pure,Result.andThen_ok,sb k2 b cap _ h1 h2]
    simp
   | some a =>
    simp only[Option.getD_some,Option.getD_none]at h0 h1 h2 h3
    simp only[Instr.sliceBounds,Option.map_some,Option.map_none,Sem.run_bind,Sem.run_pure,Result.andThen_ok,sb k2 b cap _ (by omega) h2,sb k1 a b.toNat _ h0 (by omega)]
    simp
 | some m=>cases hi' with
  | none=>exact absurd rfl (hmh (by simp))
  | some b=>cases lo' with
   | none =>
    simp only[Option.getD_some,Option.getD_none]at h0 h1 h2 h3
    simp only[Instr.sliceBounds,Option.map_some,Option.map_none,Sem.run_bind,Sem.run_pure,Result.andThen_ok,sb k3 m cap _ (by omega) h3,sb k2 b m.toNat _ h1 (by omega)]
    simp
   | some a =>
    simp only[Option.getD_some,Option.getD_none]at h0 h1 h2 h3
    simp only[Instr.sliceBounds,Option.map_some,Option.map_none,Sem.run_bind,Sem.run_pure,Result.andThen_ok,sb k3 m cap _ (by omega) h3,sb k2 b m.toNat _ (by omega) (by omega),sb k1 a b.toNat _ h0 (by omega)]
    simp
theorem jo {R:Env} {L:Loc} {ρ:Operand->Value} (hr:∀ x,Rep R L (ev x) (ρ x)) {x:Option Operand} {n:Option Int} (h:vb (x.map ev)=some n):∃ k,x.map ρ=n.map (fun i=>Value.int k i):=by
 cases x with
 | none=>simp[vb]at h;subst h;exact ⟨.i64,rfl⟩
 | some x =>
  cases n with
  | none =>
   have:=QN h
   cases this
  | some n =>
   obtain ⟨k,hk⟩:=zcD h
   simp at hk
   have h1:=hr x
   rw[hk,zj]at h1
   exact ⟨k,by simp[h1]⟩
theorem Mt (l:List UInt8) {lo hi:Option Int} (h:jj l.length lo hi):(ByteArray.mk l.toArray).extract ((lo.map (·.toNat)).getD 0) ((hi.map (·.toNat)).getD l.length)=⟨(cut l lo hi).toArray⟩:=by
 rw[ByteArray.extract_mk]
 congr 2
 cases lo<;>cases hi<;>simp only[cut,Option.map_some,Option.map_none,Option.getD_some,Option.getD_none,List.drop_zero,Nat.sub_zero]
 ·rw[List.take_of_length_le (Nat.le_refl _)]
 ·rw[List.take_of_length_le (by simp)]
 ·rw[List.drop_take]
theorem vD {R:Env} {k b o:Nat} {rows:List (List C)} (h:zA R rows k b o) (lo hi:Option Int):zA R (cut rows lo hi) k b (o+((lo.map (·.toNat)).getD 0)*k):=by
 cases lo<;>cases hi<;>simp only[cut,Option.map_some,Option.map_none,Option.getD_some,Option.getD_none,Nat.zero_mul,Nat.add_zero]
 ·exact h
 ·exact Xj _ h
 ·exact Xm _ h
 ·exact Xm _ (Xj _ h)
theorem zbl {t:TypeId} {x:Operand} {lo hi mx:Option Operand} (ho:o.op = .slice t x lo hi mx) (K:C->Prop) (h:yV P t (ev x) (lo.map ev) (hi.map ev) (mx.map ev) K):∃ c,zo P G bx ev nx o c nx/\K c:=by
 unfold yV at h
 split at h
 ·rename_i lo' hi' mx' hlo hhi hmx
  split at h
  ·rename_i s b z hl
   have ht:=XY hl rfl
   split at h
   ·rename_i l hev
    refine ⟨_,.of_same fun B R Lc ρ hf hr=>?_,h.2⟩
    have hx:=hr x;rw[hev,zC]at hx
    have hmx0:mx=none:=by
     have:=QN hmx
     cases mx<;>simp_all
    subst hmx0
    have hsz:(ByteArray.mk l.toArray).size=l.length:=by simp[ByteArray.size]
    have hb:=J7 (P:=P) (w:=R.w) (isS:=false) (n:=l.length) (cap:=l.length) (lo:=lo.map ρ) (hi:=hi.map ρ) (mx:=none) (mx':=none) (.inr (jo hr hlo)) (jo hr hhi) ⟨.i64,rfl⟩ h.1 (Nat.le_refl _) (.inl rfl)
    refine ⟨.string ⟨(cut l lo' hi').toArray⟩,?_,zC.2 rfl⟩
    unfold execOp
    simp only[ho,hx,Instr.sliceAt,Sem.run_bind,run_underlying ht,Result.andThen_ok,Instr.slice,Option.map_none,hsz,hb,Option.isSome_none,Bool.false_eq_true,if_false,Sem.run_pure]
    simp only[Sem.run_bind,Sem.run_pure,Result.andThen_ok,hb,Mt l h.1]
   ·exact h.elim
  ·rename_i e s b z hl
   have ht:=zG hl rfl
   split at h
   ·rename_i L hLe
    split at h
    ·rename_i j off k n cap hev
     obtain ⟨hz,hmh,h0,h1,h2,h3,hK⟩:=h.out
     refine ⟨_,.of_same fun B R Lc ρ hf hr=>?_,hK⟩
     have hx:=hr x;rw[hev,qB]at hx
     obtain ⟨bb,hb0,ad,e',had⟩:=hx
     have hb:=xT (P:=P) (w:=R.w) (n:=n) (cap:=cap) (jo hr hlo) (jo hr hhi) (jo hr hmx) h0 h1 h2 h3 hmh
     have hsz:=qg hLe R.w
     refine ⟨.slice (some (if (mx'.getD cap).toNat=(lo'.getD 0).toNat then ad else ad.add ((lo'.getD 0).toNat*L.size))) ((hi'.getD n).toNat-(lo'.getD 0).toNat) ((mx'.getD cap).toNat-(lo'.getD 0).toNat),?_,qB.2 ⟨bb,hb0,_,rfl,fun hne=>?_⟩⟩
     ·unfold execOp
      simp only[ho,e',Instr.sliceAt,Sem.run_bind,run_underlying ht,Result.andThen_ok,Instr.slice,hb,Sem.run_pure,hsz]
      split<;>simp
     ·rw[if_neg (by omega),had (by omega)]
      rw[Addr.add_none]
      cases lo' with
      | none=>simp
      | some a=>rw[hz (by simp)]
    ·-- of none
     unfold zmX at h
     rename_i hev
     split at h
     ·refine ⟨_,.of_same fun B R Lc ρ hf hr=>?_,h.2⟩
      have hx:=hr x
      rw[hev,zj]at hx
      have hmx0:mx=none:=by
       have:=QN hmx
       cases mx<;>simp_all
      subst hmx0
      have hb:=J7 (P:=P) (w:=R.w) (isS:=true) (n:=0) (cap:=0) (lo:=lo.map ρ) (hi:=hi.map ρ) (mx:=none) (mx':=none) (.inr (jo hr hlo)) (jo hr hhi) ⟨.i64,rfl⟩ h.1 (Nat.le_refl _) (.inl rfl)
      have hsz:=qg hLe R.w
      have hz0:(lo'.map (·.toNat)).getD 0=0/\(hi'.map (·.toNat)).getD 0=0:=by
       have h4:=h.1
       cases lo'<;>cases hi'<;>simp[jj]at h4 ⊢<;>omega
      refine ⟨.slice none 0 0,?_,zj.2 rfl⟩
      unfold execOp
      simp only[ho,hx,Instr.sliceAt,Sem.run_bind,run_underlying ht,Result.andThen_ok,Instr.slice,Option.map_none,hb,Sem.run_pure,hsz]
      simp[hz0.1,hz0.2]
     ·rename_i m hh
      obtain ⟨rfl,h⟩:=h
      refine ⟨_,.of_same fun B R Lc ρ hf hr=>?_,h.2⟩
      have hx:=hr x
      rw[hev,zj]at hx
      have hb:=J7 (P:=P) (w:=R.w) (isS:=true) (n:=0) (cap:=0) (lo:=lo.map ρ) (hi:=hi.map ρ) (mx:=mx.map ρ) (.inr (jo hr hlo)) (jo hr hhi) (jo hr hmx) h.1 (Nat.le_refl _) (.inr ⟨rfl,by simp⟩)
      have hsz:=qg hLe R.w
      have hz0:(lo'.map (·.toNat)).getD 0=0/\m.toNat=0:=by
       have h4:=h.1
       cases lo'<;>simp[jj]at h4 ⊢<;>omega
      have hct:cut ([]:List (List C)) lo' (some m) = []:=by cases lo'<;>simp[cut]
      rw[hct]
      refine ⟨.slice none 0 0,?_,jK.2 ⟨none,rfl,by unfold maxLen;simp,.inl rfl⟩⟩
      unfold execOp
      simp only[ho,hx,Instr.sliceAt,Sem.run_bind,run_underlying ht,Result.andThen_ok,Instr.slice,hb,Sem.run_pure,hsz]
      simp[hz0.1,hz0.2]
     ·exact h.elim
    split at h
    ·rename_i rows hrows
     split at h
     ·-- no max
      refine ⟨_,.of_same fun B R Lc ρ hf hr=>?_,h.2⟩
      have hx:=hr x
      obtain ⟨a,cap,ev',h1,h2,h3⟩:=hx.rows hrows
      have hmx0:mx=none:=by
       have:=QN hmx
       cases mx<;>simp_all
      subst hmx0
      have hb:=J7 (P:=P) (w:=R.w) (isS:=true) (n:=rows.length) (cap:=cap) (lo:=lo.map ρ) (hi:=hi.map ρ) (mx:=none) (mx':=none) (.inr (jo hr hlo)) (jo hr hhi) ⟨.i64,rfl⟩ h.1 h1 (.inl rfl)
      have hcl:=kB rows h.1
      have hsz:=qg hLe R.w
      refine ⟨.slice (if cap=(lo'.map (·.toNat)).getD 0 then a else a.map (·.add ((lo'.map (·.toNat)).getD 0*L.size))) ((hi'.map (·.toNat)).getD rows.length-(lo'.map (·.toNat)).getD 0) (cap-(lo'.map (·.toNat)).getD 0),?_,?_⟩
      ·unfold execOp
       simp only[ho,ev',Instr.sliceAt,Sem.run_bind,run_underlying ht,Result.andThen_ok,Instr.slice,Option.map_none,hb,Sem.run_pure,hsz]
       simp
      ·have hle:(hi'.map (·.toNat)).getD rows.length<=rows.length:=by
        have h4:=h.1
        cases lo'<;>cases hi'<;>simp[jj]at h4 ⊢<;>omega
       refine U9.2 ⟨_,_,by rw[hcl],by rw[hcl];omega,by omega,?_⟩
       by_cases hc0:cut rows lo' hi' = []
       ·exact .inl hc0
       ·right
        have hpos:0<(cut rows lo' hi').length:=List.length_pos_iff.2 hc0
        rcases h3 with h3 | ⟨bb,off,ea,h3⟩
        ·have h0:rows.length=0:=by rw[h3];rfl
         omega
        ·refine ⟨bb,off+(lo'.map (·.toNat)).getD 0*L.size,?_,vD h3 lo' hi'⟩
         rw[if_neg (by omega),ea]
         simp[Addr.add_none]
     ·-- with max
      rename_i m hh
      obtain ⟨rfl,h⟩:=h
      refine ⟨_,.of_same fun B R Lc ρ hf hr=>?_,h.2⟩
      have hx:=hr x
      obtain ⟨a,cap,ev',h1,h2,h3⟩:=hx.rows hrows
      have hb:=J7 (P:=P) (w:=R.w) (isS:=true) (n:=rows.length) (cap:=cap) (lo:=lo.map ρ) (hi:=hi.map ρ) (mx:=mx.map ρ) (.inr (jo hr hlo)) (jo hr hhi) (jo hr hmx) h.1 h1 (.inr ⟨rfl,by simp⟩)
      have hcl:=kB rows h.1
      have hsz:=qg hLe R.w
      refine ⟨.slice (if m.toNat=(lo'.map (·.toNat)).getD 0 then a else a.map (·.add ((lo'.map (·.toNat)).getD 0*L.size))) (m.toNat-(lo'.map (·.toNat)).getD 0) (m.toNat-(lo'.map (·.toNat)).getD 0),?_,?_⟩
      ·unfold execOp
       simp only[ho,ev',Instr.sliceAt,Sem.run_bind,run_underlying ht,Result.andThen_ok,Instr.slice,hb,Sem.run_pure,hsz]
       simp
      ·have hle:m.toNat<=rows.length:=by
        have h4:=h.1
        cases lo'<;>simp only[jj]at h4<;>omega
       simp only[Option.map_some,Option.getD_some]at hcl
       refine jK.2 ⟨_,by rw[hcl],by rw[hcl];omega,?_⟩
       by_cases hc0:cut rows lo' (some m) = []
       ·exact .inl hc0
       ·right
        have hpos:0<(cut rows lo' (some m)).length:=List.length_pos_iff.2 hc0
        rcases h3 with h3 | ⟨bb,off,ea,h3⟩
        ·have h0:rows.length=0:=by rw[h3];rfl
         omega
        ·refine ⟨bb,off+(lo'.map (·.toNat)).getD 0*L.size,?_,vD h3 lo' (some m)⟩
         rw[if_neg (by omega),ea]
         simp[Addr.add_none]
     ·exact h.elim
    ·exact h.elim
   ·exact h.elim
  ·exact h.elim
 ·exact h.elim
end
end
section
open Go.RowKit
section
variable {P:Program} {G:zk} {bx:List (List C)} {ev:Operand->C} {nx:Nat} {o:Oper}
theorem qY {R:Env}:∀ {cs:List C} {b off:Nat},zy R cs b off->∃ vs:List Value,(∀ (j:Nat) v,vs[j]?=some v->R.w.cell? ⟨b,off+j,none⟩=some v)/\zm R zu cs vs/\∀ v∈vs,v.oneCell'=true
 | [],_,_,_=>⟨[],fun j v h=>by simp at h,zg.2 rfl,fun v h=>by cases h⟩
 | x :: r,b,off,h=>by
  obtain ⟨⟨v0,e1,e2,e3,e4⟩,h2⟩:=zN.1 h
  obtain ⟨us,g1,g2,g3⟩:=qY h2
  refine ⟨v0 :: us,fun j v hj=>?_,zd.2 ⟨v0,us,rfl,e3,g2⟩,fun v hv=>?_⟩
  ·cases j with
   | zero=>simp at hj;subst hj;exact e1
   | succ j =>
    have:=g1 j v (by simpa using hj)
    rwa [show off+(j+1)=off+1+j by omega]
  ·rcases List.mem_cons.1 hv with rfl | hv
   ·exact e4
   ·exact g3 v hv
theorem YC {k:Nat}:∀ {rows:List (List C)},(∀ r∈rows,r.length=k)->∀ (i j:Nat) row,rows[i]?=some row->j<k->rows.flatten[i*k+j]?=row[j]?
 | [],_,i,j,row,h,_=>by simp at h
 | r :: rs,h,0,j,row,hr,hj=>by
  simp at hr;subst hr
  rw[List.flatten_cons,Nat.zero_mul,Nat.zero_add,List.getElem?_append_left (by rw[h r List.mem_cons_self];exact hj)]
 | r :: rs,h,i+1,j,row,hr,hj=>by
  have h0:=h r List.mem_cons_self
  rw[List.flatten_cons,List.getElem?_append_right (by rw[h0,Nat.add_mul];omega)]
  have:=YC (fun x hx=>h x (List.mem_cons_of_mem _ hx)) i j row (by simpa using hr) hj
  rw[←this]
  congr 1
  rw[h0,Nat.add_mul];omega
theorem own_new {R:Env} {L:Loc} {w':World} {g cap e k nx:Nat} {cur:Array Value} {rows:List (List C)} {vs:List Value} (hβ:∀ b∈L.β,b<R.w.heap.size)
  (hb:Below R.w.heap.size R.w w') (hg:R.w.heap.size<=g) (hh:w'.heap[g]?=some (.cells cur e (0,0))) (hcur:cur.size=cap*k) (hk:∀ r∈rows,r.length=k)
  (hrep:zm R zu rows.flatten vs) (hone:∀ v∈vs,v.oneCell'=true) (htake:cur.toList.take (rows.length*k)=vs) (hcap:rows.length<=cap) (hm:cap<=maxLen) :
  ∃ R' L',R'.w=w'/\zW nx (nx+1) R L R' L'/\Rep R' L' (.own nx e k rows) (.slice (some ⟨g,0,none⟩) rows.length cap):=by
 have hext:Ext R ⟨w',fun b o=>(b<R.w.heap.size/\R.M b o)∨(b=g/\rows.length*k<=o),R.F⟩:=by
  refine Ext.of_below hb fun b o h=>⟨fun h'=>?_,fun h'=>.inl ⟨h,h'⟩⟩
  rcases h' with h' | h'
  ·exact h'.2
  ·omega
 refine ⟨⟨w',fun b o=>(b<R.w.heap.size/\R.M b o)∨(b=g/\rows.length*k<=o),R.F⟩,⟨L.β,fun id=>if id=nx then some (e,k,.slice (some ⟨g,0,none⟩) rows.length cap) else L.T id⟩,rfl,⟨hb,rfl,rfl,fun b o h=>⟨fun h'=>?_,fun h'=>.inl ⟨h,h'⟩⟩,fun id hi=>if_neg (by omega),fun id e' k' v' hi hi2 h=>?_,fun id id' e1 k1 v1 e2 k2 v2 b hi hi2 hj hj2 h1 h2 h3 h4=>by omega⟩,JY.2 ⟨if_pos rfl,_,_,rfl,hcap,hm,?_⟩⟩
 ·rcases h' with h' | h'
  ·exact h'.2
  ·omega
 ·simp only at h
  rw[if_pos (by omega)]at h
  cases h
  exact .inr (.inl ⟨g,_,cap,cur,_,rfl,hg,hh,hcap,hm,hcur,fun hx=>by have:=hβ g hx;omega,fun o ho=>.inr ⟨rfl,ho⟩⟩)
 ·by_cases h0:rows = []
  ·exact .inl h0
  ·refine .inr ⟨g,0,rfl,qr fun i row hrow=>⟨hk row (List.mem_of_getElem? hrow),zK fun j c hc=>?_⟩⟩
   have hkr:=hk row (List.mem_of_getElem? hrow)
   have hj:j<k:=by rw[←hkr];exact (List.getElem?_eq_some_iff.1 hc).1
   have hi:i<rows.length:=(List.getElem?_eq_some_iff.1 hrow).1
   have hf:=YC hk i j row hrow hj
   rw[hc]at hf
   obtain ⟨v,hv,hr⟩:=jA hrep _ _ hf
   have hlt2:i*k+j<rows.length*k:=by
    have:(i+1)*k<=rows.length*k:=Nat.mul_le_mul_right _ hi
    rw[Nat.add_mul]at this;omega
   refine ⟨v,?_,?_,Rep.ext hext (zx.refl _) _ _ hr,hone v (List.mem_of_getElem? hv)⟩
   ·rw[cell_of_row w' g (0+i*k+j) cur e (0,0) hh]
    rw[←htake,List.getElem?_take]at hv
    rw[Nat.zero_add]
    rw[if_pos hlt2]at hv
    simpa using hv
   ·rintro (hx | hx)
    ·omega
    ·omega
theorem zle {R:Env} {L:Loc} {e k nx:Nat} :
  ∃ R' L',R'.w=R.w/\zW nx (nx+1) R L R' L'/\Rep R' L' (.own nx e k []) (.slice none 0 0):=by
 refine ⟨R,⟨L.β,fun id=>if id=nx then some (e,k,.slice none 0 0) else L.T id⟩,rfl,⟨Below.refl _ _,rfl,rfl,fun b o h=>Iff.rfl,fun id hi=>if_neg (by omega),fun id e' k' v' hi hi2 h=>?_,fun id id' e1 k1 v1 e2 k2 v2 b hi hi2 hj hj2 h1 h2 h3 h4=>by omega⟩,JY.2 ⟨if_pos rfl,_,_,rfl,Nat.le_refl _,Nat.zero_le _,.inl rfl⟩⟩
 simp only at h
 rw[if_pos (by omega)]at h
 cases h
 exact .inl rfl
theorem Fit.β_lt {B:Nat->Prop} {R:Env} {L:Loc} (hf:Fit G B bx R L):∀ b∈L.β,b<R.w.heap.size:=fun b hb=>by
 obtain ⟨i,hi,rfl⟩:=List.getElem_of_mem hb
 have hl:=hf.boxes.len
 obtain ⟨vs,ty,h,_⟩:=hf.boxes.box i L.β[i] (bx[i]'(by omega)) (List.getElem?_eq_getElem hi) (List.getElem?_eq_getElem (by omega))
 exact zI h
theorem zW.mem {R:Env} {L:Loc} {w':World} (hb:Below R.w.heap.size R.w w'):zW nx nx R L ⟨w',fun b o=>b<R.w.heap.size/\R.M b o,R.F⟩ L:=
 ⟨hb,rfl,rfl,fun b o h=>⟨fun h'=>h'.2,fun h'=>⟨h,h'⟩⟩,fun _ _=>rfl,fun id e k v h h'=>by omega,fun id id' e k v e' k' v' b h h'=>by omega⟩
def Yb (place:Nat->Option (Nat×Nat)) (cs:List C):List (Nat×C)->Option (List C)
 | []=>some cs
 | (i,c) :: rest =>
  match place i with
  | none=>none
  | some (off,size)=>if c.cells.length=size/\off+size<=cs.length then Yb place (cs.take off++c.cells++cs.drop (off+size)) rest else none
def C.partB:C->Bool
 | .agg _=>true
 | c=>c.cellB
theorem Y1 {R:Env} {L:Loc} {c:C} {v:Value} (h:Rep R L c v) (hc:c.partB=true):zm R L c.cells v.cells.toList:=by
 cases c<;>simp only[C.partB]at hc
 case agg cs=>obtain ⟨vs,rfl,hl⟩:=jd.1 h;exact hl
 all_goals
  have h1:=h.oneCell hc
  have:v.cells = #[v]:=by cases v<;>simp_all [Value.oneCell',Value.cells]
  rw[this]
  exact zd.2 ⟨v,[],rfl,h,zg.2 rfl⟩
theorem Vl:∀ (us:List Value) (k off:Nat) (cs:Array Value),off+k+us.length<=cs.size ->
  ((us.zipIdx k).foldl (fun (cs:Array Value) (p:Value×Nat)=>cs.setIfInBounds (off+p.2) p.1) cs).toList=cs.toList.take (off+k)++us++cs.toList.drop (off+k+us.length)
 | [],k,off,cs,h=>by simp
 | u :: us,k,off,cs,h=>by
  simp only[List.zipIdx_cons,List.foldl_cons]
  rw[Vl us (k+1) off _ (by simp at h ⊢;omega)]
  simp only[List.length_cons]at h ⊢
  apply List.ext_getElem?
  intro i
  simp only[Array.toList_setIfInBounds]
  rcases Nat.lt_trichotomy i (off+k) with hi | hi | hi
  ·rw[List.append_assoc,List.append_assoc,List.getElem?_append_left (by simp at h ⊢;omega),List.getElem?_append_left (by simp at h ⊢;omega)]
   rw[List.getElem?_take,List.getElem?_take,if_pos (by omega),if_pos hi,List.getElem?_set_ne (by omega)]
  ·subst hi
   rw[List.append_assoc,List.append_assoc,List.getElem?_append_left (by simp at h ⊢;omega),List.getElem?_append_right (by simp at h ⊢;omega)]
   rw[List.getElem?_take,if_pos (by omega),List.getElem?_set_self (by simpa using (by omega:off+k<cs.size))]
   simp[Nat.min_eq_left (by omega:off+k<=cs.size)]
  ·have e1:(cs.toList.set (off+k) u).take (off+(k+1))=cs.toList.take (off+k)++[u]:=by
    apply List.ext_getElem?
    intro j
    rcases Nat.lt_trichotomy j (off+k) with hj | hj | hj
    ·rw[List.getElem?_append_left (by simp;omega),List.getElem?_take,List.getElem?_take,if_pos (by omega),if_pos hj,List.getElem?_set_ne (by omega)]
    ·subst hj
     rw[List.getElem?_append_right (by simp;omega),List.getElem?_take,if_pos (by omega),List.getElem?_set_self (by simp;omega)]
     simp[Nat.min_eq_left (by omega:off+k<=cs.size)]
    ·rw[List.getElem?_append_right (by simp;omega),List.getElem?_take,if_neg (by omega),List.getElem?_eq_none (by simp;omega)]
   have e2:(cs.toList.set (off+k) u).drop (off+(k+1)+us.length)=cs.toList.drop (off+k+(us.length+1)):=by
    rw[List.drop_set_of_lt (by omega)]
    congr 1;omega
   rw[e1,e2]
   simp
theorem Vk {R:Env} {L:Loc} (place:Nat->Option (Nat×Nat)):∀ (parts:List (Nat×C)) (pv:List (Nat×Value)) (cs:List C) (vs:Array Value) (out:List C),
  zm R L cs vs.toList->pv.map (·.1)=parts.map (·.1)->zm R L (parts.map (·.2)) (pv.map (·.2))->(∀ p∈parts,p.2.partB=true)->Yb place cs parts=some out ->
  ∃ us:Array Value,Instr.fill place vs pv=some us/\zm R L out us.toList
 | [],pv,cs,vs,out,h,h1,h2,h3,h4=>by
  cases pv with
  | nil=>simp only[Yb]at h4;cases h4;exact ⟨vs,rfl,h⟩
  | cons p q=>simp at h1
 | (i,c) :: rest,pv,cs,vs,out,h,h1,h2,h3,h4=>by
  cases pv with
  | nil=>simp at h1
  | cons p q =>
   obtain ⟨i',v⟩:=p
   simp only[List.map_cons,List.cons.injEq]at h1
   obtain ⟨rfl,h1⟩:=h1
   simp only[List.map_cons]at h2
   obtain ⟨v',us,e,hv,h2⟩:=zd.1 h2
   cases e
   simp only[Yb]at h4
   cases hp:place i' with
   | none=>simp[hp]at h4
   | some x =>
    obtain ⟨off,size⟩:=x
    simp only[hp]at h4
    split at h4
    ·rename_i hc
     have hcells:=Y1 hv (h3 (i',c) List.mem_cons_self)
     have hl1:=zl hcells
     have hl2:=zl h
     simp only[Array.length_toList]at hl1 hl2
     have hfold:=Vl v.cells.toList 0 off vs (by simp;omega)
     obtain ⟨out',g1,g2⟩:=Vk place rest q (cs.take off++c.cells++cs.drop (off+size)) (v.cells.zipIdx.foldl (fun cs (p:Value×Nat)=>cs.setIfInBounds (off+p.2) p.1) vs) out (by
      have:(v.cells.zipIdx.foldl (fun (cs:Array Value) (p:Value×Nat)=>cs.setIfInBounds (off+p.2) p.1) vs).toList=vs.toList.take off++v.cells.toList++vs.toList.drop (off+size):=by
       rw[←Array.foldl_toList,Array.toList_zipIdx]
       rw[hfold]
       simp only[Nat.add_zero,Array.length_toList]
       rw[hl1,hc.1]
      rw[this]
      exact zi (zi (qd off h) hcells) (qp (off+size) h)) h1 h2 (fun p hp=>h3 p (List.mem_cons_of_mem _ hp)) h4
     refine ⟨out',?_,g2⟩
     simp only[Instr.fill,hp]
     rw[if_neg (by simp;omega)]
     exact g1
    ·cases h4
end
end
section
open Go.RowKit
section
variable {P:Program} {G:zk} {bx:List (List C)} {ev:Operand->C} {nx:Nat} {o:Oper}
theorem JR {R:Env} {T:Loc}:∀ vs:List Value,zm R T (vs.map zt) vs
 | []=>zg.2 rfl
 | v :: r=>zd.2 ⟨v,_,rfl,qT R T v,JR r⟩
def vh (P:Program) (t:TypeId) (parts:List (Nat×C)) (K:C->Prop):Prop:=
 match lay P t with
 | some ⟨.struct fs,_,_,some z⟩=>(parts.all fun p=>p.2.partB)=true/\match Yb (fun i=>(fs[i]?).map fun f=>(f.1,f.2.1)) (z.map zt) parts with
  | some cs=>K (.agg cs)
  | none=>False
 | _=>False
theorem Qq {t:TypeId} (h:(P.underlying t).isSome=true):∃ i,P.info? t=some i:=by
 cases hq:P.info? t with
 | none=>unfold Program.underlying at h;simp[hq]at h
 | some i=>exact ⟨i,rfl⟩
theorem Vv:∀ (fields:List Field),(∀ f∈fields,(P.underlying f.type).isSome=true) ->
  fields.mapM (fun f=>(P.info? f.type).map fun i=>(f.offset,i.size))=some (fields.map fun f=>(f.offset,((P.info? f.type).map (·.size)).getD 0))
 | [],_=>rfl
 | f :: r,h=>by
  obtain ⟨i,hi⟩:=Qq (h f List.mem_cons_self)
  simp[List.mapM_cons,hi,Vv r fun g hg=>h g (List.mem_cons_of_mem _ hg)]
theorem Xu {R:Env} {L:Loc} {ρ:Operand->Value} (hr:∀ x,Rep R L (ev x) (ρ x)):∀ l:List (Nat×Operand),zm R L ((l.map fun p=>(p.1,ev p.2)).map (·.2)) ((l.map fun p=>(p.1,ρ p.2)).map (·.2))
 | []=>zg.2 rfl
 | x :: r=>zd.2 ⟨_,_,rfl,hr x.2,Xu hr r⟩
theorem za1 {t:TypeId} {parts:Array (Nat×Operand)} (ho:o.op = .build t parts) (K:C->Prop) (h:vh P t (parts.toList.map fun p=>(p.1,ev p.2)) K):∃ c,zo P G bx ev nx o c nx/\K c:=by
 unfold vh at h
 split at h
 ·rename_i fs s b z hl
  obtain ⟨hall,h⟩:=h
  obtain ⟨fields,hfu,hfk,hfs⟩:=Q7 hl rfl
  obtain ⟨i,d,hi,hd,_,_,_,hz⟩:=zL hl
  split at h
  ·rename_i cs hfill
   refine ⟨_,.of_same fun B R L ρ hf hr=>?_,h⟩
   cases hiz:i.zero with
   | none=>simp[hiz]at hz
   | some zv =>
    simp only[hiz,Option.map_some,Option.some.injEq]at hz
    subst hz
    obtain ⟨us,g1,g2⟩:=Vk (R:=R) (L:=L) (fun i=>(fs[i]?).map fun f=>(f.1,f.2.1)) (parts.toList.map fun p=>(p.1,ev p.2)) (parts.toList.map fun p=>(p.1,ρ p.2)) (zv.cells.toList.map zt) zv.cells cs
     (JR _) (by simp) (Xu hr _) (fun p hp=>List.all_eq_true.1 hall p hp) hfill
    have hb:P.built t (parts.map fun p=>(p.1,ρ p.2)).toList=some us:=by
     unfold Program.built
     rw[hi,hfu]
     simp only[hiz]
     rw[Vv _ hfk]
     simp only
     have hpl:(fun x:Nat=>(fields.toList.map fun f=>(f.offset,((P.info? f.type).map (·.size)).getD 0)).toArray[x]?)=fun i:Nat=>(fs[i]?).map fun f:Nat×Nat×Bool=>(f.1,f.2.1):=by
      funext x
      rw[hfs]
      simp only[List.getElem?_toArray,List.getElem?_map,Option.map_map]
      rfl
     rw[hpl,Array.toList_map]
     exact g1
    have hrun:=run_build (P:=P) R.w t (parts.map fun p=>(p.1,ρ p.2)) us hb
    refine ⟨.agg us,?_,jd.2 ⟨us,rfl,g2⟩⟩
    unfold execOp
    simp only[ho]
    rw[Sem.run_bind,hrun];rfl
  ·exact h.elim
 ·exact h.elim
def XJ (k:Nat):Nat->List C->List (List C)
 | 0,_=>[]
 | n+1,cs=>cs.take k :: XJ k n (cs.drop k)
theorem ZD (k:Nat):∀ (n:Nat) (cs:List C),(XJ k n cs).length=n
 | 0,_=>rfl
 | n+1,cs=>by simp[XJ,ZD k n]
theorem Mo (k:Nat):∀ (n:Nat) (cs:List C),n*k<=cs.length->∀ r∈XJ k n cs,r.length=k
 | 0,_,_,r,h=>by cases h
 | n+1,cs,hl,r,h=>by
  rw[Nat.add_mul]at hl
  rcases List.mem_cons.1 h with rfl | h
  ·simp;omega
  ·exact Mo k n _ (by simp;omega) r h
theorem QH (k:Nat):∀ (n:Nat) (cs:List C),cs.length=n*k->(XJ k n cs).flatten=cs
 | 0,cs,h=>by simp at h;simp[XJ,h]
 | n+1,cs,h=>by
  rw[Nat.add_mul]at h
  simp only[XJ,List.flatten_cons]
  rw[QH k n _ (by simp;omega),List.take_append_drop]
def Jt (P:Program) (t:TypeId) (n:Nat) (parts:List (Nat×C)) (nx:Nat) (K:C->Nat->Prop):Prop:=
 match lay P t with
 | some ⟨.slice e,_,_,_⟩=>match lay P e with
  | some ⟨_,k,_,some z⟩=>z.length=k/\0<k/\n*k<=16777216/\(parts.all fun p=>p.2.frz.partB)=true/\match Yb (fun i=>some (i*k,k)) (List.replicate n (z.map zt)).flatten (parts.map fun p=>(p.1,p.2.frz)) with
   | some cs=>(cs.all C.cellB)=true/\cs.length=n*k/\K (.own nx e k (XJ k n cs)) (nx+1)
   | none=>False
  | _=>False
 | _=>False
theorem j7 {α:Type} (z:List α) (k:Nat) (hz:z.length=k):∀ (n p:Nat),p<n*k->(List.replicate n z).flatten[p]?=z[p % k]?
 | 0,p,h=>by simp at h
 | n+1,p,h=>by
  rw[List.replicate_succ,List.flatten_cons]
  rcases Nat.lt_or_ge p k with hp | hp
  ·rw[List.getElem?_append_left (by omega),Nat.mod_eq_of_lt hp]
  ·rw[List.getElem?_append_right (by omega),j7 z k hz n (p-z.length) (by rw[Nat.add_mul]at h;omega),hz]
   rw[←Nat.mod_eq_sub_mod hp]
theorem Yj {α:Type} (z:List α) (n:Nat):(List.replicate n z).flatten.length=n*z.length:=by
 induction n with
 | zero=>simp
 | succ n ih=>rw[List.replicate_succ,List.flatten_cons,List.length_append,ih,Nat.add_mul];omega
theorem Xh {R:Env} {L:Loc} (z:Array Value) (k n:Nat) (hz:z.size=k) (hk:0<k):zm R L (List.replicate n (z.toList.map zt)).flatten ((Array.range (n*k)).map (z[· % z.size]!)).toList:=by
 refine Jq ?_ fun p c v hc hv=>?_
 ·rw[Yj];simp[hz]
 ·have hp:p<n*k:=by
   have:=(List.getElem?_eq_some_iff.1 hv).1
   simpa using this
  rw[j7 _ k (by simpa using hz) n p hp]at hc
  rw[List.getElem?_map]at hc
  have hm:p % k<z.size:=by rw[hz];exact Nat.mod_lt _ hk
  have hv':v=z[p % z.size]!:=by
   simp[List.getElem?_map,Array.getElem?_range,hp]at hv
   exact hv.symm
  rw[hz]at hv'
  rw[getElem!_pos z (p % k) hm]at hv'
  have:z.toList[p % k]?=some z[p % k]:=by simp[hm]
  rw[this]at hc
  simp at hc
  subst hc hv'
  exact qT R L _
theorem Us {R:Env} {L:Loc} (L':Loc):∀ (l:List (Nat×C)) (vs:List Value),zm R L (l.map (·.2)) vs->zm R L' ((l.map fun p=>(p.1,p.2.frz)).map (·.2)) vs
 | [],_,h=>by simpa using zg.2 (zg.1 h)
 | p :: r,_,h=>by
  obtain ⟨v,us,rfl,h1,h2⟩:=zd.1 h
  exact zd.2 ⟨v,us,rfl,h1.frz L',Us L' r us h2⟩
theorem YD {R:Env} {L:Loc}:∀ {cs:List C} {vs:List Value},zm R L cs vs->cs.all C.cellB=true->∀ v∈vs,v.oneCell'=true
 | [],_,h,_,v,hv=>by rw[zg.1 h]at hv;cases hv
 | c :: r,_,h,ha,v,hv=>by
  obtain ⟨v0,us,rfl,h1,h2⟩:=zd.1 h
  simp only[List.all_cons,Bool.and_eq_true]at ha
  rcases List.mem_cons.1 hv with rfl | hv
  ·exact h1.oneCell ha.1
  ·exact YD h2 ha.2 v hv
theorem Y3 {t:TypeId} {n:Nat} {parts:Array (Nat×Operand)} (ho:o.op = .buildSlice t n parts) (K:C->Nat->Prop) (h:Jt P t n (parts.toList.map fun p=>(p.1,ev p.2)) nx K):∃ c nx',zo P G bx ev nx o c nx'/\K c nx':=by
 unfold Jt at h
 split at h
 ·rename_i e s b zz hl
  have ht:=zG hl rfl
  split at h
  ·rename_i kd k by' z hle
   obtain ⟨hzk,hk0,hsz,hall,h⟩:=h
   split at h
   ·rename_i cs hfill
    obtain ⟨hcb,hlen,hK⟩:=h
    refine ⟨_,_,⟨by omega,fun B R L ρ hf hfree hr=>?_⟩,hK⟩
    obtain ⟨i,d,hi,hd,h1,h2,h3,h4⟩:=zL hle
    cases hiz:i.zero with
    | none=>simp[hiz]at h4
    | some zv =>
     simp only[hiz,Option.map_some,Option.some.injEq]at h4
     subst h4
     have hzs:zv.cells.size=k:=by simpa using hzk
     obtain ⟨us,g1,g2⟩:=Vk (R:=R) (L:=zu) (fun i=>some (i*k,k)) ((parts.toList.map fun p=>(p.1,ev p.2)).map fun p=>(p.1,p.2.frz)) (parts.toList.map fun p=>(p.1,ρ p.2)) _ ((Array.range (n*k)).map (zv.cells[· % zv.cells.size]!)) cs
      (Xh zv.cells k n hzs hk0) (by simp) (Us zu _ _ (Xu hr _)) (fun p hp=>by
       obtain ⟨q,hq,rfl⟩:=List.mem_map.1 hp
       exact List.all_eq_true.1 hall q hq) hfill
     have husz:us.size=n*k:=by have:=zl g2;simp at this;omega
     have hrun:(execOp ρ o).run P R.w = .ok (.value (.slice (some ⟨R.w.heap.size,0,none⟩) n n)) (R.w.alloc (.cells us e)):=by
      have hss:(sizeOf e).run P R.w = .ok k R.w:=by simp[sizeOf,typeInfo,hi,←h2]
      have hzz:(zeroValue e).run P R.w = .ok zv R.w:=by simp[zeroValue,typeInfo,hi,hiz]
      unfold execOp
      simp only[ho,Instr.buildSlice,Sem.run_bind,run_underlying ht,Result.andThen_ok,hss]
      rw[if_neg (show ¬n*k>2 ^ 24 by omega)]
      by_cases hn:n*k=0
      ·have hn0:n=0:=by
        rcases Nat.mul_eq_zero.1 hn with h | h
        ·exact h
        ·omega
       subst hn0
       have hz0:(Array.map (fun x=>(#[]:Array Value)[x % (#[]:Array Value).size]!) (Array.range (0*k)))=(Array.range (0*k)).map (zv.cells[· % zv.cells.size]!):=by simp[Array.range_zero']
       simp only[if_pos hn,Sem.run_pure,Sem.run_bind,Result.andThen_ok,hz0,Array.toList_map,g1]
       simp[newRow]
      ·simp only[if_neg hn,Sem.run_pure,Sem.run_bind,Result.andThen_ok,hzz,Array.toList_map,g1]
       simp[newRow]
     have hrl:=ZD k n cs
     obtain ⟨R',L',w1,w2,w3⟩:=own_new (R:=R) (L:=L) (w':=R.w.alloc (.cells us e)) (g:=R.w.heap.size) (cap:=n) (e:=e) (k:=k) (nx:=nx) (cur:=us) (rows:=XJ k n cs) (vs:=us.toList) hf.β_lt
      ((Below.refl _ _).alloc (Nat.le_refl _) _) (Nat.le_refl _) (heap_alloc_new _ _) husz (Mo k n cs (by omega)) (by rw[QH k n cs hlen];exact g2) (YD g2 hcb)
      (by rw[hrl,List.take_of_length_le (by simp[husz])]) (by omega) (by
       have:n<=n*k:=Nat.le_mul_of_pos_right n hk0
       unfold maxLen;omega)
     rw[hrl]at w3
     exact qA.value hrun ⟨R',L',w1,w2,w3⟩
   ·exact h.elim
  ·exact h.elim
 ·exact h.elim
def xS (P:Program) (t:TypeId) (nx:Nat) (K:C->Nat->Prop):Prop:=
 match lay P t with
 | some ⟨.slice e,_,_,_⟩=>match lay P e with
  | some ⟨_,k,_,some z⟩=>z.length=k/\0<k/\K (.tight k []) nx
  | _=>False
 | _=>False
def kQ (P:Program) (t:TypeId) (n:Nat) (parts:List (Nat×C)) (nx:Nat) (K:C->Nat->Prop):Prop:=
 match n,parts with
 | 0,[]=>xS P t nx K
 | n,ps=>Jt P t n ps nx K
theorem yh {t:TypeId} (ho:o.op = .buildSlice t 0 #[]) (K:C->Nat->Prop) (h:xS P t nx K):∃ c nx',zo P G bx ev nx o c nx'/\K c nx':=by
 unfold xS at h
 split at h
 ·rename_i e s b zz hl
  have ht:=zG hl rfl
  split at h
  ·rename_i kd k by' z hle
   obtain ⟨hzk,hk0,hK⟩:=h
   refine ⟨_,_,⟨Nat.le_refl _,fun B R L ρ hf hfree hr=>?_⟩,hK⟩
   obtain ⟨i,d,hi,hd,h1,h2,h3,h4⟩:=zL hle
   have hrun:(execOp ρ o).run P R.w = .ok (.value (.slice (some ⟨R.w.heap.size,0,none⟩) 0 0)) (R.w.alloc (.cells #[] e)):=by
    have hss:(sizeOf e).run P R.w = .ok k R.w:=by simp[sizeOf,typeInfo,hi,←h2]
    unfold execOp
    simp only[ho,Instr.buildSlice,Sem.run_bind,run_underlying ht,Result.andThen_ok,hss]
    simp[newRow,Instr.fill,Array.range_zero']
   have hb:Below R.w.heap.size R.w (R.w.alloc (.cells #[] e)):=(Below.refl _ _).alloc (Nat.le_refl _) _
   exact qA.value hrun ⟨_,L,rfl,zW.mem hb,jK.2 ⟨_,rfl,Nat.zero_le _,.inl rfl⟩⟩
  ·exact h.elim
 ·exact h.elim
theorem xp {t:TypeId} {n:Nat} {parts:Array (Nat×Operand)} (ho:o.op = .buildSlice t n parts) (K:C->Nat->Prop) (h:kQ P t n (parts.toList.map fun p=>(p.1,ev p.2)) nx K):∃ c nx',zo P G bx ev nx o c nx'/\K c nx':=by
 unfold kQ at h
 split at h
 ·rename_i hp
  have e:parts = #[]:=by
   have:=List.map_eq_nil_iff.1 hp
   cases parts;simp at this;subst this;rfl
  subst e
  exact yh ho K h
 ·exact Y3 ho K h
def zhm (P:Program) (t:TypeId) (l c:C) (nx:Nat) (K:C->Nat->Prop):Prop:=
 match lay P t,l,c with
 | some ⟨.slice e,_,_,_⟩,.sc (.int _ l),.sc (.int _ c)=>match lay P e with
  | some ⟨_,k,by',some z⟩=>z.length=k/\0<k/\(z.all Value.oneCell')=true/\0<=l/\l<=c/\(by':Int)*c<=281474976710656/\c<=9223372036854775807/\K (.own nx e k (List.replicate l.toNat (z.map zt))) (nx+1)
  | _=>False
 | _,_,_=>False
theorem zdh {t:TypeId} {l c:Operand} (ho:o.op = .makeSlice t l c) (K:C->Nat->Prop) (h:zhm P t (ev l) (ev c) nx K):∃ c nx',zo P G bx ev nx o c nx'/\K c nx':=by
 unfold zhm at h
 split at h
 ·rename_i e s b zz k1 l' k2 c' hl hev1 hev2
  have ht:=zG hl rfl
  split at h
  ·rename_i kd k by' z hle
   obtain ⟨hzk,hk0,hone,h0,hlc,hby,h63,hK⟩:=h
   refine ⟨_,_,⟨by omega,fun B R L ρ hf hfree hr=>?_⟩,hK⟩
   obtain ⟨i,d,hi,hd,h1,h2,h3,h4⟩:=zL hle
   cases hiz:i.zero with
   | none=>simp[hiz]at h4
   | some zv =>
    simp only[hiz,Option.map_some,Option.some.injEq]at h4
    subst h4
    have hzs:zv.cells.size=k:=by simpa using hzk
    have hx:=hr l;rw[hev1,zj]at hx
    have hy:=hr c;rw[hev2,zj]at hy
    have hrun:=run_make (P:=P) R.w t e i zv ht hi hiz k1 k2 l' c' h0 hlc (by rw[←h3];exact hby) h63
    have hrep:=Xh (R:=R) (L:=zu) zv.cells k l'.toNat hzs hk0
    have hle2:l'.toNat<=c'.toNat:=by omega
    have hlk:l'.toNat*k<=c'.toNat*k:=Nat.mul_le_mul_right _ hle2
    have hks:i.size=k:=h2.symm
    obtain ⟨R',L',w1,w2,w3⟩:=own_new (R:=R) (L:=L) (w':=R.w.alloc (.cells (madeCells zv.cells (c'.toNat*k)) e)) (g:=R.w.heap.size) (cap:=c'.toNat) (e:=e) (k:=k) (nx:=nx) (cur:=madeCells zv.cells (c'.toNat*k)) (rows:=List.replicate l'.toNat (zv.cells.toList.map zt))
     (vs:=((Array.range (l'.toNat*k)).map (zv.cells[· % zv.cells.size]!)).toList) hf.β_lt
     ((Below.refl _ _).alloc (Nat.le_refl _) _) (Nat.le_refl _) (heap_alloc_new _ _) (size_madeCells _ _) (fun r hr=>by rw[List.eq_of_mem_replicate hr];simpa using hzs) hrep
     (fun v hv=>by
      simp only[Array.toList_map,List.mem_map]at hv
      obtain ⟨p,hp,rfl⟩:=hv
      have hm:p % zv.cells.size<zv.cells.size:=Nat.mod_lt _ (by omega)
      rw[getElem!_pos zv.cells _ hm]
      exact List.all_eq_true.1 hone _ (by simp))
     (by
      simp only[madeCells,List.length_replicate]
      apply List.ext_getElem?
      intro p
      rw[List.getElem?_take]
      simp only[Array.toList_map,List.getElem?_map,Array.toList_range,List.getElem?_range]
      by_cases hp:p<l'.toNat*k
      ·rw[if_pos hp,List.getElem?_range (by omega),List.getElem?_range hp]
      ·rw[if_neg hp,List.getElem?_eq_none (by simp;omega)];rfl)
     (by simp;omega) (by unfold maxLen;omega)
    rw[List.length_replicate]at w3
    refine qA.value ?_ ⟨R',L',w1,w2,w3⟩
    unfold execOp
    simp only[ho,hx,hy]
    rw[Sem.run_bind,hrun,hks];rfl
  ·exact h.elim
 ·exact h.elim
end
end
section
open Go.RowKit Go.MapKept
inductive MKd where
 | int (k:IntKind)
 | str
def MKd.nil:MKd->MK
 | .int k=>.int k []
 | .str=>.str []
def zaa:Value->C
 | .agg vs=>.agg (vs.toList.map zt)
 | v=>zt v
def zfF (P:Program) (t:TypeId):Option (MKd×C):=
 match P.underlying t with
 | some (.map kt et)=>match P.underlying kt,(P.info? et).bind (·.zero) with
  | some (.int k),some z=>some (.int k,zaa z)
  | some .string,some z=>some (.str,zaa z)
  | _,_=>none
 | _=>none
theorem Na (R:Env) (L:Loc) (v:Value):Rep R L (zaa v) v:=by
 unfold zaa
 split
 ·exact jd.2 ⟨_,rfl,JR _⟩
 ·exact qT R L _
theorem J6 {P:Program} {t:TypeId} {kd:MKd} {z:C} (h:zfF P t=some (kd,z)):∃ kt et i zv,P.underlying t=some (.map kt et)/\P.info? et=some i/\i.zero=some zv/\z=zaa zv /\
  ((∃ k,kd = .int k/\P.underlying kt=some (.int k))∨(kd = .str/\P.underlying kt=some .string)):=by
 unfold zfF at h
 split at h
 ·rename_i kt et ht
  split at h
  ·rename_i k zv hk hz
   cases h
   cases hi:P.info? et with
   | none=>rw[hi]at hz;cases hz
   | some i=>rw[hi]at hz;exact ⟨kt,et,i,zv,ht,hi,hz,rfl,.inl ⟨k,rfl,hk⟩⟩
  ·rename_i zv hk hz
   cases h
   cases hi:P.info? et with
   | none=>rw[hi]at hz;cases hz
   | some i=>rw[hi]at hz;exact ⟨kt,et,i,zv,ht,hi,hz,rfl,.inr ⟨rfl,hk⟩⟩
  ·cases h
 ·cases h
def Uw {α:Type} [DecidableEq α] (a:α):List α->Option Nat
 | []=>none
 | k :: ks=>if k=a then some 0 else (Uw a ks).map (·+1)
def ziZ {α:Type} [DecidableEq α] (a:α) (l:List α) (vs:List C):Option C:=match Uw a l with
 | some j=>vs[j]?
 | none=>none
def UG {α:Type} [DecidableEq α] (a:α) (c:C) (l:List α) (vs:List C):List α×List C:=match Uw a l with
 | some j=>(l,vs.set j c)
 | none=>(l++[a],vs++[c])
theorem HU {α:Type} [DecidableEq α] {a:α}:∀ {l:List α} {j:Nat},Uw a l=some j->l[j]?=some a
 | [],j,h=>by cases h
 | k :: ks,j,h=>by
  unfold Uw at h
  split at h
  ·cases h;subst_vars;rfl
  ·cases hq:Uw a ks with
   | none=>rw[hq]at h;cases h
   | some i =>
    rw[hq]at h
    cases h
    simpa using HU hq
theorem Y5 {α:Type} [DecidableEq α] {kd:TypeDesc} {kv:α->Value} (hk:∀ a b,Instr.sameNow kd (kv a) (kv b)=some (decide (a=b))) (a:α):∀ (es:List MapEntry) (l:List α) (i:Nat),es.map (·.key)=l.map kv ->
  Instr.findNow kd (kv a) es i=some ((Uw a l).bind fun j=>(es[j]?).map fun e=>(i+j,e.val))
 | [],[],i,_=>rfl
 | [],_ :: _,i,h=>by cases h
 | _ :: _,[],i,h=>by cases h
 | e :: es,k :: ks,i,h=>by
  simp only[List.map_cons,List.cons.injEq]at h
  unfold Instr.findNow Uw
  rw[h.1,hk]
  by_cases hak:a=k
  ·subst hak
   simp
  ·have hka:¬k=a:=fun e=>hak e.symm
   simp only[hak,decide_false,hka,if_false]
   rw[Y5 hk a es ks (i+1) h.2]
   cases Uw a ks with
   | none=>rfl
   | some j=>simp[Nat.add_assoc,Nat.add_comm 1 j]
theorem yR {r:Bool} {p:Prop} [Decidable p] (h:r=true↔p):r=decide p:=by
 cases r with
 | true=>exact (decide_eq_true (h.1 rfl)).symm
 | false=>exact (decide_eq_false fun hp=>Bool.noConfusion (h.2 hp)).symm
theorem yB (k:IntKind) (a b:Int):Instr.sameNow (.int k) (.int k a) (.int k b)=some (decide (a=b)):=by
 obtain ⟨r,h1,h2⟩:=sameNow_of_keys (d:=.int k) (a:=.int k a) (b:=.int k b) (by simp[IsKey]) (by simp[IsKey])
 rw[h1,yR (h2.trans ⟨fun h=>(Value.int.inj h).2,fun h=>by rw[h]⟩)]
theorem Ha (a b:List UInt8):Instr.sameNow .string (.string ⟨a.toArray⟩) (.string ⟨b.toArray⟩)=some (decide (a=b)):=by
 obtain ⟨r,h1,h2⟩:=sameNow_of_keys (d:=.string) (a:=.string ⟨a.toArray⟩) (b:=.string ⟨b.toArray⟩) (by simp[IsKey]) (by simp[IsKey])
 rw[h1,yR (h2.trans ⟨fun h=>by simpa using ByteArray.mk.inj (Value.string.inj h),fun h=>by rw[h]⟩)]
theorem ky (P:Program) (o:Obj) (w:World):(newObj o).run P w = .ok w.heap.size (w.alloc o):=rfl
theorem QZ {P:Program} {w:World} {r:Nat} {es:Array MapEntry} {cl:Nat} (hb:w.heap[r]?=some (.map es cl)):(getObj r).run P w = .ok (.map es cl) w:=by simp[getObj,Sem.run,hb]
theorem ko {P:Program} {w:World} {r:Nat} {es:Array MapEntry} {cl:Nat} (o:Obj) (hb:w.heap[r]?=some (.map es cl)):(setObj r o).run P w = .ok () (w.putObj r o):=by simp[setObj,Sem.run,hb,World.putObj]
section
variable {P:Program} {G:zk} {bx:List (List C)} {ev:Operand->C} {nx:Nat} {o:Oper}
def H7 (P:Program) (t:TypeId) (r:Option C) (nx:Nat) (K:C->Nat->Prop):Prop:=
 match zfF P t with
 | some (kd,_)=>match r with
  | none=>K (.mo nx t kd.nil []) (nx+1)
  | some (.sc (.int _ _))=>K (.mo nx t kd.nil []) (nx+1)
  | _=>False
 | none=>False
theorem zgB (kd:MKd):kd.nil.vals = []:=by cases kd<;>rfl
theorem zlp {R:Env} {L:Loc} (hβ:∀ b∈L.β,b<R.w.heap.size) (t:TypeId) (kd:MKd) :
  ∃ R' L',R'.w=R.w.alloc (.map #[] 0)/\zW nx (nx+1) R L R' L'/\Rep R' L' (.mo nx t kd.nil []) (.map (some R.w.heap.size)):=by
 have hb:Below R.w.heap.size R.w (R.w.alloc (.map #[] 0)):=(Below.refl _ _).alloc (Nat.le_refl _) _
 refine ⟨⟨R.w.alloc (.map #[] 0),R.M,R.F⟩,⟨L.β,fun id=>if id=nx then some (t,0,Um R.w.heap.size [] []) else L.T id⟩,rfl,⟨hb,rfl,rfl,fun b o h=>Iff.rfl,fun id hi=>if_neg (by omega),fun id e' k' v' hi hi2 h=>?_,fun id id' e1 k1 v1 e2 k2 v2 b h1 h2 h3 h4 _ _ _ _=>by omega⟩,?_⟩
 ·simp only at h
  rw[if_pos (by omega)]at h
  cases h
  exact .inr (.inr ⟨R.w.heap.size,#[],[],[],rfl,Nat.le_refl _,heap_alloc_new _ _,fun hx=>by have:=hβ _ hx;omega,rfl,rfl,fun i e hi=>by simp at hi⟩)
 ·unfold Rep
  exact ⟨_,[],rfl,by rw[zgB];exact if_pos rfl,zg.2 rfl⟩
theorem NV {t:TypeId} {r:Option Operand} (ho:o.op = .makeMap t r) (K:C->Nat->Prop) (h:H7 P t (r.map ev) nx K):∃ c nx',zo P G bx ev nx o c nx'/\K c nx':=by
 unfold H7 at h
 split at h<;>try exact h.elim
 rename_i kd z hm
 obtain ⟨kt,et,i,zv,ht,_⟩:=J6 hm
 have key:(∀ (R:Env) (L:Loc) (ρ:Operand->Value),(∀ x,Rep R L (ev x) (ρ x))->(execOp ρ o).run P R.w = .ok (.value (.map (some R.w.heap.size))) (R.w.alloc (.map #[] 0)))->K (.mo nx t kd.nil []) (nx+1)->∃ c nx',zo P G bx ev nx o c nx'/\K c nx':=fun hrun hK =>
  ⟨_,_,⟨by omega,fun B R L ρ hf _ hr=>by
   obtain ⟨R',L',e1,e2,e3⟩:=zlp (nx:=nx) hf.β_lt t kd
   exact qA.value (hrun R L ρ hr) ⟨R',L',e1,e2,e3⟩⟩,hK⟩
 cases r with
 | none=>exact key (fun R L ρ hr=>by unfold execOp;simp[ho,Instr.makeMap,ky]) h
 | some x =>
  simp only[Option.map_some]at h
  split at h<;>try exact h.elim
  ·rename_i h0;cases h0
  ·rename_i q n h0
   have h0:ev x = .sc (.int q n):=by simpa using h0
   exact key (fun R L ρ hr=>by
    have hx:=hr x;rw[h0,zj]at hx
    unfold execOp
    simp[ho,Instr.makeMap,ky,run_underlying ht,hx,asInt,asIntOf]) h
def UX (r:Option C) (z:C) (ok:Bool) (K:C->Prop):Prop:=match r,ok with
 | some c,true=>K (.tup [c,.sc (.bool true)])
 | some c,false=>K c
 | none,true=>K (.tup [z,.sc (.bool false)])
 | none,false=>K z
def zlm (P:Program) (t:TypeId) (m key:C) (ok:Bool) (K:C->Prop):Prop:=
 match zfF P t with
 | some (.int k,z)=>match m,key with
  | .mo _ t' (.int k' l) vs,.sc (.int q n)=>t'=t/\k'=k/\q=k/\UX (ziZ n l vs) z ok K
  | _,_=>False
 | some (.str,z)=>match m,key with
  | .mo _ t' (.str l) vs,.str s=>t'=t/\UX (ziZ s l vs) z ok K
  | _,_=>False
 | none=>False
theorem Fit.map {B:Nat->Prop} {R:Env} {L:Loc} (hf:Fit G B bx R L) {id:Nat} {t:TypeId} {ks:MK} {vs:List C} {v:Value} (h:Rep R L (.mo id t ks vs) v) :
  ∃ b es,v = .map (some b)/\R.w.heap[b]?=some (.map es es.size)/\es.toList.map (·.key)=ks.vals/\zm R zu vs (es.toList.map (·.val)):=by
 unfold Rep at h
 obtain ⟨b,vvs,e,ht,hl⟩:=h
 rcases hf.owns.own id _ _ _ ht with g | ⟨g,n,cap,cur,ty,q1,_⟩ | ⟨g,es,kvs,vvs',q1,q2,q3,q4,q5,q6,q7⟩
 ·unfold Um at g;cases g
 ·unfold Um at q1;cases q1
 ·obtain ⟨rfl,rfl,rfl⟩:=Ge q1
  exact ⟨b,es,e,q3,q5,by rw[q6];exact hl⟩
theorem Qx {t:TypeId} {i:TypeInfo} {zv:Value} (hi:P.info? t=some i) (hz:i.zero=some zv) (w:World):(zeroValue t).run P w = .ok zv w:=by simp[zeroValue,typeInfo,hi,hz]
theorem yy {α:Type} [DecidableEq α] {kd:TypeDesc} {kv:α->Value} (hk:∀ a b,Instr.sameNow kd (kv a) (kv b)=some (decide (a=b))) (hchk:∀ (e:Bool) (kt:TypeId) (a:α) (w:World),P.underlying kt=some kd->(Instr.checkKey e 10000 kt (kv a)).run P w = .ok () w)
  {t kt et:TypeId} {i:TypeInfo} {zv:Value} (ht:P.underlying t=some (.map kt et)) (hkt:P.underlying kt=some kd) (hi:P.info? et=some i) (hz:i.zero=some zv) {w:World} {b:Nat} {es:Array MapEntry} {cl:Nat} (hb:w.heap[b]?=some (.map es cl)) (a:α) (l:List α) (hl:es.toList.map (·.key)=l.map kv) (ok:Bool) :
  (Instr.lookup t (.map (some b)) (kv a) ok).run P w = .ok (match (Uw a l).bind fun j=>es.toList[j]? with | some e=>if ok then .tuple #[e.val,.bool true] else e.val | none=>if ok then .tuple #[zv,.bool false] else zv) w:=by
 have hf:=Y5 hk a es.toList l 0 hl
 unfold Instr.lookup
 simp only[Sem.run_bind,run_underlying ht,Result.andThen_ok,QZ hb,Sem.run_pure,hchk _ kt a w hkt,Instr.findKey,run_underlying hkt,hf]
 cases hm:Uw a l with
 | none =>
  simp only[Option.bind_none,Sem.run_pure,Result.andThen_ok,Sem.run_bind,Qx hi hz]
  first | done | (cases ok<;>rfl)
 | some j =>
  simp only[Option.bind_some]
  cases he:es.toList[j]? with
  | none =>
   simp only[Option.map_none,Sem.run_pure,Result.andThen_ok,Sem.run_bind,Qx hi hz]
   first | done | (cases ok<;>rfl)
  | some e =>
   simp only[Option.map_some,Sem.run_pure,Result.andThen_ok,Sem.run_bind]
   first | done | (cases ok<;>rfl)
theorem Nw {k:IntKind} (e:Bool) (kt:TypeId) (a:Int) (w:World) (h:P.underlying kt=some (.int k)):(Instr.checkKey e 10000 kt (.int k a)).run P w = .ok () w:=by
 unfold Instr.checkKey
 simp only[Sem.run_bind,run_underlying h,Result.andThen_ok,Sem.run_pure]
theorem NU (e:Bool) (kt:TypeId) (a:List UInt8) (w:World) (h:P.underlying kt=some .string):(Instr.checkKey e 10000 kt (.string ⟨a.toArray⟩)).run P w = .ok () w:=by
 unfold Instr.checkKey
 simp only[Sem.run_bind,run_underlying h,Result.andThen_ok,Sem.run_pure]
theorem vO {α:Type} [DecidableEq α] {a:α} {l:List α} {vs:List C} {zv:Value} {ok:Bool} {K:C->Prop} (h:UX (ziZ a l vs) (zaa zv) ok K) :
  ∃ c,K c/\∀ (R:Env) (L:Loc) (es:List MapEntry),l.length=es.length->zm R zu vs (es.map (·.val))->Rep R L c (match (Uw a l).bind fun j=>es[j]? with | some e=>if ok then .tuple #[e.val,.bool true] else e.val | none=>if ok then .tuple #[zv,.bool false] else zv):=by
 have tup:∀ (R:Env) (L:Loc) (c:C) (v:Value) (q:Bool),Rep R L c v->Rep R L (.tup [c,.sc (.bool q)]) (.tuple #[v,.bool q]):=fun R L c v q hc=>Zr.2 ⟨#[v,.bool q],rfl,zd.2 ⟨v,_,rfl,hc,zd.2 ⟨.bool q,[],rfl,zj.2 rfl,zg.2 rfl⟩⟩⟩
 unfold ziZ at h
 cases hm:Uw a l with
 | none =>
  rw[hm]at h
  cases ok with
  | true=>exact ⟨_,h,fun R L es _ _=>tup _ _ _ _ _ (Na R L zv)⟩
  | false=>exact ⟨_,h,fun R L es _ _=>Na R L zv⟩
 | some j =>
  rw[hm]at h
  simp only at h
  have hj:j<l.length:=(List.getElem?_eq_some_iff.1 (HU hm)).1
  cases hv:vs[j]? with
  | none =>
   rw[hv]at h
   have hno:∀ (R:Env) (es:List MapEntry),l.length=es.length->zm R zu vs (es.map (·.val))->False:=fun R es he hr=>by
    have hvl:=zl hr
    rw[List.length_map]at hvl
    rw[List.getElem?_eq_none_iff]at hv
    omega
   cases ok with
   | true=>exact ⟨_,h,fun R L es he hr=>(hno R es he hr).elim⟩
   | false=>exact ⟨_,h,fun R L es he hr=>(hno R es he hr).elim⟩
  | some c =>
   rw[hv]at h
   have hc:∀ (R:Env) (L:Loc) (es:List MapEntry),l.length=es.length->zm R zu vs (es.map (·.val))->∃ e,es[j]?=some e/\Rep R L c e.val:=fun R L es he hr=>by
    obtain ⟨v,e1,e2⟩:=jA hr j c hv
    rw[List.getElem?_map]at e1
    cases hq:es[j]? with
    | none=>rw[hq]at e1;cases e1
    | some e=>rw[hq]at e1;cases e1;exact ⟨e,rfl,Rep.ext (Ext.refl _) (zx.none _) _ _ e2⟩
   cases ok with
   | true=>exact ⟨_,h,fun R L es he hr=>by
     obtain ⟨e,e1,e2⟩:=hc R L es he hr
     simp only[Option.bind_some,e1]
     exact tup _ _ _ _ _ e2⟩
   | false=>exact ⟨_,h,fun R L es he hr=>by
     obtain ⟨e,e1,e2⟩:=hc R L es he hr
     simp only[Option.bind_some,e1]
     exact e2⟩
theorem zcL {t:TypeId} {m k:Operand} {ok:Bool} (ho:o.op = .lookup t m k ok) (K:C->Prop) (h:zlm P t (ev m) (ev k) ok K):∃ c,zo P G bx ev nx o c nx/\K c:=by
 unfold zlm at h
 split at h
 ·rename_i q z hm
  obtain ⟨kt,et,i,zv,ht,hi,hz,rfl,hk⟩:=J6 hm
  rcases hk with ⟨k0,hk0,hkt⟩ | ⟨hk0,_⟩
  ·cases hk0
   split at h<;>try exact h.elim
   rename_i id t' k' l vs q' n hev hek
   obtain ⟨rfl,rfl,rfl,h⟩:=h
   obtain ⟨c,hK,hc⟩:=vO h
   refine ⟨c,.of_same fun B R L ρ hf hr=>?_,hK⟩
   have hx:=hr m;rw[hev]at hx
   have hy:=hr k;rw[hek,zj]at hy
   obtain ⟨b,es,e1,e2,e3,e4⟩:=hf.map hx
   refine ⟨_,?_,hc R L es.toList (by have:=congrArg List.length e3;simpa [MK.vals] using this.symm) e4⟩
   unfold execOp
   simp only[ho,e1,hy]
   rw[Sem.run_bind,yy (yB _) Nw ht hkt hi hz e2 n l e3 ok]
   rfl
  ·cases hk0
 ·rename_i z hm
  obtain ⟨kt,et,i,zv,ht,hi,hz,rfl,hk⟩:=J6 hm
  rcases hk with ⟨k0,hk0,_⟩ | ⟨_,hkt⟩
  ·cases hk0
  ·split at h<;>try exact h.elim
   rename_i id t' l vs s hev hek
   obtain ⟨rfl,h⟩:=h
   obtain ⟨c,hK,hc⟩:=vO h
   refine ⟨c,.of_same fun B R L ρ hf hr=>?_,hK⟩
   have hx:=hr m;rw[hev]at hx
   have hy:=hr k;rw[hek,zC]at hy
   obtain ⟨b,es,e1,e2,e3,e4⟩:=hf.map hx
   refine ⟨_,?_,hc R L es.toList (by have:=congrArg List.length e3;simpa [MK.vals] using this.symm) e4⟩
   unfold execOp
   simp only[ho,e1,hy]
   rw[Sem.run_bind,yy Ha NU ht hkt hi hz e2 s l e3 ok]
   rfl
 ·exact h.elim
def zjV (P:Program) (t t':TypeId) (vs:List C) (K:C->Prop):Prop:=
 match zfF P t with
 | some _=>K (.sc (.int .i64 (vs.length:Int)))
 | none=>False
theorem zdk {t t':TypeId} {x:Operand} {id:Nat} {ks:MK} {vs:List C} (ho:o.op = .call { callee:=.builtin .len,args:=#[x],argTypes:=#[t] }) (hev:ev x = .mo id t' ks vs) (K:C->Prop) (h:zjV P t t' vs K):∃ c,zo P G bx ev nx o c nx/\K c:=by
 unfold zjV at h
 split at h<;>try exact h.elim
 rename_i q hm
 obtain ⟨kt,et,i,zv,ht,_⟩:=J6 (kd:=q.1) (z:=q.2) hm
 refine ⟨_,.of_same fun B R L ρ hf hr=>?_,h⟩
 have hx:=hr x;rw[hev]at hx
 obtain ⟨b,es,e1,e2,e3,e4⟩:=hf.map hx
 have hl:=zl e4
 rw[List.length_map,Array.length_toList]at hl
 refine ⟨.int .i64 (vs.length:Int),?_,zj.2 rfl⟩
 have hrun:(Builtin.len_ #[t] o.type #[.map (some b)]).run P R.w = .ok (goInt es.size) R.w:=by
  simp[Builtin.len_,run_underlying ht,QZ e2]
 unfold execOp
 simp only[ho,resolve,invoke,builtin,Sem.run_bind,Sem.run_pure,Result.andThen_ok,List.map_toArray,List.map_cons,List.map_nil,e1,hrun,hl]
 rfl
end
end
section
open Go.RowKit
section
variable {P:Program} {G:zk} {bx:List (List C)} {ev:Operand->C} {nx:Nat} {o:Oper}
def j5 (l:List UInt8):List (List C):=l.map fun b=>[.sc (.int .u8 (b.toNat:Int))]
def ziO (P:Program) (s d:TypeId) (c:C) (K:C->Prop):Prop:=
 match lay P d with
 | some ⟨.int k,_,_,_⟩=>match c with
  | .sc (.int _ n)=>match lay P s with | some _=>inR k n/\K (.sc (.int k n)) | none=>False
  | _=>False
 | some ⟨.str,_,_,_⟩=>match lay P s with
  | some ⟨.str,_,_,_⟩=>match c with
   | .str l=>K (.str l)
   | _=>False
  | some ⟨.slice e,_,_,_⟩=>match lay P e with
   | some ⟨.int .u8,_,_,_⟩=>match c.rows? 1 with
    | some rows=>∃ l,rows=j5 l/\K (.str l)
    | none=>False
   | _=>False
  | some ⟨.int _,_,_,_⟩=>match c with
   | .sc (.int _ n)=>K (.str (Utf8.encode n).data.toList)
   | _=>False
  | _=>False
 | some ⟨.slice e,_,_,_⟩=>match lay P s,lay P e with
  | some ⟨.str,_,_,_⟩,some ⟨.int .u8,_,_,_⟩=>match c with
   | .str l=>((l.length:Nat):Int)<=9223372036854775807/\K (.sl 1 (j5 l))
   | _=>False
  | _,_=>False
 | _=>False
def zeq (P:Program) (bx:List (List C)) (s d:TypeId) (i off n:Nat) (K:C->Prop):Prop:=
 match lay P d,lay P s with
 | some ⟨.str,_,_,_⟩,some ⟨.slice e,_,_,_⟩=>match lay P e with
  | some ⟨.int .u8,_,_,_⟩=>match bx[i]? with
   | some cs=>∃ l:List UInt8,l.length=n/\(cs.drop off).take n=l.map (fun b=>C.sc (.int .u8 (b.toNat:Int)))/\K (.str l)
   | none=>False
  | _=>False
 | _,_=>False
def yF (P:Program) (bx:List (List C)) (s d:TypeId) (c:C) (K:C->Prop):Prop:=
 match c with
 | .bs i off _ n _=>zeq P bx s d i off n K
 | c=>ziO P s d c K
theorem zhx {R:Env} {b o:Nat}:∀ {l:List UInt8},zA R (j5 l) 1 b o->∀ j (hj:j<l.length),R.w.cell? ((⟨b,o,none⟩:Addr).add j)=some (.int .u8 (l[j].toNat:Int)):=fun {l} h j hj=>by
 obtain ⟨_,h2⟩:=qE h j [.sc (.int .u8 (l[j].toNat:Int))] (by simp[j5,List.getElem?_eq_getElem hj])
 obtain ⟨⟨v,h3,_,h4,_⟩,_⟩:=zN.1 h2
 rw[zj]at h4
 subst h4
 rw[Addr.add_none]
 simpa using h3
theorem zc2 {s d:TypeId} {x:Operand} (ho:o.op = .convert s d x) (K:C->Prop) (h:ziO P s d (ev x) K):∃ c,zo P G bx ev nx o c nx/\K c:=by
 unfold ziO at h
 split at h
 ·rename_i k s1 b1 z1 hd
  have hu:=Zq hd rfl
  split at h
  ·rename_i k0 n hev
   split at h<;>try exact h.elim
   rename_i Ls hls
   refine ⟨_,.of_same fun B R L ρ hf hr=>?_,h.2⟩
   have hx:=hr x;rw[hev,zj]at hx
   obtain ⟨ds,hds⟩:=Option.isSome_iff_exists.mp (zf6 hls)
   refine ⟨.int k n,?_,zj.2 rfl⟩
   unfold execOp
   simp[ho,hx,convert,run_underlying hds,run_underlying hu,Conv.intToInt,XF h.1]
  ·exact h.elim
 ·rename_i s1 b1 z1 hd
  have hu:=XY hd rfl
  split at h
  ·rename_i s2 b2 z2 hs
   have hus:=XY hs rfl
   split at h
   ·rename_i l hev
    refine ⟨_,.of_same fun B R L ρ hf hr=>?_,h⟩
    have hx:=hr x;rw[hev,zC]at hx
    refine ⟨.string ⟨l.toArray⟩,?_,zC.2 rfl⟩
    unfold execOp
    simp[ho,hx,convert,run_underlying hus,run_underlying hu]
   ·exact h.elim
  ·rename_i e s2 b2 z2 hs
   have hus:=zG hs rfl
   split at h
   ·rename_i s3 b3 z3 he
    have hue:=Zq he rfl
    split at h
    ·rename_i rows hrows
     obtain ⟨l,rfl,hK⟩:=h
     refine ⟨_,.of_same fun B R L ρ hf hr=>?_,hK⟩
     obtain ⟨a,cap,e1,h1,h2,h3⟩:=(hr x).rows hrows
     have hlen:(j5 l).length=l.length:=by simp[j5]
     refine ⟨.string ⟨l.toArray⟩,?_,zC.2 rfl⟩
     have hrun:(convert s d (ρ x)).run P R.w = .ok (.string ⟨l.toArray⟩) R.w:=by
      rw[e1,hlen]
      cases a with
      | none =>
       have hl0:l = []:=by
        rcases h3 with h3 | ⟨b,o,h3,_⟩
        ·simpa [j5] using h3
        ·cases h3
       subst hl0
       exact run_convert_bytes_nil R.w s e hus hue _ _ d hu
      | some ad =>
       refine run_convert_bytes_back R.w s d e ad cap l hus hue hu fun j hj=>?_
       rcases h3 with h3 | ⟨b,o,h3,h4⟩
       ·have:l = []:=by simpa [j5] using h3
        subst this;simp at hj
       ·cases h3
        exact zhx h4 j hj
     unfold execOp
     simp only[ho]
     rw[Sem.run_bind,hrun];rfl
    ·exact h.elim
   ·exact h.elim
  ·rename_i k2 s2 b2 z2 hs
   have hus:=Zq hs rfl
   split at h
   ·rename_i k0 n hev
    refine ⟨_,.of_same fun B R L ρ hf hr=>?_,h⟩
    have hx:=hr x;rw[hev,zj]at hx
    refine ⟨.string (Utf8.encode n),?_,zC.2 (by simp)⟩
    unfold execOp
    simp[ho,hx,convert,run_underlying hus,run_underlying hu,Conv.intToString]
   ·exact h.elim
  ·exact h.elim
 ·rename_i e s1 b1 z1 hd
  have hu:=zG hd rfl
  split at h
  ·rename_i s2 b2 z2 s3 b3 z3 hs he
   have hus:=XY hs rfl
   have hue:=Zq he rfl
   split at h
   ·rename_i l hev
    obtain ⟨hsz,hK⟩:=h
    refine ⟨_,⟨Nat.le_refl _,fun B R L ρ hf hfree hr=>?_⟩,hK⟩
    have hx:=hr x;rw[hev,zC]at hx
    have hls:(ByteArray.mk l.toArray).size=l.length:=by simp[ByteArray.size]
    have hrun:=run_bytes_of_string (P:=P) R.w s d e ⟨l.toArray⟩ hus hu hue
    have hbelow:Below R.w.heap.size R.w (R.w.drew.alloc (.cells (bytesRow ⟨l.toArray⟩ (grownCap R.w (ByteArray.mk l.toArray).size 0 e)) e ((bytesRow ⟨l.toArray⟩ (grownCap R.w (ByteArray.mk l.toArray).size 0 e)).size,(bytesRow ⟨l.toArray⟩ (grownCap R.w (ByteArray.mk l.toArray).size 0 e)).size+1))):=
     ((Below.refl _ _).drew).alloc (Nat.le_refl _) _
    have hge:=grownCap_ge R.w l.length 0 e
    refine qA.value (w':=R.w.drew.alloc (.cells (bytesRow ⟨l.toArray⟩ (grownCap R.w (ByteArray.mk l.toArray).size 0 e)) e ((bytesRow ⟨l.toArray⟩ (grownCap R.w (ByteArray.mk l.toArray).size 0 e)).size,(bytesRow ⟨l.toArray⟩ (grownCap R.w (ByteArray.mk l.toArray).size 0 e)).size+1))) (v:=.slice (some ⟨R.w.heap.size,0,none⟩) (ByteArray.mk l.toArray).size (grownCap R.w (ByteArray.mk l.toArray).size 0 e)) ?_ ⟨_,L,rfl,zW.mem hbelow,?_⟩
    ·unfold execOp
     simp only[ho,hx]
     rw[Sem.run_bind,hrun];rfl
    ·rw[hls]
     refine U9.2 ⟨some ⟨R.w.heap.size,0,none⟩,grownCap R.w l.length 0 e,by simp[j5],by simpa [j5] using hge,grownCap_le_maxLen _ _ _ _ (by unfold maxLen;omega),?_⟩
     by_cases h0:j5 l = []
     ·exact .inl h0
     ·refine .inr ⟨R.w.heap.size,0,rfl,qr fun i row hrow=>?_⟩
      simp only[j5,List.getElem?_map]at hrow
      cases hq:l[i]? with
      | none=>simp[hq]at hrow
      | some bt =>
       simp[hq]at hrow
       subst hrow
       refine ⟨rfl,zN.2 ⟨⟨.int .u8 (bt.toNat:Int),?_,fun hm=>by have:=hm.1;omega,zj.2 rfl,rfl⟩,jp⟩⟩
       have hh:=heap_alloc_new R.w.drew (.cells (bytesRow ⟨l.toArray⟩ (grownCap R.w l.length 0 e)) e ((bytesRow ⟨l.toArray⟩ (grownCap R.w l.length 0 e)).size,(bytesRow ⟨l.toArray⟩ (grownCap R.w l.length 0 e)).size+1))
       rw[cell_of_row _ R.w.heap.size (0+i*1) _ _ _ hh]
       have hi:i<l.length:=(List.getElem?_eq_some_iff.1 hq).1
       unfold bytesRow
       rw[Nat.zero_add,Nat.mul_one,Array.getElem?_append_left (by simpa using hi)]
       simp[hq]
   ·exact h.elim
  ·exact h.elim
 ·exact h.elim
theorem zaf {s d:TypeId} {x:Operand} (ho:o.op = .convert s d x) (K:C->Prop) (h:yF P bx s d (ev x) K):∃ c,zo P G bx ev nx o c nx/\K c:=by
 unfold yF at h
 split at h
 ·rename_i i off k n cap hev
  unfold zeq at h
  split at h<;>try exact h.elim
  rename_i s1 b1 z1 e s2 b2 z2 hd hs
  have hu:=XY hd rfl
  have hus:=zG hs rfl
  split at h<;>try exact h.elim
  rename_i s3 b3 z3 he
  have hue:=Zq he rfl
  split at h<;>try exact h.elim
  rename_i cs hcs
  obtain ⟨l,rfl,hl,hK⟩:=h
  refine ⟨_,.of_same fun B R L ρ hf hr=>?_,hK⟩
  have hx:=hr x;rw[hev,qB]at hx
  obtain ⟨b,hb,ad,e1,had⟩:=hx
  obtain ⟨vs,ty,h1,h2,h3,_⟩:=hf.boxes.box i b cs hb hcs
  refine ⟨.string ⟨l.toArray⟩,?_,zC.2 rfl⟩
  have hrun:(convert s d (ρ x)).run P R.w = .ok (.string ⟨l.toArray⟩) R.w:=by
   rw[e1]
   refine run_convert_bytes_back R.w s d e ad cap l hus hue hu fun j hj=>?_
   obtain rfl:=had (by omega)
   have hcj:cs[off+j]?=some (.sc (.int .u8 (l[j].toNat:Int))):=by
    have:=congrArg (·[j]?) hl
    simp only[List.getElem?_take,if_pos hj,List.getElem?_drop,List.getElem?_map,List.getElem?_eq_getElem hj]at this
    exact this
   obtain ⟨v,hv,hrep⟩:=jA h2 _ _ hcj
   rw[zj]at hrep
   subst hrep
   rw[Addr.add_none,cell_of_row R.w b (off+j) vs ty (0,0) h1]
   simpa using hv
  unfold execOp
  simp only[ho]
  rw[Sem.run_bind,hrun];rfl
 ·exact zc2 ho K h
def zaG (P:Program) (t:TypeId) (rows:List (List C)) (K:C->Prop):Prop:=
 match lay P t with
 | some ⟨.slice _,_,_,_⟩=>K (.sc (.int .i64 (rows.length:Int)))
 | _=>False
def zoB (P:Program) (t:TypeId) (c:C) (K:C->Prop):Prop:=
 match c with
 | .str l=>match lay P t with
  | some ⟨.str,_,_,_⟩=>K (.sc (.int .i64 (l.length:Int)))
  | _=>False
 | .sl _ rows=>zaG P t rows K
 | .tight _ rows=>zaG P t rows K
 | .own _ _ _ rows=>zaG P t rows K
 | .sc (.slice none 0 0)=>match lay P t with
  | some ⟨.slice _,_,_,_⟩=>K (.sc (.int .i64 0))
  | _=>False
 | .bs _ _ _ n _=>match lay P t with
  | some ⟨.slice _,_,_,_⟩=>K (.sc (.int .i64 (n:Int)))
  | _=>False
 | .mo _ t' _ vs=>zjV P t t' vs K
 | _=>False
theorem zaG.out {t:TypeId} {rows:List (List C)} {K:C->Prop} (h:zaG P t rows K):(∃ e,P.underlying t=some (.slice e))/\K (.sc (.int .i64 (rows.length:Int))):=by
 unfold zaG at h
 split at h
 ·rename_i hl;exact ⟨⟨_,zG hl rfl⟩,h⟩
 ·exact h.elim
theorem ul {t ty e:TypeId} (h:P.underlying t=some (.slice e)) (w:World) (a:Option Addr) (n c:Nat):(Builtin.len_ #[t] ty #[.slice a n c]).run P w = .ok (goInt n) w:=by
 simp[Builtin.len_,run_underlying h]
theorem zhJ {t:TypeId} {x:Operand} (ho:o.op = .call { callee:=.builtin .len,args:=#[x],argTypes:=#[t] }) (K:C->Prop) (h:zoB P t (ev x) K):∃ c,zo P G bx ev nx o c nx/\K c:=by
 have key:∀ (n:Nat),K (.sc (.int .i64 (n:Int)))->(∃ e,P.underlying t=some (.slice e))->(∀ (R:Env) (L:Loc) v,Rep R L (ev x) v->∃ a c,v = .slice a n c)->∃ c,zo P G bx ev nx o c nx/\K c:=fun n hK ⟨e,he⟩ hv =>
  ⟨_,.of_same fun B R L ρ hf hr=>by
   obtain ⟨a,c,e1⟩:=hv R L _ (hr x)
   refine ⟨.int .i64 (n:Int),?_,zj.2 rfl⟩
   unfold execOp
   simp only[ho,resolve,invoke,builtin,Sem.run_bind,Sem.run_pure,Result.andThen_ok,List.map_toArray,List.map_cons,List.map_nil,e1,ul he]
   rfl,hK⟩
 unfold zoB at h
 split at h
 ·rename_i l hev
  split at h<;>try exact h.elim
  rename_i hls
  refine ⟨_,.of_same fun B R L ρ hf hr=>?_,h⟩
  have hx:=hr x;rw[hev,zC]at hx
  refine ⟨.int .i64 (l.length:Int),?_,zj.2 rfl⟩
  have hsz:(ByteArray.mk l.toArray).size=l.length:=by simp[ByteArray.size]
  unfold execOp
  simp only[ho,resolve,invoke,builtin,Sem.run_bind,Sem.run_pure,Result.andThen_ok,List.map_toArray,List.map_cons,List.map_nil,hx,run_len_string R.w t _ _ (XY hls rfl),hsz]
  rfl
 ·rename_i k rows hev
  refine key rows.length h.out.2 h.out.1 fun R L v hv=>?_
  rw[hev]at hv
  obtain ⟨a,cap,e1,_⟩:=U9.1 hv
  exact ⟨a,cap,e1⟩
 ·rename_i k rows hev
  refine key rows.length h.out.2 h.out.1 fun R L v hv=>?_
  rw[hev]at hv
  obtain ⟨a,e1,_⟩:=jK.1 hv
  exact ⟨a,_,e1⟩
 ·rename_i id e k rows hev
  refine key rows.length h.out.2 h.out.1 fun R L v hv=>?_
  rw[hev]at hv
  obtain ⟨_,a,cap,e1,_⟩:=JY.1 hv
  exact ⟨a,_,e1⟩
 ·rename_i hev
  split at h<;>try exact h.elim
  rename_i hls
  refine key 0 h ⟨_,zG hls rfl⟩ fun R L v hv=>?_
  rw[hev,zj]at hv
  exact ⟨none,0,hv⟩
 ·rename_i i0 off0 k0 n0 c0 hev
  split at h<;>try exact h.elim
  rename_i hls
  refine key n0 h ⟨_,zG hls rfl⟩ fun R L v hv=>?_
  rw[hev,qB]at hv
  obtain ⟨b,_,ad,e1,_⟩:=hv
  exact ⟨_,_,e1⟩
 ·rename_i id t' ks vs hev
  exact zdk ho hev K h
 ·exact h.elim
def Za (P:Program) (t:TypeId) (s x:C) (nx:Nat) (K:C->Nat->Prop):Prop:=
 match lay P t with
 | some ⟨.slice e,_,_,_⟩=>match lay P e with
  | some ⟨_,k,by',some z⟩=>match x.rows? k with
   | some xs=>match s with
    | .sc (.slice none 0 0)=>z.length=k/\0<k/\xs.length<=9223372036854775807/\xs.length*by'<=140737488355328/\K (.own nx e k xs) (nx+1)
    | .tight k' rows=>k'=k/\z.length=k/\0<k/\rows.length+xs.length<=9223372036854775807/\(rows.length+xs.length)*by'<=140737488355328/\(xs = []->K (.tight k' rows) nx)/\(xs≠[]->K (.own nx e k (rows++xs)) (nx+1))
    | _=>False
   | none=>False
  | _=>False
 | _=>False
theorem qP {t ty e:TypeId} {i:TypeInfo} (ht:P.underlying t=some (.slice e)) (hi:P.info? e=some i) (w:World) (a b:Option Addr) (n c c':Nat) (hc:n<=c) :
  (Builtin.append_ #[t,t] ty #[.slice a n c,.slice b 0 c']).run P w = .ok (.slice a n c) w:=by
 cases a<;>cases b<;>simp[Builtin.append_,run_underlying ht,sizeOf,typeInfo,hi,Builtin.lenOf,Builtin.firstCells,loadCells,loadCellsFrom,hc,storeCells]
theorem YJ {t ty e:TypeId} {i:TypeInfo} {z:Value} (ht:P.underlying t=some (.slice e)) (hi:P.info? e=some i) (hz:i.zero=some z) (w:World)
  (b:Option Addr) (n:Nat) (olds:List Value) (hlo:olds.length=n*i.size) (holds:n=0∨∃ ad,b=some ad/\∀ (j:Nat) v,olds[j]?=some v->w.cell? (ad.add j)=some v)
  (a:Addr) (m c:Nat) (news:List Value) (hl:news.length=m*i.size) (hnews:∀ (j:Nat) v,news[j]?=some v->w.cell? (a.add j)=some v)
  (hm:0<m) (h63:n+m<=9223372036854775807) (hby:(n+m)*i.bytes<=140737488355328) :
  (Builtin.append_ #[t,t] ty #[.slice b n n,.slice (some a) m c]).run P w =
   .ok (.slice (some ⟨w.heap.size,0,none⟩) (n+m) (grownCap w (n+m) n e)) (w.drew.alloc (.cells (olds.toArray++news.toArray++Builtin.zeroCells z.cells (grownCap w (n+m) n e-(n+m))) e)):=by
 have hfit:=growslice_fits (need:=n+m) (old:=n) (bytes:=i.bytes) (by omega) hby
 rcases b with _ | ad
 ·have hn0:n=0:=by
   rcases holds with h | ⟨ad,h,_⟩
   ·exact h
   ·cases h
  subst hn0
  have ho:olds = []:=List.eq_nil_of_length_eq_zero (by simpa using hlo)
  subst ho
  have:=run_append_nil (P:=P) w t ty e i z ht hi hz a m c news hl hnews hm (by omega) (by rw[Nat.zero_add]at hby;omega)
  simpa using this
 ·rcases holds with h | ⟨ad',h,hh⟩
  ·subst h
   have ho:olds = []:=List.eq_nil_of_length_eq_zero (by simpa using hlo)
   subst ho
   exact run_append_grow (P:=P) w t ty e i z ht hi hz ad 0 0 [] (by simp) (fun j v h=>by simp at h) a m c news hl hnews (by omega) (by omega) hfit
  ·cases h
   exact run_append_grow (P:=P) w t ty e i z ht hi hz ad n n olds hlo hh a m c news hl hnews (by omega) (by omega) hfit
theorem xo {t:TypeId} {s x:Operand} (ho:o.op = .call { callee:=.builtin .append,args:=#[s,x],argTypes:=#[t,t] }) (K:C->Nat->Prop) (h:Za P t (ev s) (ev x) nx K):∃ c nx',zo P G bx ev nx o c nx'/\K c nx':=by
 unfold Za at h
 split at h
 ·rename_i e s1 b1 z1 hl
  have ht:=zG hl rfl
  split at h
  ·rename_i kd k by' z hle
   obtain ⟨i,d,hi,hd,_,hsz,hbyt,hzz⟩:=zL hle
   simp only at hsz hbyt hzz
   split at h
   ·rename_i xs hxs
    have key:∀ (rows:List (List C)),z.length=k->0<k->rows.length+xs.length<=9223372036854775807->(rows.length+xs.length)*by'<=140737488355328->xs≠[] ->
      (∀ (R:Env) (L:Loc) v,Rep R L (ev s) v->∃ a,v = .slice a rows.length rows.length/\(rows = []∨∃ b o,a=some ⟨b,o,none⟩/\zA R rows k b o))->zo P G bx ev nx o (.own nx e k (rows++xs)) (nx+1):=by
     intro rows hzk hk0 h63 hby hne hsv
     refine ⟨by omega,fun B R L ρ hf hfree hr=>?_⟩
     obtain ⟨a,es,hrows⟩:=hsv R L _ (hr s)
     obtain ⟨ax,capx,ex,hx1,hx2,hx3⟩:=(hr x).rows hxs
     rcases hx3 with hx3 | ⟨bb,off,rfl,hxr⟩
     ·exact absurd hx3 hne
     ·cases hiz:i.zero with
      | none=>simp[hiz]at hzz
      | some zv =>
       simp only[hiz,Option.map_some,Option.some.injEq]at hzz
       obtain ⟨hxc,hxl⟩:=qm hxr
       obtain ⟨news,n1,n2,n3⟩:=qY hxc
       have hnl:=zl n2
       have hrs:∃ olds:List Value,zm R zu rows.flatten olds/\(∀ v∈olds,v.oneCell'=true)/\olds.length=rows.length*k/\(∀ r∈rows,r.length=k)/\(rows.length=0∨∃ ad,a=some ad/\∀ (j:Nat) v,olds[j]?=some v->R.w.cell? (ad.add j)=some v):=by
        rcases hrows with rfl | ⟨b,o',rfl,hrr⟩
        ·exact ⟨[],zg.2 rfl,fun v h=>by (cases h),by simp,fun r h=>by (cases h),.inl rfl⟩
        ·obtain ⟨h1,h2⟩:=qm hrr
         obtain ⟨olds,o1,o2,o3⟩:=qY h1
         refine ⟨olds,o2,o3,by rw[zl o2,h2],fun r hr=>?_,.inr ⟨_,rfl,fun j v hj=>by rw[Addr.add_none];exact o1 j v hj⟩⟩
         obtain ⟨i,hi,rfl⟩:=List.getElem_of_mem hr
         exact (qE hrr i _ (List.getElem?_eq_getElem hi)).1
       obtain ⟨olds,p1,p2,p3,p4,p5⟩:=hrs
       have hrun:=YJ (P:=P) (ty:=o.type) ht hi hiz R.w a rows.length olds (by rw[p3,hsz]) p5 ⟨bb,off,none⟩ xs.length capx news (by rw[hnl,hxl,hsz]) (fun j v hj=>by rw[Addr.add_none];exact n1 j v hj)
        (List.length_pos_iff.2 hne) h63 (by rw[←hbyt];exact hby)
       have hxk:∀ r∈xs,r.length=k:=fun r hr=>by
        obtain ⟨i,hi,rfl⟩:=List.getElem_of_mem hr
        exact (qE hxr i _ (List.getElem?_eq_getElem hi)).1
       have hall:∀ r∈rows++xs,r.length=k:=fun r hr=>by
        rcases List.mem_append.1 hr with hr | hr
        ·exact p4 r hr
        ·exact hxk r hr
       have hlen:(rows++xs).length=rows.length+xs.length:=List.length_append
       have hge:=grownCap_ge R.w (rows.length+xs.length) rows.length e
       have hzc:zv.cells.size=k:=by rw[←hzk,hzz];simp
       obtain ⟨R',L',w1,w2,w3⟩:=own_new (R:=R) (L:=L) (w':=R.w.drew.alloc (.cells (olds.toArray++news.toArray++Builtin.zeroCells zv.cells (grownCap R.w (rows.length+xs.length) rows.length e-(rows.length+xs.length))) e))
        (g:=R.w.heap.size) (cap:=grownCap R.w (rows.length+xs.length) rows.length e) (e:=e) (k:=k) (nx:=nx) (rows:=rows++xs) (vs:=olds++news) hf.β_lt
        (((Below.refl _ _).drew).alloc (Nat.le_refl _) _) (Nat.le_refl _) (heap_alloc_new _ _) (by
         simp only[Array.size_append,List.size_toArray,size_zeroCells,hzc,p3,hnl,hxl,←Nat.add_mul]
         congr 1;omega) hall (by rw[List.flatten_append];exact zi p1 n2) (fun v hv=>by
         rcases List.mem_append.1 hv with hv | hv
         ·exact p2 v hv
         ·exact n3 v hv) (by
         rw[hlen,Nat.add_mul,←p3,←hxl,←hnl]
         simp only[Array.toList_append]
         rw[←List.length_append,List.take_left']
         simp) (by rw[hlen];exact hge) (grownCap_le_maxLen _ _ _ _ (by unfold maxLen;omega))
       rw[hlen]at w3
       refine qA.value ?_ ⟨R',L',w1,w2,w3⟩
       unfold execOp
       simp only[ho,resolve,invoke,builtin,Sem.run_bind,Sem.run_pure,Result.andThen_ok,List.map_toArray,List.map_cons,List.map_nil,es,ex,hrun]
    split at h
    ·rename_i hev
     obtain ⟨hzk,hk0,h63,hby,hK⟩:=h
     refine ⟨_,_,?_,hK⟩
     by_cases hne:xs = []
     ·subst hne
      refine ⟨by omega,fun B R L ρ hf hfree hr=>?_⟩
      have hs:=hr s;rw[hev,zj]at hs
      obtain ⟨ax,capx,ex,_⟩:=(hr x).rows hxs
      obtain ⟨R',L',w1,w2,w3⟩:=zle (R:=R) (L:=L) (e:=e) (k:=k) (nx:=nx)
      refine qA.value (w':=R.w) (v:=.slice none 0 0) ?_ ⟨R',L',w1,w2,w3⟩
      unfold execOp
      simp only[ho,resolve,invoke,builtin,Sem.run_bind,Sem.run_pure,Result.andThen_ok,List.map_toArray,List.map_cons,List.map_nil,hs,ex]
      simp only[List.length_nil,qP ht hi R.w none ax 0 0 capx (Nat.le_refl _),Result.andThen_ok]
     ·have:=key [] hzk hk0 (by simpa using h63) (by simpa using hby) hne fun R L v hv=>⟨none,by rw[hev,zj]at hv;simpa using hv,.inl rfl⟩
      simpa using this
    ·rename_i k' rows hev
     obtain ⟨rfl,hzk,hk0,h63,hby,hK0,hK⟩:=h
     by_cases hne:xs = []
     ·refine ⟨_,_,⟨by omega,fun B R L ρ hf hfree hr=>?_⟩,hK0 hne⟩
      subst hne
      have hs:=hr s
      rw[hev]at hs
      obtain ⟨a,e1,e0,e2⟩:=jK.1 hs
      obtain ⟨ax,capx,ex,_⟩:=(hr x).rows hxs
      refine qA.value (w':=R.w) (v:=.slice a rows.length rows.length) ?_ ⟨R,L,rfl,zW.refl _ _ _,jK.2 ⟨a,rfl,e0,e2⟩⟩
      unfold execOp
      simp only[ho,resolve,invoke,builtin,Sem.run_bind,Sem.run_pure,Result.andThen_ok,List.map_toArray,List.map_cons,List.map_nil,e1,ex]
      simp only[List.length_nil,qP ht hi R.w a ax rows.length rows.length capx (Nat.le_refl _),Result.andThen_ok]
     ·refine ⟨_,_,key rows hzk hk0 h63 hby hne fun R L v hv=>?_,hK hne⟩
      rw[hev]at hv
      obtain ⟨a,e1,_,e2⟩:=jK.1 hv
      exact ⟨a,e1,e2⟩
    ·exact h.elim
   ·exact h.elim
  ·exact h.elim
 ·exact h.elim
end
end
section
open Go.RowKit
section
variable {P:Program} {G:zk} {bx:List (List C)} {ev:Operand->C} {nx:Nat} {o:Oper}
def JW (P:Program) (f:FuncId):Bool:=match P.funcs[f]? with | some fn=>!(fn.name == "runtime.NumGoroutine")&&fn.body.isSome | none=>false
def Fun (P:Program) (G:zk) (f:FuncId) (args:List C) (r:C) (n:Nat):Prop:=
 JW P f=true/\∀ (R:Env) (vs:List Value),YN G R->zm R zu args vs ->
  Calls P f vs.toArray R.w fun e w'=>∃ v R' L',e = .returned v/\R'.w=w'/\zW 0 n R zu R' L'/\Rep R' L' r v
theorem Fun.bySlice {f:FuncId} {k:Nat} {rows:List (List C)} {rest:List C} {r:C} {n:Nat} (h1:rows≠[]->Fun P G f (.sl k rows :: rest) r n)
  (h2:rows = []->∀ a cap,(∀ k,C.rows? k (.sc (.slice a 0 cap))=some [])->Fun P G f (.sc (.slice a 0 cap) :: rest) r n):Fun P G f (.sl k rows :: rest) r n:=by
 by_cases h:rows = []
 ·have hn:=h2 h none 0 (fun k=>rfl)
  refine ⟨hn.1,fun R vs hg hv=>?_⟩
  obtain ⟨v,us,rfl,hv,hus⟩:=zd.1 hv
  unfold Rep at hv
  obtain ⟨a,cap,e,_,hc,_⟩:=hv
  rw[h]at e
  refine (h2 h a cap (fun k=>?_)).2 R _ hg (zd.2 ⟨v,us,rfl,zj.2 e,hus⟩)
  cases a with
  | none=>cases cap with
   | zero=>rfl
   | succ c=>simp[C.rows?,hc]
  | some a=>simp[C.rows?,hc]
 ·exact h1 h
theorem Qy {f:FuncId} (h:JW P f=true) (args:Array Value) (w:World):(callFunc f args).run P w = .ok (.enter f args) w:=by
 unfold JW at h
 split at h
 ·rename_i fn hf
  simp only[Bool.and_eq_true,Bool.not_eq_true']at h
  obtain ⟨c,hc⟩:=Option.isSome_iff_exists.mp h.2
  have h1:fn.name ≠ "runtime.NumGoroutine":=by simpa using h.1
  simp[callFunc,hf,h1,hc]
 ·cases h
theorem zW.caller {n nx:Nat} {R R':Env} {L L':Loc} (hβ:∀ b∈L.β,b<R.w.heap.size) (h:zW 0 n R zu R' L') :
  zW nx (nx+n) R L R' ⟨L.β,fun id=>if nx<=id/\id<nx+n then L'.T (id-nx) else L.T id⟩:=by
 refine ⟨h.below,h.fgn,rfl,h.mt,fun id hi=>if_neg (by omega),fun id e k v hi hj ht=>?_,fun id id' e k v e' k' v' b hi hi2 hj hj2 h1 h2 h3 h4=>?_⟩
 ·simp only at ht
  rw[if_pos ⟨hi,hj⟩]at ht
  exact (h.new (id-nx) e k v (Nat.zero_le _) (by omega) ht).move fun g _ e2 _ _=>⟨e2,rfl,fun hx=>by have:=hβ g hx;have e2:R.w.heap.size<=g:=e2;omega,fun _ h=>h⟩
 ·simp only at h1 h2
  rw[if_pos ⟨by omega,by omega⟩]at h1 h2
  have:=h.apart (id-nx) (id'-nx) e k v e' k' v' b (Nat.zero_le _) (by omega) (Nat.zero_le _) (by omega) h1 h2 h3 h4
  omega
def NO (P:Program) (G:zk) (callee:C) (args:List C) (nx:Nat) (K:C->Nat->Prop):Prop:=
 match callee with
 | .clo (.func f) first cap=>∃ r n,Fun P G f (C.frzL (first++args++cap)) r n/\K (r.sh nx) (nx+n)
 | _=>False
theorem zaM {c:Call} {f:Operand} (ho:o.op = .call c) (hc:c.callee = .value f) (K:C->Nat->Prop) (h:NO P G (ev f) (c.args.toList.map ev) nx K):∃ r nx',zo P G bx ev nx o r nx'/\K r nx':=by
 unfold NO at h
 split at h
 ·rename_i fid first cap hev
  obtain ⟨r,n,hfun,hK⟩:=h
  refine ⟨_,_,⟨by omega,fun B R L ρ hf hfree hr=>?_⟩,hK⟩
  have hx:=hr f;rw[hev,Jy]at hx
  obtain ⟨fs,cs,e1,h1,h2⟩:=hx
  have hargs:zm R zu (C.frzL (first++c.args.toList.map ev++cap)) (fs.toList++c.args.toList.map ρ++cs.toList):=
   zm.frz zu _ _ (zi (zi h1 (JS hr _)) h2)
  have hcall:=hfun.2 R _ hf.glob hargs
  have hrun:(execOp ρ o).run P R.w = .ok (.enter fid (fs.toList++c.args.toList.map ρ++cs.toList).toArray) R.w:=by
   unfold execOp
   simp only[ho,resolve,hc,e1]
   have e2:(Deferred.ofValue (.func (.func fid) fs cs) (c.args.map ρ)).run P R.w = .ok { target:=.fn (.func fid) cs,args:=fs++c.args.map ρ } R.w:=by
    simp[Deferred.ofValue]
   rw[Sem.run_bind,e2]
   simp only[Result.andThen_ok,invoke]
   rw[Qy hfun.1]
   congr 2
   apply Array.ext'
   simp
  unfold qA
  rw[hrun]
  refine hcall.mono fun e w'=>?_
  rintro ⟨v,R',L',rfl,hw,hst,hrep⟩
  have hst':=hst.caller (nx:=nx) hf.β_lt
  refine ⟨v,rfl,R',_,hw,hst',?_⟩
  refine Rep.sh (fun i b hb=>?_) (fun i x hi=>?_) _ _ hrep
  ·rw[hst.box]at hb;simp at hb
  ·show (if nx<=nx+i/\nx+i<nx+n then L'.T (nx+i-nx) else _)=some x
   have hin:i<n:=by
    rcases Nat.lt_or_ge i n with h | h
    ·exact h
    ·rw[hst.old i (.inr h)]at hi;cases hi
   rw[if_pos ⟨by omega,by omega⟩,Nat.add_sub_cancel_left];exact hi
 ·exact h.elim
def zmU (x y:C) (K:C->Prop):Prop:=match x,y with
 | .sc (.int k n),.sc (.int _ m)=>K (.sc (.int k (if m>n then m else n)))
 | _,_=>False
theorem ziy {t t':TypeId} {x y:Operand} (ho:o.op = .call { callee:=.builtin .max,args:=#[x,y],argTypes:=#[t,t'] }) (K:C->Prop) (h:zmU (ev x) (ev y) K):∃ c,zo P G bx ev nx o c nx/\K c:=by
 unfold zmU at h
 split at h
 ·rename_i k n k' m hx hy
  refine ⟨_,.of_same fun B R L ρ hf hr=>?_,h⟩
  have h1:=hr x
  have h2:=hr y
  rw[hx,zj]at h1
  rw[hy,zj]at h2
  refine ⟨_,?_,zj.2 rfl⟩
  unfold execOp
  simp only[ho,resolve,invoke,builtin,Sem.run_bind,Sem.run_pure,Result.andThen_ok,List.map_toArray,List.map_cons,List.map_nil,h1,h2,run_max_int2]
 ·exact h.elim
def Vu (P:Program) (b:Builtin) (ev:Operand->C) (args:List Operand) (tys:List TypeId) (nx:Nat) (K:C->Nat->Prop):Prop:=
 match b,args,tys with
 | .len,[x],[t]=>zoB P t (ev x) fun c=>K c nx
 | .append,[s,x],[t,t']=>t'=t/\Za P t (ev s) (ev x) nx K
 | .max,[x,y],[_,_]=>zmU (ev x) (ev y) fun c=>K c nx
 | _,_,_=>False
def Gl (P:Program) (G:zk) (ev:Operand->C) (c:Call) (nx:Nat) (K:C->Nat->Prop):Prop:=
 match c.callee with
 | .value f=>NO P G (ev f) (c.args.toList.map ev) nx K
 | .builtin b=>Vu P b ev c.args.toList c.argTypes.toList nx K
 | _=>False
def ZW:List C->List C->Prop
 | [],[]=>True
 | .sc u :: r,.sc v :: s=>u=v/\ZW r s
 | .str a :: r,.str b :: s=>a=b/\ZW r s
 | _,_=>False
theorem Zd {R R':Env} {L L':Loc}:∀ {cs ds:List C} {vs us:List Value},ZW cs ds->zm R L cs vs->zm R' L' ds us->vs=us
 | [],[],vs,us,_,h1,h2=>by rw[zg]at h1 h2;rw[h1,h2]
 | .sc u :: r,.sc v :: s,vs,us,h,h1,h2=>by
  obtain ⟨e,h⟩:=h
  obtain ⟨v1,w1,rfl,a1,b1⟩:=zd.1 h1
  obtain ⟨v2,w2,rfl,a2,b2⟩:=zd.1 h2
  rw[zj]at a1 a2
  rw[a1,a2,e,Zd h b1 b2]
 | .str a :: r,.str b :: s,vs,us,h,h1,h2=>by
  obtain ⟨e,h⟩:=h
  obtain ⟨v1,w1,rfl,a1,b1⟩:=zd.1 h1
  obtain ⟨v2,w2,rfl,a2,b2⟩:=zd.1 h2
  rw[zC]at a1 a2
  rw[a1,a2,e,Zd h b1 b2]
def zlT (P:Program) (t:TypeId) (p c:C) (bx:List (List C)) (K:C->Prop):Prop:=
 match lay P t,p with
 | some L,.ptr i off=>match bx[i]? with
  | some cs=>c.partB=true/\(c.cells.all C.cellB)=true/\c.cells.length=L.size/\off+L.size<=cs.length/\ZW ((cs.drop off).take L.size) c.cells/\K .any
  | none=>False
 | _,_=>False
theorem zcf {t:TypeId} {p x:Operand} (ho:o.op = .store t p x) (K:C->Prop) (h:zlT P t (ev p) (ev x) bx K):∃ c,zo P G bx ev nx o c nx/\K c:=by
 unfold zlT at h
 split at h
 ·rename_i Ly i off hl hev
  split at h
  ·rename_i cs hcs
   obtain ⟨h1,h2,h3,h4,h5,hK⟩:=h
   refine ⟨_,⟨Nat.le_refl _,fun B R L ρ hf _ hr=>?_⟩,hK⟩
   have hp:=hr p;rw[hev,jH]at hp
   obtain ⟨b,hb,hpv⟩:=hp
   have hx:=Y1 (hr x) h1
   obtain ⟨vs,ty,e1,e2,e3,e4⟩:=hf.boxes.box i b cs hb hcs
   have hxl:=zl hx
   have hvl:=zl e2
   simp only[Array.length_toList]at hxl hvl
   have hone:=YD hx h2
   have hst:=run_storeCells_at P b off ty (ρ x).cells.toList 0 vs R.w e1 (by simp;omega) hone
   simp only[Nat.add_zero]at hst
   have hsame:=Zd h5 (qd Ly.size (qp off e2)) hx
   have hrow:(vs.toList.take off++(ρ x).cells.toList++vs.toList.drop (off+(ρ x).cells.toList.length))=vs.toList:=by
    have hlen:(ρ x).cells.toList.length=Ly.size:=by simp;omega
    rw[hlen,←hsame,List.append_assoc,←List.drop_drop,List.take_append_drop,List.take_append_drop]
   rw[hrow]at hst
   simp only[Array.toArray_toList]at hst
   rw[setRow_self R.w b vs ty (0,0) e1]at hst
   unfold qA
   have hrun:(execOp ρ o).run P R.w = .ok .skip R.w:=by
    have hsz:=qg hl R.w
    unfold execOp
    simp only[ho,hpv,Instr.storeAt,Instr.sureAddr,storeVar,Sem.run_bind,Sem.run_pure,Result.andThen_ok,hsz]
    rw[if_neg (by omega)]
    simp only[Sem.run_bind,hst,Result.andThen_ok,Sem.run_pure]
   rw[hrun]
   exact ⟨R,L,rfl,zW.refl _ _ _,by unfold Rep;trivial⟩
  ·exact h.elim
 ·exact h.elim
def jO (P:Program) (G:zk) (bx:List (List C)) (ev:Operand->C) (op:Op) (nx:Nat) (K:C->Nat->Prop):Prop:=
 match op with
 | .move x=>K (ev x) nx
 | .assign x=>K (ev x) nx
 | .pick c a b=>ABr (ev c) (K (ev a) nx) (K (ev b) nx)
 | .build t parts=>vh P t (parts.toList.map fun p=>(p.1,ev p.2)) fun c=>K c nx
 | .buildSlice t n parts=>kQ P t n (parts.toList.map fun p=>(p.1,ev p.2)) nx K
 | .load t a=>ye P t (ev a) bx fun c=>K c nx
 | .nilCheck x=>zo4 (ev x) fun c=>K c nx
 | .binOp op t x y _=>zme P t op (ev x) (ev y) fun c=>K c nx
 | .unOp op _ x=>aUn op (ev x) fun c=>K c nx
 | .convert s d x=>yF P bx s d (ev x) fun c=>K c nx
 | .makeFunc fn first cap=>K (.clo fn (first.toList.map ev) (cap.toList.map ev)) nx
 | .makeSlice t l c=>zhm P t (ev l) (ev c) nx K
 | .slice t x lo hi mx=>yV P t (ev x) (lo.map ev) (hi.map ev) (mx.map ev) fun c=>K c nx
 | .fieldAddr t x f=>Xz P t (ev x) f fun c=>K c nx
 | .field t x f=>vy P t (ev x) f fun c=>K c nx
 | .indexAddr t x i=>Xw P t (ev x) (ev i) fun c=>K c nx
 | .index t x i=>yC P t (ev x) (ev i) fun c=>K c nx
 | .extract t i=>Z2 (ev t) i fun c=>K c nx
 | .call c=>Gl P G ev c nx K
 | .store t p x=>zlT P t (ev p) (ev x) bx fun c=>K c nx
 | .makeMap t r=>H7 P t (r.map ev) nx K
 | .lookup t m k ok=>zlm P t (ev m) (ev k) ok fun c=>K c nx
 | _=>False
theorem Oper.ext {o:Oper} {op:Op} (h:o.op=op):o.op=op:=h
theorem Jo {α:Type} {a:Array α} {x:α} (h:a.toList = [x]):a = #[x]:=by apply Array.ext';simpa using h
theorem zR {α:Type} {a:Array α} {x y:α} (h:a.toList = [x,y]):a = #[x,y]:=by apply Array.ext';simpa using h
theorem one {K:C->Nat->Prop} (h:∃ c,zo P G bx ev nx o c nx/\K c nx):∃ c nx',zo P G bx ev nx o c nx'/\K c nx':=let ⟨c,h1,h2⟩:=h;⟨c,nx,h1,h2⟩
theorem V4 (K:C->Nat->Prop) (h:jO P G bx ev o.op nx K):∃ c nx',zo P G bx ev nx o c nx'/\K c nx':=by
 cases ho:o.op<;>rw[ho]at h<;>simp only[jO]at h<;>try exact h.elim
 case move x=>exact ⟨_,_,zce ho,h⟩
 case assign x=>exact ⟨_,_,yw ho,h⟩
 case pick c a b =>
  obtain ⟨t,ht,h1,h2⟩:=h.out
  refine ⟨_,_,zdK ho ht,?_⟩
  cases t
  ·exact h2 rfl
  ·exact h1 rfl
 case build t parts=>exact one (za1 ho (fun c=>K c nx) h)
 case buildSlice t n parts=>exact xp ho K h
 case load t a=>exact one (ze9 ho (fun c=>K c nx) h)
 case nilCheck x=>exact one (zhB ho (fun c=>K c nx) h)
 case store t p x=>exact one (zcf ho (fun c=>K c nx) h)
 case binOp op t x y t'=>exact one (zf1 ho (fun c=>K c nx) h)
 case unOp op t x=>exact one (zlk ho (fun c=>K c nx) h)
 case convert s d x=>exact one (zaf ho (fun c=>K c nx) h)
 case makeFunc fn first cap=>exact ⟨_,_,zcm ho,h⟩
 case makeSlice t l c=>exact zdh ho K h
 case slice t x lo hi mx=>exact one (zbl ho (fun c=>K c nx) h)
 case fieldAddr t x f=>exact one (UP ho (fun c=>K c nx) h)
 case field t x f=>exact one (uZ ho (fun c=>K c nx) h)
 case indexAddr t x i=>exact one (Uz ho (fun c=>K c nx) h)
 case index t x i=>exact one (zaE ho (fun c=>K c nx) h)
 case extract t i=>exact one (GS ho (fun c=>K c nx) h)
 case makeMap t r=>exact NV ho K h
 case lookup t m k ok=>exact one (zcL ho (fun c=>K c nx) h)
 case call c =>
  unfold Gl at h
  split at h
  ·rename_i f hc
   exact zaM ho hc K h
  ·rename_i b hc
   unfold Vu at h
   obtain ⟨callee,args,argTypes⟩:=c
   simp only at hc h
   subst hc
   split at h
   ·rename_i x t h1 h2
    rw[Jo h1,Jo h2]at ho
    exact one (zhJ ho (fun c=>K c nx) h)
   ·rename_i s x t t' h1 h2
    obtain ⟨rfl,h⟩:=h
    rw[zR h1,zR h2]at ho
    exact xo ho K h
   ·rename_i x y t t' h1 h2
    rw[zR h1,zR h2]at ho
    exact one (ziy ho (fun c=>K c nx) h)
   ·exact h.elim
  ·exact h.elim
end
end
section
open Go.RowKit
structure St where
 tm:List (Nat×C)
 bx:List (List C)
 nx:Nat
 lg:Nat
def q9:List (Nat×C)->Nat->C
 | [],_=>.any
 | (t,c) :: r,u=>if u=t then c else q9 r u
def St.put (σ:St) (dst:Option Tmp) (c:C):St:=match dst with | some d=>⟨(d,c) :: σ.tm,σ.bx,σ.nx,σ.lg⟩ | none=>σ
def YS (N:Nat) (dst:Option Tmp):Prop:=match dst with | some d=>d<N | none=>True
def zp (G:zk) (tm:List (Nat×C)):Operand->C
 | .tmp t=>q9 tm t
 | .const v=>zt v
 | .global g=>match G g with | some cs=>.row cs | none=>.any
 | .func f=>.clo (.func f) [] []
structure Ml (w0:World) (ex:Nat->Prop) (R R':Env):Prop where
 os:R'.w.os=R.w.os
 tape:R'.w.tape=R.w.tape
 output:R'.w.output=R.w.output
 size:R.w.heap.size<=R'.w.heap.size
 fgn:R'.F=R.F
 ext:Ext R R'
 blk:∀ b,b<R.w.heap.size->(R'.w.heap[b]?=R.w.heap[b]?/\∀ o,(R'.M b o↔R.M b o))∨((w0.heap.size<=b∨ex b)/\¬R.F b/\((∃ cs t f,R.w.heap[b]?=some (.cells cs t f))∨∃ es cl,R.w.heap[b]?=some (.map es cl)))
theorem Ml.refl (w0:World) (ex:Nat->Prop) (R:Env):Ml w0 ex R R:=⟨rfl,rfl,rfl,Nat.le_refl _,rfl,Ext.refl R,fun _ _=>.inl ⟨rfl,fun _=>Iff.rfl⟩⟩
structure zbq (w0:World) (ex:Nat->Prop) (R R':Env):Prop where
 os:R'.w.os=R.w.os
 tape:R'.w.tape=R.w.tape
 output:R'.w.output=R.w.output
 size:R.w.heap.size<=R'.w.heap.size
 fgn:R'.F=R.F
 ext:Ext R R'
 blk:∀ b,b<R.w.heap.size->(R'.w.heap[b]?=R.w.heap[b]?/\∀ o,(R'.M b o↔R.M b o))∨((w0.heap.size<=b∨ex b)/\¬R.F b)
theorem Ml.nigh {w0:World} {ex:Nat->Prop} {R R':Env} (h:Ml w0 ex R R'):zbq w0 ex R R':=
 ⟨h.os,h.tape,h.output,h.size,h.fgn,h.ext,fun b hb=>(h.blk b hb).imp id fun g=>⟨g.1,g.2.1⟩⟩
structure Ctx where
 w0:World
 M0:Nat->Nat->Prop
 β0:List Nat
 ex:Nat->Prop
 N:Nat
 df:List Deferred
 F0:Nat->Prop
 bo:Nat->Prop
 bex:∀ b,bo b->ex b
 J:Nat->Env->Prop
 stab:∀ k R R',J k R->zbq w0 ex R R'->J k R'
def Ctx.tu (E:Ctx) (b:Nat):Prop:=E.w0.heap.size<=b∨E.ex b
structure JB (G:zk) (E:Ctx) (σ:St) (R:Env) (L:Loc):Prop where
 fit:Fit G E.tu σ.bx R L
 os:R.w.os=E.w0.os
 tape:R.w.tape=E.w0.tape
 output:R.w.output=E.w0.output
 size:E.w0.heap.size<=R.w.heap.size
 blk:∀ b,b<E.w0.heap.size->¬E.ex b->¬R.F b->R.w.heap[b]?=E.w0.heap[b]?/\∀ o,(R.M b o↔E.M0 b o)
 ext:Ext ⟨E.w0,E.M0,fun _=>False⟩ R
 box:∃ more,L.β=E.β0++more
 tub:∀ b∈L.β,E.w0.heap.size<=b∨E.bo b
 flt:∀ b,R.F b->b<R.w.heap.size
 fz:∀ b,b<E.w0.heap.size->(R.F b↔E.F0 b)
 fbx:∀ b∈L.β,¬R.F b
 fow:∀ id e k v b,L.T id=some (e,k,v)->v.ownB=some b->¬R.F b
 free:∀ id,σ.nx<=id->L.T id=none
 log:E.J σ.lg R
theorem JB.tubx {G:zk} {E:Ctx} {σ:St} {R:Env} {L:Loc} (h:JB G E σ R L):∀ b∈L.β,E.tu b:=fun b hb=>(h.tub b hb).imp id (E.bex b)
abbrev Jd (d:Nat):Deferred:={ target:=.collected d,args:=#[] }
def Gg (E:Ctx) (ds:List Deferred) (R:Env):Prop:=∃ l:List Nat,ds=l.map Jd++E.df/\l.Nodup/\∀ d∈l,R.w.heap[d]?=some (.deferred (some []))/\E.w0.heap.size<=d/\¬R.F d
structure qf (G:zk) (E:Ctx) (σ:St) (a:Act) (R:Env) (L:Loc):Prop where
 good:JB G E σ R L
 size:a.tmps.size=E.N
 df:Gg E a.defers R
 tm:∀ t,Rep R L (q9 σ.tm t) (a.tmps.getD t undef)
theorem Gg.near {E:Ctx} {ds:List Deferred} {R R':Env} (h:Gg E ds R) (hn:Ml E.w0 E.ex R R'):Gg E ds R':=by
 obtain ⟨l,e,hl,h⟩:=h
 refine ⟨l,e,hl,fun d hd=>?_⟩
 obtain ⟨h1,h2,h3⟩:=h d hd
 refine ⟨?_,h2,by rw[hn.fgn];exact h3⟩
 rcases hn.blk d (zI h1) with ⟨g,_⟩ | ⟨_,_,⟨cs,t,f,g⟩ | ⟨cs,t,g⟩⟩
 ·rw[g];exact h1
 ·rw[h1]at g;cases g
 ·rw[h1]at g;cases g
theorem JB.move {G:zk} {E:Ctx} {σ:St} {R R':Env} {L L':Loc} {tm':List (Nat×C)} {bx':List (List C)} {nx':Nat} (h:JB G E σ R L) (hn:zbq E.w0 E.ex R R') (hf:Fit G E.tu bx' R' L')
  (hbox:∃ more,L'.β=L.β++more/\∀ b∈more,R.w.heap.size<=b)
  (hown:∀ id e k v b,L'.T id=some (e,k,v)->v.ownB=some b->(∃ i e' k' v',L.T i=some (e',k',v')/\v'.ownB=some b)∨R.w.heap.size<=b)
  (hfree:∀ id,nx'<=id->L'.T id=none):JB G E ⟨tm',bx',nx',σ.lg⟩ R' L':=by
 obtain ⟨more,hm1,hm2⟩:=hbox
 obtain ⟨more0,hm0⟩:=h.box
 refine ⟨hf,hn.os.trans h.os,hn.tape.trans h.tape,hn.output.trans h.output,Nat.le_trans h.size hn.size,fun b hb hx hF=>?_,h.ext.trans hn.ext,⟨more0++more,by rw[hm1,hm0,List.append_assoc]⟩,fun b hb=>?_,fun b hF=>?_,fun b hb=>by rw[hn.fgn];exact h.fz b hb,fun b hb hF=>?_,fun id e k v b ht hv hF=>?_,hfree,E.stab _ _ _ h.log hn⟩
 ·rw[hn.fgn]at hF
  obtain ⟨g1,g2⟩:=h.blk b hb hx hF
  rcases hn.blk b (Nat.lt_of_lt_of_le hb h.size) with ⟨k1,k2⟩ | ⟨k1,_⟩
  ·exact ⟨k1.trans g1,fun o=>(k2 o).trans (g2 o)⟩
  ·rcases k1 with k1 | k1
   ·omega
   ·exact absurd k1 hx
 ·rw[hm1]at hb
  rcases List.mem_append.1 hb with hb | hb
  ·exact h.tub b hb
  ·exact .inl (Nat.le_trans h.size (hm2 b hb))
 ·rw[hn.fgn]at hF;exact Nat.lt_of_lt_of_le (h.flt b hF) hn.size
 ·rw[hn.fgn]at hF
  rw[hm1]at hb
  rcases List.mem_append.1 hb with hb | hb
  ·exact h.fbx b hb hF
  ·have:=h.flt b hF;have:=hm2 b hb;omega
 ·rw[hn.fgn]at hF
  rcases hown id e k v b ht hv with ⟨i,e',k',v',g1,g2⟩ | g
  ·exact h.fow i e' k' v' b g1 g2 hF
  ·have:=h.flt b hF;omega
theorem zW.near {nx nx':Nat} {R R':Env} {L L':Loc} (h:zW nx nx' R L R' L') (w0:World) (ex:Nat->Prop):Ml w0 ex R R':=
 ⟨h.below.os,h.below.tape,h.below.output,h.below.size,h.fgn,h.ext,fun b hb=>.inl ⟨h.below.block b hb,fun o=>h.mt b o hb⟩⟩
def Inv (G:zk) (E:Ctx) (σ:St) (a:Act) (w:World):Prop:=∃ R L,R.w=w/\qf G E σ a R L
section
variable {P:Program} {G:zk} {E:Ctx} {σ:St} {o:Oper} {a:Act}
theorem qf.ev {R:Env} {L:Loc} (h:qf G E σ a R L) (x:Operand):Rep R L (zp G σ.tm x) (a.eval x):=by
 cases x with
 | tmp t=>exact h.tm t
 | const v=>exact qT R L v
 | global g =>
  simp only[zp]
  cases hg:G g with
  | none=>unfold Rep;trivial
  | some cs=>exact jC.2 ⟨g,0,rfl,(h.good.fit.glob g cs hg).1⟩
 | func f=>exact Jy.2 ⟨#[],#[],rfl,zg.2 rfl,zg.2 rfl⟩
theorem qf.put {R:Env} {L:Loc} (h:qf G E σ a R L) {dst:Option Tmp} {c:C} {v:Value} (hd:YS E.N dst) (hr:Rep R L c v):qf G E (σ.put dst c) (a.put dst v) R L:=by
 cases dst with
 | none=>exact h
 | some d =>
  refine ⟨{ h.good with },by simpa [Act.put] using h.size,h.df,fun t=>?_⟩
  have hlt:d<a.tmps.size:=by rw[h.size];exact hd
  show Rep R L (if t=d then c else q9 σ.tm t) ((a.tmps.setIfInBounds d v).getD t undef)
  split
  ·subst_vars
   simpa [Array.getD_eq_getD_getElem?,hlt] using hr
  ·rename_i hnt
   have:=h.tm t
   have hne:d≠t:=fun e=>hnt e.symm
   simpa [Array.getD_eq_getD_getElem?,Array.getElem?_setIfInBounds_ne hne] using this
theorem JB.step {nx':Nat} {R R':Env} {L L':Loc} (hn:σ.nx<=nx') (h:JB G E σ R L) (st:zW σ.nx nx' R L R' L'):JB G E ⟨σ.tm,σ.bx,nx',σ.lg⟩ R' L':=by
 have hfree:zmf L σ.nx nx':=fun id h1 _=>h.free id h1
 refine h.move (st.near _ _).nigh (h.fit.step hfree st) ⟨[],by rw[st.box,List.append_nil],fun b hb=>by cases hb⟩ (fun id e k v b ht hv=>?_) fun id hi=>?_
 ·rcases st.cases ht with hi | ⟨hi,hj⟩
  ·exact .inl ⟨id,e,k,v,hi,hv⟩
  ·exact .inr ((st.new id e k v hi hj ht).block hv).1
 ·rw[st.old id (.inr hi)];exact h.free id (Nat.le_trans hn hi)
theorem qf.step {nx':Nat} {R R':Env} {L L':Loc} (hn:σ.nx<=nx') (h:qf G E σ a R L) (st:zW σ.nx nx' R L R' L'):qf G E ⟨σ.tm,σ.bx,nx',σ.lg⟩ a R' L':=
 ⟨h.good.step hn st,h.size,h.df.near (st.near _ _),fun t=>Rep.ext st.ext (st.le fun id h1 _=>h.good.free id h1) _ _ (h.tm t)⟩
abbrev JF (G:zk) (E:Ctx) (a:Act) (K:C->St->Prop) (v:Value) (w':World):Prop:=∃ c σ' R L,R.w=w'/\qf G E σ' a R L/\Rep R L c v/\K c σ'
theorem Zc {c:C} {nx':Nat} {K:C->St->Prop} {R:Env} {L:Loc} (hp:zo P G σ.bx (zp G σ.tm) σ.nx o c nx') (h:qf G E σ a R L) (hK:K c ⟨σ.tm,σ.bx,nx',σ.lg⟩):qA P o a.eval R.w (JF G E a K):=
 (hp.2 _ R L a.eval h.good.fit (fun id h1 _=>h.good.free id h1) h.ev).mono fun v w' ⟨R',L',hw,st,hr⟩=>⟨c,_,R',L',hw,h.step hp.1 st,hr,hK⟩
theorem qf.newBox {R:Env} {L:Loc} (h:qf G E σ a R L) (cs:List C) (vs:Array Value) (ty:TypeId) (hr:zm R L cs vs.toList) (h1:∀ v∈vs.toList,v.oneCell'=true) :
  ∃ R' L',R'.w=R.w.alloc (.cells vs ty (0,0))/\qf G E ⟨σ.tm,σ.bx++[cs],σ.nx,σ.lg⟩ a R' L'/\Rep R' L' (.ptr σ.bx.length 0) (.pointer (some ⟨R.w.heap.size,0,none⟩)):=by
 have hb:Below R.w.heap.size R.w (R.w.alloc (.cells vs ty (0,0))):=(Below.refl _ _).alloc (Nat.le_refl _) _
 have hmt:∀ b o,b<R.w.heap.size->(((b<R.w.heap.size/\R.M b o)∨b=R.w.heap.size)↔R.M b o):=fun b o hlt=>⟨fun h'=>by rcases h' with h' | h';exact h'.2;omega,fun h'=>.inl ⟨hlt,h'⟩⟩
 have hext:Ext R ⟨R.w.alloc (.cells vs ty (0,0)),fun b o=>(b<R.w.heap.size/\R.M b o)∨b=R.w.heap.size,R.F⟩:=Ext.of_below hb hmt
 have hnear:Ml E.w0 E.ex R ⟨R.w.alloc (.cells vs ty (0,0)),fun b o=>(b<R.w.heap.size/\R.M b o)∨b=R.w.heap.size,R.F⟩:=
  ⟨hb.os,hb.tape,hb.output,hb.size,rfl,hext,fun b hlt=>.inl ⟨hb.block b hlt,fun o=>hmt b o hlt⟩⟩
 have hlen:=h.good.fit.boxes.len
 have hle:zx L ⟨L.β++[R.w.heap.size],L.T⟩:=⟨fun i b e=>by
  have hi:i<L.β.length:=(List.getElem?_eq_some_iff.1 e).1
  rw[List.getElem?_append_left hi];exact e,fun _ _ e=>e⟩
 refine ⟨⟨R.w.alloc (.cells vs ty (0,0)),fun b o=>(b<R.w.heap.size/\R.M b o)∨b=R.w.heap.size,R.F⟩,⟨L.β++[R.w.heap.size],L.T⟩,rfl,
  ⟨h.good.move hnear.nigh ⟨h.good.fit.glob.ext hext,⟨by simp[hlen],?_,fun i b cs' hi hc=>?_⟩,⟨fun id e k v ht=>?_,fun id id' e k v e' k' v' b=>h.good.fit.owns.apart id id' e k v e' k' v' b⟩,fun g hg=>?_⟩
   ⟨[R.w.heap.size],rfl,fun b hb=>by simp at hb;omega⟩ (fun id e k v b ht hv=>.inl ⟨id,e,k,v,ht,hv⟩) h.good.free,h.size,h.df.near hnear,fun t=>Rep.ext hext hle _ _ (h.tm t)⟩,jH.2 ⟨R.w.heap.size,?_,rfl⟩⟩
 ·rw[List.nodup_append]
  refine ⟨h.good.fit.boxes.nodup,by simp,fun x hx y hy e=>?_⟩
  have:=h.good.fit.β_lt x hx
  simp at hy;omega
 ·rcases Nat.lt_or_ge i L.β.length with hl | hl
  ·rw[List.getElem?_append_left hl]at hi
   rw[List.getElem?_append_left (by omega)]at hc
   obtain ⟨us,ty',e1,e2,e3,e4⟩:=h.good.fit.boxes.box i b cs' hi hc
   exact ⟨us,ty',(Below.heap_alloc R.w _ b (zI e1)).trans e1,zm.ext hext hle _ _ e2,e3,fun o=>.inl ⟨zI e1,e4 o⟩⟩
  ·rw[List.getElem?_append_right hl]at hi
   rw[List.getElem?_append_right (by omega)]at hc
   have h0:i-L.β.length=0:=by
    have:=(List.getElem?_eq_some_iff.1 hi).1
    simp at this;omega
   rw[h0]at hi
   rw[show i-σ.bx.length=0 by omega]at hc
   simp at hi hc
   subst hi hc
   exact ⟨vs,ty,heap_alloc_new _ _,zm.ext hext hle _ _ hr,h1,fun o=>.inr rfl⟩
 ·refine (h.good.fit.owns.own id e k v ht).move fun g _ e2 hlt e7=>⟨e2,Below.heap_alloc R.w _ g hlt,fun hx=>?_,fun o ho=>.inl ⟨hlt,ho⟩⟩
  rcases List.mem_append.1 hx with hx | hx
  ·exact e7 hx
  ·simp at hx;omega
 ·exact h.good.fit.base g (Nat.le_trans hb.size hg)
 ·simp[hlen]
def zfc (P:Program) (t:TypeId) (σ:St) (K:C->St->Prop):Prop:=
 match lay P t with
 | some ⟨_,_,_,some z⟩=>(z.all Value.oneCell')=true/\K (.ptr σ.bx.length 0) ⟨σ.tm,σ.bx++[z.map zt],σ.nx,σ.lg⟩
 | _=>False
theorem MA {t:TypeId} (ho:o.op = .alloc t) {K:C->St->Prop} {R:Env} {L:Loc} (h:qf G E σ a R L) (hK:zfc P t σ K):qA P o a.eval R.w (JF G E a K):=by
 unfold zfc at hK
 split at hK
 ·rename_i kd s b z hl
  obtain ⟨i,d,hi,hd,_,_,_,hz⟩:=zL hl
  cases hiz:i.zero with
  | none=>simp[hiz]at hz
  | some zv =>
   simp only[hiz,Option.map_some,Option.some.injEq]at hz
   subst hz
   obtain ⟨R',L',e1,e2,e3⟩:=h.newBox (zv.cells.toList.map zt) zv.cells t (JR _) (fun v hv=>List.all_eq_true.1 hK.1 v hv)
   refine qA.value (w':=R.w.alloc (.cells zv.cells t (0,0))) (v:=.pointer (some ⟨R.w.heap.size,0,none⟩)) ?_ ⟨_,_,R',L',e1,e2,e3,hK.2⟩
   have hzz:(zeroValue t).run P R.w = .ok zv R.w:=by simp[zeroValue,typeInfo,hi,hiz]
   unfold execOp
   simp[ho,Instr.alloc,hzz,newVar,newRow]
 ·exact hK.elim
def zqn (c:C) (σ:St) (K:C->St->Prop):Prop:=
 c.partB=true/\(c.cells.all C.cellB)=true/\K (.ptr σ.bx.length 0) ⟨σ.tm,σ.bx++[c.cells],σ.nx,σ.lg⟩
theorem zeJ {t:TypeId} {x:Operand} (ho:o.op = .box t x) {K:C->St->Prop} {R:Env} {L:Loc} (h:qf G E σ a R L) (hK:zqn (zp G σ.tm x) σ K):qA P o a.eval R.w (JF G E a K):=by
 obtain ⟨h1,h2,hK⟩:=hK
 have hc:=Y1 (h.ev x) h1
 obtain ⟨R',L',e1,e2,e3⟩:=h.newBox (zp G σ.tm x).cells (a.eval x).cells t hc (YD hc h2)
 refine qA.value (w':=R.w.alloc (.cells (a.eval x).cells t (0,0))) (v:=.pointer (some ⟨R.w.heap.size,0,none⟩)) ?_ ⟨_,_,R',L',e1,e2,e3,hK⟩
 unfold execOp
 simp[ho,Instr.box,newVar,newRow]
def Qz (P:Program) (t:TypeId) (p c:C) (σ:St) (K:C->St->Prop):Prop:=
 match lay P t,p with
 | some L,.ptr i off=>match σ.bx[i]? with
  | some cs=>c.partB=true/\(c.cells.all C.cellB)=true/\c.cells.length=L.size/\off+L.size<=cs.length/\K .any ⟨σ.tm,σ.bx.set i (cs.take off++c.cells++cs.drop (off+L.size)),σ.nx,σ.lg⟩
  | none=>False
 | _,_=>False
theorem qZ (w:World) (g:Nat) (cs:Array Value) (b o:Nat) (h:b≠g):(w.setRow g cs).cell? ⟨b,o,none⟩=w.cell? ⟨b,o,none⟩:=by
 simp[World.cell?,setRow_other w g b cs h]
theorem qf.setBox {R:Env} {L:Loc} (h:qf G E σ a R L) {i b:Nat} {cs cs':List C} {vs us:Array Value} {ty:TypeId} (hi:L.β[i]?=some b) (hc:σ.bx[i]?=some cs) (hh:R.w.heap[b]?=some (.cells vs ty (0,0)))
  (hM:∀ o,R.M b o) (hr:zm R L cs' us.toList) (h1:∀ v∈us.toList,v.oneCell'=true):qf G E ⟨σ.tm,σ.bx.set i cs',σ.nx,σ.lg⟩ a ⟨R.w.setRow b us,R.M,R.F⟩ L:=by
 have hext:Ext R ⟨R.w.setRow b us,R.M,R.F⟩:=⟨fun b' o v hcell hm=>⟨by
  have hne:b'≠b:=fun e=>hm (e▸hM o)
  rw[qZ R.w b us b' o hne];exact hcell,hm⟩,fun c cs ty fl hc hm=>⟨by rw[setRow_other R.w b c us fun e=>hm 0 (e▸hM 0)];exact hc,hm⟩⟩
 have hbm:b∈L.β:=List.mem_of_getElem? hi
 have hnear:Ml E.w0 E.ex R ⟨R.w.setRow b us,R.M,R.F⟩:=⟨rfl,rfl,rfl,by rw[size_setRow];exact Nat.le_refl _,rfl,hext,fun k hk=>by
  by_cases hkb:k=b
  ·subst hkb;exact .inr ⟨h.good.tubx _ hbm,h.good.fbx _ hbm,.inl ⟨_,_,_,hh⟩⟩
  ·exact .inl ⟨setRow_other R.w b k us hkb,fun _=>Iff.rfl⟩⟩
 have hil:i<σ.bx.length:=(List.getElem?_eq_some_iff.1 hc).1
 refine ⟨h.good.move hnear.nigh ⟨h.good.fit.glob.ext hext,⟨by simp[h.good.fit.boxes.len],h.good.fit.boxes.nodup,fun j b' cs2 hj hc2=>?_⟩,⟨fun id e k v ht=>?_,h.good.fit.owns.apart⟩,fun g hg=>?_⟩
  ⟨[],by rw[List.append_nil],fun b hb=>by cases hb⟩ (fun id e k v b ht hv=>.inl ⟨id,e,k,v,ht,hv⟩) h.good.free,h.size,h.df.near hnear,fun t=>Rep.ext hext (zx.refl _) _ _ (h.tm t)⟩
 ·by_cases hij:j=i
  ·subst hij
   rw[hi]at hj;cases hj
   simp only[List.getElem?_set_self hil]at hc2
   cases hc2
   exact ⟨us,ty,setRow_heap R.w b vs us ty (0,0) hh,zm.ext hext (zx.refl _) _ _ hr,h1,hM⟩
  ·simp only[List.getElem?_set_ne (fun e=>hij e.symm)]at hc2
   obtain ⟨us',ty',e1,e2,e3,e4⟩:=h.good.fit.boxes.box j b' cs2 hj hc2
   have hne:b'≠b:=fun e=>by
    subst e
    have hn:=h.good.fit.boxes.nodup
    have hlj:j<L.β.length:=(List.getElem?_eq_some_iff.1 hj).1
    have hli:i<L.β.length:=(List.getElem?_eq_some_iff.1 hi).1
    exact hij ((List.getElem?_inj hlj hn).1 (hj.trans hi.symm))
   exact ⟨us',ty',by rw[setRow_other R.w b b' us hne];exact e1,zm.ext hext (zx.refl _) _ _ e2,e3,e4⟩
 ·exact (h.good.fit.owns.own id e k v ht).move fun g _ e2 hlt e7=>⟨e2,setRow_other R.w b g us fun e=>e7 (e▸hbm),e7,fun _ h=>h⟩
 ·rw[size_setRow]at hg;exact h.good.fit.base g hg
theorem ZB {t:TypeId} {p x:Operand} (ho:o.op = .store t p x) {K:C->St->Prop} {R:Env} {L:Loc} (h:qf G E σ a R L) (hK:Qz P t (zp G σ.tm p) (zp G σ.tm x) σ K):qA P o a.eval R.w fun v w'=>∃ c σ' R',R'.w=w'/\qf G E σ' a R' L/\Ext R R'/\Rep R' L c v/\K c σ':=by
 unfold Qz at hK
 split at hK
 ·rename_i Ly i off hl hev
  split at hK
  ·rename_i cs hcs
   obtain ⟨h1,h2,h3,h4,hK⟩:=hK
   have hp:=h.ev p;rw[hev,jH]at hp
   obtain ⟨b,hb,hpv⟩:=hp
   have hx:=Y1 (h.ev x) h1
   obtain ⟨vs,ty,e1,e2,e3,e4⟩:=h.good.fit.boxes.box i b cs hb hcs
   have hxl:=zl hx
   have hvl:=zl e2
   simp only[Array.length_toList]at hxl hvl
   have hone:=YD hx h2
   have hst:=run_storeCells_at P b off ty (a.eval x).cells.toList 0 vs R.w e1 (by simp;omega) hone
   simp only[Nat.add_zero]at hst
   have hinv:=h.setBox (us:=(vs.toList.take off++(a.eval x).cells.toList++vs.toList.drop (off+(a.eval x).cells.toList.length)).toArray) (cs':=cs.take off++(zp G σ.tm x).cells++cs.drop (off+Ly.size)) hb hcs e1 e4 (by
     have:off+(a.eval x).cells.toList.length=off+Ly.size:=by simp;omega
     rw[this]
     exact zi (zi (qd off e2) hx) (qp _ e2)) (fun v hv=>by
     simp only[List.mem_append]at hv
     rcases hv with (hv | hv) | hv
     ·exact e3 v (List.mem_of_mem_take hv)
     ·exact hone v hv
     ·exact e3 v (List.mem_of_mem_drop hv))
   unfold qA
   have hrun:(execOp a.eval o).run P R.w = .ok .skip (R.w.setRow b (vs.toList.take off++(a.eval x).cells.toList++vs.toList.drop (off+(a.eval x).cells.toList.length)).toArray):=by
    have hsz:=qg hl R.w
    unfold execOp
    simp only[ho,hpv,Instr.storeAt,Instr.sureAddr,storeVar,Sem.run_bind,Sem.run_pure,Result.andThen_ok,hsz]
    rw[if_neg (by omega)]
    simp only[Sem.run_bind,hst,Result.andThen_ok,Sem.run_pure]
   rw[hrun]
   exact ⟨.any,_,_,rfl,hinv,⟨fun b' o v hcell hm=>⟨by
    have hne:b'≠b:=fun e=>hm (e▸e4 o)
    rw[qZ R.w b _ b' o hne];exact hcell,hm⟩,fun c cs ty fl hc hm=>⟨by rw[setRow_other R.w b c _ fun e=>hm 0 (e▸e4 0)];exact hc,hm⟩⟩,by unfold Rep;trivial,hK⟩
  ·exact hK.elim
 ·exact hK.elim
theorem x4 {t:TypeId} {p x:Operand} (ho:o.op = .store t p x) {K:C->St->Prop} {R:Env} {L:Loc} (h:qf G E σ a R L) (hK:Qz P t (zp G σ.tm p) (zp G σ.tm x) σ K):qA P o a.eval R.w (JF G E a K):=
 (ZB ho h hK).mono fun v w' ⟨c,σ',R',h1,h2,_,h3,h4⟩=>⟨c,σ',R',L,h1,h2,h3,h4⟩
end
end
section
open Go.RowKit
section
variable {P:Program} {G:zk} {E:Ctx} {σ:St} {o:Oper} {a:Act}
def zbg (id:Nat):List (Nat×C)->List (Nat×C)
 | []=>[]
 | (t,c) :: r=>(t,c.dg id) :: zbg id r
def Mp (id:Nat):List (List C)->List (List C)
 | []=>[]
 | cs :: r=>C.dgL id cs :: Mp id r
theorem ze4 (id:Nat):∀ (tm:List (Nat×C)) (t:Nat),q9 (zbg id tm) t=(q9 tm t).dg id
 | [],t=>by simp only[zbg,q9];unfold C.dg;rfl
 | (u,c) :: r,t=>by
  simp only[zbg,q9]
  split
  ·rfl
  ·exact ze4 id r t
theorem Vq (id:Nat):∀ bx:List (List C),(Mp id bx).length=bx.length
 | []=>rfl
 | c :: r=>by simp[Mp,Vq id r]
theorem vM (id:Nat):∀ (bx:List (List C)) (i:Nat),(Mp id bx)[i]?=(bx[i]?).map (C.dgL id)
 | [],i=>by simp[Mp]
 | c :: r,0=>by simp[Mp]
 | c :: r,i+1=>by simp[Mp,vM id r i]
def xH (P:Program) (t:TypeId) (s x:C) (σ:St) (K:C->St->Prop):Prop:=
 match s with
 | .own id e k rows=>match lay P t with
  | some ⟨.slice e',_,_,_⟩=>match lay P e with
   | some ⟨_,k',by',some z⟩=>match x.rows? k with
    | some xs=>e'=e/\k'=k/\z.length=k/\0<k/\rows.length+xs.length<=9223372036854775807/\(rows.length+xs.length)*by'<=140737488355328/\K (.own id e k (rows++xs)) ⟨zbg id σ.tm,Mp id σ.bx,σ.nx,σ.lg⟩
    | none=>False
   | _=>False
  | _=>False
 | _=>False
theorem qf.regrow {R:Env} {L:Loc} (h:qf G E σ a R L) {id e k:Nat} {v0 v':Value} (hid:L.T id=some (e,k,v0)) {R':Env} (hext:Ext R R') (hos:R'.w.os=R.w.os) (htp:R'.w.tape=R.w.tape) (hout:R'.w.output=R.w.output) (hsz:R.w.heap.size<=R'.w.heap.size) (hfgn:R'.F=R.F)
  (hblk:∀ b,b<R.w.heap.size->v0.ownB≠some b->R'.w.heap[b]?=R.w.heap[b]?/\∀ o,R'.M b o↔R.M b o)
  (hown:Xp E.tu R' L.β e k v') (hnew:∀ b,v'.ownB=some b->v0.ownB=some b∨R.w.heap.size<=b) :
  qf G E ⟨zbg id σ.tm,Mp id σ.bx,σ.nx,σ.lg⟩ a R' ⟨L.β,fun i=>if i=id then some (e,k,v') else L.T i⟩:=by
 have hdgb:∀ (i b:Nat),L.β[i]?=some b->(Loc.mk L.β (fun i=>if i=id then some (e,k,v') else L.T i)).β[i]?=some b:=fun i b hb=>hb
 have hdgt:∀ i x,i≠id->L.T i=some x->(Loc.mk L.β (fun i=>if i=id then some (e,k,v') else L.T i)).T i=some x:=fun i x hne hi=>by
  show (if i=id then _ else L.T i)=some x
  rw[if_neg hne];exact hi
 have hv0:=h.good.fit.owns.own id e k v0 hid
 have hother:∀ i e1 k1 v1 b,i≠id->L.T i=some (e1,k1,v1)->v1.ownB=some b->v0.ownB≠some b:=fun i e1 k1 v1 b hne h1 h2 h3=>hne (h.good.fit.owns.apart i id e1 k1 v1 e k v0 b h1 hid h2 h3)
 have hbase:∀ b,v0.ownB=some b->E.tu b/\b<R.w.heap.size/\b∉L.β:=fun b hb=>hv0.block hb
 have hcells:∀ b,v0.ownB=some b->(∃ cs t f,R.w.heap[b]?=some (.cells cs t f))∨∃ es cl,R.w.heap[b]?=some (.map es cl):=fun b hb=>hv0.held hb
 have hnear:Ml E.w0 E.ex R R':=⟨hos,htp,hout,hsz,hfgn,hext,fun b hb=>by
  by_cases hvb:v0.ownB=some b
  ·exact .inr ⟨(hbase b hvb).1,h.good.fow id e k v0 b hid hvb,hcells b hvb⟩
  ·exact .inl (hblk b hb hvb)⟩
 refine ⟨h.good.move hnear.nigh ⟨h.good.fit.glob.ext hext,⟨by rw[Vq];exact h.good.fit.boxes.len,h.good.fit.boxes.nodup,fun i b cs hi hc=>?_⟩,⟨fun i e1 k1 v1 ht=>?_,fun i j e1 k1 v1 e2 k2 v2 b h1 h2 h3 h4=>?_⟩,fun g hg=>h.good.fit.base g (Nat.le_trans hsz hg)⟩
  ⟨[],by rw[List.append_nil],fun b hb=>by cases hb⟩ (fun i e1 k1 v1 b ht hv=>?_) (fun i hi=>?_),h.size,h.df.near hnear,fun t=>?_⟩
 ·simp only[vM]at hc
  cases hq:σ.bx[i]? with
  | none=>simp[hq]at hc
  | some cs0 =>
   simp[hq]at hc
   subst hc
   obtain ⟨vs,ty,e1,e2,e3,e4⟩:=h.good.fit.boxes.box i b cs0 hi hq
   have hne:v0.ownB≠some b:=fun e'=>(hbase b e').2.2 (List.mem_of_getElem? hi)
   obtain ⟨g1,g2⟩:=hblk b (zI e1) hne
   exact ⟨vs,ty,by rw[g1];exact e1,zm.dg hdgb hdgt _ _ (zm.ext hext (zx.refl _) _ _ e2),e3,fun o=>(g2 o).2 (e4 o)⟩
 ·simp only at ht
  split at ht
  ·cases ht;exact hown
  ·rename_i hne
   refine (h.good.fit.owns.own i e1 k1 v1 ht).move fun g hv q2 hlt q7=>?_
   obtain ⟨g1,g2⟩:=hblk g hlt (hother i e1 k1 v1 g hne ht hv)
   exact ⟨q2,g1,q7,fun o ho=>(g2 o).2 ho⟩
 ·simp only at h1 h2
  split at h1<;>split at h2
  ·omega
  ·rename_i hi hj
   cases h1
   rcases hnew b h3 with g | g
   ·exact absurd g (hother j e2 k2 v2 b hj h2 h4)
   ·have:=((h.good.fit.owns.own j e2 k2 v2 h2).block h4).2.1;omega
  ·rename_i hi hj
   cases h2
   rcases hnew b h4 with g | g
   ·exact absurd g (hother i e1 k1 v1 b hi h1 h3)
   ·have:=((h.good.fit.owns.own i e1 k1 v1 h1).block h3).2.1;omega
  ·exact h.good.fit.owns.apart i j e1 k1 v1 e2 k2 v2 b h1 h2 h3 h4
 ·simp only at ht
  split at ht
  ·cases ht
   rcases hnew b hv with g | g
   ·exact .inl ⟨id,e,k,v0,hid,g⟩
   ·exact .inr g
  ·exact .inl ⟨i,e1,k1,v1,ht,hv⟩
 ·show (if i=id then _ else L.T i)=none
  have hne:i≠id:=fun e'=>by
   subst e'
   rw[h.good.free i hi]at hid;cases hid
  rw[if_neg hne];exact h.good.free i hi
 ·simp only[ze4]
  exact Rep.dg hdgb hdgt _ _ (Rep.ext hext (zx.refl _) _ _ (h.tm t))
theorem YP {t ty e:TypeId} {i:TypeInfo} (ht:P.underlying t=some (.slice e)) (hi:P.info? e=some i) (w:World)
  (g sLen sCap:Nat) (cur:Array Value) (e':TypeId) (hg:w.heap[g]?=some (.cells cur e' (0,0)))
  (a:Addr) (m c:Nat) (news:List Value) (hl:news.length=m*i.size) (hnews:∀ (j:Nat) u,news[j]?=some u->w.cell? (a.add j)=some u) (h1:∀ u∈news,u.oneCell'=true)
  (hroom:sLen+m<=sCap) (hfit:sLen*i.size+news.length<=cur.size) :
  (Builtin.append_ #[t,t] ty #[.slice (some ⟨g,0,none⟩) sLen sCap,.slice (some a) m c]).run P w =
   .ok (.slice (some ⟨g,0,none⟩) (sLen+m) sCap) (w.setRow g (cur.toList.take (sLen*i.size)++news++cur.toList.drop (sLen*i.size+news.length)).toArray):=by
 have hf:=run_firstCells_some (P:=P) w i.size m a m c news hl hnews
 have hst:=run_storeCells_at P g (sLen*i.size) e' news 0 cur w hg (by simpa using hfit) h1
 simp only[Nat.add_zero]at hst
 simp[Builtin.append_,run_underlying ht,sizeOf,typeInfo,hi,Builtin.lenOf,hroom,hf,Addr.add_lit,hst]
theorem ZL {R':Env} {g k:Nat} {e:TypeId} {rows:List (List C)} {vs:List Value} {cur:Array Value} {R:Env} (hext:Ext R R') (hh:R'.w.heap[g]?=some (.cells cur e (0,0))) (hk:∀ r∈rows,r.length=k)
  (hrep:zm R zu rows.flatten vs) (hone:∀ v∈vs,v.oneCell'=true) (htake:cur.toList.take (rows.length*k)=vs) (hM:∀ o,o<rows.length*k->¬R'.M g o):zA R' rows k g 0:=by
 refine qr fun i row hrow=>⟨hk row (List.mem_of_getElem? hrow),zK fun j c hc=>?_⟩
 have hkr:=hk row (List.mem_of_getElem? hrow)
 have hj:j<k:=by rw[←hkr];exact (List.getElem?_eq_some_iff.1 hc).1
 have hi:i<rows.length:=(List.getElem?_eq_some_iff.1 hrow).1
 have hf:=YC hk i j row hrow hj
 rw[hc]at hf
 obtain ⟨v,hv,hr⟩:=jA hrep _ _ hf
 have hlt2:i*k+j<rows.length*k:=by
  have:(i+1)*k<=rows.length*k:=Nat.mul_le_mul_right _ hi
  rw[Nat.add_mul]at this;omega
 refine ⟨v,?_,hM _ (by omega),Rep.ext hext (zx.refl _) _ _ hr,hone v (List.mem_of_getElem? hv)⟩
 rw[cell_of_row R'.w g (0+i*k+j) cur e (0,0) hh]
 rw[←htake,List.getElem?_take]at hv
 rw[Nat.zero_add]
 rw[if_pos hlt2]at hv
 simpa using hv
theorem GV {t:TypeId} {s x:Operand} (ho:o.op = .call { callee:=.builtin .append,args:=#[s,x],argTypes:=#[t,t] }) {K:C->St->Prop} {R:Env} {L:Loc} (h:qf G E σ a R L) (hK:xH P t (zp G σ.tm s) (zp G σ.tm x) σ K):qA P o a.eval R.w (JF G E a K):=by
 unfold xH at hK
 split at hK
 ·rename_i id e k rows hev
  split at hK
  ·rename_i e' s1 b1 z1 hl
   have ht:=zG hl rfl
   split at hK
   ·rename_i kd k' by' z hle
    obtain ⟨i,d,hi,hd,_,hsz,hbyt,hzz⟩:=zL hle
    simp only at hsz hbyt hzz
    split at hK
    ·rename_i xs hxs
     obtain ⟨rfl,rfl,hzk,hk0,h63,hby,hK⟩:=hK
     have hs:=h.ev s;rw[hev,JY]at hs
     obtain ⟨hid,aa,cap,ev1,hcap,hcm,hrows⟩:=hs
     rw[ev1]at hid
     obtain ⟨ax,capx,ex,hx1,hx2,hx3⟩:=(h.ev x).rows hxs
     have hexec:∀ v' w',(Builtin.append_ #[t,t] o.type #[a.eval s,a.eval x]).run P R.w = .ok v' w'->(execOp a.eval o).run P R.w = .ok (.value v') w':=fun v' w' hrun=>by
      unfold execOp
      simp only[ho,resolve,invoke,builtin,Sem.run_bind,Sem.run_pure,Result.andThen_ok,List.map_toArray,List.map_cons,List.map_nil,hrun]
     by_cases hne:xs = []
     ·subst hne
      have hrun:=hexec _ _ (by rw[ev1,ex];exact qP ht hi R.w aa ax rows.length cap capx hcap)
      have hinv:=h.regrow hid (Ext.refl R) rfl rfl rfl (Nat.le_refl _) rfl (fun b hb hn=>⟨rfl,fun o=>Iff.rfl⟩) (h.good.fit.owns.own id e' k' _ hid) (fun b hb=>.inl hb)
      refine qA.value hrun ⟨_,_,R,_,rfl,hinv,JY.2 ⟨if_pos rfl,aa,cap,?_,?_,hcm,?_⟩,hK⟩
      ·simp
      ·simpa using hcap
      ·simpa using hrows
     ·rcases hx3 with hx3 | ⟨bb,off,rfl,hxr⟩
      ·exact absurd hx3 hne
      ·cases hiz:i.zero with
       | none=>simp[hiz]at hzz
       | some zv =>
        simp only[hiz,Option.map_some,Option.some.injEq]at hzz
        have hzc:zv.cells.size=k':=by rw[←hzk,hzz];simp
        obtain ⟨hxc,hxl⟩:=qm hxr
        obtain ⟨news,n1,n2,n3⟩:=qY hxc
        have hnl:=zl n2
        have hxk:∀ r∈xs,r.length=k':=fun r hr=>by
         obtain ⟨i,hi,rfl⟩:=List.getElem_of_mem hr
         exact (qE hxr i _ (List.getElem?_eq_getElem hi)).1
        have hlen:(rows++xs).length=rows.length+xs.length:=List.length_append
        have hn1':∀ (j:Nat) v,news[j]?=some v->R.w.cell? ((⟨bb,off,none⟩:Addr).add j)=some v:=fun j v hj=>by rw[Addr.add_none];exact n1 j v hj
        have hmpos:0<xs.length:=List.length_pos_iff.2 hne
        -- the new block, where it grows
        have grow:∀ (olds:List Value),zm R zu rows.flatten olds->(∀ v∈olds,v.oneCell'=true)->olds.length=rows.length*k'->(∀ r∈rows,r.length=k') ->
          (Builtin.append_ #[t,t] o.type #[a.eval s,a.eval x]).run P R.w = .ok (.slice (some ⟨R.w.heap.size,0,none⟩) (rows.length+xs.length) (grownCap R.w (rows.length+xs.length) cap e'))
           (R.w.drew.alloc (.cells (olds.toArray++news.toArray++Builtin.zeroCells zv.cells (grownCap R.w (rows.length+xs.length) cap e'-(rows.length+xs.length))) e'))->qA P o a.eval R.w (JF G E a K):=by
         intro olds p1 p2 p3 p4 hrun
         have hall:∀ r∈rows++xs,r.length=k':=fun r hr=>by
          rcases List.mem_append.1 hr with hr | hr
          ·exact p4 r hr
          ·exact hxk r hr
         have hge:=grownCap_ge R.w (rows.length+xs.length) cap e'
         have hgm:grownCap R.w (rows.length+xs.length) cap e'<=maxLen:=grownCap_le_maxLen _ _ _ _ (by unfold maxLen;omega)
         generalize grownCap R.w (rows.length+xs.length) cap e'=nc at hrun hge hgm
         have hcs:(olds.toArray++news.toArray++Builtin.zeroCells zv.cells (nc-(rows.length+xs.length))).size=nc*k':=by
          simp only[Array.size_append,List.size_toArray,size_zeroCells,hzc,p3,hnl,hxl,←Nat.add_mul]
          congr 1;omega
         have htk:(olds.toArray++news.toArray++Builtin.zeroCells zv.cells (nc-(rows.length+xs.length))).toList.take ((rows++xs).length*k')=olds++news:=by
          rw[hlen,Nat.add_mul,←p3,←hxl,←hnl]
          simp only[Array.toList_append]
          rw[←List.length_append,List.take_left']
          simp
         generalize (olds.toArray++news.toArray++Builtin.zeroCells zv.cells (nc-(rows.length+xs.length)))=cur at hrun hcs htk
         have hb:Below R.w.heap.size R.w (R.w.drew.alloc (.cells cur e')):=((Below.refl _ _).drew).alloc (Nat.le_refl _) _
         have hext:Ext R ⟨R.w.drew.alloc (.cells cur e'),fun b o=>(b<R.w.heap.size/\R.M b o)∨(b=R.w.heap.size/\(rows++xs).length*k'<=o),R.F⟩:=
          Ext.of_below hb fun b o hlt=>⟨fun h'=>by rcases h' with h' | h';exact h'.2;omega,fun h'=>.inl ⟨hlt,h'⟩⟩
         have hh:(R.w.drew.alloc (.cells cur e')).heap[R.w.heap.size]?=some (.cells cur e' (0,0)):=heap_alloc_new R.w.drew _
         have hinv:=h.regrow hid (v':=.slice (some ⟨R.w.heap.size,0,none⟩) (rows.length+xs.length) nc) hext hb.os hb.tape hb.output hb.size rfl
          (fun b hlt _=>⟨hb.block b hlt,fun o=>⟨fun h'=>by rcases h' with h' | h';exact h'.2;omega,fun h'=>.inl ⟨hlt,h'⟩⟩⟩)
          (.inr (.inl ⟨_,_,nc,cur,_,rfl,h.good.fit.base _ (Nat.le_refl _),hh,hge,hgm,hcs,fun hx=>by have:=h.good.fit.β_lt _ hx;omega,fun o ho=>.inr ⟨rfl,by rw[hlen];exact ho⟩⟩))
          (fun b hb'=>.inr (by cases hb';exact Nat.le_refl _))
         refine qA.value (hexec _ _ hrun) ⟨_,_,_,_,rfl,hinv,JY.2 ⟨if_pos rfl,_,nc,by rw[hlen],by rw[hlen];exact hge,hgm,.inr ⟨_,0,rfl,ZL hext hh hall (by rw[List.flatten_append];exact zi p1 n2) (fun v hv=>?_) htk fun o ho=>?_⟩⟩,hK⟩
         ·rcases List.mem_append.1 hv with hv | hv
          ·exact p2 v hv
          ·exact n3 v hv
         ·rintro (h' | h')
          ·omega
          ·omega
        rcases h.good.fit.owns.own id e' k' _ hid with hnil | ⟨g,n',cap',cur,tyq,q1,q2,q3,q4,q5,q6,q7,q8⟩ | ⟨_,_,_,_,hmap,_⟩
        ·obtain ⟨rfl,hr0,rfl⟩:=Value.slice.inj hnil
         have hr0':rows = []:=List.eq_nil_of_length_eq_zero hr0
         subst hr0'
         refine grow [] (zg.2 rfl) (fun v h=>by cases h) (by simp) (fun r h=>by cases h) ?_
         have:=run_append_nil (P:=P) R.w t o.type e' i zv ht hi hiz ⟨bb,off,none⟩ xs.length capx news (by rw[hnl,hxl,hsz]) hn1' hmpos (by omega) (by rw[←hbyt];simp only[List.length_nil,Nat.zero_add]at hby;omega)
         rw[ev1,ex]
         simpa using this
        ·cases q1
         have hrr:zA R rows k' g 0∨rows = []:=by
          rcases hrows with h0 | ⟨b0,o0,hb0,h0⟩
          ·exact .inr h0
          ·cases hb0;exact .inl h0
         have hvals:∃ olds:List Value,zm R zu rows.flatten olds/\(∀ v∈olds,v.oneCell'=true)/\olds.length=rows.length*k'/\(∀ r∈rows,r.length=k')/\∀ (j:Nat) v,olds[j]?=some v->R.w.cell? ⟨g,j,none⟩=some v:=by
          rcases hrr with hrr | rfl
          ·obtain ⟨h1,h2⟩:=qm hrr
           obtain ⟨olds,o1,o2,o3⟩:=qY h1
           refine ⟨olds,o2,o3,by rw[zl o2,h2],fun r hr=>?_,fun j v hj=>by simpa using o1 j v hj⟩
           obtain ⟨i,hi,rfl⟩:=List.getElem_of_mem hr
           exact (qE hrr i _ (List.getElem?_eq_getElem hi)).1
          ·exact ⟨[],zg.2 rfl,fun v h=>by (cases h),by simp,fun r h=>by (cases h),fun j v h=>by simp at h⟩
         obtain ⟨olds,p1,p2,p3,p4,p5⟩:=hvals
         by_cases hroom:rows.length+xs.length<=cap
         ·-- in place
          have hfit:rows.length*i.size+news.length<=cur.size:=by
           rw[←hsz,hnl,hxl,q6,←Nat.add_mul];exact Nat.mul_le_mul_right _ hroom
          have hrun:=YP (P:=P) (ty:=o.type) ht hi R.w g rows.length cap cur tyq q3 ⟨bb,off,none⟩ xs.length capx news (by rw[hnl,hxl,hsz]) hn1' n3 hroom hfit
          rw[←hsz]at hrun hfit
          have htk0:cur.toList.take (rows.length*k')=olds:=by
           apply List.ext_getElem?
           intro j
           rw[List.getElem?_take]
           by_cases hj:j<rows.length*k'
           ·rw[if_pos hj]
            have hjo:j<olds.length:=by omega
            have:=p5 j olds[j] (List.getElem?_eq_getElem hjo)
            rw[cell_of_row R.w g j cur tyq (0,0) q3]at this
            rw[List.getElem?_eq_getElem hjo]
            simpa using this
           ·rw[if_neg hj,List.getElem?_eq_none (by omega)]
          have hcs:(cur.toList.take (rows.length*k')++news++cur.toList.drop (rows.length*k'+news.length)).toArray.size=cap*k':=by
           simp only[List.size_toArray,List.length_append,List.length_take,List.length_drop,Array.length_toList];omega
          have htk:(cur.toList.take (rows.length*k')++news++cur.toList.drop (rows.length*k'+news.length)).toArray.toList.take ((rows++xs).length*k')=olds++news:=by
           simp only[htk0]
           rw[hlen,Nat.add_mul,←p3,←hxl,←hnl,←List.length_append]
           exact List.take_left' rfl
          have hold:∀ j,j<rows.length*k'->(cur.toList.take (rows.length*k')++news++cur.toList.drop (rows.length*k'+news.length)).toArray[j]?=cur[j]?:=fun j hj=>by
           simp only[List.getElem?_toArray]
           rw[List.append_assoc,List.getElem?_append_left (by simp;omega),List.getElem?_take,if_pos hj]
           simp
          generalize (cur.toList.take (rows.length*k')++news++cur.toList.drop (rows.length*k'+news.length)).toArray=cur' at hrun hcs htk hold
          have hh:=setRow_heap R.w g cur cur' tyq (0,0) q3
          have hext:Ext R ⟨R.w.setRow g cur',fun b o=>R.M b o/\¬(b=g/\o<(rows++xs).length*k'),R.F⟩:=⟨fun b o v hc hm=>⟨by
           by_cases hbg:b=g
           ·subst hbg
            have hlt:o<rows.length*k':=by
             rcases Nat.lt_or_ge o (rows.length*k') with h' | h'
             ·exact h'
             ·exact absurd (q8 o h') hm
            rw[cell_of_row R.w b o cur tyq (0,0) q3]at hc
            rw[cell_of_row _ b o cur' tyq (0,0) hh,hold o hlt];exact hc
           ·rw[qZ R.w g cur' b o hbg];exact hc,fun h'=>hm h'.1⟩,fun c cs ty fl hc hm=>⟨by rw[setRow_other R.w g c cur' fun e=>hm _ (e▸q8 _ (Nat.le_refl _))];exact hc,fun o h'=>hm o h'.1⟩⟩
          have hinv:=h.regrow hid (v':=.slice (some ⟨g,0,none⟩) (rows.length+xs.length) cap) (R':=⟨R.w.setRow g cur',fun b o=>R.M b o/\¬(b=g/\o<(rows++xs).length*k'),R.F⟩) hext rfl rfl rfl (by rw[size_setRow];exact Nat.le_refl _) rfl
           (fun b hlt hne'=>by
            have hbg:b≠g:=fun e1=>hne' (by rw[e1];rfl)
            exact ⟨setRow_other R.w g b cur' hbg,fun o=>⟨fun h'=>h'.1,fun h'=>⟨h',fun h2=>hbg h2.1⟩⟩⟩)
           (.inr (.inl ⟨g,_,cap,cur',_,rfl,q2,hh,hroom,hcm,hcs,q7,fun o ho=>⟨q8 o (Nat.le_trans (Nat.mul_le_mul_right _ (Nat.le_add_right _ _)) ho),fun h2=>by rw[hlen]at h2;omega⟩⟩))
           (fun b hb'=>.inl (by cases hb';rfl))
          rw[←ev1,←ex]at hrun
          have hall:∀ r∈rows++xs,r.length=k':=fun r hr=>by
           rcases List.mem_append.1 hr with hr | hr
           ·exact p4 r hr
           ·exact hxk r hr
          refine qA.value (hexec _ _ hrun) ⟨_,_,_,_,rfl,hinv,JY.2 ⟨if_pos rfl,_,cap,by rw[hlen],by rw[hlen];exact hroom,hcm,.inr ⟨g,0,rfl,ZL hext hh hall (by rw[List.flatten_append];exact zi p1 n2) (fun v hv=>?_) htk fun o ho h'=>h'.2 ⟨rfl,ho⟩⟩⟩,hK⟩
          rcases List.mem_append.1 hv with hv | hv
          ·exact p2 v hv
          ·exact n3 v hv
         ·refine grow olds p1 p2 p3 p4 ?_
          rw[ev1,ex]
          exact run_append_grow (P:=P) R.w t o.type e' i zv ht hi hiz ⟨g,0,none⟩ rows.length cap olds (by rw[p3,hsz]) (fun j v hj=>by rw[Addr.add_none];simpa using p5 j v hj) ⟨bb,off,none⟩ xs.length capx news (by rw[hnl,hxl,hsz]) hn1' (by omega) (by omega)
           (growslice_fits (by omega) (by rw[←hbyt];exact hby))
        ·unfold Um at hmap;cases hmap
    ·exact hK.elim
   ·exact hK.elim
  ·exact hK.elim
 ·exact hK.elim
end
end
section
open Go.RowKit Go.MapKept
section
variable {P:Program} {G:zk} {E:Ctx} {σ:St} {o:Oper} {a:Act}
def zfD (id:Nat) (ks:MK) (vs:List C):List (Nat×C)->List (Nat×C)
 | []=>[]
 | (t,c) :: r=>(t,c.up id ks vs) :: zfD id ks vs r
def zed (id:Nat) (ks:MK) (vs:List C):List (List C)->List (List C)
 | []=>[]
 | cs :: r=>C.upL id ks vs cs :: zed id ks vs r
theorem zbP (id:Nat) (ks:MK) (vs:List C):∀ (tm:List (Nat×C)) (t:Nat),q9 (zfD id ks vs tm) t=(q9 tm t).up id ks vs
 | [],t=>by simp only[zfD,q9];unfold C.up;rfl
 | (u,c) :: r,t=>by
  simp only[zfD,q9]
  split
  ·rfl
  ·exact zbP id ks vs r t
theorem Ug (id:Nat) (ks:MK) (vs:List C):∀ bx:List (List C),(zed id ks vs bx).length=bx.length
 | []=>rfl
 | c :: r=>by simp[zed,Ug id ks vs r]
theorem yJ (id:Nat) (ks:MK) (vs:List C):∀ (bx:List (List C)) (i:Nat),(zed id ks vs bx)[i]?=(bx[i]?).map (C.upL id ks vs)
 | [],i=>by simp[zed]
 | c :: r,0=>by simp[zed]
 | c :: r,i+1=>by simp[zed,yJ id ks vs r i]
theorem uA {R:Env} {b:Nat} {es:Array MapEntry} {cl:Nat} (o:Obj) (hb:R.w.heap[b]?=some (.map es cl)):Ext R ⟨R.w.putObj b o,R.M,R.F⟩:=⟨fun c off v hcell hm=>⟨by
 by_cases hc:c=b
 ·subst hc
  exfalso
  unfold World.cell? at hcell
  rw[hb]at hcell
  simp at hcell
 ·unfold World.cell? at hcell ⊢
  rw[World.putObj_heap_other hc]
  exact hcell,hm⟩,fun c cs ty fl hc hm=>⟨by
 have hne:c≠b:=fun e=>by subst e;rw[hb]at hc;cases hc
 show (R.w.putObj b o).heap[c]?=_
 rw[World.putObj_heap_other hne];exact hc,hm⟩⟩
theorem qf.remap {R:Env} {L:Loc} (h:qf G E σ a R L) {id b:Nat} {t:TypeId} {kvs vvs:List Value} (hid:L.T id=some (t,0,Um b kvs vvs)) {es es':Array MapEntry} {cl:Nat} (hb:R.w.heap[b]?=some (.map es cl))
  {ks':MK} {vs':List C} {vvs':List Value} (hk':es'.toList.map (·.key)=ks'.vals) (hv':es'.toList.map (·.val)=vvs') (hborn:∀ (i:Nat) (e:MapEntry),es'[i]?=some e->e.born=i) (hr:zm R zu vs' vvs') :
  qf G E ⟨zfD id ks' vs' σ.tm,zed id ks' vs' σ.bx,σ.nx,σ.lg⟩ a ⟨R.w.putObj b (.map es' es'.size),R.M,R.F⟩ ⟨L.β,fun i=>if i=id then some (t,0,Um b ks'.vals vvs') else L.T i⟩:=by
 have hext:Ext R ⟨R.w.putObj b (.map es' es'.size),R.M,R.F⟩:=uA _ hb
 have hupb:∀ (i b':Nat),L.β[i]?=some b'->(Loc.mk L.β (fun i=>if i=id then some (t,0,Um b ks'.vals vvs') else L.T i)).β[i]?=some b':=fun i b' hb=>hb
 have hupt:∀ i x,i≠id->L.T i=some x->(Loc.mk L.β (fun i=>if i=id then some (t,0,Um b ks'.vals vvs') else L.T i)).T i=some x:=fun i x hne hi=>by
  show (if i=id then _ else L.T i)=some x
  rw[if_neg hne];exact hi
 have hupi:(Loc.mk L.β (fun i=>if i=id then some (t,0,Um b ks'.vals vvs') else L.T i)).T id=some (t,0,Um b ks'.vals vvs'):=if_pos rfl
 have hv0:=h.good.fit.owns.own id _ _ _ hid
 obtain ⟨hbt,hblt,hbβ⟩:=hv0.block (b:=b) rfl
 have hother:∀ i e1 k1 v1 c,i≠id->L.T i=some (e1,k1,v1)->v1.ownB=some c->c≠b:=fun i e1 k1 v1 c hne h1 h2 h3=>hne (h.good.fit.owns.apart i id e1 k1 v1 t 0 _ c h1 hid h2 (by rw[h3];rfl))
 have hnear:Ml E.w0 E.ex R ⟨R.w.putObj b (.map es' es'.size),R.M,R.F⟩:=⟨rfl,rfl,rfl,by simp,rfl,hext,fun c hc=>by
  by_cases hcb:c=b
  ·subst hcb
   exact .inr ⟨hbt,h.good.fow id _ _ _ c hid rfl,.inr ⟨_,_,hb⟩⟩
  ·exact .inl ⟨World.putObj_heap_other hcb,fun _=>Iff.rfl⟩⟩
 have hrr:zm ⟨R.w.putObj b (.map es' es'.size),R.M,R.F⟩ zu vs' vvs':=zm.ext hext (zx.refl _) _ _ hr
 refine ⟨h.good.move hnear.nigh ⟨h.good.fit.glob.ext hext,⟨by rw[Ug];exact h.good.fit.boxes.len,h.good.fit.boxes.nodup,fun i c cs hi hc=>?_⟩,⟨fun i e1 k1 v1 ht=>?_,fun i j e1 k1 v1 e2 k2 v2 c h1 h2 h3 h4=>?_⟩,fun g hg=>h.good.fit.base g (by simpa using hg)⟩
  ⟨[],by rw[List.append_nil],fun b hb=>by cases hb⟩ (fun i e1 k1 v1 c ht hv=>?_) (fun i hi=>?_),h.size,h.df.near hnear,fun u=>?_⟩
 ·simp only[yJ]at hc
  cases hq:σ.bx[i]? with
  | none=>simp[hq]at hc
  | some cs0 =>
   simp[hq]at hc
   subst hc
   obtain ⟨vs,ty,e1,e2,e3,e4⟩:=h.good.fit.boxes.box i c cs0 hi hq
   have hne:c≠b:=fun e'=>hbβ (e'▸List.mem_of_getElem? hi)
   exact ⟨vs,ty,(World.putObj_heap_other hne).trans e1,zm.up hupb hupt hid hupi hrr _ _ (zm.ext hext (zx.refl _) _ _ e2),e3,e4⟩
 ·simp only at ht
  split at ht
  ·cases ht
   exact .inr (.inr ⟨b,es',_,_,rfl,hbt,World.putObj_heap_same hblt,hbβ,hk',hv',hborn⟩)
  ·rename_i hne
   refine (h.good.fit.owns.own i e1 k1 v1 ht).move fun g hv q2 hlt q7=>⟨q2,World.putObj_heap_other (hother i e1 k1 v1 g hne ht hv),q7,fun _ h=>h⟩
 ·simp only at h1 h2
  split at h1<;>split at h2
  ·omega
  ·rename_i hi hj
   cases h1;cases h3
   exact absurd rfl (hother j e2 k2 v2 b hj h2 h4)
  ·rename_i hi hj
   cases h2;cases h4
   exact absurd rfl (hother i e1 k1 v1 b hi h1 h3)
  ·exact h.good.fit.owns.apart i j e1 k1 v1 e2 k2 v2 c h1 h2 h3 h4
 ·simp only at ht
  split at ht
  ·cases ht;cases hv
   exact .inl ⟨id,t,0,_,hid,rfl⟩
  ·exact .inl ⟨i,e1,k1,v1,ht,hv⟩
 ·show (if i=id then _ else L.T i)=none
  have hne:i≠id:=fun e'=>by
   subst e'
   rw[h.good.free i hi]at hid;cases hid
  rw[if_neg hne];exact h.good.free i hi
 ·simp only[zbP]
  exact Rep.up hupb hupt hid hupi hrr _ _ (Rep.ext hext (zx.refl _) _ _ (h.tm u))
def HA (id:Nat) (ks:MK) (vs:List C) (σ:St) (K:C->St->Prop):Prop:=K .any ⟨zfD id ks vs σ.tm,zed id ks vs σ.bx,σ.nx,σ.lg⟩
def kN (P:Program) (t:TypeId) (m key x:C) (σ:St) (K:C->St->Prop):Prop:=
 match zfF P t with
 | some (.int k,_)=>match m,key with
  | .mo id t' (.int k' l) vs,.sc (.int q n)=>t'=t/\k'=k/\q=k/\HA id (.int k (UG n x.frz l vs).1) (UG n x.frz l vs).2 σ K
  | _,_=>False
 | some (.str,_)=>match m,key with
  | .mo id t' (.str l) vs,.str s=>t'=t/\HA id (.str (UG s x.frz l vs).1) (UG s x.frz l vs).2 σ K
  | _,_=>False
 | none=>False
def zbo (j:Option Nat) (key value:Value) (es:Array MapEntry):Array MapEntry:=match j with
 | some j=>es.modify j fun e=>{ e with key:=key,val:=value }
 | none=>es.push { key:=key,val:=value,born:=es.size }
theorem ku {α:Type} [DecidableEq α] {kd:TypeDesc} {kv:α->Value} (hk:∀ a b,Instr.sameNow kd (kv a) (kv b)=some (decide (a=b))) (hchk:∀ (e:Bool) (kt:TypeId) (a:α) (w:World),P.underlying kt=some kd->(Instr.checkKey e 10000 kt (kv a)).run P w = .ok () w)
  (hsame:∀ a,Instr.sameBits 10000 (kv a) (kv a)=true)
  {t kt et:TypeId} (ht:P.underlying t=some (.map kt et)) (hkt:P.underlying kt=some kd) {w:World} {b:Nat} {es:Array MapEntry} (hb:w.heap[b]?=some (.map es es.size)) (a:α) (value:Value) (l:List α) (hl:es.toList.map (·.key)=l.map kv) :
  (Instr.mapUpdate t (.map (some b)) (kv a) value).run P w = .ok () (w.putObj b (.map (zbo (Uw a l) (kv a) value es) (zbo (Uw a l) (kv a) value es).size)):=by
 have hf:=Y5 hk a es.toList l 0 hl
 unfold Instr.mapUpdate
 simp only[Sem.run_bind,run_underlying ht,Result.andThen_ok,QZ hb,Sem.run_pure,hchk _ kt a w hkt,Instr.findKey,run_underlying hkt,hf]
 cases hm:Uw a l with
 | none =>
  simp only[Option.bind_none,Sem.run_pure,Result.andThen_ok,ko _ hb]
  simp[zbo]
 | some j =>
  have hlj:=HU hm
  have hj:j<l.length:=(List.getElem?_eq_some_iff.1 hlj).1
  have hes:l.length=es.size:=by have:=congrArg List.length hl;simpa using this.symm
  have hje:j<es.size:=by omega
  have hkey:es[j].key=kv a:=by
   have h1:(es.toList.map (·.key))[j]?=some (kv a):=by rw[hl,List.getElem?_map,hlj];rfl
   simpa [hje] using h1
  have hg:es.toList[j]?=some es[j]:=by simp[hje]
  have hg2:es[j]?=some es[j]:=by simp[hje]
  simp only[Option.bind_some,hg,Option.map_some,Sem.run_pure,Result.andThen_ok,Nat.zero_add,hg2,Option.getD_some,hkey,Instr.keyThatStays,hsame a,if_true]
  simp only[zbo,Array.size_modify]
  exact ko _ hb
theorem HY (a:List UInt8):Instr.sameBits 10000 (.string ⟨a.toArray⟩) (.string ⟨a.toArray⟩)=true:=by
 have h:=Ha a a
 simpa [Instr.sameNow,Instr.sameBits] using h
theorem Nf {α:Type} [DecidableEq α] {kv:α->Value} (a:α) (x:C) (value:Value) (l:List α) (vs:List C) (es:Array MapEntry) (hl:es.toList.map (·.key)=l.map kv):(zbo (Uw a l) (kv a) value es).toList.map (·.key)=(UG a x l vs).1.map kv:=by
 unfold UG
 cases hm:Uw a l with
 | none=>simp[zbo,hl]
 | some j =>
  have hlj:=HU hm
  have hj:j<l.length:=(List.getElem?_eq_some_iff.1 hlj).1
  have hes:l.length=es.size:=by have:=congrArg List.length hl;simpa using this.symm
  simp only[zbo,←hl]
  refine List.ext_getElem? fun i=>?_
  simp only[List.getElem?_map,Array.getElem?_toList,Array.getElem?_modify]
  by_cases hij:j=i
  ·subst hij
   have hje:j<es.size:=by omega
   have h1:(es.toList.map (·.key))[j]?=some (kv a):=by rw[hl,List.getElem?_map,hlj];rfl
   have h2:es[j].key=kv a:=by simpa [hje] using h1
   simp[hje,h2]
  ·simp[hij]
theorem GK {α:Type} [DecidableEq α] {kv:α->Value} {R:Env} (a:α) (x:C) (value:Value) (l:List α) (vs:List C) (es:Array MapEntry) (hx:Rep R zu x value) (hl:es.toList.map (·.key)=l.map kv) (hv:zm R zu vs (es.toList.map (·.val))):zm R zu (UG a x l vs).2 ((zbo (Uw a l) (kv a) value es).toList.map (·.val)):=by
 have hvl:=zl hv
 rw[List.length_map,Array.length_toList]at hvl
 unfold UG
 cases hm:Uw a l with
 | none =>
  simp only[zbo,Array.toList_push,List.map_append,List.map_cons,List.map_nil]
  exact zi hv (zd.2 ⟨value,[],rfl,hx,zg.2 rfl⟩)
 | some j =>
  simp only[zbo]
  refine Jq (by simp;omega) fun i c v hc hv'=>?_
  simp only[List.getElem?_map,Array.getElem?_toList,Array.getElem?_modify]at hv'
  rw[List.getElem?_set]at hc
  by_cases hij:j=i
  ·subst hij
   rw[if_pos rfl]at hc
   split at hc
   ·cases hc
    rename_i hlt
    have hje:j<es.size:=by omega
    simp[hje]at hv'
    subst hv'
    exact hx
   ·cases hc
  ·rw[if_neg hij]at hc
   simp[hij]at hv'
   obtain ⟨u,e1,e2⟩:=jA hv i c hc
   rw[List.getElem?_map,Array.getElem?_toList]at e1
   obtain ⟨e,he,rfl⟩:=hv'
   rw[he]at e1
   cases e1
   exact e2
theorem Gy {j:Option Nat} {key value:Value} {es:Array MapEntry} (h:∀ (i:Nat) (e:MapEntry),es[i]?=some e->e.born=i):∀ (i:Nat) (e:MapEntry),(zbo j key value es)[i]?=some e->e.born=i:=by
 intro i e he
 unfold zbo at he
 cases j with
 | none =>
  simp only[Array.getElem?_push]at he
  split at he
  ·cases he;subst_vars;rfl
  ·exact h i e he
 | some j =>
  simp only[Array.getElem?_modify]at he
  by_cases hij:j=i
  ·rw[if_pos hij]at he
   cases hq:es[i]? with
   | none=>rw[hq]at he;cases he
   | some e0=>rw[hq]at he;cases he;exact h i e0 hq
  ·rw[if_neg hij]at he;exact h i e he
theorem Nu {R:Env} {L:Loc} (h:qf G E σ a R L) {id:Nat} {t:TypeId} {ks:MK} {vs:List C} {v:Value} (hr:Rep R L (.mo id t ks vs) v) :
  ∃ b es vvs,v = .map (some b)/\L.T id=some (t,0,Um b ks.vals vvs)/\R.w.heap[b]?=some (.map es es.size)/\es.toList.map (·.key)=ks.vals/\es.toList.map (·.val)=vvs/\(∀ (i:Nat) (e:MapEntry),es[i]?=some e->e.born=i)/\zm R zu vs vvs:=by
 unfold Rep at hr
 obtain ⟨b,vvs,e,ht,hl⟩:=hr
 rcases h.good.fit.owns.own id _ _ _ ht with g | ⟨g,n,cap,cur,ty,q1,_⟩ | ⟨g,es,kvs,vvs',q1,q2,q3,q4,q5,q6,q7⟩
 ·unfold Um at g;cases g
 ·unfold Um at q1;cases q1
 ·obtain ⟨rfl,rfl,rfl⟩:=Ge q1
  exact ⟨b,es,vvs,e,ht,q3,q5,q6,q7,hl⟩
theorem Zw {t:TypeId} {m k x:Operand} (ho:o.op = .mapUpdate t m k x∨o.op = .insert t m k x) {K:C->St->Prop} {R:Env} {L:Loc} (h:qf G E σ a R L) (hK:kN P t (zp G σ.tm m) (zp G σ.tm k) (zp G σ.tm x) σ K):qA P o a.eval R.w (JF G E a K):=by
 have hfin:∀ (w':World),(Instr.mapUpdate t (a.eval m) (a.eval k) (a.eval x)).run P R.w = .ok () w'->(execOp a.eval o).run P R.w = .ok .skip w':=fun w' hw=>by
  unfold execOp
  rcases ho with ho | ho<;>simp only[ho]<;>rw[Sem.run_bind,hw]<;>rfl
 unfold kN at hK
 split at hK
 ·rename_i q z hm
  obtain ⟨kt,et,i,zv,ht,hi,hz,rfl,hk⟩:=J6 hm
  rcases hk with ⟨k0,hk0,hkt⟩ | ⟨hk0,_⟩
  ·cases hk0
   split at hK<;>try exact hK.elim
   rename_i id t' k' l vs q' n hev hek
   obtain ⟨rfl,rfl,rfl,hK⟩:=hK
   have hx:=h.ev m;rw[hev]at hx
   have hy:=h.ev k;rw[hek,zj]at hy
   obtain ⟨b,es,vvs,e1,e2,e3,e4,e5,e6,e7⟩:=Nu h hx
   have hxr:Rep R zu (zp G σ.tm x).frz (a.eval x):=Rep.frz zu _ _ (h.ev x)
   have hrun:=ku (yB _) Nw (fun a=>by simp[Instr.sameBits]) ht hkt e3 n (a.eval x) l e4
   have hinv:=h.remap e2 e3 (ks':=.int _ (UG n (zp G σ.tm x).frz l vs).1) (vs':=(UG n (zp G σ.tm x).frz l vs).2) (Nf n (zp G σ.tm x).frz (a.eval x) l vs es e4) rfl (Gy (key:=.int _ n) e6) (GK n _ _ l vs es hxr e4 (by rw[e5];exact e7))
   unfold qA
   rw[hfin _ (by rw[e1,hy];exact hrun)]
   exact ⟨.any,_,_,_,rfl,hinv,by unfold Rep;trivial,hK⟩
  ·cases hk0
 ·rename_i z hm
  obtain ⟨kt,et,i,zv,ht,hi,hz,rfl,hk⟩:=J6 hm
  rcases hk with ⟨k0,hk0,_⟩ | ⟨_,hkt⟩
  ·cases hk0
  ·split at hK<;>try exact hK.elim
   rename_i id t' l vs s hev hek
   obtain ⟨rfl,hK⟩:=hK
   have hx:=h.ev m;rw[hev]at hx
   have hy:=h.ev k;rw[hek,zC]at hy
   obtain ⟨b,es,vvs,e1,e2,e3,e4,e5,e6,e7⟩:=Nu h hx
   have hxr:Rep R zu (zp G σ.tm x).frz (a.eval x):=Rep.frz zu _ _ (h.ev x)
   have hrun:=ku Ha NU HY ht hkt e3 s (a.eval x) l e4
   have hinv:=h.remap e2 e3 (ks':=.str (UG s (zp G σ.tm x).frz l vs).1) (vs':=(UG s (zp G σ.tm x).frz l vs).2) (Nf (kv:=fun s:List UInt8=>Value.string ⟨s.toArray⟩) s (zp G σ.tm x).frz (a.eval x) l vs es e4) rfl (Gy (key:=.string ⟨s.toArray⟩) e6) (GK (kv:=fun s:List UInt8=>Value.string ⟨s.toArray⟩) s _ _ l vs es hxr e4 (by rw[e5];exact e7))
   unfold qA
   rw[hfin _ (by rw[e1,hy];exact hrun)]
   exact ⟨.any,_,_,_,rfl,hinv,by unfold Rep;trivial,hK⟩
 ·exact hK.elim
end
end
section
open Go.RowKit
abbrev Src:=List (Nat ⊕ (TypeId×Nat))
def QU (src:Src) (T:Own):Own:=fun id=>match src[id]? with
 | some (.inl i)=>T i
 | some (.inr (e,k))=>some (e,k,.slice none 0 0)
 | none=>none
def QY:Src->List Nat
 | []=>[]
 | .inl i :: r=>i :: QY r
 | .inr _ :: r=>QY r
def XK (src:Src):Bool:=decide (QY src).Nodup
mutual
/-- says less than -/
def CLe (src:Src) (n:Nat):C->C->Prop
 | .own id e k rows,.own id' e' k' rows'=>src[id']?=some (.inl id)/\e=e'/\k=k'/\rows=rows'
 | .own _ _ k rows,.sl k' rows'=>k=k'/\rows=rows'
 | .tight k rows,.sl k' rows'=>k=k'/\rows=rows'
 | .tight k rows,.tight k' rows'=>k=k'/\rows=rows'
 | .sl k rows,.sl k' rows'=>k=k'/\rows=rows'
 | .sc v,.own id e k rows=>v = .slice none 0 0/\src[id]?=some (.inr (e,k))/\rows = []
 | .sc v,.sl _ rows=>v = .slice none 0 0/\rows = []
 | .sc v,.tight _ rows=>v = .slice none 0 0/\rows = []
 | .sc v,.sc u=>v=u
 | .str l,.str l'=>l=l'
 | .agg cs,.agg cs'=>ze src n cs cs'
 | .tup cs,.tup cs'=>ze src n cs cs'
 | .ptr i off,.ptr i' off'=>i=i'/\off=off'/\i<n
 | .bs i off k m c,.bs i' off' k' m' c'=>i=i'/\off=off'/\k=k'/\m=m'/\c=c'/\i<n
 | .row cs,.row cs'=>cs=cs'
 | .mo id t ks vs,.mo id' t' ks' vs'=>src[id']?=some (.inl id)/\t=t'/\ks=ks'/\vs=vs'
 | .clo fn first cap,.clo fn' first' cap'=>fn=fn'/\ze src n first first'/\ze src n cap cap'
 | _,.any=>True
 | _,_=>False
def ze (src:Src) (n:Nat):List C->List C->Prop
 | [],[]=>True
 | c :: r,c' :: r'=>CLe src n c c'/\ze src n r r'
 | _,_=>False
end
section
variable {R:Env} {L:Loc} {src:Src} {n:Nat}
abbrev jE (src:Src) (n:Nat) (L:Loc):Loc:=⟨L.β.take n,QU src L.T⟩
theorem Zx {v:Value} {L':Loc}:Rep R L' .any v:=by unfold Rep;trivial
mutual
theorem Rep.less:∀ (c c':C) (v:Value),CLe src n c c'->Rep R L c v->Rep R (jE src n L) c' v
 | .own id e k rows,.own id' e' k' rows',v,h,hr=>by
  unfold CLe at h
  obtain ⟨h1,rfl,rfl,rfl⟩:=h
  unfold Rep at hr ⊢
  refine ⟨?_,hr.2⟩
  show QU src L.T id'=_
  unfold QU;rw[h1];exact hr.1
 | .own _ _ k rows,.sl k' rows',v,h,hr=>by
  unfold CLe at h;obtain ⟨rfl,rfl⟩:=h
  unfold Rep at hr ⊢;exact hr.2
 | .tight k rows,.sl k' rows',v,h,hr=>by
  unfold CLe at h;obtain ⟨rfl,rfl⟩:=h
  unfold Rep at hr ⊢
  obtain ⟨a,e,h2,h3⟩:=hr
  exact ⟨a,_,e,Nat.le_refl _,h2,h3⟩
 | .tight k rows,.tight k' rows',v,h,hr=>by
  unfold CLe at h;obtain ⟨rfl,rfl⟩:=h
  unfold Rep at hr ⊢;exact hr
 | .sl k rows,.sl k' rows',v,h,hr=>by
  unfold CLe at h;obtain ⟨rfl,rfl⟩:=h
  unfold Rep at hr ⊢;exact hr
 | .sc u,.tight k rows,v,h,hr=>by
  unfold CLe at h;obtain ⟨rfl,rfl⟩:=h
  unfold Rep at hr ⊢
  exact ⟨none,hr,Nat.zero_le _,.inl rfl⟩
 | .sc u,.own id e k rows,v,h,hr=>by
  unfold CLe at h;obtain ⟨rfl,h1,rfl⟩:=h
  unfold Rep at hr ⊢
  refine ⟨?_,none,0,hr,Nat.le_refl _,Nat.zero_le _,.inl rfl⟩
  show QU src L.T id=_
  unfold QU;rw[h1,hr]
 | .sc u,.sl k rows,v,h,hr=>by
  unfold CLe at h;obtain ⟨rfl,rfl⟩:=h
  unfold Rep at hr ⊢
  exact ⟨none,0,hr,Nat.le_refl _,Nat.zero_le _,.inl rfl⟩
 | .sc u,.sc u',v,h,hr=>by
  unfold CLe at h;subst h
  unfold Rep at hr ⊢;exact hr
 | .str l,.str l',v,h,hr=>by
  unfold CLe at h;subst h
  unfold Rep at hr ⊢;exact hr
 | .agg cs,.agg cs',v,h,hr=>by
  unfold CLe at h
  unfold Rep at hr ⊢
  obtain ⟨vs,e,hl⟩:=hr
  exact ⟨vs,e,zm.less cs cs' _ h hl⟩
 | .tup cs,.tup cs',v,h,hr=>by
  unfold CLe at h
  unfold Rep at hr ⊢
  obtain ⟨vs,e,hl⟩:=hr
  exact ⟨vs,e,zm.less cs cs' _ h hl⟩
 | .ptr i off,.ptr i' off',v,h,hr=>by
  unfold CLe at h;obtain ⟨rfl,rfl,h⟩:=h
  unfold Rep at hr ⊢
  obtain ⟨b,hb,e⟩:=hr
  exact ⟨b,by rw[List.getElem?_take,if_pos h];exact hb,e⟩
 | .bs i off k m c,.bs i' off' k' m' c',v,h,hr=>by
  unfold CLe at h;obtain ⟨rfl,rfl,rfl,rfl,rfl,h⟩:=h
  unfold Rep at hr ⊢
  obtain ⟨b,hb,e⟩:=hr
  exact ⟨b,by rw[List.getElem?_take,if_pos h];exact hb,e⟩
 | .row cs,.row cs',v,h,hr=>by
  unfold CLe at h;subst h
  unfold Rep at hr ⊢;exact hr
 | .mo id t ks vs,.mo id' t' ks' vs',v,h,hr=>by
  unfold CLe at h
  obtain ⟨h1,rfl,rfl,rfl⟩:=h
  unfold Rep at hr ⊢
  obtain ⟨b,vvs,e,ht,hl⟩:=hr
  refine ⟨b,vvs,e,?_,hl⟩
  show QU src L.T id'=_
  unfold QU;rw[h1];exact ht
 | .clo fn first cap,.clo fn' first' cap',v,h,hr=>by
  unfold CLe at h
  obtain ⟨rfl,h1,h2⟩:=h
  unfold Rep at hr ⊢
  obtain ⟨fs,cs,e,h3,h4⟩:=hr
  exact ⟨fs,cs,e,zm.less first first' _ h1 h3,zm.less cap cap' _ h2 h4⟩
 | c,.any,v,h,hr=>Zx
 | .any,.sc _,_,h,_ | .any,.str _,_,h,_ | .any,.agg _,_,h,_ | .any,.tup _,_,h,_ | .any,.sl _ _,_,h,_ | .any,.tight _ _,_,h,_ | .any,.own _ _ _ _,_,h,_ | .any,.ptr _ _,_,h,_ | .any,.row _,_,h,_ | .any,.clo _ _ _,_,h,_ | .any,.bs _ _ _ _ _,_,h,_ | .any,.mo _ _ _ _,_,h,_=>by unfold CLe at h;exact h.elim
 | .sc _,.str _,_,h,_ | .sc _,.agg _,_,h,_ | .sc _,.tup _,_,h,_ | .sc _,.ptr _ _,_,h,_ | .sc _,.row _,_,h,_ | .sc _,.clo _ _ _,_,h,_ | .sc _,.bs _ _ _ _ _,_,h,_ | .sc _,.mo _ _ _ _,_,h,_=>by unfold CLe at h;exact h.elim
 | .str _,.sc _,_,h,_ | .str _,.agg _,_,h,_ | .str _,.tup _,_,h,_ | .str _,.sl _ _,_,h,_ | .str _,.tight _ _,_,h,_ | .str _,.own _ _ _ _,_,h,_ | .str _,.ptr _ _,_,h,_ | .str _,.row _,_,h,_ | .str _,.clo _ _ _,_,h,_ | .str _,.bs _ _ _ _ _,_,h,_ | .str _,.mo _ _ _ _,_,h,_=>by unfold CLe at h;exact h.elim
 | .agg _,.sc _,_,h,_ | .agg _,.str _,_,h,_ | .agg _,.tup _,_,h,_ | .agg _,.sl _ _,_,h,_ | .agg _,.tight _ _,_,h,_ | .agg _,.own _ _ _ _,_,h,_ | .agg _,.ptr _ _,_,h,_ | .agg _,.row _,_,h,_ | .agg _,.clo _ _ _,_,h,_ | .agg _,.bs _ _ _ _ _,_,h,_ | .agg _,.mo _ _ _ _,_,h,_=>by unfold CLe at h;exact h.elim
 | .tup _,.sc _,_,h,_ | .tup _,.str _,_,h,_ | .tup _,.agg _,_,h,_ | .tup _,.sl _ _,_,h,_ | .tup _,.tight _ _,_,h,_ | .tup _,.own _ _ _ _,_,h,_ | .tup _,.ptr _ _,_,h,_ | .tup _,.row _,_,h,_ | .tup _,.clo _ _ _,_,h,_ | .tup _,.bs _ _ _ _ _,_,h,_ | .tup _,.mo _ _ _ _,_,h,_=>by unfold CLe at h;exact h.elim
 | .sl _ _,.sc _,_,h,_ | .sl _ _,.str _,_,h,_ | .sl _ _,.agg _,_,h,_ | .sl _ _,.tup _,_,h,_ | .sl _ _,.tight _ _,_,h,_ | .sl _ _,.own _ _ _ _,_,h,_ | .sl _ _,.ptr _ _,_,h,_ | .sl _ _,.row _,_,h,_ | .sl _ _,.clo _ _ _,_,h,_ | .sl _ _,.bs _ _ _ _ _,_,h,_ | .sl _ _,.mo _ _ _ _,_,h,_=>by unfold CLe at h;exact h.elim
 | .tight _ _,.sc _,_,h,_ | .tight _ _,.str _,_,h,_ | .tight _ _,.agg _,_,h,_ | .tight _ _,.tup _,_,h,_ | .tight _ _,.own _ _ _ _,_,h,_ | .tight _ _,.ptr _ _,_,h,_ | .tight _ _,.row _,_,h,_ | .tight _ _,.clo _ _ _,_,h,_ | .tight _ _,.bs _ _ _ _ _,_,h,_ | .tight _ _,.mo _ _ _ _,_,h,_=>by unfold CLe at h;exact h.elim
 | .own _ _ _ _,.sc _,_,h,_ | .own _ _ _ _,.str _,_,h,_ | .own _ _ _ _,.agg _,_,h,_ | .own _ _ _ _,.tup _,_,h,_ | .own _ _ _ _,.tight _ _,_,h,_ | .own _ _ _ _,.ptr _ _,_,h,_ | .own _ _ _ _,.row _,_,h,_ | .own _ _ _ _,.clo _ _ _,_,h,_ | .own _ _ _ _,.bs _ _ _ _ _,_,h,_ | .own _ _ _ _,.mo _ _ _ _,_,h,_=>by unfold CLe at h;exact h.elim
 | .ptr _ _,.sc _,_,h,_ | .ptr _ _,.str _,_,h,_ | .ptr _ _,.agg _,_,h,_ | .ptr _ _,.tup _,_,h,_ | .ptr _ _,.sl _ _,_,h,_ | .ptr _ _,.tight _ _,_,h,_ | .ptr _ _,.own _ _ _ _,_,h,_ | .ptr _ _,.row _,_,h,_ | .ptr _ _,.clo _ _ _,_,h,_ | .ptr _ _,.bs _ _ _ _ _,_,h,_ | .ptr _ _,.mo _ _ _ _,_,h,_=>by unfold CLe at h;exact h.elim
 | .row _,.sc _,_,h,_ | .row _,.str _,_,h,_ | .row _,.agg _,_,h,_ | .row _,.tup _,_,h,_ | .row _,.sl _ _,_,h,_ | .row _,.tight _ _,_,h,_ | .row _,.own _ _ _ _,_,h,_ | .row _,.ptr _ _,_,h,_ | .row _,.clo _ _ _,_,h,_ | .row _,.bs _ _ _ _ _,_,h,_ | .row _,.mo _ _ _ _,_,h,_=>by unfold CLe at h;exact h.elim
 | .clo _ _ _,.sc _,_,h,_ | .clo _ _ _,.str _,_,h,_ | .clo _ _ _,.agg _,_,h,_ | .clo _ _ _,.tup _,_,h,_ | .clo _ _ _,.sl _ _,_,h,_ | .clo _ _ _,.tight _ _,_,h,_ | .clo _ _ _,.own _ _ _ _,_,h,_ | .clo _ _ _,.ptr _ _,_,h,_ | .clo _ _ _,.row _,_,h,_ | .clo _ _ _,.bs _ _ _ _ _,_,h,_ | .clo _ _ _,.mo _ _ _ _,_,h,_=>by unfold CLe at h;exact h.elim
 | .bs _ _ _ _ _,.sc _,_,h,_ | .bs _ _ _ _ _,.str _,_,h,_ | .bs _ _ _ _ _,.agg _,_,h,_ | .bs _ _ _ _ _,.tup _,_,h,_ | .bs _ _ _ _ _,.sl _ _,_,h,_ | .bs _ _ _ _ _,.tight _ _,_,h,_ | .bs _ _ _ _ _,.own _ _ _ _,_,h,_ | .bs _ _ _ _ _,.ptr _ _,_,h,_ | .bs _ _ _ _ _,.row _,_,h,_ | .bs _ _ _ _ _,.clo _ _ _,_,h,_ | .bs _ _ _ _ _,.mo _ _ _ _,_,h,_=>by unfold CLe at h;exact h.elim
 | .mo _ _ _ _,.sc _,_,h,_ | .mo _ _ _ _,.str _,_,h,_ | .mo _ _ _ _,.agg _,_,h,_ | .mo _ _ _ _,.tup _,_,h,_ | .mo _ _ _ _,.sl _ _,_,h,_ | .mo _ _ _ _,.tight _ _,_,h,_ | .mo _ _ _ _,.own _ _ _ _,_,h,_ | .mo _ _ _ _,.ptr _ _,_,h,_ | .mo _ _ _ _,.row _,_,h,_ | .mo _ _ _ _,.clo _ _ _,_,h,_ | .mo _ _ _ _,.bs _ _ _ _ _,_,h,_=>by unfold CLe at h;exact h.elim
theorem zm.less:∀ (cs cs':List C) (vs:List Value),ze src n cs cs'->zm R L cs vs->zm R (jE src n L) cs' vs
 | [],[],vs,h,hr=>by rw[zg]at hr ⊢;exact hr
 | c :: r,c' :: r',vs,h,hr=>by
  unfold ze at h
  rw[zd]at hr ⊢
  obtain ⟨v,us,e,h1,h2⟩:=hr
  exact ⟨v,us,e,Rep.less c c' v h.1 h1,zm.less r r' us h.2 h2⟩
 | [],_ :: _,_,h,_=>by unfold ze at h;exact h.elim
 | _ :: _,[],_,h,_=>by unfold ze at h;exact h.elim
end
end
def zb (src:Src) (n:Nat) (tm:List (Nat×C)):List (Nat×C)->Prop
 | []=>True
 | (t,c) :: r=>CLe src n (q9 tm t) c/\zb src n tm r
def za (src:Src) (n:Nat):List (List C)->List (List C)->Prop
 | _,[]=>True
 | cs :: r,cs' :: r'=>ze src n cs cs'/\za src n r r'
 | [],_ :: _=>False
def j9 (p:Nat) (σ σ':St):Prop:=∃ src:Src,XK src=true/\src.length=σ'.nx/\p<=σ'.bx.length/\σ'.lg=σ.lg/\zb src σ'.bx.length σ.tm σ'.tm/\za src σ'.bx.length σ.bx σ'.bx
theorem j9.mk {p:Nat} {σ σ':St} (src:Src) (h1:XK src=true) (h2:src.length=σ'.nx) (h3:p<=σ'.bx.length) (h0:σ'.lg=σ.lg) (h4:zb src σ'.bx.length σ.tm σ'.tm) (h5:za src σ'.bx.length σ.bx σ'.bx):j9 p σ σ':=⟨src,h1,h2,h3,h0,h4,h5⟩
theorem UT {src:Src} {n:Nat} {tm:List (Nat×C)} {R:Env} {L:Loc} {f:Nat->Value} (h0:∀ t,Rep R L (q9 tm t) (f t)):∀ {tm':List (Nat×C)},zb src n tm tm'->∀ t,Rep R (jE src n L) (q9 tm' t) (f t)
 | [],_,t=>Zx
 | (u,c) :: r,h,t=>by
  simp only[zb]at h
  simp only[q9]
  split
  ·subst_vars;exact Rep.less _ _ _ h.1 (h0 _)
  ·exact UT h0 h.2 t
theorem Yk {src:Src} {n:Nat}:∀ {bx bx':List (List C)},za src n bx bx'->∀ (i:Nat) cs',bx'[i]?=some cs'->∃ cs,bx[i]?=some cs/\ze src n cs cs'
 | _,[],_,i,cs',h=>by simp at h
 | cs :: r,cs0 :: r',h,0,cs',hc=>by
  simp only[za]at h
  simp at hc;subst hc
  exact ⟨cs,rfl,h.1⟩
 | cs :: r,cs0 :: r',h,i+1,cs',hc=>by
  simp only[za]at h
  obtain ⟨c,h1,h2⟩:=Yk h.2 i cs' (by simpa using hc)
  exact ⟨c,by simpa using h1,h2⟩
 | [],_ :: _,h,_,_,_=>by simp only[za]at h
theorem QR:∀ {src:Src} {id i:Nat},src[id]?=some (.inl i)->i∈QY src
 | [],_,_,h=>by simp at h
 | x :: r,0,i,h=>by
  simp at h;subst h;simp[QY]
 | .inl j :: r,id+1,i,h=>by
  simp only[QY]
  exact List.mem_cons_of_mem _ (QR (by simpa using h))
 | .inr j :: r,id+1,i,h=>by
  simp only[QY]
  exact QR (src:=r) (id:=id) (by simpa using h)
theorem ND:∀ {src:Src},(QY src).Nodup->∀ {id id' i:Nat},src[id]?=some (.inl i)->src[id']?=some (.inl i)->id=id'
 | [],_,_,_,_,h,_=>by simp at h
 | x :: r,hn,0,0,i,h,h'=>rfl
 | x :: r,hn,0,id'+1,i,h,h'=>by
  simp at h;subst h
  simp only[QY,List.nodup_cons]at hn
  exact absurd (QR (src:=r) (id:=id') (by simpa using h')) hn.1
 | x :: r,hn,id+1,0,i,h,h'=>by
  simp at h';subst h'
  simp only[QY,List.nodup_cons]at hn
  exact absurd (QR (src:=r) (id:=id) (by simpa using h)) hn.1
 | x :: r,hn,id+1,id'+1,i,h,h'=>by
  have hn':(QY r).Nodup:=by
   cases x with
   | inl j=>simp only[QY,List.nodup_cons]at hn;exact hn.2
   | inr j=>exact hn
  rw[ND hn' (id:=id) (id':=id') (i:=i) (by simpa using h) (by simpa using h')]
theorem Vi {B:Nat->Prop} {R:Env} {L:Loc} {src:Src} {β':List Nat} (hs:XK src=true) (hβ:∀ b∈β',b∈L.β) (h:Qn B R L):Qn B R ⟨β',QU src L.T⟩:=by
 have hn:(QY src).Nodup:=of_decide_eq_true hs
 have key:∀ id e k v b,QU src L.T id=some (e,k,v)->v.ownB=some b->∃ i,src[id]?=some (.inl i)/\L.T i=some (e,k,v):=fun id e k v b ht hb=>by
  unfold QU at ht
  split at ht
  ·rename_i i hi;exact ⟨i,hi,ht⟩
  ·cases ht;cases hb
  ·cases ht
 refine ⟨fun id e k v ht=>?_,fun id id' e k v e' k' v' b h1 h2 h3 h4=>?_⟩
 ·have ht':QU src L.T id=some (e,k,v):=ht
  unfold QU at ht'
  split at ht'
  ·exact (h.own _ e k v ht').move fun g _ q2 _ q7=>⟨q2,rfl,fun hx=>q7 (hβ _ hx),fun _ h=>h⟩
  ·cases ht';exact .inl rfl
  ·cases ht'
 ·obtain ⟨i,hi1,hi2⟩:=key id e k v b h1 h3
  obtain ⟨j,hj1,hj2⟩:=key id' e' k' v' b h2 h4
  have:=h.apart i j e k v e' k' v' b hi2 hj2 h3 h4
  subst this
  exact ND hn hi1 hj1
section
variable {G:zk} {E:Ctx} {σ σ':St} {a:Act} {p:Nat}
theorem J8 {R:Env} {L:Loc} {src:Src} {id e k:Nat} {v:Value} {b:Nat} (ht:QU src L.T id=some (e,k,v)) (hb:v.ownB=some b):∃ i,src[id]?=some (.inl i)/\L.T i=some (e,k,v):=by
 unfold QU at ht
 split at ht
 ·rename_i i hi;exact ⟨i,hi,ht⟩
 ·cases ht;cases hb
 ·cases ht
theorem JB.weak {R:Env} {L:Loc} (hp:E.β0.length<=p) (hw:j9 p σ σ') (h:JB G E σ R L):∃ src:Src,zb src σ'.bx.length σ.tm σ'.tm/\JB G E σ' R (jE src σ'.bx.length L):=by
 obtain ⟨src,h1,h2,h3,h0,h4,h5⟩:=hw
 have hl:=h.fit.boxes.len
 have hlen:σ'.bx.length<=σ.bx.length:=by
  rcases Nat.lt_or_ge σ.bx.length σ'.bx.length with hx | hx
  ·obtain ⟨cs,hc,_⟩:=Yk h5 σ.bx.length (σ'.bx[σ.bx.length]) (List.getElem?_eq_getElem hx)
   simp at hc
  ·exact hx
 obtain ⟨more,hm1⟩:=h.box
 have hg:=h
 refine ⟨src,h4,⟨⟨h.fit.glob,⟨by simp;omega,h.fit.boxes.nodup.sublist (List.take_sublist _ _),fun i b cs' hi hc=>?_⟩,Vi h1 (fun b hb=>List.mem_of_mem_take hb) h.fit.owns,h.fit.base⟩,hg.os,hg.tape,hg.output,hg.size,hg.blk,hg.ext,⟨more.take (σ'.bx.length-E.β0.length),?_⟩,fun b hb=>hg.tub b (List.mem_of_mem_take hb),hg.flt,hg.fz,fun b hb=>hg.fbx b (List.mem_of_mem_take hb),fun id e k v b ht hv=>?_,fun id hi=>?_,by rw[h0];exact hg.log⟩⟩
 ·obtain ⟨cs,hc1,hc2⟩:=Yk h5 i cs' hc
  have hi':L.β[i]?=some b:=by
   have hi:(L.β.take σ'.bx.length)[i]?=some b:=hi
   rw[List.getElem?_take]at hi
   split at hi
   ·exact hi
   ·cases hi
  obtain ⟨vs,ty,e1,e2,e3,e4⟩:=h.fit.boxes.box i b cs hi' hc1
  exact ⟨vs,ty,e1,zm.less _ _ _ hc2 e2,e3,e4⟩
 ·show L.β.take σ'.bx.length=_
  rw[hm1,List.take_append,List.take_of_length_le (by omega)]
 ·obtain ⟨i,_,hi⟩:=J8 (R:=R) ht hv
  exact hg.fow i e k v b hi hv
 ·show QU src L.T id=none
  unfold QU
  rw[List.getElem?_eq_none (by omega)]
theorem qf.weak {R:Env} {L:Loc} (hp:E.β0.length<=p) (hw:j9 p σ σ') (h:qf G E σ a R L):∃ L',qf G E σ' a R L':=by
 obtain ⟨src,h4,hg⟩:=h.good.weak hp hw
 exact ⟨_,hg,h.size,h.df,UT h.tm h4⟩
theorem Inv.weak {w:World} (hp:E.β0.length<=p) (hw:j9 p σ σ') (h:Inv G E σ a w):Inv G E σ' a w:=by
 obtain ⟨R,L,e,h⟩:=h
 obtain ⟨L',h'⟩:=h.weak hp hw
 exact ⟨R,L',e,h'⟩
end
end
section
open Go.RowKit
def Yw (L:Loc) (b:Nat):Prop:=b∈L.β∨∃ id e k v,L.T id=some (e,k,v)/\v.ownB=some b
mutual
/-- boxes and owners under other zh -/
def C.re (fp fo:Nat->Option Nat):C->C
 | .own id e k rows=>match fo id with
  | some j=>.own j e k rows
  | none=>.sl k rows
 | .ptr i off=>match fp i with
  | some j=>.ptr j off
  | none=>.any
 | .bs i off k n c=>match fp i with
  | some j=>.bs j off k n c
  | none=>.any
 | .mo id t ks vs=>match fo id with
  | some j=>.mo j t ks vs
  | none=>.any
 | .agg cs=>.agg (C.reL fp fo cs)
 | .tup cs=>.tup (C.reL fp fo cs)
 | .clo fn first cap=>.clo fn (C.reL fp fo first) (C.reL fp fo cap)
 | .sc v=>.sc v
 | .str l=>.str l
 | .sl k rows=>.sl k rows
 | .tight k rows=>.tight k rows
 | .row cs=>.row cs
 | .any=>.any
def C.reL (fp fo:Nat->Option Nat):List C->List C
 | []=>[]
 | c :: r=>c.re fp fo :: C.reL fp fo r
end
section
variable {fp fo:Nat->Option Nat} {R R':Env} {L L':Loc}
mutual
theorem Rep.re (he:Ext R R') (hb:∀ i j b,fp i=some j->L.β[i]?=some b->L'.β[j]?=some b) (ho:∀ i j x,fo i=some j->L.T i=some x->L'.T j=some x):∀ (c:C) (v:Value),Rep R L c v->Rep R' L' (c.re fp fo) v
 | .sc _,_,h=>by unfold C.re;unfold Rep at h ⊢;exact h
 | .str _,_,h=>by unfold C.re;unfold Rep at h ⊢;exact h
 | .agg cs,_,h=>by
  unfold C.re;unfold Rep at h ⊢
  obtain ⟨vs,e,hl⟩:=h
  exact ⟨vs,e,zm.re he hb ho cs _ hl⟩
 | .tup cs,_,h=>by
  unfold C.re;unfold Rep at h ⊢
  obtain ⟨vs,e,hl⟩:=h
  exact ⟨vs,e,zm.re he hb ho cs _ hl⟩
 | .sl k rows,v,h=>by
  unfold C.re
  exact Rep.ext he (zx.none L') (.sl k rows) v (T:=zu) (by unfold Rep at h ⊢;exact h)
 | .tight k rows,v,h=>by
  unfold C.re
  exact Rep.ext he (zx.none L') (.tight k rows) v (T:=zu) (by unfold Rep at h ⊢;exact h)
 | .own id e k rows,v,h=>by
  unfold C.re
  have h2:=Rep.ext he (zx.none L') (.sl k rows) v (T:=zu) (by unfold Rep at h ⊢;exact h.2)
  split
  ·rename_i j hj
   unfold Rep at h h2 ⊢
   exact ⟨ho _ _ _ hj h.1,h2⟩
  ·exact h2
 | .ptr i off,_,h=>by
  unfold C.re;unfold Rep at h
  split
  ·rename_i j hj
   obtain ⟨b,e,h⟩:=h
   unfold Rep
   exact ⟨b,hb _ _ _ hj e,h⟩
  ·unfold Rep;trivial
 | .bs i off k n c,_,h=>by
  unfold C.re;unfold Rep at h
  split
  ·rename_i j hj
   obtain ⟨b,e,h⟩:=h
   unfold Rep
   exact ⟨b,hb _ _ _ hj e,h⟩
  ·unfold Rep;trivial
 | .mo id t ks vs,_,h=>by
  unfold C.re;unfold Rep at h
  split
  ·rename_i j hj
   obtain ⟨b,vvs,e,ht,hl⟩:=h
   unfold Rep
   exact ⟨b,vvs,e,ho _ _ _ hj ht,zm.ext he (zx.refl _) _ _ hl⟩
  ·unfold Rep;trivial
 | .row cs,v,h=>by
  unfold C.re
  exact Rep.ext he (zx.none L') (.row cs) v (T:=zu) (by unfold Rep at h ⊢;exact h)
 | .clo fn first cap,_,h=>by
  unfold C.re;unfold Rep at h ⊢
  obtain ⟨fs,cs,e,h1,h2⟩:=h
  exact ⟨fs,cs,e,zm.re he hb ho first _ h1,zm.re he hb ho cap _ h2⟩
 | .any,_,_=>by unfold C.re;unfold Rep;trivial
theorem zm.re (he:Ext R R') (hb:∀ i j b,fp i=some j->L.β[i]?=some b->L'.β[j]?=some b) (ho:∀ i j x,fo i=some j->L.T i=some x->L'.T j=some x):∀ (cs:List C) (vs:List Value),zm R L cs vs->zm R' L' (C.reL fp fo cs) vs
 | [],_,h=>by unfold C.reL;rw[zg]at h ⊢;exact h
 | c :: r,_,h=>by
  unfold C.reL;rw[zd]at h ⊢
  obtain ⟨v,us,e,h1,h2⟩:=h
  exact ⟨v,us,e,Rep.re he hb ho c v h1,zm.re he hb ho r us h2⟩
end
end
def YX (P:Program) (G:zk) (f:FuncId) (args:List C) (bx:List (List C)) (q:Nat) (post:C->List (List C)->Nat->Prop):Prop:=
 JW P f=true/\∀ (R:Env) (L:Loc) (vs:List Value),YN G R->qS R L bx->Qn (fun _=>True) R L->(∀ id,q<=id->L.T id=none)->(∀ b,R.F b->b<R.w.heap.size)->(∀ b,Yw L b->¬R.F b)->zm R L args vs ->
  Calls P f vs.toArray R.w fun e w'=>∃ r bx' n,(post r bx' n/\bx.length<=bx'.length)/\∃ v R' L',e = .returned v/\R'.w=w'/\Ml R.w (Yw L) R R'/\qS R' L' bx'/\Qn (fun g=>R.w.heap.size<=g∨Yw L g) R' L'/\(∃ more,L'.β=L.β++more/\∀ b∈more,R.w.heap.size<=b)/\(∀ id,n<=id->L'.T id=none)/\Rep R' L' r v
theorem YX.bySlice {P:Program} {G:zk} {f:FuncId} {k:Nat} {rows:List (List C)} {rest:List C} {bx:List (List C)} {q:Nat} {post:C->List (List C)->Nat->Prop} (h1:rows≠[]->YX P G f (.sl k rows :: rest) bx q post)
  (h2:rows = []->∀ a cap,(∀ k,C.rows? k (.sc (.slice a 0 cap))=some [])->YX P G f (.sc (.slice a 0 cap) :: rest) bx q post):YX P G f (.sl k rows :: rest) bx q post:=by
 by_cases h:rows = []
 ·have hn:=h2 h none 0 (fun k=>rfl)
  refine ⟨hn.1,fun R L vs a1 a2 a3 a4 a5 a6 hv=>?_⟩
  obtain ⟨v,us,rfl,hv,hus⟩:=zd.1 hv
  unfold Rep at hv
  obtain ⟨a,cap,e,_,hc,_⟩:=hv
  rw[h]at e
  refine (h2 h a cap (fun k=>?_)).2 R L _ a1 a2 a3 a4 a5 a6 (zd.2 ⟨v,us,rfl,zj.2 e,hus⟩)
  cases a with
  | none=>cases cap with
   | zero=>rfl
   | succ c=>simp[C.rows?,hc]
  | some a=>simp[C.rows?,hc]
 ·exact h1 h
def zaW (P:Program) (G:zk) (f:FuncId) (args:List C) (bx:List (List C)) (q:Nat) (r:C) (bx':List (List C)) (n:Nat):Prop:=
 YX P G f args bx q fun r' b' n'=>r'=r/\b'=bx'/\n'=n
def XE:List Nat->Nat->Option Nat
 | [],_=>none
 | x :: r,i=>if i=x then some 0 else (XE r i).map (·+1)
theorem QE:∀ (l:List Nat) (i j:Nat),XE l i=some j->l[j]?=some i
 | [],i,j,h=>by simp[XE]at h
 | x :: r,i,j,h=>by
  unfold XE at h
  split at h
  ·cases h;subst_vars;rfl
  ·cases hq:XE r i with
   | none=>rw[hq]at h;cases h
   | some k =>
    rw[hq]at h
    cases h
    simpa using QE r i k hq
def upB (ι:List Nat) (m j:Nat):Option Nat:=match ι[j]? with | some i=>some i | none=>some (m+(j-ι.length))
def upO (nx j:Nat):Option Nat:=some (nx+j)
def Qg (κ:List Nat) (i:Nat):Option Nat:=if i∈κ then none else some i
def U8 (fp fo:Nat->Option Nat):List (Nat×C)->List (Nat×C)
 | []=>[]
 | (t,c) :: r=>(t,c.re fp fo) :: U8 fp fo r
theorem kI (fp fo:Nat->Option Nat):∀ (tm:List (Nat×C)) (t:Nat),q9 (U8 fp fo tm) t=(q9 tm t).re fp fo
 | [],t=>by simp only[U8,q9];unfold C.re;rfl
 | (u,c) :: r,t=>by
  simp only[U8,q9]
  split
  ·rfl
  ·exact kI fp fo r t
def Gi (fp fo:Nat->Option Nat):List (List C)->List (List C)
 | []=>[]
 | cs :: r=>C.reL fp fo cs :: Gi fp fo r
theorem XD (fp fo:Nat->Option Nat):∀ (bx:List (List C)) (i:Nat),(Gi fp fo bx)[i]?=(bx[i]?).map (C.reL fp fo)
 | [],i=>by simp[Gi]
 | c :: r,0=>by simp[Gi]
 | c :: r,i+1=>by simp[Gi,XD fp fo r i]
theorem qu (fp fo:Nat->Option Nat):∀ bx:List (List C),(Gi fp fo bx).length=bx.length
 | []=>rfl
 | c :: r=>by simp[Gi,qu fp fo r]
def Zs:List Nat->List (List C)->List (List C)->List (List C)
 | i :: ι,cs :: r,bx=>Zs ι r (bx.set i cs)
 | _,_,bx=>bx
theorem j6:∀ (ι:List Nat) (l bx:List (List C)),(Zs ι l bx).length=bx.length
 | [],_,_=>rfl
 | i :: ι,[],_=>rfl
 | i :: ι,c :: r,bx=>by simp[Zs,j6 ι r]
theorem XV:∀ (ι:List Nat) (l bx:List (List C)) (i:Nat),i∉ι->(Zs ι l bx)[i]?=bx[i]?
 | [],_,_,i,_=>rfl
 | x :: ι,[],_,i,_=>rfl
 | x :: ι,c :: r,bx,i,h=>by
  simp only[Zs]
  rw[XV ι r _ i (fun h'=>h (List.mem_cons_of_mem _ h')),List.getElem?_set_ne (fun e:x=i=>h (by rw[e];exact List.mem_cons_self))]
theorem N3:∀ (ι:List Nat) (l bx:List (List C)) (i j:Nat) (cs:List C),ι.Nodup->ι[j]?=some i->l[j]?=some cs->i<bx.length->(Zs ι l bx)[i]?=some cs
 | [],_,_,i,j,cs,_,h,_,_=>by simp at h
 | x :: ι,[],_,i,j,cs,_,_,h,_=>by simp at h
 | x :: ι,c :: r,bx,i,0,cs,hn,h1,h2,h3=>by
  simp at h1 h2;subst h1 h2
  simp only[Zs]
  rw[XV ι r _ x (List.nodup_cons.1 hn).1,List.getElem?_set_self h3]
 | x :: ι,c :: r,bx,i,j+1,cs,hn,h1,h2,h3=>by
  simp only[Zs]
  exact N3 ι r _ i j cs (List.nodup_cons.1 hn).2 (by simpa using h1) (by simpa using h2) (by simpa using h3)
def ZC (ι κ:List Nat) (bx':List (List C)) (n:Nat) (σ:St):St:=
 ⟨U8 some (Qg κ) σ.tm,Zs ι (Gi (upB ι σ.bx.length) (upO σ.nx) bx') (Gi some (Qg κ) σ.bx)++Gi (upB ι σ.bx.length) (upO σ.nx) (bx'.drop ι.length),σ.nx+n,σ.lg⟩
def V9 (P:Program) (G:zk) (f:FuncId) (args:List C) (σ:St) (K:C->St->Prop):Prop:=
 ∃ (ι κ:List Nat) (post:C->List (List C)->Nat->Prop),ι.Nodup/\κ.Nodup/\(∀ i∈ι,i<σ.bx.length) /\
  YX P G f (C.reL (XE ι) (XE κ) args) (ι.map fun i=>C.reL (XE ι) (XE κ) (σ.bx.getD i [])) κ.length post/\∀ r bx' n,post r bx' n->K (r.re (upB ι σ.bx.length) (upO σ.nx)) (ZC ι κ bx' n σ)
def MC (P:Program) (G:zk) (f:FuncId) (args:List C) (σ:St) (K:C->St->Prop):Prop:=
 ∃ (ι κ:List Nat) (r:C) (bx':List (List C)) (n:Nat),ι.Nodup/\κ.Nodup/\(∀ i∈ι,i<σ.bx.length) /\
  zaW P G f (C.reL (XE ι) (XE κ) args) (ι.map fun i=>C.reL (XE ι) (XE κ) (σ.bx.getD i [])) κ.length r bx' n/\K (r.re (upB ι σ.bx.length) (upO σ.nx)) (ZC ι κ bx' n σ)
section
variable {P:Program} {G:zk} {E:Ctx} {σ σ':St} {o:Oper} {a:Act} {R R':Env} {L L':Loc}
theorem JB.turf (h:JB G E σ R L) {b:Nat} (hb:Yw L b):E.tu b/\¬R.F b/\b<R.w.heap.size/\((∃ cs t f,R.w.heap[b]?=some (.cells cs t f))∨∃ es cl,R.w.heap[b]?=some (.map es cl)):=by
 rcases hb with hb | ⟨id,e,k,v,ht,hv⟩
 ·obtain ⟨i,hi,rfl⟩:=List.getElem_of_mem hb
  have hl:=h.fit.boxes.len
  obtain ⟨vs,ty,g,_⟩:=h.fit.boxes.box i L.β[i] (σ.bx[i]'(by omega)) (List.getElem?_eq_getElem hi) (List.getElem?_eq_getElem (by omega))
  exact ⟨h.tubx _ hb,h.fbx _ hb,zI g,.inl ⟨_,_,_,g⟩⟩
 ·have ho:=h.fit.owns.own id e k v ht
  have hf:=h.fow id e k v b ht hv
  exact ⟨(ho.block hv).1,hf,(ho.block hv).2.1,ho.held hv⟩
abbrev U5 (G:zk) (E:Ctx) (a:Act) (nx:Nat) (L:Loc) (K:C->St->Prop) (v:Value) (w':World):Prop:=∃ c σ' R' L',R'.w=w'/\qf G E σ' a R' L'/\Rep R' L' c v/\K c σ'/\∀ id,id<nx->L.T id=none->L'.T id=none
theorem U5.after {nx:Nat} {L:Loc} {K:C->St->Prop} {v:Value} {w':World} (h:U5 G E a nx L K v w'):JF G E a K v w':=by
 obtain ⟨c,σ',R',L',h1,h2,h3,h4,_⟩:=h
 exact ⟨c,σ',R',L',h1,h2,h3,h4⟩
theorem ZJ {c:Call} {f:Operand} (ho:o.op = .call c) (hc:c.callee = .value f) {fid:FuncId} {first cap:List C} (hev:zp G σ.tm f = .clo (.func fid) first cap) {K:C->St->Prop} (h:qf G E σ a R L)
  (hK:V9 P G fid (first++c.args.toList.map (zp G σ.tm)++cap) σ K):qA P o a.eval R.w (U5 G E a σ.nx L K):=by
 obtain ⟨ι,κ,post,hι,hκ,hιb,⟨hent,hfun⟩,hK⟩:=hK
 have hg:=h.good
 have hbl:=hg.fit.boxes.len
 have hnd:=hg.fit.boxes.nodup
 let g:Nat->Nat:=fun i=>L.β.getD i 0
 have hgv:∀ i,i<σ.bx.length->L.β[i]?=some (g i):=fun i hi=>by
  simp only[g,List.getD_eq_getElem?_getD]
  rw[List.getElem?_eq_getElem (by omega)];rfl
 have hginj:∀ i j,i<σ.bx.length->j<σ.bx.length->g i=g j->i=j:=fun i j hi hj e=>by
  have h1:=hgv i hi
  have h2:=hgv j hj
  rw[e,←h2]at h1
  exact (List.getElem?_inj (by omega) hnd).1 h1
 let Lf:Loc:=⟨ι.map g,fun j=>(κ[j]?).bind L.T⟩
 have hfβ:∀ j b,(ι.map g)[j]?=some b->∃ i,ι[j]?=some i/\i<σ.bx.length/\L.β[i]?=some b:=fun j b hj=>by
  rw[List.getElem?_map]at hj
  cases hq:ι[j]? with
  | none=>rw[hq]at hj;cases hj
  | some i =>
   rw[hq]at hj;cases hj
   have hi:=hιb i (List.mem_of_getElem? hq)
   exact ⟨i,hq,hi,hgv i hi⟩
 have hre:∀ cs vs,zm R L cs vs->zm R Lf (C.reL (XE ι) (XE κ) cs) vs:=fun cs vs hr=>zm.re (Ext.refl R) (fun i j b hij hb=>by
   have:=QE ι i j hij
   show (ι.map g)[j]?=some b
   rw[List.getElem?_map,this]
   have hi:=hιb i (List.mem_of_getElem? this)
   rw[←hb,hgv i hi];rfl) (fun i j x hij hx=>by
   have:=QE κ i j hij
   show (κ[j]?).bind L.T=some x
   rw[this];exact hx) _ _ hr
 have hTf:∀ j x,Lf.T j=some x->∃ id,κ[j]?=some id/\L.T id=some x:=fun j x hj=>by
  have hj:(κ[j]?).bind L.T=some x:=hj
  cases hq:κ[j]? with
  | none=>rw[hq]at hj;cases hj
  | some id=>rw[hq]at hj;exact ⟨id,rfl,hj⟩
 have hturf:∀ b,Yw Lf b->Yw L b:=fun b hb=>by
  rcases hb with hb | ⟨id,e,k,v,ht,hv⟩
  ·obtain ⟨j,hj,rfl⟩:=List.getElem_of_mem hb
   obtain ⟨i,_,_,hi⟩:=hfβ j _ (List.getElem?_eq_getElem hj)
   exact .inl (List.mem_of_getElem? hi)
  ·obtain ⟨id',_,ht'⟩:=hTf id _ ht
   exact .inr ⟨id',e,k,v,ht',hv⟩
 have hownOld:∀ id e k v b,L.T id=some (e,k,v)->v.ownB=some b->E.tu b/\b<R.w.heap.size/\b∉L.β:=fun id e k v b ht hv=>(hg.fit.owns.own id e k v ht).block hv
 have hf:=h.ev f
 rw[hev,Jy]at hf
 obtain ⟨fs,cs,e1,h1,h2⟩:=hf
 have hargs:=hre _ _ (zi (zi h1 (JS h.ev c.args.toList)) h2)
 have hκinj:∀ (i j x:Nat),κ[i]?=some x->κ[j]?=some x->i=j:=fun i j x hi hj=>(List.getElem?_inj (List.getElem?_eq_some_iff.1 hi).1 hκ).1 (hi.trans hj.symm)
 have hcall:=hfun R Lf _ hg.fit.glob ⟨by simp[Lf],by
   show (ι.map g).Nodup
   rw[List.Nodup,List.pairwise_map]
   exact hι.imp_of_mem fun {i j} hi hj hne e=>hne (hginj i j (hιb i hi) (hιb j hj) e),fun j b cs' hj hc'=>by
   obtain ⟨i,hi,hib,hib'⟩:=hfβ j b hj
   rw[List.getElem?_map,hi]at hc'
   have hbx:σ.bx[i]?=some (σ.bx.getD i []):=by rw[List.getD_eq_getElem?_getD,List.getElem?_eq_getElem hib];rfl
   cases hc'
   obtain ⟨vs,ty,q1,q2,q3,q4⟩:=hg.fit.boxes.box i b _ hib' hbx
   exact ⟨vs,ty,q1,hre _ _ q2,q3,q4⟩⟩
  ⟨fun j e k v hj=>by
   obtain ⟨id,_,hid⟩:=hTf j _ hj
   ·refine (hg.fit.owns.own id e k v hid).move fun gg _ q2 _ q7=>⟨trivial,rfl,fun hx=>q7 ?_,fun _ h=>h⟩
    have hx:gg∈ι.map g:=hx
    obtain ⟨i,hi,rfl⟩:=List.mem_map.1 hx
    exact List.mem_of_getElem? (hgv i (hιb i hi)),fun i j e k v e' k' v' b hi hj hv hv'=>by
   obtain ⟨x,hx,hx'⟩:=hTf i _ hi
   obtain ⟨y,hy,hy'⟩:=hTf j _ hj
   have:=hg.fit.owns.apart x y e k v e' k' v' b hx' hy' hv hv'
   subst this
   exact hκinj i j x hx hy⟩ (fun id hid=>by
   show (κ[id]?).bind L.T=none
   rw[List.getElem?_eq_none hid];rfl) hg.flt (fun b hb=>(hg.turf (hturf b hb)).2.1) hargs
 have hrun:(execOp a.eval o).run P R.w = .ok (.enter fid (fs.toList++c.args.toList.map a.eval++cs.toList).toArray) R.w:=by
  unfold execOp
  simp only[ho,resolve,hc,e1]
  have e2:(Deferred.ofValue (.func (.func fid) fs cs) (c.args.map a.eval)).run P R.w = .ok { target:=.fn (.func fid) cs,args:=fs++c.args.map a.eval } R.w:=by
   simp[Deferred.ofValue]
  rw[Sem.run_bind,e2]
  simp only[Result.andThen_ok,invoke]
  rw[Qy hent]
  congr 2
  apply Array.ext'
  simp
 unfold qA
 rw[hrun]
 refine hcall.mono ?_
 rintro e w' ⟨r,bx',n,⟨hpost,hlen⟩,v,R',L',rfl,rfl,hn,hbx',how',⟨more,hm1,hm2⟩,hfree',hrep⟩
 have hK:=hK r bx' n hpost
 have hm1:L'.β=ι.map g++more:=hm1
 have hιl:(ι.map g).length=ι.length:=by simp
 have hmn:=hbx'.nodup
 rw[hm1,List.nodup_append]at hmn
 have hnear:Ml E.w0 E.ex R R':=⟨hn.os,hn.tape,hn.output,hn.size,hn.fgn,hn.ext,fun b hb=>(hn.blk b hb).imp id fun ⟨q1,q2,q3⟩=>⟨by
  rcases q1 with q1 | q1
  ·omega
  ·exact (hg.turf (hturf b q1)).1,q2,q3⟩⟩
 have hsame:∀ b,b<R.w.heap.size->¬Yw Lf b->R'.w.heap[b]?=R.w.heap[b]?/\∀ o,(R'.M b o↔R.M b o):=fun b hb hT=>by
  rcases hn.blk b hb with q | ⟨q,_⟩
  ·exact q
  ·rcases q with q | q
   ·omega
   ·exact absurd q hT
 let L2:Loc:=⟨L.β++more,fun id=>if σ.nx<=id/\id<σ.nx+n then L'.T (id-σ.nx) else if id∈κ then none else L.T id⟩
 have hnewT:∀ j x,L'.T j=some x->L2.T (σ.nx+j)=some x:=fun j x hj=>by
  have hjn:j<n:=by
   rcases Nat.lt_or_ge j n with q | q
   ·exact q
   ·rw[hfree' j q]at hj;cases hj
  show (if σ.nx<=σ.nx+j/\σ.nx+j<σ.nx+n then L'.T (σ.nx+j-σ.nx) else _)=some x
  rw[if_pos ⟨by omega,by omega⟩,Nat.add_sub_cancel_left];exact hj
 have hup:∀ cs vs,zm R' L' cs vs->zm R' L2 (C.reL (upB ι σ.bx.length) (upO σ.nx) cs) vs:=fun cs vs hr=>zm.re (Ext.refl R') (fun j i b hji hb=>by
   rw[hm1]at hb
   unfold upB at hji
   show (L.β++more)[i]?=some b
   split at hji
   ·rename_i i' hi'
    cases hji
    have hjl:j<ι.length:=(List.getElem?_eq_some_iff.1 hi').1
    rw[List.getElem?_append_left (by omega)]at hb
    obtain ⟨i2,hi2,hi2b,hb2⟩:=hfβ j b hb
    rw[hi']at hi2;cases hi2
    rw[List.getElem?_append_left (by omega)];exact hb2
   ·rename_i hno
    cases hji
    have hjl:ι.length<=j:=by
     rcases Nat.lt_or_ge j ι.length with q | q
     ·rw[List.getElem?_eq_getElem q]at hno;cases hno
     ·exact q
    rw[List.getElem?_append_right (by omega),hιl]at hb
    rw[List.getElem?_append_right (by omega),hbl,Nat.add_sub_cancel_left];exact hb) (fun j i x hji hx=>by
   unfold upO at hji
   cases hji
   exact hnewT j x hx) _ _ hr
 have hupC:Rep R' L2 (r.re (upB ι σ.bx.length) (upO σ.nx)) v:=by
  have:=hup [r] [v] (zd.2 ⟨v,[],rfl,hrep,zg.2 rfl⟩)
  unfold C.reL at this
  obtain ⟨v',us,q1,q2,_⟩:=zd.1 this
  cases q1;exact q2
 have hkeep1:∀ (i j b:Nat),some i=some j->L.β[i]?=some b->L2.β[j]?=some b:=fun i j b hij hb=>by
  cases hij
  show (L.β++more)[i]?=some b
  rw[List.getElem?_append_left (List.getElem?_eq_some_iff.1 hb).1];exact hb
 have hkeep2:∀ i j x,Qg κ i=some j->L.T i=some x->L2.T j=some x:=fun i j x hij hx=>by
  unfold Qg at hij
  split at hij
  ·cases hij
  ·rename_i hni
   cases hij
   have hlt:i<σ.nx:=by
    rcases Nat.lt_or_ge i σ.nx with q | q
    ·exact q
    ·rw[hg.free i q]at hx;cases hx
   show (if _ then _ else if i∈κ then none else L.T i)=some x
   rw[if_neg (by omega),if_neg hni];exact hx
 have hL2:∀ id x,L2.T id=some x->(σ.nx<=id/\id<σ.nx+n/\L'.T (id-σ.nx)=some x)∨(id∉κ/\L.T id=some x):=fun id x hx=>by
  have hx:(if σ.nx<=id/\id<σ.nx+n then L'.T (id-σ.nx) else if id∈κ then none else L.T id)=some x:=hx
  split at hx
  ·rename_i hq;exact .inl ⟨hq.1,hq.2,hx⟩
  ·split at hx
   ·cases hx
   ·rename_i hni;exact .inr ⟨hni,hx⟩
 have hnewB:∀ j e k v b,L'.T j=some (e,k,v)->v.ownB=some b->(R.w.heap.size<=b∨∃ i e' k' v',i∈κ/\L.T i=some (e',k',v')/\v'.ownB=some b)/\b∉L'.β:=fun j e k v b hj hv=>by
  have hbk:=(how'.own j e k v hj).block hv
  refine ⟨?_,hbk.2.2⟩
  rcases hbk.1 with q | q
  ·exact .inl q
  ·rcases q with q | ⟨i,e',k',v',ht,hv'⟩
   ·exact absurd (by rw[hm1];exact List.mem_append_left _ q) hbk.2.2
   ·obtain ⟨x,hx,hx'⟩:=hTf i _ ht
    exact .inr ⟨x,e',k',v',List.mem_of_getElem? hx,hx',hv'⟩
 have hnewL:∀ j e k v b,L'.T j=some (e,k,v)->v.ownB=some b->b∉L.β++more:=fun j e k v b hj hv hb=>by
  obtain ⟨q1,q2⟩:=hnewB j e k v b hj hv
  rcases List.mem_append.1 hb with hb | hb
  ·rcases q1 with q1 | ⟨i,e',k',v',_,ht,hv'⟩
   ·have:=hg.fit.β_lt b hb;omega
   ·exact (hownOld i e' k' v' b ht hv').2.2 hb
  ·exact q2 (by rw[hm1];exact List.mem_append_right _ hb)
 have hnotT:∀ i e k v b,i∉κ->L.T i=some (e,k,v)->v.ownB=some b->¬Yw Lf b:=fun i e k v b hni ht hv hT=>by
  rcases hT with hT | ⟨j,e',k',v',ht',hv'⟩
  ·obtain ⟨x,hx,rfl⟩:=List.mem_map.1 hT
   exact (hownOld i e k v _ ht hv).2.2 (List.mem_of_getElem? (hgv x (hιb x hx)))
  ·obtain ⟨x,hx,hx'⟩:=hTf j _ ht'
   have:=hg.fit.owns.apart i x e k v e' k' v' b ht hx' hv hv'
   subst this
   exact hni (List.mem_of_getElem? hx)
 refine ⟨v,rfl,_,ZC ι κ bx' n σ,R',L2,rfl,⟨hg.move (tm':=U8 some (Qg κ) σ.tm) hnear.nigh ⟨hg.fit.glob.ext hn.ext,⟨?_,?_,fun i b cs' hi hc'=>?_⟩,⟨fun id e k v ht=>?_,fun id id' e k v e' k' v' b ht ht' hv hv'=>?_⟩,fun gg hgg=>hg.fit.base gg (Nat.le_trans hn.size hgg)⟩ ⟨more,rfl,hm2⟩ (fun id e k v b ht hv=>?_) (fun id hid=>?_),h.size,h.df.near hnear,fun t=>?_⟩,hupC,hK,fun id hid hT=>?_⟩
 ·have:=hbx'.len
  rw[hm1]at this
  simp only[L2,List.length_append,j6,qu,List.length_drop]at this ⊢
  simp at this
  omega
 ·show (L.β++more).Nodup
  rw[List.nodup_append]
  refine ⟨hnd,hmn.2.1,fun x hx y hy e=>?_⟩
  have:=hg.fit.β_lt x hx
  have:=hm2 y hy
  omega
 ·have hi:(L.β++more)[i]?=some b:=hi
  rcases Nat.lt_or_ge i L.β.length with hlt | hge
  ·rw[List.getElem?_append_left hlt]at hi
   rw[List.getElem?_append_left (by rw[j6,qu];omega)]at hc'
   by_cases hmem:i∈ι
   ·obtain ⟨j,hj,hji⟩:=List.getElem_of_mem hmem
    have hji':ι[j]?=some i:=by rw[List.getElem?_eq_getElem hj,hji]
    have hj2:j<bx'.length:=by simp at hlen;omega
    rw[N3 ι _ _ i j (C.reL (upB ι σ.bx.length) (upO σ.nx) bx'[j]) hι hji' (by rw[XD,List.getElem?_eq_getElem hj2];rfl) (by rw[qu];omega)]at hc'
    cases hc'
    have hLj:L'.β[j]?=some b:=by
     rw[hm1,List.getElem?_append_left (by omega),List.getElem?_map,hji']
     have hgi:=hgv i (by omega)
     rw[hi]at hgi
     simpa using hgi.symm
    obtain ⟨vs,ty,q1,q2,q3,q4⟩:=hbx'.box j b _ hLj (List.getElem?_eq_getElem hj2)
    exact ⟨vs,ty,q1,hup _ _ q2,q3,q4⟩
   ·rw[XV ι _ _ i hmem,XD]at hc'
    cases hq:σ.bx[i]? with
    | none=>rw[hq]at hc';cases hc'
    | some c0 =>
     rw[hq]at hc';cases hc'
     obtain ⟨vs,ty,q1,q2,q3,q4⟩:=hg.fit.boxes.box i b c0 hi hq
     have hnT:¬Yw Lf b:=fun hT=>by
      rcases hT with hT | ⟨j,e',k',v',ht',hv'⟩
      ·obtain ⟨x,hx,rfl⟩:=List.mem_map.1 hT
       have h5:=hgv x (hιb x hx)
       have:=(List.getElem?_inj (by omega) hnd).1 (hi.trans h5.symm)
       subst this;exact hmem hx
      ·obtain ⟨x,hx,hx'⟩:=hTf j _ ht'
       exact (hownOld x e' k' v' b hx' hv').2.2 (List.mem_of_getElem? hi)
     obtain ⟨k1,k2⟩:=hsame b (zI q1) hnT
     exact ⟨vs,ty,k1.trans q1,zm.re hn.ext hkeep1 hkeep2 _ _ q2,q3,fun o=>(k2 o).2 (q4 o)⟩
  ·rw[List.getElem?_append_right hge]at hi
   rw[List.getElem?_append_right (by rw[j6,qu];omega),j6,qu,XD,List.getElem?_drop]at hc'
   have hLj:L'.β[ι.length+(i-σ.bx.length)]?=some b:=by
    rw[hm1,List.getElem?_append_right (by omega),hιl,Nat.add_sub_cancel_left,←hbl];exact hi
   cases hq:bx'[ι.length+(i-σ.bx.length)]? with
   | none=>rw[hq]at hc';cases hc'
   | some c0 =>
    rw[hq]at hc';cases hc'
    obtain ⟨vs,ty,q1,q2,q3,q4⟩:=hbx'.box _ b c0 hLj hq
    exact ⟨vs,ty,q1,hup _ _ q2,q3,q4⟩
 ·rcases hL2 id _ ht with ⟨_,_,hj⟩ | ⟨hni,hj⟩
  ··refine (how'.own _ e k v hj).move fun gg hv q2 _ q7=>⟨?_,rfl,hnewL _ e k v gg hj hv,fun _ h=>h⟩
    rcases q2 with q2 | q2
    ·exact hg.fit.base gg q2
    ·exact (hg.turf (hturf gg q2)).1
  ··refine (hg.fit.owns.own id e k v hj).move fun gg hv q2 hlt q7=>?_
    obtain ⟨k1,k2⟩:=hsame gg hlt (hnotT id e k v gg hni hj hv)
    refine ⟨q2,k1,fun hx=>?_,fun o ho=>(k2 o).2 ho⟩
    rcases List.mem_append.1 hx with hx | hx
    ·exact q7 hx
    ·have:=hm2 gg hx;omega
 ·rcases hL2 id _ ht with ⟨p1,p2,hj⟩ | ⟨hni,hj⟩<;>rcases hL2 id' _ ht' with ⟨p1',p2',hj'⟩ | ⟨hni',hj'⟩
  ·have:=how'.apart _ _ e k v e' k' v' b hj hj' hv hv';omega
  ·exfalso
   rcases (hnewB _ e k v b hj hv).1 with q | ⟨i,e2,k2,v2,hik,hti,hvi⟩
   ·have:=(hownOld id' e' k' v' b hj' hv').2.1;omega
   ·have:=hg.fit.owns.apart i id' e2 k2 v2 e' k' v' b hti hj' hvi hv'
    subst this;exact hni' hik
  ·exfalso
   rcases (hnewB _ e' k' v' b hj' hv').1 with q | ⟨i,e2,k2,v2,hik,hti,hvi⟩
   ·have:=(hownOld id e k v b hj hv).2.1;omega
   ·have:=hg.fit.owns.apart i id e2 k2 v2 e k v b hti hj hvi hv
    subst this;exact hni hik
  ·exact hg.fit.owns.apart id id' e k v e' k' v' b hj hj' hv hv'
 ·rcases hL2 id _ ht with ⟨_,_,hj⟩ | ⟨hni,hj⟩
  ·rcases (hnewB _ e k v b hj hv).1 with q | ⟨i,e2,k2,v2,hik,hti,hvi⟩
   ·exact .inr q
   ·exact .inl ⟨i,e2,k2,v2,hti,hvi⟩
  ·exact .inl ⟨id,e,k,v,hj,hv⟩
 ·show (if σ.nx<=id/\id<σ.nx+n then _ else if id∈κ then none else L.T id)=none
  rw[if_neg (by omega)]
  split
  ·rfl
  ·exact hg.free id (by omega)
 ·show Rep R' L2 (q9 (U8 some (Qg κ) σ.tm) t) _
  rw[kI]
  exact Rep.re hn.ext hkeep1 hkeep2 _ _ (h.tm t)
 ·show (if σ.nx<=id/\id<σ.nx+n then _ else if id∈κ then none else L.T id)=none
  rw[if_neg (by omega),hT]
  split<;>rfl
theorem Ub {c:Call} {f:Operand} (ho:o.op = .call c) (hc:c.callee = .value f) {fid:FuncId} {first cap:List C} (hev:zp G σ.tm f = .clo (.func fid) first cap) {K:C->St->Prop} (h:qf G E σ a R L)
  (hK:V9 P G fid (first++c.args.toList.map (zp G σ.tm)++cap) σ K):qA P o a.eval R.w (JF G E a K):=(ZJ ho hc hev h hK).mono fun _ _ h=>h.after
theorem xD {c:Call} {f:Operand} (ho:o.op = .call c) (hc:c.callee = .value f) {fid:FuncId} {first cap:List C} (hev:zp G σ.tm f = .clo (.func fid) first cap) {K:C->St->Prop} (h:qf G E σ a R L)
  (hK:MC P G fid (first++c.args.toList.map (zp G σ.tm)++cap) σ K):qA P o a.eval R.w (JF G E a K):=by
 obtain ⟨ι,κ,r,bx',n,hι,hκ,hιb,hf,hK⟩:=hK
 exact Ub ho hc hev h ⟨ι,κ,_,hι,hκ,hιb,hf,by rintro r' b' n' ⟨rfl,rfl,rfl⟩;exact hK⟩
def zqe (P:Program) (f:FuncId) (args:List C) (bx:List (List C)) (r:C):Prop:=
 ∀ (B:Nat->Prop) (R:Env) (L:Loc) (vs:List Value),qS R L bx->Qn B R L->zm R L args vs->∃ v,(callFunc f vs.toArray).run P R.w = .ok (.value v) R.w/\Rep R L r v
def zby (P:Program) (f:FuncId) (args:List C) (σ:St) (K:C->St->Prop):Prop:=∃ r,zqe P f args σ.bx r/\K r σ
theorem yu {c:Call} {f:Operand} (ho:o.op = .call c) (hc:c.callee = .value f) {fid:FuncId} {first cap:List C} (hev:zp G σ.tm f = .clo (.func fid) first cap) {K:C->St->Prop} (h:qf G E σ a R L)
  (hK:zby P fid (first++c.args.toList.map (zp G σ.tm)++cap) σ K):qA P o a.eval R.w (JF G E a K):=by
 obtain ⟨r,hr,hK⟩:=hK
 have hf:=h.ev f
 rw[hev,Jy]at hf
 obtain ⟨fs,cs,e1,h1,h2⟩:=hf
 obtain ⟨v,hv,hrep⟩:=hr _ R L _ h.good.fit.boxes h.good.fit.owns (zi (zi h1 (JS h.ev c.args.toList)) h2)
 refine qA.value (w':=R.w) (v:=v) ?_ ⟨_,_,R,L,rfl,h,hrep,hK⟩
 unfold execOp
 simp only[ho,resolve,hc,e1]
 have e2:(Deferred.ofValue (.func (.func fid) fs cs) (c.args.map a.eval)).run P R.w = .ok { target:=.fn (.func fid) cs,args:=fs++c.args.map a.eval } R.w:=by
  simp[Deferred.ofValue]
 rw[Sem.run_bind,e2]
 simp only[Result.andThen_ok,invoke]
 rw[←hv]
 congr 2
 apply Array.ext'
 simp
end
end
section
open Go.RowKit
section
variable {P:Program} {G:zk} {E:Ctx} {σ:St} {o:Oper} {a:Act}
theorem qf.newBoxT {R:Env} {L:Loc} (h:qf G E σ a R L) {w':World} (hb:Below R.w.heap.size R.w w') {g:Nat} (hg:R.w.heap.size<=g) (cs:List C) (vs:Array Value) (ty:TypeId) (hh:w'.heap[g]?=some (.cells vs ty (0,0)))
  (hr:∀ M',(∀ b o,b<R.w.heap.size->(M' b o↔R.M b o))->(∀ o,M' g o)->(∀ b o,R.w.heap.size<=b->b≠g->¬M' b o)->zm ⟨w',M',R.F⟩ L cs vs.toList) (h1:∀ v∈vs.toList,v.oneCell'=true) :
  ∃ R' L',R'.w=w'/\qf G E ⟨σ.tm,σ.bx++[cs],σ.nx,σ.lg⟩ a R' L'/\L'.β[σ.bx.length]?=some g/\L'.T=L.T:=by
 have hmt:∀ b o,b<R.w.heap.size->(((b<R.w.heap.size/\R.M b o)∨b=g)↔R.M b o):=fun b o hlt=>⟨fun h'=>by rcases h' with h' | h';exact h'.2;omega,fun h'=>.inl ⟨hlt,h'⟩⟩
 have hext:Ext R ⟨w',fun b o=>(b<R.w.heap.size/\R.M b o)∨b=g,R.F⟩:=Ext.of_below hb hmt
 have hnear:Ml E.w0 E.ex R ⟨w',fun b o=>(b<R.w.heap.size/\R.M b o)∨b=g,R.F⟩:=
  ⟨hb.os,hb.tape,hb.output,hb.size,rfl,hext,fun b hlt=>.inl ⟨hb.block b hlt,fun o=>hmt b o hlt⟩⟩
 have hlen:=h.good.fit.boxes.len
 have hle:zx L ⟨L.β++[g],L.T⟩:=⟨fun i b e=>by
  have hi:i<L.β.length:=(List.getElem?_eq_some_iff.1 e).1
  rw[List.getElem?_append_left hi];exact e,fun _ _ e=>e⟩
 have hrr:=hr (fun b o=>(b<R.w.heap.size/\R.M b o)∨b=g) hmt (fun o=>.inr rfl) (fun b o hb' hne hx=>by rcases hx with hx | hx;omega;exact hne hx)
 refine ⟨⟨w',fun b o=>(b<R.w.heap.size/\R.M b o)∨b=g,R.F⟩,⟨L.β++[g],L.T⟩,rfl,
  ⟨h.good.move hnear.nigh ⟨h.good.fit.glob.ext hext,⟨by simp[hlen],?_,fun i b cs' hi hc=>?_⟩,⟨fun id e k v ht=>?_,fun id id' e k v e' k' v' b=>h.good.fit.owns.apart id id' e k v e' k' v' b⟩,fun g hg=>?_⟩
   ⟨[g],rfl,fun b hb=>by simp at hb;omega⟩ (fun id e k v b ht hv=>.inl ⟨id,e,k,v,ht,hv⟩) h.good.free,h.size,h.df.near hnear,fun t=>Rep.ext hext hle _ _ (h.tm t)⟩,?_,rfl⟩
 ·rw[List.nodup_append]
  refine ⟨h.good.fit.boxes.nodup,by simp,fun x hx y hy e=>?_⟩
  have:=h.good.fit.β_lt x hx
  simp at hy;omega
 ·rcases Nat.lt_or_ge i L.β.length with hl | hl
  ·rw[List.getElem?_append_left hl]at hi
   rw[List.getElem?_append_left (by omega)]at hc
   obtain ⟨us,ty',e1,e2,e3,e4⟩:=h.good.fit.boxes.box i b cs' hi hc
   exact ⟨us,ty',(hb.block b (zI e1)).trans e1,zm.ext hext hle _ _ e2,e3,fun o=>.inl ⟨zI e1,e4 o⟩⟩
  ·rw[List.getElem?_append_right hl]at hi
   rw[List.getElem?_append_right (by omega)]at hc
   have h0:i-L.β.length=0:=by
    have:=(List.getElem?_eq_some_iff.1 hi).1
    simp at this;omega
   rw[h0]at hi
   rw[show i-σ.bx.length=0 by omega]at hc
   simp at hi hc
   subst hi hc
   exact ⟨vs,ty,hh,zm.ext (Ext.refl _) hle _ _ hrr,h1,fun o=>.inr rfl⟩
 ·refine (h.good.fit.owns.own id e k v ht).move fun g' _ e2 hlt e7=>⟨e2,hb.block g' hlt,fun hx=>?_,fun o ho=>.inl ⟨hlt,ho⟩⟩
  rcases List.mem_append.1 hx with hx | hx
  ·exact e7 hx
  ·simp at hx;omega
 ·exact h.good.fit.base g (Nat.le_trans hb.size hg)
 ·simp[hlen]
theorem qf.newBoxW {R:Env} {L:Loc} (h:qf G E σ a R L) {w':World} (hb:Below R.w.heap.size R.w w') {g:Nat} (hg:R.w.heap.size<=g) (cs:List C) (vs:Array Value) (ty:TypeId) (hh:w'.heap[g]?=some (.cells vs ty (0,0)))
  (hr:∀ M',(∀ b o,b<R.w.heap.size->(M' b o↔R.M b o))->(∀ o,M' g o)->(∀ b o,R.w.heap.size<=b->b≠g->¬M' b o)->zm ⟨w',M',R.F⟩ L cs vs.toList) (h1:∀ v∈vs.toList,v.oneCell'=true) :
  ∃ R' L',R'.w=w'/\qf G E ⟨σ.tm,σ.bx++[cs],σ.nx,σ.lg⟩ a R' L'/\L'.β[σ.bx.length]?=some g:=by
 obtain ⟨R',L',h1,h2,h3,_⟩:=h.newBoxT hb hg cs vs ty hh hr h1
 exact ⟨R',L',h1,h2,h3⟩
def QP (P:Program) (t:TypeId) (n:Nat) (parts:List (Nat×C)) (σ:St) (K:C->St->Prop):Prop:=
 match lay P t with
 | some ⟨.slice e,_,_,_⟩=>match lay P e with
  | some ⟨_,k,_,some z⟩=>z.length=k/\0<k/\n*k<=16777216/\(parts.all fun p=>p.2.frz.partB)=true/\match Yb (fun i=>some (i*k,k)) (List.replicate n (z.map zt)).flatten (parts.map fun p=>(p.1,p.2.frz)) with
   | some cs=>(cs.all C.cellB)=true/\cs.length=n*k/\K (.bs σ.bx.length 0 k n n) ⟨σ.tm,σ.bx++[cs],σ.nx,σ.lg⟩
   | none=>False
  | _=>False
 | _=>False
theorem UA {t:TypeId} {n:Nat} {parts:Array (Nat×Operand)} (ho:o.op = .buildSlice t n parts) {K:C->St->Prop} {R:Env} {L:Loc} (hI:qf G E σ a R L) (h:QP P t n (parts.toList.map fun p=>(p.1,zp G σ.tm p.2)) σ K):qA P o a.eval R.w (JF G E a K):=by
 unfold QP at h
 split at h
 ·rename_i e s b zz hl
  have ht:=zG hl rfl
  split at h
  ·rename_i kd k by' z hle
   obtain ⟨hzk,hk0,hsz,hall,h⟩:=h
   split at h
   ·rename_i cs hfill
    obtain ⟨hcb,hlen,hK⟩:=h
    obtain ⟨i,d,hi,hd,h1,h2,h3,h4⟩:=zL hle
    cases hiz:i.zero with
    | none=>simp[hiz]at h4
    | some zv =>
     simp only[hiz,Option.map_some,Option.some.injEq]at h4
     subst h4
     have hzs:zv.cells.size=k:=by simpa using hzk
     obtain ⟨us,g1,g2⟩:=Vk (R:=R) (L:=zu) (fun i=>some (i*k,k)) ((parts.toList.map fun p=>(p.1,zp G σ.tm p.2)).map fun p=>(p.1,p.2.frz)) (parts.toList.map fun p=>(p.1,a.eval p.2)) _ ((Array.range (n*k)).map (zv.cells[· % zv.cells.size]!)) cs
      (Xh zv.cells k n hzs hk0) (by simp) (Us zu _ _ (Xu hI.ev _)) (fun p hp=>by
       obtain ⟨q,hq,rfl⟩:=List.mem_map.1 hp
       exact List.all_eq_true.1 hall q hq) hfill
     have husz:us.size=n*k:=by have:=zl g2;simp at this;omega
     have hrun:(execOp a.eval o).run P R.w = .ok (.value (.slice (some ⟨R.w.heap.size,0,none⟩) n n)) (R.w.alloc (.cells us e)):=by
      have hss:(sizeOf e).run P R.w = .ok k R.w:=by simp[sizeOf,typeInfo,hi,←h2]
      have hzz:(zeroValue e).run P R.w = .ok zv R.w:=by simp[zeroValue,typeInfo,hi,hiz]
      unfold execOp
      simp only[ho,Instr.buildSlice,Sem.run_bind,run_underlying ht,Result.andThen_ok,hss]
      rw[if_neg (show ¬n*k>2 ^ 24 by omega)]
      by_cases hn:n*k=0
      ·have hn0:n=0:=by
        rcases Nat.mul_eq_zero.1 hn with h | h
        ·exact h
        ·omega
       subst hn0
       have hz0:(Array.map (fun x=>(#[]:Array Value)[x % (#[]:Array Value).size]!) (Array.range (0*k)))=(Array.range (0*k)).map (zv.cells[· % zv.cells.size]!):=by simp[Array.range_zero']
       simp only[if_pos hn,Sem.run_pure,Sem.run_bind,Result.andThen_ok,hz0,Array.toList_map,g1]
       simp[newRow]
      ·simp only[if_neg hn,Sem.run_pure,Sem.run_bind,Result.andThen_ok,hzz,Array.toList_map,g1]
       simp[newRow]
     have hbel:Below R.w.heap.size R.w (R.w.alloc (.cells us e)):=(Below.refl _ _).alloc (Nat.le_refl _) _
     obtain ⟨R',L',e1,e2,e3⟩:=hI.newBoxW hbel (Nat.le_refl _) cs us e (heap_alloc_new _ _) (fun M' hM _ _=>zm.ext (R:=R) (Ext.of_below hbel hM) (zx.none L) _ _ g2) (YD g2 hcb)
     exact qA.value hrun ⟨_,_,R',L',e1,e2,qB.2 ⟨_,e3,_,rfl,fun _=>rfl⟩,hK⟩
   ·exact h.elim
  ·exact h.elim
 ·exact h.elim
def Hv (P:Program) (t:TypeId) (l c:C) (σ:St) (K:C->St->Prop):Prop:=
 match lay P t,l,c with
 | some ⟨.slice e,_,_,_⟩,.sc (.int _ l),.sc (.int _ c)=>match lay P e with
  | some ⟨_,k,by',some z⟩=>z.length=k/\0<k/\(z.all Value.oneCell')=true/\0<=l/\l<=c/\(by':Int)*c<=281474976710656/\c<=9223372036854775807/\K (.bs σ.bx.length 0 k l.toNat c.toNat) ⟨σ.tm,σ.bx++[(List.replicate c.toNat (z.map zt)).flatten],σ.nx,σ.lg⟩
  | _=>False
 | _,_,_=>False
theorem kY {t:TypeId} {l c:Operand} (ho:o.op = .makeSlice t l c) {K:C->St->Prop} {R:Env} {L:Loc} (hI:qf G E σ a R L) (h:Hv P t (zp G σ.tm l) (zp G σ.tm c) σ K):qA P o a.eval R.w (JF G E a K):=by
 unfold Hv at h
 split at h
 ·rename_i e s b zz k1 l' k2 c' hl hev1 hev2
  have ht:=zG hl rfl
  split at h
  ·rename_i kd k by' z hle
   obtain ⟨hzk,hk0,hone,h0,hlc,hby,h63,hK⟩:=h
   obtain ⟨i,d,hi,hd,h1,h2,h3,h4⟩:=zL hle
   cases hiz:i.zero with
   | none=>simp[hiz]at h4
   | some zv =>
    simp only[hiz,Option.map_some,Option.some.injEq]at h4
    subst h4
    have hzs:zv.cells.size=k:=by simpa using hzk
    have hx:=hI.ev l;rw[hev1,zj]at hx
    have hy:=hI.ev c;rw[hev2,zj]at hy
    have hrun:=run_make (P:=P) R.w t e i zv ht hi hiz k1 k2 l' c' h0 hlc (by rw[←h3];exact hby) h63
    have hrep:=Xh (R:=R) (L:=zu) zv.cells k c'.toNat hzs hk0
    have hks:i.size=k:=h2.symm
    have hbel:Below R.w.heap.size R.w (R.w.alloc (.cells (madeCells zv.cells (c'.toNat*k)) e)):=(Below.refl _ _).alloc (Nat.le_refl _) _
    obtain ⟨R',L',e1,e2,e3⟩:=hI.newBoxW hbel (Nat.le_refl _) ((List.replicate c'.toNat (zv.cells.toList.map zt)).flatten) (madeCells zv.cells (c'.toNat*k)) e (heap_alloc_new _ _) (fun M' hM _ _=>zm.ext (R:=R) (Ext.of_below hbel hM) (zx.none L) _ _ hrep)
     (fun v hv=>by
      simp only[madeCells,Array.toList_map,List.mem_map]at hv
      obtain ⟨p,hp,rfl⟩:=hv
      have hm:p % zv.cells.size<zv.cells.size:=Nat.mod_lt _ (by omega)
      rw[getElem!_pos zv.cells _ hm]
      exact List.all_eq_true.1 hone _ (by simp))
    refine qA.value ?_ ⟨_,_,R',L',e1,e2,qB.2 ⟨_,e3,_,rfl,fun _=>rfl⟩,hK⟩
    unfold execOp
    simp only[ho,hx,hy]
    rw[Sem.run_bind,hrun,hks];rfl
  ·exact h.elim
 ·exact h.elim
theorem JB.moveB {R R':Env} {L L':Loc} {tm':List (Nat×C)} {bx':List (List C)} {nx':Nat} (h:JB G E σ R L) (hn:zbq E.w0 E.ex R R') (hf:Fit G E.tu bx' R' L')
  (hbox:∃ more,L'.β=E.β0++more) (htub:∀ b∈L'.β,b∈L.β∨R.w.heap.size<=b)
  (hown:∀ id e k v b,L'.T id=some (e,k,v)->v.ownB=some b->(∃ i e' k' v',L.T i=some (e',k',v')/\v'.ownB=some b)∨R.w.heap.size<=b)
  (hfree:∀ id,nx'<=id->L'.T id=none):JB G E ⟨tm',bx',nx',σ.lg⟩ R' L':=by
 refine ⟨hf,hn.os.trans h.os,hn.tape.trans h.tape,hn.output.trans h.output,Nat.le_trans h.size hn.size,fun b hb hx hF=>?_,h.ext.trans hn.ext,hbox,fun b hb=>?_,fun b hF=>?_,fun b hb=>by rw[hn.fgn];exact h.fz b hb,fun b hb hF=>?_,fun id e k v b ht hv hF=>?_,hfree,E.stab _ _ _ h.log hn⟩
 ·rw[hn.fgn]at hF
  obtain ⟨g1,g2⟩:=h.blk b hb hx hF
  rcases hn.blk b (Nat.lt_of_lt_of_le hb h.size) with ⟨k1,k2⟩ | ⟨k1,_⟩
  ·exact ⟨k1.trans g1,fun o=>(k2 o).trans (g2 o)⟩
  ·rcases k1 with k1 | k1
   ·omega
   ·exact absurd k1 hx
 ·rcases htub b hb with hb | hb
  ·exact h.tub b hb
  ·exact .inl (Nat.le_trans h.size hb)
 ·rw[hn.fgn]at hF;exact Nat.lt_of_lt_of_le (h.flt b hF) hn.size
 ·rw[hn.fgn]at hF
  rcases htub b hb with hb | hb
  ·exact h.fbx b hb hF
  ·have:=h.flt b hF;omega
 ·rw[hn.fgn]at hF
  rcases hown id e k v b ht hv with ⟨i,e',k',v',g1,g2⟩ | g
  ·exact h.fow i e' k' v' b g1 g2 hF
  ·have:=h.flt b hF;omega
def Ji (i j:Nat):Option Nat:=if j=i then none else some j
def QI (i:Nat) (cs:List C) (bx:List (List C)):List (List C):=(Gi (Ji i) some bx).set i cs
theorem qf.reBox {R:Env} {L:Loc} (h:qf G E σ a R L) {i:Nat} (hi0:E.β0.length<=i) (hil:i<σ.bx.length) {w':World} (hb:Below R.w.heap.size R.w w') {g:Nat} (hg:R.w.heap.size<=g) (cs:List C) (vs:Array Value) (ty:TypeId) (hh:w'.heap[g]?=some (.cells vs ty (0,0)))
  (hr:∀ M',(∀ b o,b<R.w.heap.size->(M' b o↔R.M b o))->zm ⟨w',M',R.F⟩ ⟨L.β.set i g,L.T⟩ cs vs.toList) (h1:∀ v∈vs.toList,v.oneCell'=true) :
  ∃ R' L',R'.w=w'/\qf G E ⟨U8 (Ji i) some σ.tm,QI i cs σ.bx,σ.nx,σ.lg⟩ a R' L'/\L'.β[i]?=some g:=by
 have hmt:∀ b o,b<R.w.heap.size->(((b<R.w.heap.size/\R.M b o)∨b=g)↔R.M b o):=fun b o hlt=>⟨fun h'=>by rcases h' with h' | h';exact h'.2;omega,fun h'=>.inl ⟨hlt,h'⟩⟩
 have hext:Ext R ⟨w',fun b o=>(b<R.w.heap.size/\R.M b o)∨b=g,R.F⟩:=Ext.of_below hb hmt
 have hnear:Ml E.w0 E.ex R ⟨w',fun b o=>(b<R.w.heap.size/\R.M b o)∨b=g,R.F⟩:=
  ⟨hb.os,hb.tape,hb.output,hb.size,rfl,hext,fun b hlt=>.inl ⟨hb.block b hlt,fun o=>hmt b o hlt⟩⟩
 have hlen:=h.good.fit.boxes.len
 have hrr:=hr (fun b o=>(b<R.w.heap.size/\R.M b o)∨b=g) hmt
 have hβ:∀ j q b,Ji i j=some q->L.β[j]?=some b->(Loc.mk (L.β.set i g) L.T).β[q]?=some b:=fun j q b hq hb=>by
  unfold Ji at hq
  split at hq
  ·cases hq
  ·rename_i hne
   cases hq
   show (L.β.set i g)[j]?=some b
   rw[List.getElem?_set_ne (fun e=>hne e.symm)];exact hb
 have hT:∀ j q x,(some j:Option Nat)=some q->L.T j=some x->(Loc.mk (L.β.set i g) L.T).T q=some x:=fun j q x hq hx=>by cases hq;exact hx
 have hget:(L.β.set i g)[i]?=some g:=List.getElem?_set_self (by omega)
 refine ⟨⟨w',fun b o=>(b<R.w.heap.size/\R.M b o)∨b=g,R.F⟩,⟨L.β.set i g,L.T⟩,rfl,
  ⟨h.good.moveB hnear.nigh ⟨h.good.fit.glob.ext hext,⟨by simp[QI,qu,hlen],?_,fun j b cs' hj hc=>?_⟩,⟨fun id e k v ht=>?_,fun id id' e k v e' k' v' b=>h.good.fit.owns.apart id id' e k v e' k' v' b⟩,fun g hg=>?_⟩ ?_ (fun b hb=>?_) (fun id e k v b ht hv=>.inl ⟨id,e,k,v,ht,hv⟩) h.good.free,h.size,h.df.near hnear,fun t=>?_⟩,hget⟩
 ·show (L.β.set i g).Nodup
  have hnd:=h.good.fit.boxes.nodup
  rw[List.Nodup,List.pairwise_iff_getElem]at hnd ⊢
  intro x y hx hy hxy
  rw[List.length_set]at hx hy
  have hxl:=h.good.fit.β_lt _ (List.getElem_mem hx)
  have hyl:=h.good.fit.β_lt _ (List.getElem_mem hy)
  rw[List.getElem_set,List.getElem_set]
  split<;>split
  ·omega
  ·omega
  ·omega
  ·exact hnd x y hx hy hxy
 ·have hj:(L.β.set i g)[j]?=some b:=hj
  by_cases hji:i=j
  ·subst hji
   rw[hget]at hj
   cases hj
   rw[QI,List.getElem?_set_self (by rw[qu];exact hil)]at hc
   cases hc
   exact ⟨vs,ty,hh,hrr,h1,fun o=>.inr rfl⟩
  ·rw[List.getElem?_set_ne hji]at hj
   rw[QI,List.getElem?_set_ne hji,XD]at hc
   cases hq:σ.bx[j]? with
   | none=>rw[hq]at hc;cases hc
   | some c0 =>
    rw[hq]at hc;cases hc
    obtain ⟨us,ty',e1,e2,e3,e4⟩:=h.good.fit.boxes.box j b c0 hj hq
    exact ⟨us,ty',(hb.block b (zI e1)).trans e1,zm.re hext hβ hT _ _ e2,e3,fun o=>.inl ⟨zI e1,e4 o⟩⟩
 ·refine (h.good.fit.owns.own id e k v ht).move fun g' _ e2 hlt e7=>⟨e2,hb.block g' hlt,fun hx=>?_,fun o ho=>.inl ⟨hlt,ho⟩⟩
  have hx:g'∈L.β.set i g:=hx
  rcases List.mem_or_eq_of_mem_set hx with hx | hx
  ·exact e7 hx
  ·omega
 ·exact h.good.fit.base g (Nat.le_trans hb.size hg)
 ·obtain ⟨more,hm⟩:=h.good.box
  refine ⟨more.set (i-E.β0.length) g,?_⟩
  show L.β.set i g=_
  rw[hm,List.set_append_right _ _ hi0]
 ·have hb':b∈L.β.set i g:=hb
  rcases List.mem_or_eq_of_mem_set hb' with hx | hx
  ·exact .inl hx
  ·exact .inr (by omega)
 ·rw[kI]
  exact Rep.re hext hβ hT _ _ (h.tm t)
theorem zco {L:Loc} {i g:Nat}:∀ (j q b:Nat),Ji i j=some q->L.β[j]?=some b->(Loc.mk (L.β.set i g) L.T).β[q]?=some b:=fun j q b hq hb=>by
 unfold Ji at hq
 split at hq
 ·cases hq
 ·rename_i hne
  cases hq
  show (L.β.set i g)[j]?=some b
  rw[List.getElem?_set_ne (fun e=>hne e.symm)];exact hb
theorem Zl {L:Loc} {i:Nat}:∀ (j q b:Nat),Ji i j=some q->L.β[j]?=some b->L.β[q]?=some b:=fun j q b hq hb=>by
 unfold Ji at hq
 split at hq
 ·cases hq
 ·cases hq;exact hb
theorem Z5 {L L':Loc} (h:∀ i,L'.T i=L.T i):∀ (i j:Nat) x,(some i:Option Nat)=some j->L.T i=some x->L'.T j=some x:=fun i j x hij hx=>by cases hij;rw[h];exact hx
theorem qf.lessB {R:Env} {L:Loc} (h:qf G E σ a R L) (tm':List (Nat×C)) (bx':List (List C)) (hl:bx'.length=σ.bx.length) (ht:∀ t v,Rep R L (q9 σ.tm t) v->Rep R L (q9 tm' t) v)
  (hb:∀ (i:Nat) cs cs' vs,σ.bx[i]?=some cs->bx'[i]?=some cs'->zm R L cs vs->zm R L cs' vs):qf G E ⟨tm',bx',σ.nx,σ.lg⟩ a R L:=by
 have g:=h.good
 refine ⟨⟨⟨g.fit.glob,⟨by rw[hl];exact g.fit.boxes.len,g.fit.boxes.nodup,fun i b cs' hi hc=>?_⟩,g.fit.owns,g.fit.base⟩,g.os,g.tape,g.output,g.size,g.blk,g.ext,g.box,g.tub,g.flt,g.fz,g.fbx,g.fow,g.free,g.log⟩,h.size,h.df,fun t=>ht t _ (h.tm t)⟩
 have hi':i<σ.bx.length:=by rw[←hl];exact (List.getElem?_eq_some_iff.1 hc).1
 obtain ⟨vs,ty,e1,e2,e3,e4⟩:=g.fit.boxes.box i b _ hi (List.getElem?_eq_getElem hi')
 exact ⟨vs,ty,e1,hb i _ _ _ (List.getElem?_eq_getElem hi') hc e2,e3,e4⟩
theorem Jj {R:Env} {L:Loc}:∀ vs:List Value,zm R L (List.replicate vs.length .any) vs
 | []=>zg.2 rfl
 | v :: r=>zd.2 ⟨v,r,rfl,by unfold Rep;trivial,Jj r⟩
def C.xs? (k:Nat) (bx:List (List C)):C->Option (Nat×List C)
 | .bs i off k' n _=>if k'=k then (bx[i]?).bind fun cs=>if off+n*k<=cs.length then some (n,(cs.drop off).take (n*k)) else none else none
 | c=>(c.rows? k).map fun rows=>(rows.length,rows.flatten)
theorem x5 {B:Nat->Prop} {bx:List (List C)} {R:Env} {L:Loc} {c:C} {v:Value} {k m:Nat} {xs:List C} (hf:Fit G B bx R L) (h:Rep R L c v) (hx:c.xs? k bx=some (m,xs)) :
    ∃ ad cap,v = .slice ad m cap/\(0<m->∃ b off news,ad=some ⟨b,off,none⟩/\news.length=m*k/\(∀ (j:Nat) u,news[j]?=some u->R.w.cell? ((⟨b,off,none⟩:Addr).add j)=some u)/\zm R L xs news/\∀ u∈news,u.oneCell'=true):=by
  have hrows:∀ rows,c.rows? k=some rows->(rows.length,rows.flatten)=(m,xs)->∃ ad cap,v = .slice ad m cap/\(0<m->∃ b off news,ad=some ⟨b,off,none⟩/\news.length=m*k/\(∀ (j:Nat) u,news[j]?=some u->R.w.cell? ((⟨b,off,none⟩:Addr).add j)=some u)/\zm R L xs news/\∀ u∈news,u.oneCell'=true):=fun rows hr he=>by
    cases he
    obtain ⟨ad,cap,e,h1,h2,h3⟩:=h.rows hr
    refine ⟨ad,cap,e,fun hm=>?_⟩
    rcases h3 with h3 | ⟨b,o,e,h3⟩
    · subst h3;cases hm
    · obtain ⟨g1,g2⟩:=qm h3
      obtain ⟨news,n1,n2,n3⟩:=qY g1
      exact ⟨b,o,news,e,by rw[zl n2,g2],fun j u hj=>by rw[Addr.add_none];exact n1 j u hj,zm.ext (Ext.refl R) (zx.none L) _ _ n2,n3⟩
  cases c with
  | bs i off k' n c' =>
    simp only[C.xs?]at hx
    split at hx
    · subst_vars
      cases hq:bx[i]? with
      | none=>rw[hq]at hx;cases hx
      | some cs =>
        rw[hq]at hx
        simp only[Option.bind_some]at hx
        split at hx
        · rename_i hle
          cases hx
          obtain ⟨b,hb,ad,rfl,had⟩:=qB.1 h
          obtain ⟨vs,ty,e1,e2,e3,e4⟩:=hf.boxes.box i b cs hb hq
          have hvl:=zl e2
          refine ⟨_,_,rfl,fun hm=>⟨b,off,(vs.toList.drop off).take (m*k'),congrArg some (had (by omega)),by simp at hvl ⊢;omega,fun j u hj=>?_,qd _ (qp _ e2),fun u hu=>e3 u (List.mem_of_mem_drop (List.mem_of_mem_take hu))⟩⟩
          rw[Addr.add_none,cell_of_row R.w b (off+j) vs ty (0,0) e1]
          rw[List.getElem?_take]at hj
          split at hj
          · rw[List.getElem?_drop]at hj;simpa using hj
          · cases hj
        · cases hx
    · cases hx
  | _ =>
    simp only[C.xs?]at hx
    first
    | (cases hq:C.rows? k _ with
       | none=>rw[hq]at hx;cases hx
       | some rows=>rw[hq]at hx;exact hrows rows hq (by simpa using hx))
def VB (P:Program) (p:Nat) (t:TypeId) (s x:C) (σ:St) (K:C->St->Prop):Prop:=
 match lay P t with
 | some ⟨.slice e,_,_,_⟩=>match lay P e with
  | some ⟨_,k,by',some z⟩=>match x.xs? k σ.bx with
   | some (m,xs)=>z.length=k/\0<k/\(z.all Value.oneCell')=true/\0<m/\match s with
    | .sc (.slice none 0 0)=>m<=9223372036854775807/\m*by'<=140737488355328/\∀ c,m<=c->c<=maxLen->K (.bs σ.bx.length 0 k m c) ⟨σ.tm,σ.bx++[xs++List.replicate ((c-m)*k) .any],σ.nx,σ.lg⟩
    | .bs i 0 k' n c=>match σ.bx[i]? with
     | some cs=>k'=k/\p<=i/\cs.length=c*k/\n<=c/\c<=9223372036854775807/\n+m<=9223372036854775807/\(n+m)*by'<=140737488355328 /\
       ∀ c',n+m<=c'->c'<=maxLen->K (.bs i 0 k (n+m) c') ⟨U8 (Ji i) some σ.tm,QI i (C.reL (Ji i) some (cs.take (n*k)++xs)++List.replicate ((c'-(n+m))*k) .any) σ.bx,σ.nx,σ.lg⟩
     | none=>False
    | _=>False
   | none=>False
  | _=>False
 | _=>False
theorem qW {zc:Array Value} (hz:(zc.toList.all Value.oneCell')=true) (n:Nat):∀ v∈(Builtin.zeroCells zc n).toList,v.oneCell'=true:=by
 intro v hv
 simp only[Builtin.zeroCells,Array.toList_map,List.mem_map]at hv
 obtain ⟨i,hi,rfl⟩:=hv
 have hi':i<n*zc.size:=by simpa using hi
 have hpos:0<zc.size:=by
  rcases Nat.eq_zero_or_pos zc.size with h | h
  ·rw[h]at hi';omega
  ·exact h
 have hlt:=Nat.mod_lt i hpos
 rw[getElem!_pos zc _ hlt]
 exact List.all_eq_true.1 hz _ (by simp)
theorem Mm {p:Nat} (hp:E.β0.length<=p) {t:TypeId} {s x:Operand} (ho:o.op = .call { callee:=.builtin .append,args:=#[s,x],argTypes:=#[t,t] }) {K:C->St->Prop} {R:Env} {L:Loc} (h:qf G E σ a R L) (hK:VB P p t (zp G σ.tm s) (zp G σ.tm x) σ K):qA P o a.eval R.w (JF G E a K):=by
 unfold VB at hK
 split at hK
 ·rename_i e s1 b1 z1 hl
  have ht:=zG hl rfl
  split at hK
  ·rename_i kd k by' z hle
   obtain ⟨i,d,hi,hd,_,hsz,hbyt,hzz⟩:=zL hle
   simp only at hsz hbyt hzz
   split at hK
   ·rename_i m xs hxs
    obtain ⟨hzk,hk0,hz1,hm,hK⟩:=hK
    have hexec:∀ v' w',(Builtin.append_ #[t,t] o.type #[a.eval s,a.eval x]).run P R.w = .ok v' w'->(execOp a.eval o).run P R.w = .ok (.value v') w':=fun v' w' hrun=>by
     unfold execOp
     simp only[ho,resolve,invoke,builtin,Sem.run_bind,Sem.run_pure,Result.andThen_ok,List.map_toArray,List.map_cons,List.map_nil,hrun]
    cases hiz:i.zero with
    | none=>simp[hiz]at hzz
    | some zv =>
     simp only[hiz,Option.map_some,Option.some.injEq]at hzz
     have hzc:zv.cells.size=k:=by rw[←hzk,hzz];simp
     obtain ⟨ad,capx,ex,hx⟩:=x5 h.good.fit (h.ev x) hxs
     obtain ⟨bb,off,news,rfl,n1,n2,n3,n4⟩:=hx hm
     have hxl:=zl n3
     have hzone:∀ n,∀ v∈(Builtin.zeroCells zv.cells n).toList,v.oneCell'=true:=qW (by rw[←hzz];exact hz1)
     split at hK
     ·rename_i hev
      obtain ⟨h63,hby,hK⟩:=hK
      have hs:=h.ev s;rw[hev,zj]at hs
      have hrun:=run_append_nil (P:=P) R.w t o.type e i zv ht hi hiz ⟨bb,off,none⟩ m capx news (by rw[n1,hsz]) n2 hm (by omega) (by rw[←hbyt];omega)
      rw[←hs,←ex]at hrun
      have hge:=grownCap_ge R.w m 0 e
      have hgm:grownCap R.w m 0 e<=maxLen:=grownCap_le_maxLen _ _ _ _ (by unfold maxLen;omega)
      generalize grownCap R.w m 0 e=nc at hrun hge hgm
      have hb:Below R.w.heap.size R.w (R.w.drew.alloc (.cells (news.toArray++Builtin.zeroCells zv.cells (nc-m)) e)):=((Below.refl _ _).drew).alloc (Nat.le_refl _) _
      have hzl:(Builtin.zeroCells zv.cells (nc-m)).toList.length=(nc-m)*k:=by rw[Array.length_toList,size_zeroCells,hzc]
      obtain ⟨R',L',e1,e2,e3⟩:=h.newBoxW hb (Nat.le_refl _) (xs++List.replicate ((nc-m)*k) .any) (news.toArray++Builtin.zeroCells zv.cells (nc-m)) e (heap_alloc_new R.w.drew _) (fun M' hM _ _=>by
       simp only[Array.toList_append]
       refine zi (zm.ext (R:=R) (Ext.of_below hb hM) (zx.refl L) _ _ n3) ?_
       rw[←hzl];exact Jj _) (fun v hv=>by
       simp only[Array.toList_append]at hv
       rcases List.mem_append.1 hv with hv | hv
       ·exact n4 v hv
       ·exact hzone _ v hv)
      exact qA.value (hexec _ _ hrun) ⟨_,_,R',L',e1,e2,qB.2 ⟨_,e3,_,rfl,fun _=>rfl⟩,hK nc hge hgm⟩
     ·rename_i bi k' n c hev
      split at hK
      ·rename_i cs hcs
       obtain ⟨rfl,hpi,hcl,hnc,hcm,h63,hby,hK⟩:=hK
       have hs:=h.ev s;rw[hev,qB]at hs
       obtain ⟨b,hb,ad0,es,had0⟩:=hs
       obtain ⟨vs,ty,e1,e2,e3,e4⟩:=h.good.fit.boxes.box bi b cs hb hcs
       have hvl:=zl e2
       have hvs:vs.size=c*k':=by simpa [hcl] using hvl
       have hbil:bi<σ.bx.length:=(List.getElem?_eq_some_iff.1 hcs).1
       have hnk:n*k'<=c*k':=Nat.mul_le_mul_right _ hnc
       have hadd:(n+m)*k'=n*k'+m*k':=Nat.add_mul _ _ _
       by_cases hroom:n+m<=c
       ·have hck:(n+m)*k'<=c*k':=Nat.mul_le_mul_right _ hroom
        obtain rfl:=had0 (by omega)
        have hrun:=YP (P:=P) (ty:=o.type) ht hi R.w b n c vs ty e1 ⟨bb,off,none⟩ m capx news (by rw[n1,hsz]) n2 n4 hroom (by rw[←hsz];omega)
        rw[←hsz,←es,←ex]at hrun
        have hA:(cs.take (n*k')++xs).length=n*k'+m*k':=by simp;omega
        have hinv:=h.setBox hb hcs e1 e4 (cs':=cs.take (n*k')++xs++cs.drop (n*k'+news.length)) (us:=(vs.toList.take (n*k')++news++vs.toList.drop (n*k'+news.length)).toArray) (zi (zi (qd _ e2) n3) (qp _ e2)) (fun v hv=>by
         simp only[List.mem_append]at hv
         rcases hv with (hv | hv) | hv
         ·exact e3 v (List.mem_of_mem_take hv)
         ·exact n4 v hv
         ·exact e3 v (List.mem_of_mem_drop hv))
        have hinv2:=hinv.lessB (U8 (Ji bi) some σ.tm) (QI bi (C.reL (Ji bi) some (cs.take (n*k')++xs)++List.replicate ((c-(n+m))*k') .any) σ.bx) (by simp[QI,qu]) (fun t v hv=>by
          rw[kI];exact Rep.re (Ext.refl _) Zl (Z5 fun _=>rfl) _ _ hv) (fun j c1 c2 us hc1 hc2 hr=>by
         by_cases hji:bi=j
         ·subst hji
          rw[List.getElem?_set_self hbil]at hc1
          rw[QI,List.getElem?_set_self (by rw[qu];exact hbil)]at hc2
          cases hc1;cases hc2
          have hul:=zl hr
          simp only[List.length_append]at hul hA
          have h1:=qd (n*k'+m*k') hr
          rw[List.take_left' (by simp only[List.length_append];exact hA)]at h1
          have h2:=Jj (R:=⟨R.w.setRow b (vs.toList.take (n*k')++news++vs.toList.drop (n*k'+news.length)).toArray,R.M,R.F⟩) (L:=L) (us.drop (n*k'+m*k'))
          have hdl:(us.drop (n*k'+m*k')).length=(c-(n+m))*k':=by
           rw[List.length_drop,hul,List.length_drop,hcl,n1,Nat.sub_mul,hadd];omega
          rw[hdl]at h2
          have h3:=zi (zm.re (fp:=Ji bi) (fo:=some) (L':=L) (Ext.refl _) Zl (Z5 fun _=>rfl) _ _ h1) h2
          rwa [List.take_append_drop]at h3
         ·rw[List.getElem?_set_ne hji]at hc1
          rw[QI,List.getElem?_set_ne hji,XD,hc1]at hc2
          cases hc2
          exact zm.re (Ext.refl _) Zl (Z5 fun _=>rfl) _ _ hr)
        exact qA.value (hexec _ _ hrun) ⟨_,_,_,L,rfl,hinv2,qB.2 ⟨_,hb,_,rfl,fun _=>rfl⟩,hK c hroom (by unfold maxLen;omega)⟩
       ·have hol:(vs.toList.take (n*k')).length=n*k':=by simp;omega
        have hrun:=run_append_grow (P:=P) R.w t o.type e i zv ht hi hiz ad0 n c (vs.toList.take (n*k')) (by rw[hol,hsz]) (fun j v hj=>by
          obtain rfl:=had0 (by
           rcases Nat.eq_zero_or_pos n with h0 | h0
           ·subst h0;simp at hj
           ·omega)
          rw[Addr.add_none,Nat.zero_add,cell_of_row R.w b j vs ty (0,0) e1]
          rw[List.getElem?_take]at hj
          split at hj
          ·simpa using hj
          ·cases hj) ⟨bb,off,none⟩ m capx news (by rw[n1,hsz]) n2 (by omega) (by omega) (growslice_fits (by omega) (by rw[←hbyt];exact hby))
        rw[←es,←ex]at hrun
        have hge:=grownCap_ge R.w (n+m) c e
        have hgm:grownCap R.w (n+m) c e<=maxLen:=grownCap_le_maxLen _ _ _ _ (by unfold maxLen;omega)
        generalize grownCap R.w (n+m) c e=nc at hrun hge hgm
        have hbel:Below R.w.heap.size R.w (R.w.drew.alloc (.cells ((vs.toList.take (n*k')).toArray++news.toArray++Builtin.zeroCells zv.cells (nc-(n+m))) e)):=((Below.refl _ _).drew).alloc (Nat.le_refl _) _
        have hzl:(Builtin.zeroCells zv.cells (nc-(n+m))).toList.length=(nc-(n+m))*k':=by rw[Array.length_toList,size_zeroCells,hzc]
        obtain ⟨R',L',f1,f2,f3⟩:=h.reBox (Nat.le_trans hp hpi) hbil hbel (Nat.le_refl _) (C.reL (Ji bi) some (cs.take (n*k')++xs)++List.replicate ((nc-(n+m))*k') .any) ((vs.toList.take (n*k')).toArray++news.toArray++Builtin.zeroCells zv.cells (nc-(n+m))) e (heap_alloc_new R.w.drew _) (fun M' hM=>by
         simp only[Array.toList_append]
         refine zi (zm.re (R:=R) (L:=L) (Ext.of_below hbel hM) zco (Z5 fun _=>rfl) _ _ (zi (qd _ e2) n3)) ?_
         rw[←hzl];exact Jj _) (fun v hv=>by
         simp only[Array.toList_append,List.mem_append]at hv
         rcases hv with (hv | hv) | hv
         ·exact e3 v (List.mem_of_mem_take hv)
         ·exact n4 v hv
         ·exact hzone _ v hv)
        exact qA.value (hexec _ _ hrun) ⟨_,_,R',L',f1,f2,qB.2 ⟨_,f3,_,rfl,fun _=>rfl⟩,hK nc hge hgm⟩
      ·exact hK.elim
     ·exact hK.elim
   ·exact hK.elim
  ·exact hK.elim
 ·exact hK.elim
end
end
end Go.Proofs.YtaipngaejfndgaaGreatDoor.Vcg
