/- What the proof of CpsTree leans on, part 1. No condition beyond what each theorem states. -/
import Derived.WalkKit
import Derived.Sort.LoopGhostIn
import Derived.Deep.MidRow
import Derived.IntWalk
import Derived.CallsIn
import Derived.Laws.StructEq
import Derived.Laws.Cover3
import Derived.Lib.ConvBytes
import Derived.Laws.BytesArg
import Derived.Laws.IdiomStrings
import Derived.MapKept
import Derived.RangeFuncRecord
import Derived.TacticsIn
import Derived.ArgAppend
set_option linter.unusedVariables false
set_option linter.unusedSimpArgs false
set_option linter.unusedSectionVars false
set_option maxRecDepth 100000
set_option maxHeartbeats 4000000
namespace Go.Proofs.YtnpdbhbmakdklaaGreatDoor
abbrev Wa:=@List.getElem?_eq_getElem
abbrev Wb:=@Nat.le_refl
abbrev Wc:=@List.getElem?_eq_some_iff
abbrev Wd:=@Nat.zero_le
abbrev We:=@List.length_map
abbrev Wf:=@List.mem_of_getElem?
abbrev Wg:=@List.take_of_length_le
abbrev Wh:=@Go.Result.andThen_ok
abbrev Wi:=@decide_eq_false
abbrev Wj:=@List.mem_cons_self
abbrev Wk:=@List.mem_cons_of_mem
abbrev Wl:=@decide_eq_true
abbrev Wm:=@Go.Sem.run_bind
abbrev Wn:=@List.length_append
abbrev Wo:=@Bool.and_eq_true
abbrev Wp:=@Nat.lt_or_ge
abbrev Wq:=@Array.getD_eq_getD_getElem?
abbrev Wr:=@List.length_cons
abbrev Ws:=@List.all_eq_true
abbrev Wt:=@List.getElem?_append_left
abbrev Wu:=@Option.map_some
abbrev Wv:=@congrArg
abbrev Ww:=@List.mem_of_mem_take
abbrev Wx:=@List.getElem_of_mem
abbrev Wy:=@List.getElem?_map
abbrev Wz:=@List.getElem_mem
abbrev WA:=@Go.Sem.run_pure
abbrev WB:=@List.mem_append
abbrev WC:=@List.map_cons
abbrev WD:=@Go.run_underlying
abbrev WE:=@Classical.not_not
abbrev WF:=@List.getElem?_take
abbrev WG:=@eq_false
abbrev WH:=@Nat.lt_of_lt_of_le
abbrev WI:=@List.length_pos_iff
abbrev WJ:=@List.mem_cons
abbrev WK:=@List.getElem?_append_right
abbrev WL:=@List.append_assoc
abbrev WM:=@Nat.mul_le_mul_right
abbrev WN:=@Nat.le_trans
abbrev WO:=@List.pairwise_iff_getElem
abbrev WP:=@of_decide_eq_true
abbrev WQ:=@List.mem_map
abbrev WR:=@decide_eq_true_eq
abbrev WS:=@Array.length_toList
abbrev WT:=@List.mem_singleton
abbrev WU:=@List.mem_of_mem_drop
abbrev WV:=@List.eq_nil_of_length_eq_zero
abbrev WW:=@Go.World.putObj_heap_other
abbrev WX:=@Option.map_none
abbrev WY:=@List.getElem?_eq_none
abbrev WZ:=@List.take_add_one
abbrev W0:=@Array.getElem?_eq_getElem
abbrev W1:=@List.take_append_drop
abbrev W2:=@List.length_take
abbrev W3:=@List.getElem?_drop
abbrev W4:=@List.getD_eq_getElem?_getD
abbrev W5:=@List.map_append
abbrev W6:=@Bool.false_and
abbrev W7:=@List.length_drop
abbrev W8:=@List.cons_append
abbrev W9:=@Option.getD_some
abbrev Oa:=@Bool.false_eq_true
abbrev Ob:=@Go.RowKit.Below.refl
abbrev Oc:=@List.filter_cons_of_pos
abbrev Od:=@List.append_nil
abbrev Oe:=@Nat.not_lt_zero
abbrev Of:=@decide_eq_false_iff_not
abbrev Og:=@Array.toList_append
abbrev Oh:=@List.any_eq_false
abbrev Oi:=@List.take_length
abbrev Oj:=@Bool.true_and
abbrev Ok:=@List.drop_eq_getElem_cons
abbrev Ol:=@if_false
abbrev Om:=@List.nil_append
abbrev On:=@Nat.add_mul
abbrev Oo:=@List.map_nil
abbrev Oq:=@Bool.eq_false_iff
abbrev Or:=@List.any_eq_true
abbrev Ot:=@Bool.or_eq_true
abbrev Ou:=@List.getElem?_set_ne
abbrev Ov:=@Nat.zero_add
abbrev Ow:=@List.take_zero
abbrev Ox:=@List.mem_filter
abbrev Oy:=@List.getElem?_set_self
abbrev Oz:=@beq_iff_eq
abbrev OA:=@Array.mem_toList_iff
abbrev OB:=@List.mem_append_left
abbrev OC:=@List.map_toArray
abbrev OD:=@Nat.min_eq_left
abbrev OE:=@List.take_left'
abbrev OF:=@List.length_nil
abbrev OG:=@List.all_replicate
abbrev OH:=@Go.heap_alloc_new
abbrev OI:=@List.drop_of_length_le
abbrev OJ:=@Nat.le_succ_of_le
abbrev OK:=@of_decide_eq_false
abbrev OL:=@Nat.le_of_ble_eq_true
abbrev OM:=@List.take_append_of_le_length
abbrev ON:=@List.filter_cons_of_neg
abbrev OO:=@List.sum_cons
abbrev OP:=@List.nodup_cons
abbrev OQ:=@List.find?_cons
abbrev OR:=@List.flatten_cons
abbrev OS:=@Array.getElem?_setIfInBounds_ne
abbrev OT:=@Array.mem_of_getElem?
abbrev OU:=@beq_eq_false_iff_ne
abbrev OV:=@List.all_append
abbrev OW:=@Nat.add_sub_cancel_left
abbrev OX:=@List.ext_getElem?
abbrev OY:=@Bool.not_eq_true'
abbrev OZ:=@Bool.false_or
abbrev O0:=@List.flatMap_cons
abbrev O1:=@Go.grownCap_le_maxLen
abbrev O2:=@Nat.eq_zero_or_pos
abbrev O3:=@List.filter_append
abbrev O4:=@Bool.and_false
abbrev O5:=@Array.toList_map
abbrev O6:=@List.filter_cons
abbrev O7:=@Int.le_refl
abbrev O8:=@Nat.add_zero
abbrev O9:=@Nat.lt_trichotomy
abbrev Aa:=@List.nodup_append
abbrev Ab:=@List.getElem?_inj
abbrev Ac:=@Go.cell_of_row
abbrev Ad:=@Bool.not_false
abbrev Ae:=@List.nodup_nil
abbrev Af:=@List.find?_cons_of_neg
abbrev Ag:=@List.mem_flatMap
abbrev Ah:=@List.getElem?_toArray
abbrev Ai:=@Bool.and_eq_false_iff
abbrev Aj:=@List.length_singleton
abbrev Ak:=@List.length_filter_le
abbrev Al:=@Go.setRow_other
abbrev Am:=@Option.getD_none
abbrev An:=@List.length_eq_zero_iff
abbrev Ao:=@Array.getElem?_eq_some_iff
abbrev Ap:=@Option.map_eq_some_iff
abbrev Aq:=@List.drop_drop
abbrev Ar:=@Array.toList_setIfInBounds
abbrev As:=@Go.size_zeroCells
abbrev At:=@Int.toNat_natCast
abbrev Au:=@Array.all_eq_true_iff_forall_mem
abbrev Av:=@List.find?_cons_of_pos
abbrev Aw:=@List.take_succ_eq_append_getElem
abbrev Ax:=@List.take_succ_cons
abbrev Ay:=@Classical.byContradiction
abbrev Az:=@List.mem_take_iff_getElem
abbrev AA:=@Array.getElem?_toList
abbrev AB:=@UInt8.lt_iff_toNat_lt
abbrev AC:=@Option.bind_some
abbrev AD:=@List.take_append
abbrev AE:=@false_and
abbrev AF:=@Option.isSome_iff_exists
abbrev AG:=@Go.run_storeCells_at
abbrev AH:=@List.mem_zipIdx_iff_getElem?
abbrev AI:=@List.replicate_succ
abbrev AJ:=@List.map_congr_left
abbrev AK:=@List.flatMap_append
abbrev AL:=@List.drop_eq_nil_of_le
abbrev AM:=@Nat.succ_mul
abbrev AN:=@List.filter_eq_nil_iff
abbrev AO:=@List.all_cons
abbrev AP:=@Bool.not_true
abbrev AQ:=@List.any_cons
abbrev AR:=@Nat.zero_lt_succ
abbrev AS:=@List.drop_zero
abbrev AT:=@Option.isSome_some
abbrev AU:=@List.length_replicate
abbrev AV:=@List.concat_eq_append
abbrev AW:=@List.sum_append
abbrev AX:=@Go.grownCap_ge
abbrev AY:=@Bool.and_eq_true_iff
abbrev AZ:=@Nat.succ_pos
abbrev A0:=@List.pairwise_append
abbrev A1:=@Bool.or_false
abbrev A2:=@List.flatten_append
abbrev A3:=@List.drop_length
abbrev A4:=@List.find?_eq_some_iff_getElem
abbrev A5:=@decide_eq_decide
abbrev A6:=@Go.World.putObj_heap_same
abbrev A7:=@List.count_pos_iff
abbrev A8:=@List.find?_eq_none
abbrev A9:=@UInt8.toNat_inj
abbrev Ba:=@List.eq_nil_or_concat
abbrev Bb:=@Go.growslice_fits
abbrev Bc:=@Bool.or_eq_false_iff
abbrev Bd:=@List.take_left
abbrev Be:=@List.count_replicate_self
abbrev Bf:=@List.ne_nil_of_length_pos
abbrev Bg:=@List.mem_of_find?_eq_some
abbrev Bh:=@Go.run_firstCells_some
abbrev Bi:=@List.drop_succ_cons
abbrev Bj:=@Nat.add_assoc
abbrev Bk:=@Bool.and_true
abbrev Bl:=@Array.getElem?_replicate
abbrev Bm:=@List.getElem?_take_of_lt
abbrev Bn:=@List.foldl_cons
abbrev Bo:=@Go.run_append_grow
abbrev Bp:=@List.length_set
abbrev Bq:=@Array.ext'
abbrev Br:=@List.mem_filterMap
abbrev Bt:=@List.pairwise_cons
abbrev Bu:=@List.getElem?_cons_succ
abbrev Bv:=@List.pairwise_singleton
abbrev Bw:=@List.size_toArray
abbrev Bx:=@congrFun
abbrev By:=@Array.toList_replicate
abbrev Bz:=@Array.getElem?_eq_none
abbrev BA:=@Bool.or_true
abbrev BB:=@Array.getElem?_modify
abbrev BC:=@Nat.le_add_right
abbrev BD:=@Go.World.alloc_heap_new
abbrev BE:=@List.getElem?_append
abbrev BF:=@List.any_append
abbrev BG:=@List.getElem?_range
abbrev BH:=@List.mem_map_of_mem
abbrev BI:=@List.filter_eq_self
abbrev BJ:=@getElem!_pos
abbrev BK:=@List.any_nil
abbrev BL:=@Bool.true_or
abbrev BM:=@Go.wpIn_mono
abbrev BN:=@Option.isSome_none
abbrev BO:=@Go.run_append_nil
abbrev BP:=@List.foldl_nil
abbrev BQ:=@Option.isNone_none
abbrev BR:=@Option.isNone_some
abbrev BS:=@List.take_take
abbrev BT:=@Go.size_setRow
abbrev Lz:=List UInt8
end Go.Proofs.YtnpdbhbmakdklaaGreatDoor
namespace Go.Proofs.YtnpdbhbmakdklaaGreatDoor.Vcg
variable {vs:List Value} {b o k n nx nx' i:Nat} {v:Value} {P:Program} {t e ty:TypeId} {w w':World} {B:Nat->Prop} {β:List Nat} {ρ:Operand->Value} {X Y:Prop} {x f:Operand} {α:Type} {parts:Array (Nat×Operand)}
section
open Go.RowKit
inductive MK where
 | int (k:IntKind) (l:List Int)
 | str (l:List Lz)
def MK.vals:MK->List Value
 | .int k l=>l.map (Value.int k)
 | .str l=>l.map fun s=>Value.string ⟨s.toArray⟩
def Hi (b:Nat) (kvs vvs:List Value):Value:=.iface b (.tuple #[.agg kvs.toArray,.agg vvs.toArray])
def _root_.Go.Value.ownB:Value->Option Nat
 | .slice (some a) _ _=>some a.block
 | .iface b _=>some b
 | _=>none
inductive C where
 | sc (v:Value)
 | str (l:Lz)
 | agg (cs:List C)
 | tup (cs:List C)
 | sl (k:Nat) (rows:List (List C))
 | tight (k:Nat) (rows:List (List C))
 | own (id:Nat) (e:TypeId) (k:Nat) (rows:List (List C))
 | ptr (i off:Nat)
 | row (cs:List C)
 | clo (fn:Fn) (first captured:List C)
 | bs (i off k n c:Nat)
 | mo (id:Nat) (t:TypeId) (ks:MK) (vs:List C)
 | any
instance:Inhabited C:=⟨.any⟩
structure Env where
 w:World
 M:Nat->Nat->Prop
 F:Nat->Prop
abbrev Own:=Nat->Option (TypeId×Nat×Value)
structure Loc where
 β:List Nat
 T:Own
abbrev zU:Loc:=⟨[],fun _=>none⟩
mutual
def Rep (R:Env):Loc->C->Value->Prop
 | _,.sc u,v=>v=u
 | _,.str l,v=>v = .string ⟨l.toArray⟩
 | T,.agg cs,v=>∃ vs,v = .agg vs/\zx R T cs vs.toList
 | T,.tup cs,v=>∃ vs,v = .tuple vs/\zx R T cs vs.toList
 | _,.sl k rows,v=>∃ a cap,v = .slice a rows.length cap/\rows.length<=cap/\cap<=maxLen/\(rows = []∨∃ b o,a=some ⟨b,o,none⟩/\zW R rows k b o)
 | _,.tight k rows,v=>∃ a,v = .slice a rows.length rows.length/\rows.length<=maxLen/\(rows = []∨∃ b o,a=some ⟨b,o,none⟩/\zW R rows k b o)
 | T,.own id e k rows,v=>T.T id=some (e,k,v)/\∃ a cap,v = .slice a rows.length cap/\rows.length<=cap/\cap<=maxLen/\(rows = []∨∃ b o,a=some ⟨b,o,none⟩/\zW R rows k b o)
 | T,.ptr i off,v=>∃ b,T.β[i]?=some b/\v = .pointer (some ⟨b,off,none⟩)
 | _,.row cs,v=>∃ b o,v = .pointer (some ⟨b,o,none⟩)/\zP R cs b o
 | T,.clo fn first cap,v=>∃ fs cs,v = .func fn fs cs/\zx R T first fs.toList/\zx R T cap cs.toList
 | T,.bs i off _ n c,v=>∃ b,T.β[i]?=some b/\∃ ad,v = .slice (some ad) n c/\(n+c≠0->ad=⟨b,off,none⟩)
 | T,.mo id t ks vs,v=>∃ b vvs,v = .map (some b)/\T.T id=some (t,0,Hi b ks.vals vvs)/\zx R ⟨T.β,fun _=>none⟩ vs vvs
 | _,.any,_=>True
def zx (R:Env):Loc->List C->List Value->Prop
 | _,[],vs=>vs = []
 | T,c :: r,vs=>∃ v us,vs=v :: us/\Rep R T c v/\zx R T r us
def zP (R:Env):List C->Nat->Nat->Prop
 | [],_,_=>True
 | c :: r,b,o=>(∃ v,R.w.cell? ⟨b,o,none⟩=some v/\¬R.M b o/\Rep R zU c v/\v.oneCell'=true)/\zP R r b (o+1)
def zW (R:Env):List (List C)->Nat->Nat->Nat->Prop
 | [],_,_,_=>True
 | row :: r,k,b,o=>row.length=k/\zP R row b o/\zW R r k b (o+k)
end
structure Ext (R R':Env):Prop where
 cell:∀ b o v,R.w.cell? ⟨b,o,none⟩=some v->¬R.M b o->R'.w.cell? ⟨b,o,none⟩=some v/\¬R'.M b o
 whole:∀ b cs ty fl,R.w.heap[b]?=some (.cells cs ty fl)->(∀ o,¬R.M b o)->R'.w.heap[b]?=some (.cells cs ty fl)/\∀ o,¬R'.M b o
theorem Ext.refl (R:Env):Ext R R:=⟨fun _ _ _ h h'=>⟨h,h'⟩,fun _ _ _ _ h h'=>⟨h,h'⟩⟩
theorem Ext.trans {A B D:Env} (h:Ext A B) (h':Ext B D):Ext A D:=
 ⟨fun b o v hc hm=>let ⟨x,y⟩:=h.cell b o v hc hm;h'.cell b o v x y,fun b cs ty fl hc hm=>let ⟨x,y⟩:=h.whole b cs ty fl hc hm;h'.whole b cs ty fl x y⟩
structure zR (L L':Loc):Prop where
 box:∀ (i b:Nat),L.β[i]?=some b->L'.β[i]?=some b
 own:∀ id x,L.T id=some x->L'.T id=some x
theorem zR.refl (T:Loc):zR T T:=⟨fun _ _ h=>h,fun _ _ h=>h⟩
theorem zR.trans {A B D:Loc} (h:zR A B) (h':zR B D):zR A D:=⟨fun i b e=>h'.box i b (h.box i b e),fun i b e=>h'.own i b (h.own i b e)⟩
theorem zR.none (T:Loc):zR zU T:=⟨fun _ _ h=>by simp at h,fun _ _ h=>by cases h⟩
mutual
theorem Rep.ext {R R':Env} (h:Ext R R'):∀ {T T':Loc} (hT:zR T T') (c:C) (v:Value),Rep R T c v->Rep R' T' c v
 | _,_,_,.sc _,_,hv=>hv
 | _,_,_,.str _,_,hv=>hv
 | _,_,hT,.agg cs,_,hv=>by
  unfold Rep at hv ⊢;obtain ⟨vs,e,hl⟩:=hv;exact ⟨vs,e,zx.ext h hT cs _ hl⟩
 | _,_,hT,.tup cs,_,hv=>by
  unfold Rep at hv ⊢;obtain ⟨vs,e,hl⟩:=hv;exact ⟨vs,e,zx.ext h hT cs _ hl⟩
 | _,_,hT,.sl k rows,_,hv=>by
  unfold Rep at hv ⊢;obtain ⟨a,cap,e,h1,h2,h3⟩:=hv;refine ⟨a,cap,e,h1,h2,?_⟩;rcases h3 with h3 | ⟨b,o,e,h3⟩
  ·exact .inl h3
  ·exact .inr ⟨b,o,e,zW.ext h rows k b o h3⟩
 | _,_,hT,.tight k rows,_,hv=>by
  unfold Rep at hv ⊢;obtain ⟨a,e,h2,h3⟩:=hv;refine ⟨a,e,h2,?_⟩;rcases h3 with h3 | ⟨b,o,e,h3⟩
  ·exact .inl h3
  ·exact .inr ⟨b,o,e,zW.ext h rows k b o h3⟩
 | _,_,hT,.own id e k rows,_,hv=>by
  unfold Rep at hv ⊢;obtain ⟨ht,a,cap,e,h1,h2,h3⟩:=hv;refine ⟨hT.own _ _ ht,a,cap,e,h1,h2,?_⟩;rcases h3 with h3 | ⟨b,o,e,h3⟩
  ·exact .inl h3
  ·exact .inr ⟨b,o,e,zW.ext h rows k b o h3⟩
 | _,_,hT,.ptr i off,_,hv=>by
  unfold Rep at hv ⊢;obtain ⟨b,hb,e⟩:=hv;exact ⟨b,hT.box i b hb,e⟩
 | _,_,hT,.row cs,_,hv=>by
  unfold Rep at hv ⊢;obtain ⟨b,o,e,hc⟩:=hv;exact ⟨b,o,e,zP.ext h cs b o hc⟩
 | _,_,hT,.clo fn first cap,_,hv=>by
  unfold Rep at hv ⊢;obtain ⟨fs,cs,e,h1,h2⟩:=hv;exact ⟨fs,cs,e,zx.ext h hT first _ h1,zx.ext h hT cap _ h2⟩
 | _,_,hT,.bs i off k n c,_,hv=>by
  unfold Rep at hv ⊢;obtain ⟨b,hb,e⟩:=hv;exact ⟨b,hT.box i b hb,e⟩
 | _,_,hT,.mo id t ks vs,_,hv=>by
  unfold Rep at hv ⊢;obtain ⟨b,vvs,e,ht,hl⟩:=hv;exact ⟨b,vvs,e,hT.own _ _ ht,zx.ext h (T:=⟨_,fun _=>none⟩) (T':=⟨_,fun _=>none⟩) ⟨hT.box,fun _ _ h=>by cases h⟩ vs _ hl⟩
 | _,_,_,.any,_,_=>by unfold Rep;trivial
theorem zx.ext {R R':Env} (h:Ext R R'):∀ {T T':Loc} (hT:zR T T') (cs:List C) (vs:List Value),zx R T cs vs->zx R' T' cs vs
 | _,_,_,[],_,hv=>hv
 | _,_,hT,c :: r,_,hv=>by
  unfold zx at hv ⊢;obtain ⟨v,us,e,h1,h2⟩:=hv;exact ⟨v,us,e,Rep.ext h hT c v h1,zx.ext h hT r us h2⟩
theorem zP.ext {R R':Env} (h:Ext R R'):∀ (cs:List C) (b o:Nat),zP R cs b o->zP R' cs b o
 | [],_,_,_=>by unfold zP;trivial
 | c :: r,b,o,hv=>by
  unfold zP at hv ⊢;obtain ⟨⟨v,hc,hm,h1,h2⟩,h3⟩:=hv;obtain ⟨hc',hm'⟩:=h.cell b o v hc hm;exact ⟨⟨v,hc',hm',Rep.ext h (zR.refl _) c v h1,h2⟩,zP.ext h r b (o+1) h3⟩
theorem zW.ext {R R':Env} (h:Ext R R'):∀ (rows:List (List C)) (k b o:Nat),zW R rows k b o->zW R' rows k b o
 | [],_,_,_,_=>by unfold zW;trivial
 | row :: r,k,b,o,hv=>by
  unfold zW at hv ⊢;exact ⟨hv.1,zP.ext h row b o hv.2.1,zW.ext h r k b (o+k) hv.2.2⟩
end
theorem zm {R:Env} {T:Loc}:zx R T [] vs↔vs = []:=by unfold zx;rfl
theorem zg {R:Env} {T:Loc} {c:C} {r:List C}:zx R T (c :: r) vs↔∃ v us,vs=v :: us/\Rep R T c v/\zx R T r us:=by
 constructor<;>intro h
 ·unfold zx at h;exact h
 ·unfold zx;exact h
theorem zy {R:Env} {T:Loc}:∀ {cs:List C} {vs:List Value},zx R T cs vs->vs.length=cs.length
 | [],_,h=>by rw[zm.1 h];rfl
 | c :: r,_,h=>by
  obtain ⟨v,us,rfl,_,h2⟩:=zg.1 h;simp[zy h2]
theorem JF {R:Env} {T:Loc}:∀ {cs:List C} {vs:List Value},zx R T cs vs->∀ (i:Nat) (c:C),cs[i]?=some c->∃ v,vs[i]?=some v/\Rep R T c v
 | [],_,h,i,c,hc=>by simp at hc
 | c0 :: r,_,h,i,c,hc=>by
  obtain ⟨v,us,rfl,h1,h2⟩:=zg.1 h;cases i with
  | zero=>simp at hc;subst hc;exact ⟨v,rfl,h1⟩
  | succ i=>simpa using JF h2 i c (by simpa using hc)
theorem YL {R:Env} {T:Loc}:∀ {cs:List C} {vs:List Value},vs.length=cs.length->(∀ (i:Nat) c v,cs[i]?=some c->vs[i]?=some v->Rep R T c v)->zx R T cs vs
 | [],vs,hl,_=>zm.2 (WV (by simpa using hl))
 | c :: r,[],hl,_=>by simp at hl
 | c :: r,v :: us,hl,h=>zg.2 ⟨v,us,rfl,h 0 c v rfl rfl,YL (by simpa using hl) fun i c' v' hc hv=>h (i+1) c' v' (by simpa using hc) (by simpa using hv)⟩
theorem zo {R:Env} {T:Loc}:∀ {cs ds:List C} {vs us:List Value},zx R T cs vs->zx R T ds us->zx R T (cs++ds) (vs++us)
 | [],_,_,_,h,h'=>by rw[zm.1 h];exact h'
 | c :: r,_,_,_,h,h'=>by
  obtain ⟨v,us,rfl,h1,h2⟩:=zg.1 h;exact zg.2 ⟨v,_,rfl,h1,zo h2 h'⟩
theorem jg {R:Env} {T:Loc}:∀ (n:Nat) {cs:List C} {vs:List Value},zx R T cs vs->zx R T (cs.drop n) (vs.drop n)
 | 0,_,_,h=>h
 | n+1,[],_,h=>by rw[zm.1 h];exact zm.2 (by simp)
 | n+1,c :: r,_,h=>by
  obtain ⟨v,us,rfl,h1,h2⟩:=zg.1 h;exact jg n h2
theorem qR {R:Env} {T:Loc}:∀ (n:Nat) {cs:List C} {vs:List Value},zx R T cs vs->zx R T (cs.take n) (vs.take n)
 | 0,_,_,h=>zm.2 rfl
 | n+1,[],_,h=>by rw[zm.1 h];exact zm.2 (by simp)
 | n+1,c :: r,_,h=>by
  obtain ⟨v,us,rfl,h1,h2⟩:=zg.1 h;exact zg.2 ⟨v,_,rfl,h1,qR n h2⟩
theorem Jo {R:Env}:zP R [] b o:=by unfold zP;trivial
theorem qq {R:Env} {c:C} {r:List C}:zP R (c :: r) b o↔(∃ v,R.w.cell? ⟨b,o,none⟩=some v/\¬R.M b o/\Rep R zU c v/\v.oneCell'=true)/\zP R r b (o+1):=by
 constructor<;>intro h
 ·unfold zP at h;exact h
 ·unfold zP;exact h
theorem Jm {R:Env}:∀ {cs:List C} {b o:Nat},zP R cs b o->∀ (i:Nat) (c:C),cs[i]?=some c->∃ v,R.w.cell? ⟨b,o+i,none⟩=some v/\¬R.M b (o+i)/\Rep R zU c v/\v.oneCell'=true
 | [],_,_,_,i,c,hc=>by simp at hc
 | c0 :: r,b,o,h,i,c,hc=>by
  obtain ⟨h1,h2⟩:=qq.1 h;cases i with
  | zero=>simp at hc;subst hc;exact h1
  | succ i =>
   have:=Jm h2 i c (by simpa using hc);rwa [Bj,Nat.add_comm 1 i]at this
theorem qi {R:Env}:∀ {cs:List C} {b o:Nat},(∀ (i:Nat) c,cs[i]?=some c->∃ v,R.w.cell? ⟨b,o+i,none⟩=some v/\¬R.M b (o+i)/\Rep R zU c v/\v.oneCell'=true)->zP R cs b o
 | [],_,_,_=>Jo
 | c0 :: r,b,o,h=>qq.2 ⟨h 0 c0 rfl,qi fun i c hc=>by
   have:=h (i+1) c (by simpa using hc);rwa [show o+(i+1)=o+1+i by omega]at this⟩
theorem XV {R:Env}:∀ (n:Nat) {cs:List C} {b o:Nat},zP R cs b o->zP R (cs.drop n) b (o+n)
 | 0,_,_,_,h=>h
 | n+1,[],_,_,h=>Jo
 | n+1,c :: r,b,o,h=>by
  have:=XV n (qq.1 h).2;rwa [show o+1+n=o+(n+1) by omega]at this
theorem XT {R:Env}:zW R [] k b o:=by unfold zW;trivial
theorem jz {R:Env} {row:List C} {r:List (List C)}:zW R (row :: r) k b o↔row.length=k/\zP R row b o/\zW R r k b (o+k):=by
 constructor<;>intro h
 ·unfold zW at h;exact h
 ·unfold zW;exact h
theorem jE {R:Env}:∀ {rows:List (List C)} {k b o:Nat},zW R rows k b o->∀ (i:Nat) row,rows[i]?=some row->row.length=k/\zP R row b (o+i*k)
 | [],_,_,_,_,i,c,hc=>by simp at hc
 | r0 :: r,k,b,o,h,i,row,hc=>by
  obtain ⟨h0,h1,h2⟩:=jz.1 h;cases i with
  | zero=>simp at hc;subst hc;exact ⟨h0,by simpa using h1⟩
  | succ i =>
   have:=jE h2 i row (by simpa using hc);rwa [show o+k+i*k=o+(i+1)*k by rw[On];omega]at this
theorem ji {R:Env}:∀ {rows:List (List C)} {k b o:Nat},(∀ (i:Nat) row,rows[i]?=some row->row.length=k/\zP R row b (o+i*k))->zW R rows k b o
 | [],_,_,_,_=>XT
 | r0 :: r,k,b,o,h=>jz.2 ⟨(h 0 r0 rfl).1,by simpa using (h 0 r0 rfl).2,ji fun i row hc=>by
   have:=h (i+1) row (by simpa using hc);rwa [show o+(i+1)*k=o+k+i*k by rw[On];omega]at this⟩
theorem Qi {R:Env} {k b:Nat}:∀ (n:Nat) {rows:List (List C)} {o:Nat},zW R rows k b o->zW R (rows.drop n) k b (o+n*k)
 | 0,_,o,h=>by simpa using h
 | n+1,[],_,h=>XT
 | n+1,c :: r,o,h=>by
  have:=Qi n (jz.1 h).2.2;rwa [show o+k+n*k=o+(n+1)*k by rw[On];omega]at this
theorem QD {R:Env} {k b:Nat}:∀ (n:Nat) {rows:List (List C)} {o:Nat},zW R rows k b o->zW R (rows.take n) k b o
 | 0,_,_,h=>XT
 | n+1,[],_,h=>XT
 | n+1,c :: r,o,h=>jz.2 ⟨(jz.1 h).1,(jz.1 h).2.1,QD n (jz.1 h).2.2⟩
theorem jd {R:Env} {k b:Nat}:∀ {rows:List (List C)} {o:Nat},zW R rows k b o->zP R rows.flatten b o/\rows.flatten.length=rows.length*k
 | [],_,h=>⟨Jo,by simp⟩
 | c :: r,o,h=>by
  obtain ⟨h0,h1,h2⟩:=jz.1 h;obtain ⟨h3,h4⟩:=jd h2;refine ⟨qi fun i x hx=>?_,by simp[h4,h0,On];omega⟩;rw[OR]at hx;rcases Wp i c.length with hi | hi
  ·rw[Wt hi]at hx;exact Jm h1 i x hx
  ·rw[WK hi]at hx;have:=Jm h3 (i-c.length) x hx;rwa [show o+k+(i-c.length)=o+i by omega]at this
def zD:Value->C
 | .string s=>.str s.data.toList
 | .agg vs=>.agg (vs.toList.map .sc)
 | v=>.sc v
theorem zgH {R:Env} {T:Loc}:∀ vs:List Value,zx R T (vs.map .sc) vs
 | []=>zm.2 rfl
 | v :: r=>zg.2 ⟨v,_,rfl,by unfold Rep;rfl,zgH r⟩
theorem jX (R:Env) (T:Loc) (v:Value):Rep R T (zD v) v:=by
 unfold zD;split
 ·unfold Rep;simp
 ·unfold Rep;exact ⟨_,rfl,zgH _⟩
 ·unfold Rep;rfl
def C.cellB:C->Bool
 | .sc v=>v.oneCell'
 | .agg _ | .tup _ | .any=>false
 | _=>true
theorem Rep.oneCell {R:Env} {T:Loc} {c:C} (h:Rep R T c v) (hc:c.cellB=true):v.oneCell'=true:=by
 cases c<;>simp only[C.cellB]at hc<;>unfold Rep at h
 case sc u=>subst h;exact hc
 case str l=>subst h;rfl
 case agg=>cases hc
 case tup=>cases hc
 case sl=>obtain ⟨_,_,rfl,_⟩:=h;rfl
 case tight=>obtain ⟨_,rfl,_⟩:=h;rfl
 case own=>obtain ⟨_,_,_,rfl,_⟩:=h;rfl
 case ptr=>obtain ⟨_,_,rfl⟩:=h;rfl
 case row=>obtain ⟨_,_,rfl,_⟩:=h;rfl
 case clo=>obtain ⟨_,_,rfl,_⟩:=h;rfl
 case bs=>obtain ⟨_,_,_,rfl,_⟩:=h;rfl
 case mo=>obtain ⟨_,_,rfl,_⟩:=h;rfl
 case any=>cases hc
def C.cells:C->List C
 | .agg cs=>cs
 | c=>[c]
mutual
/-- what a callee may know of it: no owner, no place of the caller's -/
def C.frz:C->C
 | .own _ _ k rows=>.sl k rows
 | .ptr _ _=>.any
 | .bs _ _ _ _ _=>.any
 | .mo _ _ _ _=>.any
 | .agg cs=>.agg (C.frzL cs)
 | .tup cs=>.tup (C.frzL cs)
 | .clo fn first cap=>.clo fn (C.frzL first) (C.frzL cap)
 | .sc v=>.sc v
 | .str l=>.str l
 | .sl k rows=>.sl k rows
 | .tight k rows=>.tight k rows
 | .row cs=>.row cs
 | .any=>.any
def C.frzL:List C->List C
 | []=>[]
 | c :: r=>c.frz :: C.frzL r
end
mutual
theorem Rep.frz {R:Env} {L:Loc} (L':Loc):∀ (c:C) (v:Value),Rep R L c v->Rep R L' c.frz v
 | .sc _,_,h=>by unfold C.frz;unfold Rep at h ⊢;exact h
 | .str _,_,h=>by unfold C.frz;unfold Rep at h ⊢;exact h
 | .agg cs,_,h=>by
  unfold C.frz;unfold Rep at h ⊢;obtain ⟨vs,e,hl⟩:=h;exact ⟨vs,e,zx.frz L' cs _ hl⟩
 | .tup cs,_,h=>by
  unfold C.frz;unfold Rep at h ⊢;obtain ⟨vs,e,hl⟩:=h;exact ⟨vs,e,zx.frz L' cs _ hl⟩
 | .sl k rows,_,h=>by unfold C.frz;unfold Rep at h ⊢;exact h
 | .tight k rows,_,h=>by unfold C.frz;unfold Rep at h ⊢;exact h
 | .own id e k rows,_,h=>by unfold C.frz;unfold Rep at h ⊢;exact h.2
 | .ptr i off,_,h=>by unfold C.frz;unfold Rep;trivial
 | .bs i off k n c,_,h=>by unfold C.frz;unfold Rep;trivial
 | .mo i t ks vs,_,h=>by unfold C.frz;unfold Rep;trivial
 | .row cs,_,h=>by unfold C.frz;unfold Rep at h ⊢;exact h
 | .clo fn first cap,_,h=>by
  unfold C.frz;unfold Rep at h ⊢;obtain ⟨fs,cs,e,h1,h2⟩:=h;exact ⟨fs,cs,e,zx.frz L' first _ h1,zx.frz L' cap _ h2⟩
 | .any,_,_=>by unfold C.frz;unfold Rep;trivial
theorem zx.frz {R:Env} {L:Loc} (L':Loc):∀ (cs:List C) (vs:List Value),zx R L cs vs->zx R L' (C.frzL cs) vs
 | [],_,h=>by unfold C.frzL;rw[zm]at h ⊢;exact h
 | c :: r,_,h=>by
  unfold C.frzL;rw[zg]at h ⊢;obtain ⟨v,us,e,h1,h2⟩:=h;exact ⟨v,us,e,Rep.frz L' c v h1,zx.frz L' r us h2⟩
end
def C.kp:C->C
 | .ptr i off=>.ptr i off
 | c=>c.frz
def C.frq:C->C
 | .clo fn first cap=>.clo fn (first.map C.kp) (cap.map C.kp)
 | c=>c.frz
theorem Rep.kp {R:Env} {L:Loc} {c:C} (h:Rep R L c v):Rep R ⟨L.β,fun _=>none⟩ c.kp v:=by
 unfold C.kp;split
 ·unfold Rep at h ⊢;exact h
 ·exact Rep.frz _ _ _ h
theorem zx.kp {R:Env} {L:Loc}:∀ {cs:List C} {vs:List Value},zx R L cs vs->zx R ⟨L.β,fun _=>none⟩ (cs.map C.kp) vs
 | [],_,h=>by rw[zm]at h;rw[Oo,zm];exact h
 | c :: r,_,h=>by
  rw[zg]at h;obtain ⟨v,us,e,h1,h2⟩:=h;rw[WC,zg];exact ⟨v,us,e,h1.kp,h2.kp⟩
theorem Rep.frq {R:Env} {L:Loc} {c:C} (h:Rep R L c v):Rep R ⟨L.β,fun _=>none⟩ c.frq v:=by
 unfold C.frq;split
 ·unfold Rep at h ⊢;obtain ⟨fs,cs,e,h1,h2⟩:=h;exact ⟨fs,cs,e,h1.kp,h2.kp⟩
 ·exact Rep.frz _ _ _ h
mutual
/-- one owner gone -/
def C.dg (id:Nat):C->C
 | .own i e k rows=>if i=id then .sl k rows else .own i e k rows
 | .ptr i off=>.ptr i off
 | .bs i off k n c=>.bs i off k n c
 | .mo i t ks vs=>if i=id then .any else .mo i t ks vs
 | .agg cs=>.agg (C.dgL id cs)
 | .tup cs=>.tup (C.dgL id cs)
 | .clo fn first cap=>.clo fn (C.dgL id first) (C.dgL id cap)
 | .sc v=>.sc v
 | .str l=>.str l
 | .sl k rows=>.sl k rows
 | .tight k rows=>.tight k rows
 | .row cs=>.row cs
 | .any=>.any
def C.dgL (id:Nat):List C->List C
 | []=>[]
 | c :: r=>c.dg id :: C.dgL id r
end
mutual
theorem Rep.dg {R:Env} {L L':Loc} {id:Nat} (hb:∀ (i b:Nat),L.β[i]?=some b->L'.β[i]?=some b) (hT:∀ i x,i≠id->L.T i=some x->L'.T i=some x):∀ (c:C) (v:Value),Rep R L c v->Rep R L' (c.dg id) v
 | .sc _,_,h=>by unfold C.dg;unfold Rep at h ⊢;exact h
 | .str _,_,h=>by unfold C.dg;unfold Rep at h ⊢;exact h
 | .agg cs,_,h=>by
  unfold C.dg;unfold Rep at h ⊢;obtain ⟨vs,e,hl⟩:=h;exact ⟨vs,e,zx.dg hb hT cs _ hl⟩
 | .tup cs,_,h=>by
  unfold C.dg;unfold Rep at h ⊢;obtain ⟨vs,e,hl⟩:=h;exact ⟨vs,e,zx.dg hb hT cs _ hl⟩
 | .sl k rows,_,h=>by unfold C.dg;unfold Rep at h ⊢;exact h
 | .tight k rows,_,h=>by unfold C.dg;unfold Rep at h ⊢;exact h
 | .own i e k rows,_,h=>by
  unfold C.dg;unfold Rep at h;split
  ·unfold Rep;exact h.2
  ·unfold Rep;exact ⟨hT _ _ (by assumption) h.1,h.2⟩
 | .ptr i off,_,h=>by
  unfold C.dg;unfold Rep at h ⊢;obtain ⟨b,e,h⟩:=h;exact ⟨b,hb _ _ e,h⟩
 | .bs i off k n c,_,h=>by
  unfold C.dg;unfold Rep at h ⊢;obtain ⟨b,e,h⟩:=h;exact ⟨b,hb _ _ e,h⟩
 | .mo i t ks vs,_,h=>by
  unfold C.dg;unfold Rep at h;split
  ·unfold Rep;trivial
  ·unfold Rep;obtain ⟨b,vvs,e,ht,hl⟩:=h;exact ⟨b,vvs,e,hT _ _ (by assumption) ht,zx.ext (Ext.refl _) (T:=⟨_,fun _=>none⟩) (T':=⟨_,fun _=>none⟩) ⟨hb,fun _ _ h=>by cases h⟩ vs _ hl⟩
 | .row cs,_,h=>by unfold C.dg;unfold Rep at h ⊢;exact h
 | .clo fn first cap,_,h=>by
  unfold C.dg;unfold Rep at h ⊢;obtain ⟨fs,cs,e,h1,h2⟩:=h;exact ⟨fs,cs,e,zx.dg hb hT first _ h1,zx.dg hb hT cap _ h2⟩
 | .any,_,_=>by unfold C.dg;unfold Rep;trivial
theorem zx.dg {R:Env} {L L':Loc} {id:Nat} (hb:∀ (i b:Nat),L.β[i]?=some b->L'.β[i]?=some b) (hT:∀ i x,i≠id->L.T i=some x->L'.T i=some x):∀ (cs:List C) (vs:List Value),zx R L cs vs->zx R L' (C.dgL id cs) vs
 | [],_,h=>by unfold C.dgL;rw[zm]at h ⊢;exact h
 | c :: r,_,h=>by
  unfold C.dgL;rw[zg]at h ⊢;obtain ⟨v,us,e,h1,h2⟩:=h;exact ⟨v,us,e,Rep.dg hb hT c v h1,zx.dg hb hT r us h2⟩
end
mutual
/-- owners, told anew from n on -/
def C.sh (n:Nat):C->C
 | .own i e k rows=>.own (n+i) e k rows
 | .ptr i off=>.ptr i off
 | .bs i off k m c=>.bs i off k m c
 | .mo i t ks vs=>.mo (n+i) t ks vs
 | .agg cs=>.agg (C.shL n cs)
 | .tup cs=>.tup (C.shL n cs)
 | .clo fn first cap=>.clo fn (C.shL n first) (C.shL n cap)
 | .sc v=>.sc v
 | .str l=>.str l
 | .sl k rows=>.sl k rows
 | .tight k rows=>.tight k rows
 | .row cs=>.row cs
 | .any=>.any
def C.shL (n:Nat):List C->List C
 | []=>[]
 | c :: r=>c.sh n :: C.shL n r
end
mutual
theorem Rep.sh {R:Env} {L L':Loc} (hb:∀ (i b:Nat),L.β[i]?=some b->L'.β[i]?=some b) (hT:∀ i x,L.T i=some x->L'.T (n+i)=some x):∀ (c:C) (v:Value),Rep R L c v->Rep R L' (c.sh n) v
 | .sc _,_,h=>by unfold C.sh;unfold Rep at h ⊢;exact h
 | .str _,_,h=>by unfold C.sh;unfold Rep at h ⊢;exact h
 | .agg cs,_,h=>by
  unfold C.sh;unfold Rep at h ⊢;obtain ⟨vs,e,hl⟩:=h;exact ⟨vs,e,zx.sh hb hT cs _ hl⟩
 | .tup cs,_,h=>by
  unfold C.sh;unfold Rep at h ⊢;obtain ⟨vs,e,hl⟩:=h;exact ⟨vs,e,zx.sh hb hT cs _ hl⟩
 | .sl k rows,_,h=>by unfold C.sh;unfold Rep at h ⊢;exact h
 | .tight k rows,_,h=>by unfold C.sh;unfold Rep at h ⊢;exact h
 | .own i e k rows,_,h=>by
  unfold C.sh;unfold Rep at h ⊢;exact ⟨hT _ _ h.1,h.2⟩
 | .ptr i off,_,h=>by
  unfold C.sh;unfold Rep at h ⊢;obtain ⟨b,e,h⟩:=h;exact ⟨b,hb _ _ e,h⟩
 | .bs i off k m c,_,h=>by
  unfold C.sh;unfold Rep at h ⊢;obtain ⟨b,e,h⟩:=h;exact ⟨b,hb _ _ e,h⟩
 | .mo i t ks vs,_,h=>by
  unfold C.sh;unfold Rep at h ⊢;obtain ⟨b,vvs,e,ht,hl⟩:=h;exact ⟨b,vvs,e,hT _ _ ht,zx.ext (Ext.refl _) (T:=⟨_,fun _=>none⟩) (T':=⟨_,fun _=>none⟩) ⟨hb,fun _ _ h=>by cases h⟩ vs _ hl⟩
 | .row cs,_,h=>by unfold C.sh;unfold Rep at h ⊢;exact h
 | .clo fn first cap,_,h=>by
  unfold C.sh;unfold Rep at h ⊢;obtain ⟨fs,cs,e,h1,h2⟩:=h;exact ⟨fs,cs,e,zx.sh hb hT first _ h1,zx.sh hb hT cap _ h2⟩
 | .any,_,_=>by unfold C.sh;unfold Rep;trivial
theorem zx.sh {R:Env} {L L':Loc} (hb:∀ (i b:Nat),L.β[i]?=some b->L'.β[i]?=some b) (hT:∀ i x,L.T i=some x->L'.T (n+i)=some x):∀ (cs:List C) (vs:List Value),zx R L cs vs->zx R L' (C.shL n cs) vs
 | [],_,h=>by unfold C.shL;rw[zm]at h ⊢;exact h
 | c :: r,_,h=>by
  unfold C.shL;rw[zg]at h ⊢;obtain ⟨v,us,e,h1,h2⟩:=h;exact ⟨v,us,e,Rep.sh hb hT c v h1,zx.sh hb hT r us h2⟩
end
mutual
/-- the content of one owned map, anew -/
def C.up (id:Nat) (ks':MK) (vs':List C):C->C
 | .mo i t ks vs=>if i=id then .mo i t ks' vs' else .mo i t ks vs
 | .own i e k rows=>if i=id then .any else .own i e k rows
 | .ptr i off=>.ptr i off
 | .bs i off k n c=>.bs i off k n c
 | .agg cs=>.agg (C.upL id ks' vs' cs)
 | .tup cs=>.tup (C.upL id ks' vs' cs)
 | .clo fn first cap=>.clo fn (C.upL id ks' vs' first) (C.upL id ks' vs' cap)
 | .sc v=>.sc v
 | .str l=>.str l
 | .sl k rows=>.sl k rows
 | .tight k rows=>.tight k rows
 | .row cs=>.row cs
 | .any=>.any
def C.upL (id:Nat) (ks':MK) (vs':List C):List C->List C
 | []=>[]
 | c :: r=>c.up id ks' vs' :: C.upL id ks' vs' r
end
theorem NK {b':Nat} {k v k' v':List Value} (h:Hi b k v=Hi b' k' v'):b=b'/\k=k'/\v=v':=by
 unfold Hi at h;simp only[Value.iface.injEq,Value.tuple.injEq,Array.mk.injEq,List.cons.injEq,Value.agg.injEq,and_true]at h;obtain ⟨h1,h2,h3⟩:=h;exact ⟨h1,by simpa using h2,by simpa using h3⟩
mutual
theorem Rep.up {R:Env} {L L':Loc} {id:Nat} {ks':MK} {vs':List C} {t0:TypeId} {b0:Nat} {kvs vvs vvs':List Value} (hb:∀ (i b:Nat),L.β[i]?=some b->L'.β[i]?=some b) (hT:∀ i x,i≠id->L.T i=some x->L'.T i=some x)
  (h0:L.T id=some (t0,0,Hi b0 kvs vvs)) (h1:L'.T id=some (t0,0,Hi b0 ks'.vals vvs')) (hr:zx R ⟨L'.β,fun _=>none⟩ vs' vvs'):∀ (c:C) (v:Value),Rep R L c v->Rep R L' (c.up id ks' vs') v
 | .sc _,_,h=>by unfold C.up;unfold Rep at h ⊢;exact h
 | .str _,_,h=>by unfold C.up;unfold Rep at h ⊢;exact h
 | .agg cs,_,h=>by
  unfold C.up;unfold Rep at h ⊢;obtain ⟨vs,e,hl⟩:=h;exact ⟨vs,e,zx.up hb hT h0 h1 hr cs _ hl⟩
 | .tup cs,_,h=>by
  unfold C.up;unfold Rep at h ⊢;obtain ⟨vs,e,hl⟩:=h;exact ⟨vs,e,zx.up hb hT h0 h1 hr cs _ hl⟩
 | .sl k rows,_,h=>by unfold C.up;unfold Rep at h ⊢;exact h
 | .tight k rows,_,h=>by unfold C.up;unfold Rep at h ⊢;exact h
 | .own i e k rows,_,h=>by
  unfold C.up;unfold Rep at h;split
  ·unfold Rep;trivial
  ·unfold Rep;exact ⟨hT _ _ (by assumption) h.1,h.2⟩
 | .mo i t ks vs,_,h=>by
  unfold C.up;unfold Rep at h;obtain ⟨b,us,e,ht,hl⟩:=h;split
  ·rename_i hi;subst hi;rw[h0]at ht;simp only[Option.some.injEq,Prod.mk.injEq]at ht;obtain ⟨rfl,_,hm⟩:=ht;obtain ⟨rfl,_,_⟩:=NK hm;unfold Rep;exact ⟨b0,vvs',e,h1,hr⟩
  ·unfold Rep;exact ⟨b,us,e,hT _ _ (by assumption) ht,zx.ext (Ext.refl _) (T:=⟨_,fun _=>none⟩) (T':=⟨_,fun _=>none⟩) ⟨hb,fun _ _ h=>by cases h⟩ vs _ hl⟩
 | .ptr i off,_,h=>by
  unfold C.up;unfold Rep at h ⊢;obtain ⟨b,e,h⟩:=h;exact ⟨b,hb _ _ e,h⟩
 | .bs i off k n c,_,h=>by
  unfold C.up;unfold Rep at h ⊢;obtain ⟨b,e,h⟩:=h;exact ⟨b,hb _ _ e,h⟩
 | .row cs,_,h=>by unfold C.up;unfold Rep at h ⊢;exact h
 | .clo fn first cap,_,h=>by
  unfold C.up;unfold Rep at h ⊢;obtain ⟨fs,cs,e,h2,h3⟩:=h;exact ⟨fs,cs,e,zx.up hb hT h0 h1 hr first _ h2,zx.up hb hT h0 h1 hr cap _ h3⟩
 | .any,_,_=>by unfold C.up;unfold Rep;trivial
theorem zx.up {R:Env} {L L':Loc} {id:Nat} {ks':MK} {vs':List C} {t0:TypeId} {b0:Nat} {kvs vvs vvs':List Value} (hb:∀ (i b:Nat),L.β[i]?=some b->L'.β[i]?=some b) (hT:∀ i x,i≠id->L.T i=some x->L'.T i=some x)
  (h0:L.T id=some (t0,0,Hi b0 kvs vvs)) (h1:L'.T id=some (t0,0,Hi b0 ks'.vals vvs')) (hr:zx R ⟨L'.β,fun _=>none⟩ vs' vvs'):∀ (cs:List C) (vs:List Value),zx R L cs vs->zx R L' (C.upL id ks' vs' cs) vs
 | [],_,h=>by unfold C.upL;rw[zm]at h ⊢;exact h
 | c :: r,_,h=>by
  unfold C.upL;rw[zg]at h ⊢;obtain ⟨v,us,e,h2,h3⟩:=h;exact ⟨v,us,e,Rep.up hb hT h0 h1 hr c v h2,zx.up hb hT h0 h1 hr r us h3⟩
end
end
variable {R R':Env} {L L':Loc} {c:C} {r:List C}
section
open Go.RowKit
inductive LK where
 | int (k:IntKind)
 | bool
 | str
 | slice (e:TypeId)
 | struct (fs:List (Nat×Nat×Bool))
 | array (n:Nat) (e:TypeId)
 | other
def LK.agg:LK->Bool
 | .struct _ | .array _ _=>true
 | _=>false
structure Lay where
 kind:LK
 size:Nat
 bytes:Nat
 zero:Option (List Value)
def zfD (P:Program) (t:TypeId):Bool:=match P.underlying t with | some (.struct _) | some (.array _ _)=>true | _=>false
def Xl (P:Program):TypeDesc->LK
 | .int k=>.int k
 | .bool=>.bool
 | .string=>.str
 | .slice e=>.slice e
 | .struct fs=>if fs.toList.all (fun f=>(P.underlying f.type).isSome) then .struct (fs.toList.map fun f=>(f.offset,((P.info? f.type).map (·.size)).getD 0,zfD P f.type)) else .array 0 0
 | .array n e=>.array n e
 | _=>.other
def lay (P:Program) (t:TypeId):Option Lay:=
 match P.info? t,P.underlying t with
 | some i,some d=>some ⟨Xl P d,i.size,i.bytes,i.zero.map (·.cells.toList)⟩
 | _,_=>none
def GV (P:Program):Nat->List Field->Option (List LK)
 | _,[]=>some []
 | j,f :: fs=>if f.name != "_"&&f.offset==j then match P.underlying f.type with
   | some .bool=>(GV P (j+1) fs).map (LK.bool :: ·)
   | some (.int k)=>(GV P (j+1) fs).map (LK.int k :: ·)
   | some .string=>(GV P (j+1) fs).map (LK.str :: ·)
   | _=>none
  else none
def Uv (P:Program) (t:TypeId):Option (List LK):=
 match P.underlying t with
 | some (.struct fs)=>if P.stoodInHeld t||P.eqGuardType P.depth t then none else GV P 0 fs.toList
 | _=>none
theorem qk {L:Lay} (h:lay P t=some L):∃ i d,P.info? t=some i/\P.underlying t=some d/\L.kind=Xl P d/\L.size=i.size/\L.bytes=i.bytes/\L.zero=i.zero.map (·.cells.toList):=by
 unfold lay at h;split at h
 ·rename_i i d hi hd;cases h;exact ⟨i,d,hi,hd,rfl,rfl,rfl,rfl⟩
 ·cases h
theorem qe {L:Lay} (h:lay P t=some L) (hk:L.kind = .slice e):P.underlying t=some (.slice e):=by
 obtain ⟨i,d,_,hd,h1,_⟩:=qk h;rw[hk]at h1;cases d<;>simp only[Xl]at h1<;>first | (cases h1;exact hd) | (cases h1;done) | (split at h1<;>cases h1)
theorem zf8 {L:Lay} (h:lay P t=some L) (hk:L.kind = .array (n+1) e):P.underlying t=some (.array (n+1) e):=by
 obtain ⟨i,d,_,hd,h1,_⟩:=qk h;rw[hk]at h1;cases d<;>simp only[Xl]at h1<;>try cases h1
 ·exact hd
 ·split at h1<;>cases h1
theorem Zg {L:Lay} (h:lay P t=some L) (hk:L.kind = .str):P.underlying t=some .string:=by
 obtain ⟨i,d,_,hd,h1,_⟩:=qk h;rw[hk]at h1;cases d<;>simp only[Xl]at h1<;>first | (cases h1;exact hd) | (cases h1;done) | (split at h1<;>cases h1)
theorem zjI {L:Lay} (h:lay P t=some L) (hk:L.kind = .bool):P.underlying t=some .bool:=by
 obtain ⟨i,d,_,hd,h1,_⟩:=qk h;rw[hk]at h1;cases d<;>simp only[Xl]at h1<;>first | (cases h1;exact hd) | (cases h1;done) | (split at h1<;>cases h1)
theorem ziy {L:Lay} (h:lay P t=some L):(P.underlying t).isSome=true:=by
 obtain ⟨i,d,_,hd,_⟩:=qk h;rw[hd];rfl
theorem VF {k:IntKind} {L:Lay} (h:lay P t=some L) (hk:L.kind = .int k):P.underlying t=some (.int k):=by
 obtain ⟨i,d,_,hd,h1,_⟩:=qk h;rw[hk]at h1;cases d<;>simp only[Xl]at h1<;>first | (cases h1;exact hd) | (cases h1;done) | (split at h1<;>cases h1)
theorem V0 {fs:List (Nat×Nat×Bool)} {L:Lay} (h:lay P t=some L) (hk:L.kind = .struct fs) :
  ∃ fields:Array Field,P.underlying t=some (.struct fields)/\(∀ f∈fields.toList,(P.underlying f.type).isSome=true)/\fs=fields.toList.map fun f=>(f.offset,((P.info? f.type).map (·.size)).getD 0,zfD P f.type):=by
 obtain ⟨i,d,_,hd,h1,_⟩:=qk h;rw[hk]at h1;cases d<;>simp only[Xl]at h1<;>try cases h1
 split at h1
 ·rename_i fs0 hall;cases h1;exact ⟨_,hd,fun f hf=>Ws.1 hall f hf,rfl⟩
 ·cases h1
theorem znR {L:Lay} (h:lay P t=some L) (w:World):(isAgg t).run P w = .ok L.kind.agg w:=by
 obtain ⟨i,d,_,hd,h1,_⟩:=qk h;unfold isAgg;rw[Wm,WD hd w,h1];cases d<;>first | rfl | (simp only[Xl];split<;>rfl)
theorem G9 {d:TypeDesc} (h:P.underlying t=some d) (w:World):(isAgg t).run P w = .ok (zfD P t) w:=by
 unfold isAgg zfD;rw[Wm,WD h w,h];cases d<;>rfl
theorem qV {L:Lay} (h:lay P t=some L) (w:World):(sizeOf t).run P w = .ok L.size w:=by
 obtain ⟨i,d,hi,hd,h1,h2,_⟩:=qk h;simp[sizeOf,typeInfo,hi,h2]
theorem zk8 {L:Lay} (h:lay P t=some L):(P.info? t).map (·.size)=some L.size:=by
 obtain ⟨i,d,hi,hd,h1,h2,_⟩:=qk h;simp[hi,h2]
def inR (k:IntKind) (n:Int):Prop:=k.min<=n/\n<=k.max
theorem Q3 {k:IntKind} {n:Int} (h:inR k n):k.wrap n=n:=by
 unfold inR at h;cases k<;>simp[IntKind.min,IntKind.max,IntKind.bits,IntKind.signed,IntKind.wrap]at h ⊢<;>first | omega | (split<;>omega)
theorem znL (n:Int):inR .i64 n=(-9223372036854775808<=n/\n<=9223372036854775807):=by simp[inR,IntKind.min,IntKind.max,IntKind.bits,IntKind.signed]
theorem zqc (n:Int):inR .u8 n=(0<=n/\n<=255):=by simp[inR,IntKind.min,IntKind.max,IntKind.bits,IntKind.signed]
theorem zl7 (n:Int):inR .u16 n=(0<=n/\n<=65535):=by simp[inR,IntKind.min,IntKind.max,IntKind.bits,IntKind.signed]
theorem zl8 (n:Int):inR .i32 n=(-2147483648<=n/\n<=2147483647):=by simp[inR,IntKind.min,IntKind.max,IntKind.bits,IntKind.signed]
theorem zl0 (n:Int):inR .u64 n=(0<=n/\n<=18446744073709551615):=by simp[inR,IntKind.min,IntKind.max,IntKind.bits,IntKind.signed]
def C.rows? (k:Nat):C->Option (List (List C))
 | .sl k' rows=>if k'=k then some rows else none
 | .tight k' rows=>if k'=k then some rows else none
 | .own _ _ k' rows=>if k'=k then some rows else none
 | .sc (.slice none 0 0)=>some []
 | .sc (.slice _ 0 cap)=>if cap<=maxLen then some [] else none
 | _=>none
theorem Rep.rows {R:Env} {L:Loc} {c:C} {v:Value} {k:Nat} {rows:List (List C)} (h:Rep R L c v) (hc:c.rows? k=some rows) :
  ∃ a cap,v = .slice a rows.length cap/\rows.length<=cap/\cap<=maxLen/\(rows = []∨∃ b o,a=some ⟨b,o,none⟩/\zW R rows k b o):=by
 unfold C.rows? at hc;split at hc
 ·split at hc
  ·cases hc;subst_vars;unfold Rep at h;exact h
  ·cases hc
 ·split at hc
  ·cases hc;subst_vars;unfold Rep at h;obtain ⟨a,e,h2,h3⟩:=h;exact ⟨a,_,e,Wb _,h2,h3⟩
  ·cases hc
 ·split at hc
  ·cases hc;subst_vars;unfold Rep at h;exact h.2
  ·cases hc
 ·cases hc;unfold Rep at h;exact ⟨none,0,h,Wb _,Wd _,.inl rfl⟩
 ·split at hc
  ·cases hc;unfold Rep at h;exact ⟨_,_,h,Wd _,by assumption,.inl rfl⟩
  ·cases hc
 ·cases hc
def Qr (B:Nat->Prop) (R:Env) (β:List Nat) (e:TypeId) (k:Nat) (v:Value):Prop:=
 v = .slice none 0 0∨(∃ g n cap cur ty,v = .slice (some ⟨g,0,none⟩) n cap/\B g/\R.w.heap[g]?=some (.cells cur ty (0,0))/\n<=cap/\cap<=maxLen/\cur.size=cap*k/\g∉β/\∀ o,n*k<=o->R.M g o) ∨
  ∃ g es kvs vvs,v=Hi g kvs vvs/\B g/\R.w.heap[g]?=some (.map es es.size)/\g∉β/\es.toList.map (·.key)=kvs/\es.toList.map (·.val)=vvs/\∀ (i:Nat) (e:MapEntry),es[i]?=some e->e.born=i
structure ZZ (B:Nat->Prop) (R:Env) (L:Loc):Prop where
 own:∀ id e k v,L.T id=some (e,k,v)->Qr B R L.β e k v
 apart:∀ id id' e k v e' k' v' b,L.T id=some (e,k,v)->L.T id'=some (e',k',v')->v.ownB=some b->v'.ownB=some b->id=id'
abbrev zoB (L:Loc) (a b:Nat):Prop:=∀ id,a<=id->id<b->L.T id=none
structure j4 (R:Env) (L:Loc) (bx:List (List C)):Prop where
 len:L.β.length=bx.length
 nodup:L.β.Nodup
 box:∀ (i b:Nat) cs,L.β[i]?=some b->bx[i]?=some cs->∃ vs ty,R.w.heap[b]?=some (.cells vs ty (0,0))/\zx R L cs vs.toList/\(∀ v∈vs.toList,v.oneCell'=true)/\∀ o,R.M b o
abbrev zq:=Nat->Option (List C)
def Qb (G:zq) (R:Env):Prop:=∀ g cs,G g=some cs->zP R cs g 0/\(∃ vs ty fl,R.w.heap[g]?=some (.cells vs ty fl)/\vs.size=cs.length)/\∀ o,¬R.M g o
structure Fit (G:zq) (B:Nat->Prop) (bx:List (List C)) (R:Env) (L:Loc):Prop where
 glob:Qb G R
 boxes:j4 R L bx
 owns:ZZ B R L
 base:∀ g,R.w.heap.size<=g->B g
structure qK (nx nx':Nat) (R:Env) (L:Loc) (R':Env) (L':Loc):Prop where
 below:Below R.w.heap.size R.w R'.w
 fgn:R'.F=R.F
 box:L'.β=L.β
 mt:∀ b o,b<R.w.heap.size->(R'.M b o↔R.M b o)
 old:∀ id,id<nx∨nx'<=id->L'.T id=L.T id
 new:∀ id e k v,nx<=id->id<nx'->L'.T id=some (e,k,v)->Qr (fun g=>R.w.heap.size<=g) R' L.β e k v
 apart:∀ id id' e k v e' k' v' b,nx<=id->id<nx'->nx<=id'->id'<nx'->L'.T id=some (e,k,v)->L'.T id'=some (e',k',v')->v.ownB=some b->v'.ownB=some b->id=id'
theorem vu (h:w.cell? ⟨b,o,none⟩=some v):b<w.heap.size:=block_lt_of_cell h
theorem Ext.of_below (hb:Below R.w.heap.size R.w R'.w) (hm:∀ b o,b<R.w.heap.size->(R'.M b o↔R.M b o)):Ext R R':=
 ⟨fun b o v hc h=>⟨by rw[hb.cell (p:=⟨b,o,none⟩) (vu hc)];exact hc,fun h'=>h ((hm b o (vu hc)).1 h')⟩,fun b cs ty fl hc h=>⟨by rw[hb.block b (Ao.1 hc).1];exact hc,fun o h'=>h o ((hm b o (Ao.1 hc).1).1 h')⟩⟩
theorem qK.ext (h:qK nx nx' R L R' L'):Ext R R':=Ext.of_below h.below h.mt
theorem qK.le (h:qK nx nx' R L R' L') (hL:zoB L nx nx'):zR L L':=
 ⟨fun i b e=>by rw[h.box];exact e,fun id x e=>by
  rw[h.old id (by
   rcases Wp id nx with hi | hi
   ·exact .inl hi
   ·rcases Wp id nx' with hj | hj
    ·rw[hL id hi hj]at e;cases e
    ·exact .inr hj)]
  exact e⟩
theorem qK.refl (nx:Nat) (R:Env) (L:Loc):qK nx nx R L R L:=
 ⟨Ob _ _,rfl,rfl,fun _ _ _=>Iff.rfl,fun _ _=>rfl,fun id e k v h h'=>by omega,fun id id' e k v e' k' v' b h h'=>by omega⟩
theorem qg {o:Obj} (h:w.heap[b]?=some o):b<w.heap.size:=(Ao.1 h).1
theorem Qr.step {B:Nat->Prop} {nx nx':Nat} {R R':Env} {L L':Loc} (h:qK nx nx' R L R' L') {e:TypeId} {k:Nat} {v:Value} (ho:Qr B R L.β e k v):Qr B R' L'.β e k v:=by
 rcases ho with ho | ⟨g,n,cap,cur,_,e1,e2,e3,e4,e5,e6,e7,e8⟩ | ⟨g,es,kvs,vvs,e1,e2,e3,e4,e5⟩
 ·exact .inl ho
 ·exact .inr (.inl ⟨g,n,cap,cur,_,e1,e2,by rw[h.below.block g (qg e3)];exact e3,e4,e5,e6,by rw[h.box];exact e7,fun o ho=>(h.mt g o (qg e3)).2 (e8 o ho)⟩)
 ·exact .inr (.inr ⟨g,es,kvs,vvs,e1,e2,by rw[h.below.block g (qg e3)];exact e3,by rw[h.box];exact e4,e5⟩)
theorem Qr.move {B':Nat->Prop} {β':List Nat} (ho:Qr B R β e k v)
  (h:∀ g,v.ownB=some g->B g->g<R.w.heap.size->g∉β->B' g/\R'.w.heap[g]?=R.w.heap[g]?/\g∉β'/\∀ o,R.M g o->R'.M g o):Qr B' R' β' e k v:=by
 rcases ho with ho | ⟨g,n,cap,cur,_,e1,e2,e3,e4,e5,e6,e7,e8⟩ | ⟨g,es,kvs,vvs,e1,e2,e3,e4,e5⟩
 ·exact .inl ho
 ·obtain ⟨h1,h2,h3,h4⟩:=h g (by rw[e1];rfl) e2 (qg e3) e7;exact .inr (.inl ⟨g,n,cap,cur,_,e1,h1,h2.trans e3,e4,e5,e6,h3,fun o ho=>h4 o (e8 o ho)⟩)
 ·obtain ⟨h1,h2,h3,_⟩:=h g (by rw[e1];rfl) e2 (qg e3) e4;exact .inr (.inr ⟨g,es,kvs,vvs,e1,h1,h2.trans e3,h3,e5⟩)
theorem Qr.held (ho:Qr B R β e k v) {b:Nat} (hb:v.ownB=some b):(∃ cs t f,R.w.heap[b]?=some (.cells cs t f))∨∃ es cl,R.w.heap[b]?=some (.map es cl):=by
 rcases ho with ho | ⟨g,n,cap,cur,_,e1,e2,e3,_⟩ | ⟨g,es,kvs,vvs,e1,e2,e3,_⟩
 ·subst ho;cases hb
 ·subst e1;cases hb;exact .inl ⟨_,_,_,e3⟩
 ·subst e1;cases hb;exact .inr ⟨_,_,e3⟩
theorem Qr.block (ho:Qr B R β e k v) {b:Nat} (hb:v.ownB=some b):B b/\b<R.w.heap.size/\b∉β:=by
 rcases ho with ho | ⟨g,n,cap,cur,_,e1,e2,e3,e4,e5,e6,e7,e8⟩ | ⟨g,es,kvs,vvs,e1,e2,e3,e4,e5⟩
 ·subst ho;cases hb
 ·subst e1;cases hb;exact ⟨e2,qg e3,e7⟩
 ·subst e1;cases hb;exact ⟨e2,qg e3,e4⟩
theorem Qr.base {B':Nat->Prop} (ho:Qr B R β e k v) (hB:∀ g,B g->B' g):Qr B' R β e k v:=by
 rcases ho with ho | ⟨g,n,cap,cur,_,e1,e2,e3⟩ | ⟨g,es,kvs,vvs,e1,e2,e3⟩
 ·exact .inl ho
 ·exact .inr (.inl ⟨g,n,cap,cur,_,e1,hB _ e2,e3⟩)
 ·exact .inr (.inr ⟨g,es,kvs,vvs,e1,hB _ e2,e3⟩)
theorem j4.step {bx:List (List C)} {nx nx':Nat} {R R':Env} {L L':Loc} (h:qK nx nx' R L R' L') (hL:zoB L nx nx') (hb:j4 R L bx):j4 R' L' bx:=by
 refine ⟨by rw[h.box];exact hb.len,by rw[h.box];exact hb.nodup,fun i b cs hi hc=>?_⟩;rw[h.box]at hi;obtain ⟨vs,ty,e1,e2,e3,e4⟩:=hb.box i b cs hi hc;exact ⟨vs,ty,by rw[h.below.block b (qg e1)];exact e1,zx.ext h.ext (h.le hL) _ _ e2,e3,fun o=>(h.mt b o (qg e1)).2 (e4 o)⟩
theorem Qb.ext {G:zq} (h:Ext R R') (hg:Qb G R):Qb G R':=fun g cs e=>by
 obtain ⟨h1,⟨vs,ty,fl,h2,h3⟩,h4⟩:=hg g cs e;obtain ⟨h5,h6⟩:=h.whole g vs ty fl h2 h4;exact ⟨zP.ext h cs g 0 h1,⟨vs,ty,fl,h5,h3⟩,h6⟩
theorem qK.cases (h:qK nx nx' R L R' L') {id:Nat} {x} (e:L'.T id=some x):L.T id=some x∨(nx<=id/\id<nx'):=by
 rcases Wp id nx with hi | hi
 ·rw[h.old id (.inl hi)]at e;exact .inl e
 ·rcases Wp id nx' with hj | hj
  ·exact .inr ⟨hi,hj⟩
  ·rw[h.old id (.inr hj)]at e;exact .inl e
theorem Fit.step {G:zq} {B:Nat->Prop} {nx nx':Nat} {bx:List (List C)} {R R':Env} {L L':Loc} (hL:zoB L nx nx') (h:qK nx nx' R L R' L') (hf:Fit G B bx R L):Fit G B bx R' L':=by
 have hnew:∀ id e k v b,nx<=id->id<nx'->L'.T id=some (e,k,v)->v.ownB=some b->R.w.heap.size<=b:=fun id e k v b hi hj ht hb=>((h.new id e k v hi hj ht).block hb).1;have hold:∀ id e k v b,L.T id=some (e,k,v)->v.ownB=some b->b<R.w.heap.size:=fun id e k v b ht hb=>((hf.owns.own id e k v ht).block hb).2.1;refine ⟨hf.glob.ext h.ext,hf.boxes.step h hL,⟨fun id e k v ht=>?_,fun id id' e k v e' k' v' b h1 h2 h3 h4=>?_⟩,fun g hg=>hf.base g (WN h.below.size hg)⟩
 ·rcases h.cases ht with hi | ⟨hi,hj⟩
  ·exact (hf.owns.own id e k v hi).step h
  ·rw[h.box];exact (h.new id e k v hi hj ht).base hf.base
 ·rcases h.cases h1 with hi | ⟨hi,hj⟩<;>rcases h.cases h2 with hi' | ⟨hi',hj'⟩
  ·exact hf.owns.apart id id' e k v e' k' v' b hi hi' h3 h4
  ·have:=hnew id' e' k' v' b hi' hj' h2 h4;have:=hold id e k v b hi h3;omega
  ·have:=hnew id e k v b hi hj h1 h3;have:=hold id' e' k' v' b hi' h4;omega
  ·exact h.apart id id' e k v e' k' v' b hi hj hi' hj' h1 h2 h3 h4
theorem qK.trans {a c:Nat} {R1 R2:Env} {L1 L2:Loc} (hab:a<=b) (hbc:b<=c) (h:qK a b R L R1 L1) (k:qK b c R1 L1 R2 L2):qK a c R L R2 L2:=by
 have hsz:=h.below.size;refine ⟨h.below.trans (k.below.mono hsz),k.fgn.trans h.fgn,k.box.trans h.box,fun x o hx=>(k.mt x o (by omega)).trans (h.mt x o hx),fun id hi=>(k.old id (by omega)).trans (h.old id (by omega)),fun id e s v hi hj ht=>?_,fun id id' e s v e' s' v' q hi hi2 hj hj2 h1 h2 h3 h4=>?_⟩
 ·rcases Wp id b with hj' | hj'
  ·rw[k.old id (.inl hj')]at ht;have:=h.new id e s v hi hj' ht;have:=Qr.step k (L:=L1) (by rw[h.box];exact this);rw[k.box,h.box]at this;exact this
  ·have:=k.new id e s v hj' hj ht;rw[h.box]at this;exact this.base fun g hg=>WN hsz hg
 ·have key:∀ id e s v q,a<=id->id<c->L2.T id=some (e,s,v)->v.ownB=some q->(id<b/\L1.T id=some (e,s,v)/\q<R1.w.heap.size)∨(b<=id/\R1.w.heap.size<=q):=fun id e s v q hi hj ht hq=>by
   rcases Wp id b with hj' | hj'
   ·rw[k.old id (.inl hj')]at ht;exact .inl ⟨hj',ht,((h.new id e s v hi hj' ht).block hq).2.1⟩
   ·exact .inr ⟨hj',((k.new id e s v hj' hj ht).block hq).1⟩
  rcases key id e s v q hi hi2 h1 h3 with ⟨x1,x2,x3⟩ | ⟨x1,x2⟩<;>rcases key id' e' s' v' q hj hj2 h2 h4 with ⟨y1,y2,y3⟩ | ⟨y1,y2⟩
  ·exact h.apart id id' e s v e' s' v' q hi x1 hj y1 x2 y2 h3 h4
  ·omega
  ·omega
  ·exact k.apart id id' e s v e' s' v' q x1 hi2 y1 hj2 h1 h2 h3 h4
def jv (P:Program) (o:Oper) (ρ:Operand->Value) (w:World) (post:Value->World->Prop):Prop:=
 match (execOp ρ o).run P w with
 | .ok (.value v) w'=>post v w'
 | .ok .skip w'=>post undef w'
 | .ok (.enter f args) w'=>Calls P f args w' fun e w''=>∃ v,e = .returned v/\post v w''
 | .ok (.round l f tmps assign body) w'=>RoundIn Fence.wide 0 P l f tmps assign body w' fun e w''=>∃ v,e = .returned v/\post v w''
 | _=>False
theorem jv.mono {o:Oper} {p q:Value->World->Prop} (h:jv P o ρ w p) (hpq:∀ v w',p v w'->q v w'):jv P o ρ w q:=by
 unfold jv at h ⊢;split at h
 ·exact hpq _ _ h
 ·exact hpq _ _ h
 ·exact h.mono fun e w' ⟨v,e1,e2⟩=>⟨v,e1,hpq _ _ e2⟩
 ·exact h.mono fun e w' ⟨v,e1,e2⟩=>⟨v,e1,hpq _ _ e2⟩
 ·exact h.elim
theorem jv.value {o:Oper} {p:Value->World->Prop} (h:(execOp ρ o).run P w = .ok (.value v) w') (hp:p v w'):jv P o ρ w p:=by
 unfold jv;rw[h];exact hp
def zG (P:Program) (G:zq) (bx:List (List C)) (ev:Operand->C) (nx:Nat) (o:Oper) (c:C) (nx':Nat):Prop:=
 nx<=nx'/\∀ (B:Nat->Prop) (R:Env) (L:Loc) (ρ:Operand->Value),Fit G B bx R L->zoB L nx nx'->(∀ x,Rep R L (ev x) (ρ x)) ->
  jv P o ρ R.w fun v w'=>∃ R' L',R'.w=w'/\qK nx nx' R L R' L'/\Rep R' L' c v
theorem zG.of_same {G:zq} {bx:List (List C)} {ev:Operand->C} {o:Oper}
  (h:∀ (B:Nat->Prop) (R:Env) (L:Loc) (ρ:Operand->Value),Fit G B bx R L->(∀ x,Rep R L (ev x) (ρ x))->∃ v,(execOp ρ o).run P R.w = .ok (.value v) R.w/\Rep R L c v):zG P G bx ev nx o c nx:=
 ⟨Wb _,fun B R L ρ hf _ hr=>by
  obtain ⟨v,h1,h2⟩:=h B R L ρ hf hr;exact jv.value h1 ⟨R,L,rfl,qK.refl _ _ _,h2⟩⟩
end
section
open Go.RowKit
section
variable {P:Program} {G:zq} {bx:List (List C)} {ev:Operand->C} {nx:Nat} {o:Oper}
def ABr (c:C) (X Y:Prop):Prop:=match c with | .sc (.bool b)=>(b=true->X)/\(b=false->Y) | _=>False
def zhK (c:C) (U X Y:Prop):Prop:=match c with | .sc (.bool b)=>(b=true->X)/\(b=false->Y) | .sc (.tuple _)=>U | _=>False
theorem zhK.out {U:Prop} (h:zhK c U X Y):(∃ b,c = .sc (.bool b)/\(b=true->X)/\(b=false->Y))∨((∃ vs,c = .sc (.tuple vs))/\U):=by
 unfold zhK at h;split at h
 ·exact .inl ⟨_,rfl,h⟩
 ·exact .inr ⟨⟨_,rfl⟩,h⟩
 ·exact h.elim
theorem zkE:ABr (.sc (.bool true)) X Y=X:=by simp[ABr]
theorem zg7:ABr (.sc (.bool false)) X Y=Y:=by simp[ABr]
theorem ABr.mk {b:Bool} (hx:b=true->X) (hy:b=false->Y):ABr (.sc (.bool b)) X Y:=⟨hx,hy⟩
theorem ABr.congr {c':C} (h:c=c'):ABr c X Y=ABr c' X Y:=by rw[h]
theorem ABr.out (h:ABr c X Y):∃ b,c = .sc (.bool b)/\(b=true->X)/\(b=false->Y):=by
 unfold ABr at h;split at h
 ·exact ⟨_,rfl,h⟩
 ·exact h.elim
theorem zp {u:Value}:Rep R L (.sc u) v↔v=u:=by
 constructor<;>intro h
 ·unfold Rep at h;exact h
 ·unfold Rep;exact h
theorem qc {l:Lz}:Rep R L (.str l) v↔v = .string ⟨l.toArray⟩:=by
 constructor<;>intro h
 ·unfold Rep at h;exact h
 ·unfold Rep;exact h
theorem Jd {cs:List C}:Rep R L (.agg cs) v↔∃ vs,v = .agg vs/\zx R L cs vs.toList:=by
 constructor<;>intro h
 ·unfold Rep at h;exact h
 ·unfold Rep;exact h
theorem VL {cs:List C}:Rep R L (.tup cs) v↔∃ vs,v = .tuple vs/\zx R L cs vs.toList:=by
 constructor<;>intro h
 ·unfold Rep at h;exact h
 ·unfold Rep;exact h
theorem Gd {rows:List (List C)}:Rep R L (.sl k rows) v↔∃ a cap,v = .slice a rows.length cap/\rows.length<=cap/\cap<=maxLen/\(rows = []∨∃ b o,a=some ⟨b,o,none⟩/\zW R rows k b o):=by
 constructor<;>intro h
 ·unfold Rep at h;exact h
 ·unfold Rep;exact h
theorem Jy {rows:List (List C)}:Rep R L (.tight k rows) v↔∃ a,v = .slice a rows.length rows.length/\rows.length<=maxLen/\(rows = []∨∃ b o,a=some ⟨b,o,none⟩/\zW R rows k b o):=by
 constructor<;>intro h
 ·unfold Rep at h;exact h
 ·unfold Rep;exact h
theorem Xf {id e:Nat} {rows:List (List C)}:Rep R L (.own id e k rows) v↔L.T id=some (e,k,v)/\∃ a cap,v = .slice a rows.length cap/\rows.length<=cap/\cap<=maxLen/\(rows = []∨∃ b o,a=some ⟨b,o,none⟩/\zW R rows k b o):=by
 constructor<;>intro h
 ·unfold Rep at h;exact h
 ·unfold Rep;exact h
theorem JD {off:Nat}:Rep R L (.ptr i off) v↔∃ b,L.β[i]?=some b/\v = .pointer (some ⟨b,off,none⟩):=by
 constructor<;>intro h
 ·unfold Rep at h;exact h
 ·unfold Rep;exact h
theorem jy {off c:Nat}:Rep R L (.bs i off k n c) v↔∃ b,L.β[i]?=some b/\∃ ad,v = .slice (some ad) n c/\(n+c≠0->ad=⟨b,off,none⟩):=by
 constructor<;>intro h
 ·unfold Rep at h;exact h
 ·unfold Rep;exact h
theorem Jz {cs:List C}:Rep R L (.row cs) v↔∃ b o,v = .pointer (some ⟨b,o,none⟩)/\zP R cs b o:=by
 constructor<;>intro h
 ·unfold Rep at h;exact h
 ·unfold Rep;exact h
theorem YI {fn:Fn} {first cap:List C}:Rep R L (.clo fn first cap) v↔∃ fs cs,v = .func fn fs cs/\zx R L first fs.toList/\zx R L cap cs.toList:=by
 constructor<;>intro h
 ·unfold Rep at h;exact h
 ·unfold Rep;exact h
theorem zdS (ho:o.op = .move x):zG P G bx ev nx o (ev x) nx:=
 .of_same fun B R L ρ hf hr=>⟨_,by unfold execOp;simp[ho],hr x⟩
theorem vY (ho:o.op = .assign x):zG P G bx ev nx o (ev x) nx:=
 .of_same fun B R L ρ hf hr=>⟨_,by unfold execOp;simp[ho],hr x⟩
theorem zga {c a b:Operand} {t:Bool} (ho:o.op = .pick c a b) (hc:ev c = .sc (.bool t)):zG P G bx ev nx o (if t then ev a else ev b) nx:=
 .of_same fun B R L ρ hf hr=>⟨if t then ρ a else ρ b,by
  have h:=hr c;rw[hc,zp]at h;unfold execOp;cases t<;>simp[ho,h,asBool],by cases t<;>simp[hr a,hr b]⟩
def YK (L:Lay) (cs:List C) (K:C->Prop):Prop:=
 if L.kind.agg then L.size<=cs.length/\K (.agg (cs.take L.size)) else match cs with | c :: _=>K c | []=>False
def v6 (P:Program) (t:TypeId) (c:C) (bx:List (List C)) (K:C->Prop):Prop:=
 match lay P t with
 | none=>False
 | some L=>match c with
  | .ptr i off=>match bx[i]? with
   | some cs=>YK L (cs.drop off) K
   | none=>False
  | .row cs=>YK L cs K
  | _=>False
theorem Addr.add_none (b o j:Nat):(⟨b,o,none⟩:Addr).add j=⟨b,o+j,none⟩:=by unfold Addr.add;split<;>simp_all
theorem Za {L:Lay} (hl:lay P t=some L) (w:World) (b off:Nat) (cs:List C) {R:Env} {Lc:Loc} {vs:List Value} (hlen:cs.length<=vs.length)
  (hv:∀ (j:Nat) v,vs[j]?=some v->w.cell? ⟨b,off+j,none⟩=some v) (hrep:∀ (j:Nat) c v,cs[j]?=some c->vs[j]?=some v->Rep R Lc c v) (K:C->Prop) (hK:YK L cs K) :
  ∃ v c,(Instr.loadAt t (.pointer (some ⟨b,off,none⟩))).run P w = .ok v w/\Rep R Lc c v/\K c:=by
 unfold YK at hK;cases ha:L.kind.agg with
 | true =>
  rw[ha]at hK;simp only[if_true]at hK;obtain ⟨hs,hK⟩:=hK;refine ⟨.agg (vs.take L.size).toArray,_,?_,Jd.2 ⟨_,rfl,?_⟩,hK⟩
  ·obtain ⟨i,d,h1,h2,h3,h4,_⟩:=qk hl;refine run_loadAt_mid w b off t (vs.take L.size) d (fun j v hj=>?_) h2 ?_ ?_
   ·rw[WF]at hj;split at hj
    ·exact hv j v hj
    ·cases hj
   ·rw[h3]at ha;cases d<;>simp only[Xl,LK.agg]at ha<;>first | (cases ha;done) | rfl
   ·rw[zk8 hl,W2];congr 1;omega
  ·refine YL (by simp;omega) fun i c v hc hv'=>?_;simp only[WF]at hc hv';split at hc
   ·rw[if_pos (by assumption)]at hv';exact hrep i c v hc hv'
   ·cases hc
 | false =>
  rw[ha]at hK;simp only[Oa,Ol]at hK;cases cs with
  | nil=>exact hK.elim
  | cons c r =>
   cases vs with
   | nil=>simp at hlen
   | cons v us =>
    refine ⟨v,c,?_,hrep 0 c v rfl rfl,hK⟩;have hc:=hv 0 v rfl;have hag:=znR hl w;rw[ha]at hag;simp only[Instr.loadAt,Instr.sureAddr,Wm,WA,Wh,loadVar,hag];rw[O8]at hc;simp[load,Sem.run,hc]
theorem zeV {c0:C} (K:C->Prop) (h:v6 P t c0 bx K) :
  ∃ c,(∀ (R:Env) (Lc:Loc) (v0:Value),j4 R Lc bx->Rep R Lc c0 v0->∃ v ad,v0 = .pointer (some ad)/\(Instr.loadAt t v0).run P R.w = .ok v R.w/\Rep R Lc c v)/\K c:=by
 unfold v6 at h;cases hl:lay P t with
 | none=>simp[hl]at h
 | some L =>
  simp only[hl]at h;have hcase:∃ cs:List C,YK L cs K/\((∃ i off Gn,c0 = .ptr i off/\bx[i]?=some Gn/\cs=Gn.drop off)∨c0 = .row cs):=by
   split at h
   ·rename_i i off;split at h
    ·rename_i Gn hfull;exact ⟨_,h,.inl ⟨i,off,Gn,rfl,hfull,rfl⟩⟩
    ·exact h.elim
   ·rename_i cs;exact ⟨cs,h,.inr rfl⟩
   ·exact h.elim
  obtain ⟨cs,hK,hcs⟩:=hcase;have htake:∃ c,K c/\YK L cs (fun x=>x=c):=by
   unfold YK at hK ⊢;split
   ·rename_i hg;rw[if_pos hg]at hK;exact ⟨_,hK.2,hK.1,rfl⟩
   ·rename_i hg;rw[if_neg hg]at hK;cases cs with
    | nil=>exact hK.elim
    | cons c r=>exact ⟨c,hK,rfl⟩
  obtain ⟨c,hKc,htk⟩:=htake;refine ⟨c,fun R Lc v0 hbx hra=>?_,hKc⟩;rcases hcs with ⟨i,off,Gn,rfl,hfull,rfl⟩ | rfl
  ·rw[JD]at hra;obtain ⟨b,hb,hv⟩:=hra;obtain ⟨vs,ty,hh,hL,h1,_⟩:=hbx.box i b Gn hb hfull;obtain ⟨v,c',hrun,hrep,rfl⟩:=Za hl R.w b off (Gn.drop off) (R:=R) (Lc:=Lc) (vs:=vs.toList.drop off) (by
     have:=zy hL;simp at this ⊢;omega)
    (fun j v hj=>by
     rw[W3]at hj;rw[Ac R.w b (off+j) vs ty _ hh];simpa using hj)
    (fun j c v hc hv=>by
     rw[W3]at hc hv;obtain ⟨v',e1,e2⟩:=JF hL _ _ hc;rw[hv]at e1;cases e1;exact e2) _ htk
   exact ⟨v,_,hv,by rw[hv];exact hrun,hrep⟩
  ·rw[Jz]at hra;obtain ⟨b,off,hv,hcells⟩:=hra;have hvs:∃ vs:List Value,vs.length=cs.length/\(∀ (j:Nat) v,vs[j]?=some v->R.w.cell? ⟨b,off+j,none⟩=some v)/\∀ (j:Nat) c v,cs[j]?=some c->vs[j]?=some v->Rep R Lc c v:=by
    clear htk hv hK h
    induction cs generalizing off with
    | nil=>exact ⟨[],rfl,fun j v h=>by simp at h,fun j c v h=>by simp at h⟩
    | cons x r ih =>
     obtain ⟨⟨v0,e1,e2,e3,e4⟩,h2⟩:=qq.1 hcells;obtain ⟨us,g1,g2,g3⟩:=ih (off+1) h2;refine ⟨v0 :: us,by simp[g1],fun j v hj=>?_,fun j c v hc hv=>?_⟩
     ·cases j with
      | zero=>simp at hj;subst hj;exact e1
      | succ j =>
       have:=g2 j v (by simpa using hj);rwa [show off+(j+1)=off+1+j by omega]
     ·cases j with
      | zero=>simp at hc hv;subst hc hv;exact Rep.ext (Ext.refl R) (zR.none Lc) _ _ e3
      | succ j=>exact g3 j c v (by simpa using hc) (by simpa using hv)
   obtain ⟨vs,g1,g2,g3⟩:=hvs;obtain ⟨v,c',hrun,hrep,rfl⟩:=Za hl R.w b off cs (R:=R) (Lc:=Lc) (vs:=vs) (by omega) g2 g3 _ htk;exact ⟨v,_,hv,by rw[hv];exact hrun,hrep⟩
theorem zea {a:Operand} (ho:o.op = .load t a) (K:C->Prop) (h:v6 P t (ev a) bx K):∃ c,zG P G bx ev nx o c nx/\K c:=by
 obtain ⟨c,h1,h2⟩:=zeV K h;refine ⟨c,.of_same fun B R Lc ρ hf hr=>?_,h2⟩;obtain ⟨v,ad,_,e2,e3⟩:=h1 R Lc (ρ a) hf.boxes (hr a);refine ⟨v,?_,e3⟩;unfold execOp;simp only[ho];rw[Wm,e2];rfl
end
end
section
open Go.RowKit
section
variable {P:Program} {G:zq} {bx:List (List C)} {ev:Operand->C} {nx:Nat} {o:Oper}
def zrG (op:BinOp) (k:IntKind) (a b:Int) (K:C->Prop):Prop:=
 match op with
 | .add=>inR k (a+b)/\K (.sc (.int k (a+b)))
 | .sub=>inR k (a-b)/\K (.sc (.int k (a-b)))
 | .mul=>inR k (a*b)/\K (.sc (.int k (a*b)))
 | .quo=>0<=a/\0<b/\inR k a/\K (.sc (.int k (a / b)))
 | .rem=>0<=a/\0<b/\K (.sc (.int k (a % b)))
 | .shr=>b=1/\K (.sc (.int k (a / 2)))
 | .eql=>K (.sc (.bool (decide (a=b))))
 | .neq=>K (.sc (.bool (!decide (a=b))))
 | .lss=>K (.sc (.bool (decide (a<b))))
 | .leq=>K (.sc (.bool (decide (a<=b))))
 | .gtr=>K (.sc (.bool (decide (b<a))))
 | .geq=>K (.sc (.bool (decide (b<=a))))
 | _=>False
def zr7 (op:BinOp) (a b:Lz) (K:C->Prop):Prop:=
 match op with
 | .add=>((a.length+b.length:Nat):Int)<=9223372036854775807/\K (.str (a++b))
 | .eql=>K (.sc (.bool (decide (a=b))))
 | .neq=>K (.sc (.bool (!decide (a=b))))
 | .lss=>K (.sc (.bool (Op.bytesLess a b)))
 | .geq=>K (.sc (.bool (!Op.bytesLess a b)))
 | .leq=>K (.sc (.bool (Op.bytesLess a b||decide (a=b))))
 | .gtr=>K (.sc (.bool (!(Op.bytesLess a b||decide (a=b)))))
 | _=>False
def zpH (op:BinOp) (a b:Bool) (K:C->Prop):Prop:=
 match op with
 | .eql=>K (.sc (.bool (a==b)))
 | .neq=>K (.sc (.bool (!(a==b))))
 | _=>False
def aEq (n:Bool):List LK->List C->List C->Bool->(C->Prop)->Prop
 | [],[],[],e,K=>K (.sc (.bool (if n then !e else e)))
 | .int k :: ks,.sc (.int k1 a) :: r,.sc (.int k2 b) :: s,e,K=>k1=k/\k2=k/\aEq n ks r s (e&&decide (a=b)) K
 | .bool :: ks,.sc (.bool a) :: r,.sc (.bool b) :: s,e,K=>aEq n ks r s (e&&(a==b)) K
 | .str :: ks,.str a :: r,.str b :: s,e,K=>aEq n ks r s (e&&decide (a=b)) K
 | _,_,_,_,_=>False
def zsN (op:BinOp) (ks:Option (List LK)) (aa0 bs:List C) (K:C->Prop):Prop:=
 match op,ks with
 | .eql,some ks=>aEq false ks aa0 bs true K
 | .neq,some ks=>aEq true ks aa0 bs true K
 | _,_=>False
def NO (op:BinOp) (b:Bool) (K:C->Prop):Prop:=
 match op with
 | .eql=>K (.sc (.bool b))
 | .neq=>K (.sc (.bool (!b)))
 | _=>False
def zmZ (l:Option Lay) (op:BinOp) (x:C) (K:C->Prop):Prop:=
 match l with
 | some ⟨.slice _,_,_,_⟩=>match x with
  | .sl _ rows=>rows≠[]/\NO op false K
  | .tight _ rows=>rows≠[]/\NO op false K
  | .own _ _ _ rows=>rows≠[]/\NO op false K
  | .bs _ _ _ _ _=>NO op false K
  | .sc (.slice a _ _)=>NO op a.isNone K
  | _=>False
 | _=>False
def zoL (P:Program) (t:TypeId) (op:BinOp) (x y:C) (K:C->Prop):Prop:=
 match x,y with
 | .sc (.int k a),.sc (.int k' b)=>k=k'/\zrG op k a b K
 | .str a,.str b=>zr7 op a b K
 | .sc (.bool a),.sc (.bool b)=>match lay P t with | some ⟨.bool,_,_,_⟩=>zpH op a b K | _=>False
 | .agg aa0,.agg bs=>zsN op (Uv P t) aa0 bs K
 | c,.sc (.slice none 0 0)=>zmZ (lay P t) op c K
 | _,_=>False
theorem zbu {P:Program} {j:Nat} {f:Field} {fs:List Field} {ks:List LK} (h:GV P j (f :: fs)=some ks) :
  f.name ≠ "_"/\f.offset=j/\∃ ks',GV P (j+1) fs=some ks'/\((P.underlying f.type=some .bool/\ks = .bool :: ks')∨(∃ k,P.underlying f.type=some (.int k)/\ks = .int k :: ks')∨(P.underlying f.type=some .string/\ks = .str :: ks')):=by
 unfold GV at h;split at h
 ·rename_i hc;simp only[Wo,bne_iff_ne,ne_eq,Oz]at hc;refine ⟨hc.1,hc.2,?_⟩;split at h
  ·rename_i hu;obtain ⟨ks',h1,rfl⟩:=Ap.1 h;exact ⟨ks',h1,.inl ⟨hu,rfl⟩⟩
  ·rename_i k hu;obtain ⟨ks',h1,rfl⟩:=Ap.1 h;exact ⟨ks',h1,.inr (.inl ⟨k,hu,rfl⟩)⟩
  ·rename_i hu;obtain ⟨ks',h1,rfl⟩:=Ap.1 h;exact ⟨ks',h1,.inr (.inr ⟨hu,rfl⟩)⟩
  ·cases h
 ·cases h
theorem ZC {P:Program} {d:TypeDesc} (hu:P.underlying t=some d) (hd:zfD P t=false) {xs:Array Value} {j:Nat} {v:Value} {r:List Value} (hx:xs.toList.drop j=v :: r):(part t xs j).run P w = .ok v w:=by
 have h1:xs[j]?=some v:=by
  have:(xs.toList.drop j)[0]?=some v:=by rw[hx];rfl
  simpa using this
 unfold part;rw[Wm,G9 hu,hd];simp[h1]
theorem MV {xs:Array Value} {j:Nat} {r:List Value} (hx:xs.toList.drop j=v :: r):xs.toList.drop (j+1)=r:=by
 rw[←Aq,hx];rfl
def eqR:List C->List C->Bool
 | .sc (.int _ a) :: r,.sc (.int _ b) :: s=>decide (a=b)&&eqR r s
 | .sc (.bool a) :: r,.sc (.bool b) :: s=>(a==b)&&eqR r s
 | .str a :: r,.str b :: s=>decide (a=b)&&eqR r s
 | _,_=>true
def zbD:List LK->List C->List C->Prop
 | [],[],[]=>True
 | .int k :: ks,.sc (.int k1 _) :: r,.sc (.int k2 _) :: s=>k1=k/\k2=k/\zbD ks r s
 | .bool :: ks,.sc (.bool _) :: r,.sc (.bool _) :: s=>zbD ks r s
 | .str :: ks,.str _ :: r,.str _ :: s=>zbD ks r s
 | _,_,_=>False
theorem zoe {n:Bool} {K:C->Prop} (ks:List LK) (aa0 bs:List C) (e:Bool) (h:aEq n ks aa0 bs e K):zbD ks aa0 bs/\K (.sc (.bool (if n then !(e&&eqR aa0 bs) else (e&&eqR aa0 bs)))):=by
 fun_induction aEq n ks aa0 bs e K with
 | case1 e K=>exact ⟨trivial,by simpa [eqR] using h⟩
 | case2 k ks k1 a r k2 b s e K ih =>
  obtain ⟨h1,h2,h3⟩:=h;obtain ⟨g1,g2⟩:=ih h3;exact ⟨⟨h1,h2,g1⟩,by simpa [eqR,Bool.and_assoc] using g2⟩
 | case3 ks a r b s e K ih =>
  obtain ⟨g1,g2⟩:=ih h;exact ⟨g1,by simpa [eqR,Bool.and_assoc] using g2⟩
 | case4 ks a r b s e K ih =>
  obtain ⟨g1,g2⟩:=ih h;exact ⟨g1,by simpa [eqR,Bool.and_assoc] using g2⟩
 | case5=>exact h.elim
theorem zeT {P:Program} {w:World} {xs ys:Array Value} {R1 R2:Env} {L1 L2:Loc}:∀ (fs:List Field) (j:Nat) (ks:List LK) (aa0 bs:List C),GV P j fs=some ks->zbD ks aa0 bs ->
  zx R1 L1 aa0 (xs.toList.drop j)->zx R2 L2 bs (ys.toList.drop j)->(Op.eqFields 9999 xs ys fs).run P w = .ok (eqR aa0 bs) w
 | [],j,ks,aa0,bs,hk,h,ha,hb=>by
  simp only[GV,Option.some.injEq]at hk;subst hk
  match aa0,bs,h with
  | [],[],_=>simp[Op.eqFields,eqR]
 | f :: fs,j,ks,aa0,bs,hk,h,ha,hb=>by
  obtain ⟨hn,ho,ks',hk',hc⟩:=zbu hk;have step:∀ (c c':C) (r s:List C) (v u:Value) (q:Bool),zx R1 L1 (c :: r) (xs.toList.drop j)->zx R2 L2 (c' :: s) (ys.toList.drop j)->(∀ v,Rep R1 L1 c v->∀ u,Rep R2 L2 c' u->(Op.equalIn 9999 f.type v u).run P w = .ok q w)->zfD P f.type=false->(∃ d,P.underlying f.type=some d) ->
    zbD ks' r s->eqR (c :: r) (c' :: s)=(q&&eqR r s)->(Op.eqFields 9999 xs ys (f :: fs)).run P w = .ok (eqR (c :: r) (c' :: s)) w:=by
   intro c c' r s v u q ea eb hq hag ⟨d,hd⟩ hfit he;obtain ⟨v,rest,e1,hv,hr⟩:=zg.1 ea;obtain ⟨u,rest',e2,hu,hs⟩:=zg.1 eb;have p1:=ZC (w:=w) hd hag (xs:=xs) (j:=f.offset) (by rw[ho];exact e1);have p2:=ZC (w:=w) hd hag (xs:=ys) (j:=f.offset) (by rw[ho];exact e2);have ih:=zeT (w:=w) fs (j+1) ks' r s hk' hfit (by rw[MV e1];exact hr) (by rw[MV e2];exact hs);simp only[Op.eqFields,hn,ne_eq,not_false_eq_true,if_true,Wm,p1,p2,hq v hv u hu,Wh,he];cases q
   ·simp
   ·simpa using ih
  rcases hc with ⟨hu,rfl⟩ | ⟨k,hu,rfl⟩ | ⟨hu,rfl⟩
  ·match aa0,bs,h,ha,hb with
   | .sc (.bool a) :: r,.sc (.bool b) :: s,h,ha,hb =>
    exact step _ _ r s undef undef (a==b) ha hb (fun v hv u hu'=>by
     rw[zp]at hv hu';subst hv hu';exact run_equalIn_bool' w 9998 f.type a b hu) (by unfold zfD;rw[hu]) ⟨_,hu⟩ h (by simp[eqR])
  ·match aa0,bs,h,ha,hb with
   | .sc (.int k1 a) :: r,.sc (.int k2 b) :: s,h,ha,hb =>
    have h1:=h.1;have h2:=h.2.1;subst h1 h2;exact step _ _ r s undef undef (decide (a=b)) ha hb (fun v hv u hu'=>by
     rw[zp]at hv hu';subst hv hu';rw[run_equalIn_int w 9998 f.type _ _ a b hu];rfl) (by unfold zfD;rw[hu]) ⟨_,hu⟩ h.2.2 (by simp[eqR])
  ·match aa0,bs,h,ha,hb with
   | .str a :: r,.str b :: s,h,ha,hb =>
    exact step _ _ r s undef undef (decide (a=b)) ha hb (fun v hv u hu'=>by
     rw[qc]at hv hu';subst hv hu';rw[run_equalIn_string w 9998 f.type _ _ hu,ByteArray.toList_mk,ByteArray.toList_mk];by_cases hab:a=b<;>simp[hab]) (by unfold zfD;rw[hu]) ⟨_,hu⟩ h (by simp[eqR])
theorem Ni (a b:Lz):(a==b)=decide (a=b):=by by_cases h:a=b<;>simp[h]
theorem zkV {op:BinOp} {t':TypeId} {y:Operand} (ho:o.op = .binOp op t x y t') (K:C->Prop) (h:zoL P t op (ev x) (ev y) K):∃ c,zG P G bx ev nx o c nx/\K c:=by
 unfold zoL at h;split at h
 ·rename_i k a k' b hx hy;obtain ⟨rfl,h⟩:=h;have key:∀ (v:Value),K (.sc v)->(∀ w:World,(do eqGuard op t x y (.int k a) (.int k b);binOp op t (.int k a) (.int k b):Sem Value).run P w = .ok v w)->∃ c,zG P G bx ev nx o c nx/\K c:=fun v hK hrun =>
   ⟨_,.of_same fun B R L ρ hf hr=>⟨v,by
    have h1:=hr x;rw[hx,zp]at h1;have h2:=hr y;rw[hy,zp]at h2;unfold execOp;simp only[ho,h1,h2];rw[Wm,hrun R.w];rfl,zp.2 rfl⟩,hK⟩
  unfold zrG at h;split at h
  ·exact key _ h.2 fun w=>by simp[eqGuard,binOp,Op.intArith,Q3 h.1]
  ·exact key _ h.2 fun w=>by simp[eqGuard,binOp,Op.intArith,Q3 h.1]
  ·exact key _ h.2 fun w=>by simp[eqGuard,binOp,Op.intArith,Q3 h.1]
  ·obtain ⟨h0,h1,h2,hK⟩:=h;have hq:inR k (a / b):=by
    unfold inR at h2 ⊢;have e1:a / b<=a:=Int.ediv_le_self b h0;have e2:0<=a / b:=Int.ediv_nonneg h0 (by omega);have e3:k.min<=0:=by cases k<;>simp[IntKind.min,IntKind.bits,IntKind.signed]
    omega
   exact key _ hK fun w=>by simp[eqGuard,binOp,Op.intDiv,show b≠0 by omega,Int.tdiv_eq_ediv_of_nonneg h0,Q3 hq]
  ·obtain ⟨h0,h1,hK⟩:=h;exact key _ hK fun w=>by simp[eqGuard,binOp,Op.intDiv,show b≠0 by omega,Int.tmod_eq_emod_of_nonneg h0]
  ·obtain ⟨rfl,hK⟩:=h;have hs:Op.shift .shr k a k 1=pure (.int k (a / 2)):=shift_shr k k a 1 (by decide) (by cases k<;>decide);exact key _ hK fun w=>by simp[eqGuard,binOp,hs]
  ·exact key _ h fun w=>by
    simp only[eqGuard,binOp,Op.intCmp];simp[show (a==b)=decide (a=b) from rfl]
  ·exact key _ h fun w=>by
    simp only[eqGuard,binOp,Op.intCmp];simp[bne,show (a==b)=decide (a=b) from rfl]
  ·exact key _ h fun w=>by simp[eqGuard,binOp,Op.intCmp]
  ·exact key _ h fun w=>by simp[eqGuard,binOp,Op.intCmp]
  ·exact key _ h fun w=>by simp[eqGuard,binOp,Op.intCmp]
  ·exact key _ h fun w=>by simp[eqGuard,binOp,Op.intCmp]
  ·exact h.elim
 ·rename_i a b hx hy;have key:∀ (c:C) (v:Value),K c->(∀ (R:Env) (L:Loc),Rep R L c v)->(∀ w:World,(do eqGuard op t x y (.string ⟨a.toArray⟩) (.string ⟨b.toArray⟩);binOp op t (.string ⟨a.toArray⟩) (.string ⟨b.toArray⟩):Sem Value).run P w = .ok v w)->∃ c,zG P G bx ev nx o c nx/\K c:=fun c v hK hv hrun =>
   ⟨_,.of_same fun B R L ρ hf hr=>⟨v,by
    have h1:=hr x;rw[hx,qc]at h1;have h2:=hr y;rw[hy,qc]at h2;unfold execOp;simp only[ho,h1,h2];rw[Wm,hrun R.w];rfl,hv R L⟩,hK⟩
  have sb:∀ t,∀ (R:Env) (L:Loc),Rep R L (.sc (.bool t)) (.bool t):=fun t R L=>zp.2 rfl;unfold zr7 at h;split at h
  ·refine key _ (.string (⟨a.toArray⟩++⟨b.toArray⟩)) h.2 (fun R L=>qc.2 (by rw[ByteArray.mk_append_mk])) fun w=>?_;have h1:=h.1;have hs:¬(((ByteArray.mk a.toArray).size+(ByteArray.mk b.toArray).size:Nat):Int)>IntKind.i64.max:=by
    rw[show IntKind.i64.max=9223372036854775807 from rfl];have e1:(ByteArray.mk a.toArray).size=a.length:=by simp[ByteArray.size]
    have e2:(ByteArray.mk b.toArray).size=b.length:=by simp[ByteArray.size]
    rw[e1,e2];omega
   simp only[eqGuard,binOp,Op.stringOp,if_neg hs];simp
  ·exact key _ _ h (sb _) fun w=>by simp[eqGuard,binOp,Op.stringOp,Ni]
  ·exact key _ _ h (sb _) fun w=>by simp[eqGuard,binOp,Op.stringOp,Ni]
  ·exact key _ _ h (sb _) fun w=>by simp[eqGuard,binOp,Op.stringOp]
  ·exact key _ _ h (sb _) fun w=>by simp[eqGuard,binOp,Op.stringOp]
  ·exact key _ _ h (sb _) fun w=>by simp[eqGuard,binOp,Op.stringOp,Ni]
  ·exact key _ _ h (sb _) fun w=>by simp[eqGuard,binOp,Op.stringOp,Ni]
  ·exact h.elim
 ·rename_i a b hx hy;split at h<;>try exact h.elim
  rename_i hlb;have hu:=zjI hlb rfl;have key:∀ (v:Value),K (.sc v)->(∀ w:World,(do eqGuard op t x y (.bool a) (.bool b);binOp op t (.bool a) (.bool b):Sem Value).run P w = .ok v w)->∃ c,zG P G bx ev nx o c nx/\K c:=fun v hK hrun =>
   ⟨_,.of_same fun B R L ρ hf hr=>⟨v,by
    have h1:=hr x;rw[hx,zp]at h1;have h2:=hr y;rw[hy,zp]at h2;unfold execOp;simp only[ho,h1,h2];rw[Wm,hrun R.w];rfl,zp.2 rfl⟩,hK⟩
  have he:∀ w,(Op.equal t (.bool a) (.bool b)).run P w = .ok (a==b) w:=fun w=>by
   show (Op.equalIn (9999+1) t (.bool a) (.bool b)).run P w=_;rw[Op.equalIn,Wm,WD hu]
   rfl
  unfold zpH at h;split at h
  ·exact key _ h fun w=>by simp[eqGuard,binOp,he w]
  ·exact key _ h fun w=>by simp[eqGuard,binOp,he w]
  ·exact h.elim
 ·rename_i aa0 bs hx hy;have main:∀ (n:Bool) (ks:List LK),Uv P t=some ks->aEq n ks aa0 bs true K->op=(if n then .neq else .eql)->∃ c,zG P G bx ev nx o c nx/\K c:=fun n ks hk h hop=>by
   have hkl:=hk;unfold Uv at hk;split at hk
   ·rename_i fs hu;split at hk
    ·cases hk
    ·rename_i hno;simp only[Ot,not_or,Bool.not_eq_true]at hno;have hfo:P.fieldsOf t=fs:=by simp[Program.fieldsOf,hu]
     obtain ⟨hfit,hK⟩:=zoe ks aa0 bs true h;refine ⟨_,.of_same fun B R L ρ hf hr=>?_,hK⟩;have h1:=hr x;rw[hx,Jd]at h1;have h2:=hr y;rw[hy,Jd]at h2;obtain ⟨xs,e1,q1⟩:=h1;obtain ⟨ys,e2,q2⟩:=h2;refine ⟨.bool (if n then !(true&&eqR aa0 bs) else (true&&eqR aa0 bs)),?_,zp.2 rfl⟩;have he:(Op.equal t (.agg xs) (.agg ys)).run P R.w = .ok (eqR aa0 bs) R.w:=by
      show (Op.equalIn (9999+1) t (.agg xs) (.agg ys)).run P R.w=_;rw[run_equalIn_struct R.w 9999 t xs ys (by rw[hfo];exact hu) hno.1,hfo];exact zeT fs.toList 0 ks aa0 bs hk hfit q1 q2
     have hg:(eqGuard op t x y (.agg xs) (.agg ys)).run P R.w = .ok () R.w:=by
      unfold eqGuard;cases n<;>simp[hop,hno.2,run_program]
     unfold execOp;simp only[ho,e1,e2];rw[Wm,Wm,hg];cases n<;>simp[hop,binOp,he]
   ·cases hk
  unfold zsN at h;split at h
  ·rename_i ks hk;exact main false ks hk h rfl
  ·rename_i ks hk;exact main true ks hk h rfl
  ·exact h.elim
 ·rename_i hy;unfold zmZ at h;split at h
  ·rename_i el k b z hl;have ht:=qe hl rfl;have key:∀ (b:Bool),NO op b K->(∀ (B:Nat->Prop) (R:Env) (L:Loc) (v:Value),Fit G B bx R L->Rep R L (ev x) v->∃ a l c,v = .slice a l c/\a.isNone=b)->∃ c,zG P G bx ev nx o c nx/\K c:=fun b hK hv=>by
    have run:∀ (n:Bool),op=(if n then .neq else .eql)->∃ c,zG P G bx ev nx o c nx/\c = .sc (.bool (if n then !b else b)):=fun n hop =>
     ⟨_,.of_same fun B R L ρ hf hr=>⟨.bool (if n then !b else b),by
      have h1:=hr x;have h2:=hr y;rw[hy,zp]at h2;obtain ⟨a,l,c,e,he⟩:=hv B R L _ hf h1;unfold execOp;simp only[ho,e,h2];subst he;cases n<;>simp[hop,eqGuard,binOp,run_equal_slice_nil R.w t el a l c ht],zp.2 rfl⟩,rfl⟩
    unfold NO at hK;split at hK
    ·obtain ⟨c,h1,rfl⟩:=run false rfl;exact ⟨_,h1,hK⟩
    ·obtain ⟨c,h1,rfl⟩:=run true rfl;exact ⟨_,h1,hK⟩
    ·exact hK.elim
   have rows:∀ (k:Nat) (rs:List (List C)),(ev x).rows? k=some rs->rs≠[]->NO op false K->∃ c,zG P G bx ev nx o c nx/\K c:=fun k rs hr hne hK =>
    key false hK fun B R L v hf hv=>by
     obtain ⟨a,cap,e,h1,h2,h3⟩:=hv.rows hr;rcases h3 with h3 | ⟨b,o,e2,_⟩
     ·exact absurd h3 hne
     ·exact ⟨a,_,cap,e,by rw[e2];rfl⟩
   split at h
   ·rename_i k rs hx;exact rows k rs (by rw[hx];simp[C.rows?]) h.1 h.2
   ·rename_i k rs hx;exact rows k rs (by rw[hx];simp[C.rows?]) h.1 h.2
   ·rename_i k rs hx;exact rows k rs (by rw[hx];simp[C.rows?]) h.1 h.2
   ·rename_i hx;exact key false h fun B R L v hf hv=>by
     rw[hx]at hv;unfold Rep at hv;obtain ⟨b,_,ad,e,_⟩:=hv;exact ⟨_,_,_,e,rfl⟩
   ·rename_i hx;exact key _ h fun B R L v hf hv=>by
     rw[hx,zp]at hv;exact ⟨_,_,_,hv,rfl⟩
   ·exact h.elim
  ·exact h.elim
 ·exact h.elim
def aUn (op:UnOp) (x:C) (K:C->Prop):Prop:=
 match op,x with
 | .not,.sc (.bool b)=>K (.sc (.bool (!b)))
 | .neg,.sc (.int k n)=>inR k (0-n)/\K (.sc (.int k (0-n)))
 | _,_=>False
theorem zmB {op:UnOp} (ho:o.op = .unOp op t x) (K:C->Prop) (h:aUn op (ev x) K):∃ c,zG P G bx ev nx o c nx/\K c:=by
 unfold aUn at h;split at h
 ·rename_i b hx;exact ⟨_,.of_same fun B R L ρ hf hr=>⟨.bool (!b),by
   have h1:=hr x;rw[hx,zp]at h1;unfold execOp;simp[ho,h1,Op.unary],zp.2 rfl⟩,h⟩
 ·rename_i k n hx;exact ⟨_,.of_same fun B R L ρ hf hr=>⟨.int k (0-n),by
   have h1:=hr x;rw[hx,zp]at h1;have:=Q3 h.1;unfold execOp;simp only[ho,h1,Op.unary,Op.intArith,this,Wm,WA,Wh],zp.2 rfl⟩,h.2⟩
 ·exact h.elim
def UQ (c:C) (i:Nat) (K:C->Prop):Prop:=
 match c with
 | .tup cs=>match cs[i]? with
  | some c=>K c
  | none=>False
 | _=>False
theorem MO {t:Operand} (ho:o.op = .extract t i) (K:C->Prop) (h:UQ (ev t) i K):∃ c,zG P G bx ev nx o c nx/\K c:=by
 unfold UQ at h;split at h
 ·rename_i cs hev;split at h
  ·rename_i c hc;exact ⟨c,.of_same fun B R L ρ hf hr=>by
    have h1:=hr t;rw[hev,VL]at h1;obtain ⟨vs,e,hl⟩:=h1;obtain ⟨v,hv,hrep⟩:=JF hl i c hc;refine ⟨v,?_,hrep⟩;have hv':vs[i]?=some v:=by simpa using hv
    unfold execOp;simp[ho,e,Instr.extract,hv'],h⟩
  ·exact h.elim
 ·exact h.elim
theorem YY {R:Env} {L:Loc} {ρ:Operand->Value} (hr:∀ x,Rep R L (ev x) (ρ x)):∀ l:List Operand,zx R L (l.map ev) (l.map ρ)
 | []=>zm.2 rfl
 | x :: r=>zg.2 ⟨_,_,rfl,hr x,YY hr r⟩
theorem zfZ {fn:Fn} {first captured:Array Operand} (ho:o.op = .makeFunc fn first captured):zG P G bx ev nx o (.clo fn (first.toList.map ev) (captured.toList.map ev)) nx:=
 .of_same fun B R L ρ hf hr=>⟨.func fn (first.map ρ) (captured.map ρ),by
  unfold execOp;simp[ho,Instr.makeFunc],YI.2 ⟨_,_,rfl,by rw[O5];exact YY hr _,by rw[O5];exact YY hr _⟩⟩
def zrE (c:C) (K:C->Prop):Prop:=
 match c with
 | .ptr i off=>K (.ptr i off)
 | .row cs=>K (.row cs)
 | .clo (.func f) first cap=>K (.clo (.func f) first cap)
 | .sc (.func (.yield l) fs cs)=>K (.sc (.func (.yield l) fs cs))
 | _=>False
theorem ziZ (ho:o.op = .nilCheck x) (K:C->Prop) (h:zrE (ev x) K):∃ c,zG P G bx ev nx o c nx/\K c:=by
 unfold zrE at h;split at h
 ·rename_i i off hev;exact ⟨_,.of_same fun B R L ρ hf hr=>by
   have h1:=hr x;rw[hev]at h1;have h2:=JD.1 h1;obtain ⟨b,_,e⟩:=h2;exact ⟨ρ x,by unfold execOp;simp[ho,e],h1⟩,h⟩
 ·rename_i cs hev;exact ⟨_,.of_same fun B R L ρ hf hr=>by
   have h1:=hr x;rw[hev]at h1;have h2:=Jz.1 h1;obtain ⟨b,_,e,_⟩:=h2;exact ⟨ρ x,by unfold execOp;simp[ho,e],h1⟩,h⟩
 ·rename_i f first cap hev
  exact ⟨_,.of_same fun B R L ρ hf hr=>by
   have h1:=hr x;rw[hev]at h1;have h2:=YI.1 h1;obtain ⟨fs,cs,e,_⟩:=h2;exact ⟨ρ x,by unfold execOp;simp[ho,e],h1⟩,h⟩
 ·rename_i f fs cs hev;exact ⟨_,.of_same fun B R L ρ hf hr=>by
   have h1:=hr x;rw[hev]at h1;have h2:=zp.1 h1;exact ⟨ρ x,by unfold execOp;simp[ho,h2],h1⟩,h⟩
 ·exact h.elim
def zbd (P:Program) (t:TypeId) (c:C) (f:Nat) (K:C->Prop):Prop:=
 match lay P t with
 | some ⟨.struct fs,_,_,_⟩=>match fs[f]?,c with
  | some (off,size,agg),.agg cs =>
   if agg then off+size<=cs.length/\K (.agg ((cs.drop off).take size)) else match cs[off]? with
    | some c=>K c
    | none=>False
  | _,_=>False
 | _=>False
theorem NU {fields:Array Field} {fs:List (Nat×Nat×Bool)} (h:fs=fields.toList.map fun f=>(f.offset,((P.info? f.type).map (·.size)).getD 0,zfD P f.type)) {f:Nat} {off size:Nat} {agg:Bool} (hf:fs[f]?=some (off,size,agg)) :
  ∃ fd,fields[f]?=some fd/\fd.offset=off/\((P.info? fd.type).map (·.size)).getD 0=size/\zfD P fd.type=agg:=by
 subst h;rw[Wy]at hf;cases hq:fields.toList[f]? with
 | none=>rw[hq]at hf;cases hf
 | some fd =>
  rw[hq]at hf;cases hf;exact ⟨fd,by simpa using hq,rfl,rfl,rfl⟩
theorem Uq {size:Nat} (h:((P.info? t).map (·.size)).getD 0=size) (h0:size≠0):∃ i,P.info? t=some i/\i.size=size:=by
 cases hq:P.info? t with
 | none=>simp[hq]at h;omega
 | some i=>exact ⟨i,rfl,by simpa [hq] using h⟩
theorem zb7 {f:Nat} (ho:o.op = .field t x f) (K:C->Prop) (h:zbd P t (ev x) f K):∃ c,zG P G bx ev nx o c nx/\K c:=by
 unfold zbd at h;split at h
 ·rename_i fs s b z hl;obtain ⟨fields,hfu,hall,hfs⟩:=V0 hl rfl;split at h
  ·rename_i off size agg cs hfi hev;obtain ⟨fd,hfd,h1,h2,h3⟩:=NU hfs hfi;obtain ⟨d,hd⟩:=AF.mp (hall fd (OA.2 (OT hfd)));cases agg with
   | true =>
    simp only[if_true]at h;refine ⟨_,.of_same fun B R L ρ hf hr=>?_,h.2⟩;have hx:=hr x;rw[hev,Jd]at hx;obtain ⟨vs,e,hrl⟩:=hx;have hi:∃ i,P.info? fd.type=some i/\i.size=size:=by
     cases hq:P.info? fd.type with
     | none=>unfold Program.underlying at hd;simp[hq]at hd
     | some i=>exact ⟨i,rfl,by simpa [hq] using h2⟩
    obtain ⟨i,hi1,hi2⟩:=hi;refine ⟨.agg (vs.extract off (off+size)),?_,Jd.2 ⟨_,rfl,?_⟩⟩
    ·have hag:=G9 hd R.w;rw[h3]at hag;unfold execOp;simp[ho,e,Instr.field,WD hfu,hfd,part,asAgg,h1,hag,sizeOf,typeInfo,hi1,hi2]
    ·rw[Array.toList_extract];have:=qR size (jg off hrl);rw[List.extract_eq_take_drop,show off+size-off=size by omega];exact this
   | false =>
    simp only[Oa,Ol]at h;split at h
    ·rename_i c hc;refine ⟨c,.of_same fun B R L ρ hf hr=>?_,h⟩;have hx:=hr x;rw[hev,Jd]at hx;obtain ⟨vs,e,hrl⟩:=hx;obtain ⟨v,hv,hrep⟩:=JF hrl off c hc;have hv':vs[off]?=some v:=by simpa using hv
     have hag:=G9 hd R.w;rw[h3]at hag;refine ⟨v,?_,hrep⟩;unfold execOp;simp[ho,e,Instr.field,WD hfu,hfd,part,asAgg,h1,hag,hv']
    ·exact h.elim
  ·exact h.elim
 ·exact h.elim
end
end
section
open Go.RowKit
section
variable {P:Program} {G:zq} {bx:List (List C)} {ev:Operand->C} {nx:Nat} {o:Oper}
def QG (P:Program) (t:TypeId) (c:C) (f:Nat) (K:C->Prop):Prop:=
 match lay P t with
 | some ⟨.struct fs,_,_,_⟩=>match fs[f]?,c with
  | some (off,size,_),.ptr i o=>if size=0 then False else K (.ptr i (o+off))
  | some (off,size,_),.row cs=>if size=0 then False else K (.row (cs.drop off))
  | _,_=>False
 | _=>False
theorem HL {f:Nat} (ho:o.op = .fieldAddr t x f) (K:C->Prop) (h:QG P t (ev x) f K):∃ c,zG P G bx ev nx o c nx/\K c:=by
 unfold QG at h;split at h
 ·rename_i fs s b z hl;obtain ⟨fields,hfu,hall,hfs⟩:=V0 hl rfl;split at h
  ·rename_i off size agg i o' hfi hev;obtain ⟨fd,hfd,h1,h2,h3⟩:=NU hfs hfi;split at h
   ·exact h.elim
   ·rename_i h0;obtain ⟨i',hi1,hi2⟩:=Uq h2 h0;refine ⟨_,.of_same fun B R L ρ hf hr=>?_,h⟩;have hx:=hr x;rw[hev,JD]at hx;obtain ⟨bb,hb,e⟩:=hx;refine ⟨.pointer (some ⟨bb,o'+off,none⟩),?_,JD.2 ⟨bb,hb,rfl⟩⟩;unfold execOp;simp[ho,e,Instr.fieldAt,WD hfu,hfd,Instr.sureAddr,fieldPlace,sizeOf,typeInfo,hi1,hi2,h0,h1,Addr.add_none]
  ·rename_i off size agg cs hfi hev;obtain ⟨fd,hfd,h1,h2,h3⟩:=NU hfs hfi;split at h
   ·exact h.elim
   ·rename_i h0;obtain ⟨i',hi1,hi2⟩:=Uq h2 h0;refine ⟨_,.of_same fun B R L ρ hf hr=>?_,h⟩;have hx:=hr x;rw[hev,Jz]at hx;obtain ⟨bb,o',e,hc⟩:=hx;refine ⟨.pointer (some ⟨bb,o'+off,none⟩),?_,Jz.2 ⟨bb,_,rfl,XV off hc⟩⟩;unfold execOp;simp[ho,e,Instr.fieldAt,WD hfu,hfd,Instr.sureAddr,fieldPlace,sizeOf,typeInfo,hi1,hi2,h0,h1,Addr.add_none]
  ·exact h.elim
 ·exact h.elim
def QR (P:Program) (t:TypeId) (c:C) (i:C) (K:C->Prop):Prop:=
 match lay P t,i with
 | some ⟨.slice e,_,_,_⟩,.sc (.int _ n)=>match lay P e with
  | some L=>match c with
   | .bs j off k m _=>k=L.size/\0<=n/\n<(m:Int)/\K (.ptr j (off+n.toNat*L.size))
   | c=>match c.rows? L.size with
    | some rows=>match rows[n.toNat]? with
     | some r=>0<=n/\K (.row r)
     | none=>False
    | none=>False
  | none=>False
 | some ⟨.array (m+1) e,_,_,_⟩,.sc (.int _ n)=>match lay P e with
  | some L=>match c with
   | .ptr j off=>0<=n/\n<((m+1:Nat):Int)/\K (.ptr j (off+n.toNat*L.size))
   | .row cs=>0<=n/\n<((m+1:Nat):Int)/\K (.row (cs.drop (n.toNat*L.size)))
   | _=>False
  | none=>False
 | _,_=>False
theorem HM {i:Operand} (ho:o.op = .indexAddr t x i) (K:C->Prop) (h:QR P t (ev x) (ev i) K):∃ c,zG P G bx ev nx o c nx/\K c:=by
 unfold QR at h;split at h
 ·rename_i e s b z kk n hl hi;have ht:=qe hl rfl;split at h
  ·rename_i L hLe;split at h
   ·rename_i j off k m cap hev;obtain ⟨rfl,h0,hm,hK⟩:=h;refine ⟨_,.of_same fun B R Lc ρ hf hr=>?_,hK⟩;have hx:=hr x;rw[hev,jy]at hx;have hy:=hr i;rw[hi,zp]at hy;obtain ⟨bb,hb,ad,e',had⟩:=hx;obtain rfl:=had (by omega);refine ⟨.pointer (some ⟨bb,off+n.toNat*L.size,none⟩),?_,JD.2 ⟨bb,hb,rfl⟩⟩;have hin:0<=n/\n<(m:Int):=⟨h0,hm⟩;have hsz:=qV hLe R.w;unfold execOp;simp[ho,e',hy,Instr.indexAt,WD ht,asIntOf,hin,hsz,Addr.add_none]
   split at h
   ·rename_i rows hrows;split at h
    ·rename_i r hrow;refine ⟨_,.of_same fun B R Lc ρ hf hr=>?_,h.2⟩;have hx:=hr x;have hy:=hr i;rw[hi,zp]at hy;obtain ⟨a,cap,ev',h1,h2,h3⟩:=hx.rows hrows;rcases h3 with h3 | ⟨bb,off,ea,h3⟩
     ·subst h3;simp at hrow
     ·subst ea;obtain ⟨g1,g2⟩:=jE h3 _ r hrow;have hlt:n.toNat<rows.length:=(Wc.1 hrow).1;refine ⟨.pointer (some ⟨bb,off+n.toNat*L.size,none⟩),?_,Jz.2 ⟨_,_,rfl,g2⟩⟩;have hin:0<=n/\n<(rows.length:Int):=⟨h.1,by omega⟩;have hsz:=qV hLe R.w;unfold execOp;simp[ho,ev',hy,Instr.indexAt,WD ht,asIntOf,hin,hsz,Addr.add_none]
    ·exact h.elim
   ·exact h.elim
  ·exact h.elim
 ·rename_i m e s b z kk n hl hi;have ht:=zf8 hl rfl;split at h
  ·rename_i L hLe;split at h
   ·rename_i j off hev;refine ⟨_,.of_same fun B R Lc ρ hf hr=>?_,h.2.2⟩;have hx:=hr x;rw[hev,JD]at hx;have hy:=hr i;rw[hi,zp]at hy;obtain ⟨bb,hb,e'⟩:=hx;refine ⟨.pointer (some ⟨bb,off+n.toNat*L.size,none⟩),?_,JD.2 ⟨bb,hb,rfl⟩⟩;have hin:0<=n/\n<((m+1:Nat):Int):=⟨h.1,h.2.1⟩;have hsz:=qV hLe R.w;unfold execOp;simp only[ho,e',hy,Instr.indexAt,WD ht,asIntOf,Instr.sureAddr,Wm,WA,Wh,hsz,Addr.add_none,if_pos hin]
   ·rename_i cs hev;refine ⟨_,.of_same fun B R Lc ρ hf hr=>?_,h.2.2⟩;have hx:=hr x;rw[hev,Jz]at hx;have hy:=hr i;rw[hi,zp]at hy;obtain ⟨bb,off,e',hc⟩:=hx;refine ⟨.pointer (some ⟨bb,off+n.toNat*L.size,none⟩),?_,Jz.2 ⟨bb,_,rfl,XV _ hc⟩⟩;have hin:0<=n/\n<((m+1:Nat):Int):=⟨h.1,h.2.1⟩;have hsz:=qV hLe R.w;unfold execOp;simp only[ho,e',hy,Instr.indexAt,WD ht,asIntOf,Instr.sureAddr,Wm,WA,Wh,hsz,Addr.add_none,if_pos hin]
   ·exact h.elim
  ·exact h.elim
 ·exact h.elim
def zaO (P:Program) (t:TypeId) (c i:C) (K:C->Prop):Prop:=
 match lay P t,c,i with
 | some ⟨.str,_,_,_⟩,.str l,.sc (.int _ n)=>match l[n.toNat]? with
  | some b=>0<=n/\K (.sc (.int .u8 (b.toNat:Int)))
  | none=>False
 | _,_,_=>False
theorem zb8 {i:Operand} (ho:o.op = .index t x i) (K:C->Prop) (h:zaO P t (ev x) (ev i) K):∃ c,zG P G bx ev nx o c nx/\K c:=by
 unfold zaO at h;split at h
 ·rename_i s b z l kk n hl hev hi;have ht:=Zg hl rfl;split at h
  ·rename_i bt hbt;refine ⟨_,.of_same fun B R Lc ρ hf hr=>?_,h.2⟩;have hx:=hr x;rw[hev,qc]at hx;have hy:=hr i;rw[hi,zp]at hy;have hlt:n.toNat<l.length:=(Wc.1 hbt).1;refine ⟨.int .u8 (bt.toNat:Int),?_,zp.2 rfl⟩;have hsz:(ByteArray.mk l.toArray).size=l.length:=by simp[ByteArray.size]
   have hr1:=run_index_string (P:=P) R.w t ⟨l.toArray⟩ kk n ht;rw[dif_pos ⟨h.1,by rw[hsz];omega⟩]at hr1;have hget:(ByteArray.mk l.toArray)[n.toNat]'(by rw[hsz];exact hlt)=bt:=by
    have:=(Wc.1 hbt).2;rw[←this];rfl
   rw[hget]at hr1;unfold execOp;simp only[ho,hx,hy];rw[Wm,hr1];rfl
  ·exact h.elim
 ·exact h.elim
def zaR:Option C->Option (Option Int)
 | none=>some none
 | some (.sc (.int _ n))=>some (some n)
 | _=>none
def cut {α:Type} (l:List α) (lo hi:Option Int):List α:=
 match lo,hi with
 | none,none=>l
 | some a,none=>l.drop a.toNat
 | none,some b=>l.take b.toNat
 | some a,some b=>(l.take b.toNat).drop a.toNat
def Jf (n:Nat) (lo hi:Option Int):Prop:=
 match lo,hi with
 | none,none=>True
 | some a,none=>0<=a/\a<=(n:Int)
 | none,some b=>0<=b/\b<=(n:Int)
 | some a,some b=>0<=a/\a<=b/\b<=(n:Int)
def zn9 (sz i off k n cap:Nat) (lo hi mx:Option Int) (K:C->Prop):Prop:=
 match lo,hi,mx with
 | none,none,none=>n<=cap/\K (.bs i off k n cap)
 | none,some b,none=>n<=cap/\(0<=b/\b<=(cap:Int))/\K (.bs i off k b.toNat cap)
 | some a,none,none=>sz=k/\n<=cap/\(0<=a/\a<=(n:Int))/\K (.bs i (off+a.toNat*k) k (n-a.toNat) (cap-a.toNat))
 | some a,some b,none=>sz=k/\(0<=a/\a<=b/\b<=(cap:Int))/\K (.bs i (off+a.toNat*k) k (b.toNat-a.toNat) (cap-a.toNat))
 | none,some b,some m=>(0<=b/\b<=m/\m<=(cap:Int))/\K (.bs i off k b.toNat m.toNat)
 | some a,some b,some m=>sz=k/\(0<=a/\a<=b/\b<=m/\m<=(cap:Int))/\K (.bs i (off+a.toNat*k) k (b.toNat-a.toNat) (m.toNat-a.toNat))
 | _,none,some _=>False
theorem zn9.out {sz off cap:Nat} {lo hi mx:Option Int} {K:C->Prop} (h:zn9 sz i off k n cap lo hi mx K) :
  (lo≠none->sz=k)/\(mx≠none->hi≠none)/\0<=lo.getD 0/\lo.getD 0<=hi.getD n/\hi.getD n<=mx.getD cap/\mx.getD cap<=(cap:Int) /\
   K (.bs i (off+(lo.getD 0).toNat*k) k ((hi.getD n).toNat-(lo.getD 0).toNat) ((mx.getD cap).toNat-(lo.getD 0).toNat)):=by
 unfold zn9 at h;split at h
 ·exact ⟨by simp,by simp,by simp,by simp,by simp;omega,by simp,by simpa using h.2⟩
 ·exact ⟨by simp,by simp,by simp,by simp;omega,by simp;omega,by simp,by simpa using h.2.2⟩
 ·exact ⟨by simp;exact h.1,by simp,by simp;omega,by simp;omega,by simp;omega,by simp,by simpa using h.2.2.2⟩
 ·exact ⟨by simp;exact h.1,by simp,by simp;omega,by simp;omega,by simp;omega,by simp,by simpa using h.2.2⟩
 ·exact ⟨by simp,by simp,by simp,by simp;omega,by simp;omega,by simp;omega,by simpa using h.2⟩
 ·exact ⟨by simp;exact h.1,by simp,by simp;omega,by simp;omega,by simp;omega,by simp;omega,by simpa using h.2.2⟩
 ·exact h.elim
def zqP (k:Nat) (lo hi mx:Option Int) (K:C->Prop):Prop:=match mx,hi with
 | none,_=>Jf 0 lo hi/\K (.sc (.slice none 0 0))
 | some m,some h=>m=h/\Jf 0 lo (some h)/\K (.tight k (cut [] lo (some h)))
 | some _,none=>False
def uY (P:Program) (t:TypeId) (c:C) (lo hi mx:Option C) (K:C->Prop):Prop:=
 match zaR lo,zaR hi,zaR mx with
 | some lo,some hi,some mx=>match lay P t with
  | some ⟨.str,_,_,_⟩=>match c,mx with
   | .str l,none=>Jf l.length lo hi/\K (.str (cut l lo hi))
   | _,_=>False
  | some ⟨.slice e,_,_,_⟩=>match lay P e with
   | some L=>match c with
    | .bs i off k n cap=>zn9 L.size i off k n cap lo hi mx K
    | .sc (.slice none 0 0)=>zqP L.size lo hi mx K
    | c=>match c.rows? L.size with
     | some rows=>match mx,hi with
      | none,_=>Jf rows.length lo hi/\K (.sl L.size (cut rows lo hi))
      | some m,some h=>m=h/\Jf rows.length lo hi/\K (.tight L.size (cut rows lo hi))
      | some _,none=>False
     | none=>False
   | none=>False
  | _=>False
 | _,_,_=>False
theorem Z0 {x:Option C} (h:zaR x=some none):x=none:=by
 unfold zaR at h;split at h
 ·rfl
 ·cases h
 ·cases h
theorem zdG {x:Option C} {n:Int} (h:zaR x=some (some n)):∃ k,x=some (.sc (.int k n)):=by
 unfold zaR at h;split at h
 ·cases h
 ·cases h;exact ⟨_,rfl⟩
 ·cases h
theorem Gl (l:List α) {lo hi:Option Int} (h:Jf l.length lo hi):(cut l lo hi).length=((hi.map (·.toNat)).getD l.length)-((lo.map (·.toNat)).getD 0):=by
 cases lo<;>cases hi<;>simp[cut,Jf]at h ⊢<;>omega
theorem Xq {isS:Bool} {cap:Nat} {lo hi mx:Option Value} {lo' hi' mx':Option Int} (hlo:lo=lo'.map (fun x=>Value.int .i64 x)∨∃ k,lo=lo'.map (fun x=>Value.int k x))
  (hhi:∃ k,hi=hi'.map (fun x=>Value.int k x)) (hmx:∃ k,mx=mx'.map (fun x=>Value.int k x)) (hok:Jf n lo' hi') (hcap:n<=cap) (hm:mx'=none∨(mx'=hi'/\hi'≠none)) :
  (Instr.sliceBounds isS n cap lo hi mx).run P w = .ok ((lo'.map (·.toNat)).getD 0,(hi'.map (·.toNat)).getD n,(mx'.map (·.toNat)).getD cap) w:=by
 have hlo':∃ k,lo=lo'.map (fun x=>Value.int k x):=by rcases hlo with h | h;exact ⟨_,h⟩;exact h
 obtain ⟨k1,rfl⟩:=hlo';obtain ⟨k2,rfl⟩:=hhi;obtain ⟨k3,rfl⟩:=hmx;rcases hm with rfl | ⟨rfl,hne⟩
 ·cases lo' with
  | none=>cases hi' with
   | none=>simp[Instr.sliceBounds]
   | some b =>
    simp only[Jf]at hok;have h1:0<=b/\b<=(cap:Int):=by omega
    simp[Instr.sliceBounds,Instr.sliceBound,asIntOf,h1]
  | some a=>cases hi' with
   | none =>
    simp only[Jf]at hok;simp[Instr.sliceBounds,Instr.sliceBound,asIntOf,hok]
   | some b =>
    simp only[Jf]at hok;have h1:0<=b/\b<=(cap:Int):=by omega
    have h2:0<=a/\a<=((b.toNat:Nat):Int):=by omega
    simp only[Instr.sliceBounds,Instr.sliceBound,asIntOf,Wu,WX,Wm,WA,Wh,if_pos h1,if_pos h2];simp
 ·cases mx' with
  | none=>exact absurd rfl hne
  | some b=>cases lo' with
   | none =>
    simp only[Jf]at hok;have h1:0<=b/\b<=(cap:Int):=by omega
    have h2:0<=b/\b<=((b.toNat:Nat):Int):=by omega
    simp only[Instr.sliceBounds,Instr.sliceBound,asIntOf,Wu,WX,Wm,WA,Wh,if_pos h1,if_pos h2];simp
   | some a =>
    simp only[Jf]at hok;have h1:0<=b/\b<=(cap:Int):=by omega
    have h2:0<=b/\b<=((b.toNat:Nat):Int):=by omega
    have h3:0<=a/\a<=((b.toNat:Nat):Int):=by omega
    simp only[Instr.sliceBounds,Instr.sliceBound,asIntOf,Wu,WX,Wm,WA,Wh,if_pos h1,if_pos h2,if_pos h3];simp
theorem uk {cap:Nat} {lo hi mx:Option Value} {lo' hi' mx':Option Int} (hlo:∃ k,lo=lo'.map (fun x=>Value.int k x)) (hhi:∃ k,hi=hi'.map (fun x=>Value.int k x)) (hmx:∃ k,mx=mx'.map (fun x=>Value.int k x))
  (h0:0<=lo'.getD 0) (h1:lo'.getD 0<=hi'.getD n) (h2:hi'.getD n<=mx'.getD cap) (h3:mx'.getD cap<=(cap:Int)) (hmh:mx'≠none->hi'≠none) :
  (Instr.sliceBounds true n cap lo hi mx).run P w = .ok ((lo'.getD 0).toNat,(hi'.getD n).toNat,(mx'.getD cap).toNat) w:=by
 obtain ⟨k1,rfl⟩:=hlo;obtain ⟨k2,rfl⟩:=hhi;obtain ⟨k3,rfl⟩:=hmx;have sb:∀ (k:IntKind) (a:Int) (y:Nat) (c:BoundsCode),0<=a->a<=(y:Int)->(Instr.sliceBound (.int k a) y c).run P w = .ok a.toNat w:=fun k a y c p q=>by
  simp[Instr.sliceBound,asIntOf,p,q]
 cases mx' with
 | none=>cases hi' with
  | none=>cases lo' with
   | none=>simp[Instr.sliceBounds]
   | some a =>
    simp only[W9,Am]at h0 h1 h2 h3;simp only[Instr.sliceBounds,Wu,WX,Wm,WA,Wh,sb k1 a n _ h0 h1];simp
  | some b=>cases lo' with
   | none =>
    simp only[W9,Am]at h0 h1 h2 h3;simp only[Instr.sliceBounds,Wu,WX,Wm,WA,Wh,sb k2 b cap _ h1 h2];simp
   | some a =>
    simp only[W9,Am]at h0 h1 h2 h3;simp only[Instr.sliceBounds,Wu,WX,Wm,WA,Wh,sb k2 b cap _ (by omega) h2,sb k1 a b.toNat _ h0 (by omega)];simp
 | some m=>cases hi' with
  | none=>exact absurd rfl (hmh (by simp))
  | some b=>cases lo' with
   | none =>
    simp only[W9,Am]at h0 h1 h2 h3;simp only[Instr.sliceBounds,Wu,WX,Wm,WA,Wh,sb k3 m cap _ (by omega) h3,sb k2 b m.toNat _ h1 (by omega)];simp
   | some a =>
    simp only[W9,Am]at h0 h1 h2 h3;simp only[Instr.sliceBounds,Wu,WX,Wm,WA,Wh,sb k3 m cap _ (by omega) h3,sb k2 b m.toNat _ (by omega) (by omega),sb k1 a b.toNat _ h0 (by omega)];simp
theorem Ji (hr:∀ x,Rep R L (ev x) (ρ x)) {x:Option Operand} {n:Option Int} (h:zaR (x.map ev)=some n):∃ k,x.map ρ=n.map (fun i=>Value.int k i):=by
 cases x with
 | none=>simp[zaR]at h;subst h;exact ⟨.i64,rfl⟩
 | some x =>
  cases n with
  | none =>
   have:=Z0 h;cases this
  | some n =>
   obtain ⟨k,hk⟩:=zdG h;simp at hk;have h1:=hr x;rw[hk,zp]at h1;exact ⟨k,by simp[h1]⟩
theorem ux (l:Lz) {lo hi:Option Int} (h:Jf l.length lo hi):(ByteArray.mk l.toArray).extract ((lo.map (·.toNat)).getD 0) ((hi.map (·.toNat)).getD l.length)=⟨(cut l lo hi).toArray⟩:=by
 rw[ByteArray.extract_mk];congr 2;cases lo<;>cases hi<;>simp only[cut,Wu,WX,W9,Am,AS,Nat.sub_zero]
 ·rw[Wg (Wb _)]
 ·rw[Wg (by simp)]
 ·rw[List.drop_take]
theorem zam {o:Nat} {rows:List (List C)} (h:zW R rows k b o) (lo hi:Option Int):zW R (cut rows lo hi) k b (o+((lo.map (·.toNat)).getD 0)*k):=by
 cases lo<;>cases hi<;>simp only[cut,Wu,WX,W9,Am,Nat.zero_mul,O8]
 ·exact h
 ·exact QD _ h
 ·exact Qi _ h
 ·exact Qi _ (QD _ h)
theorem zcF {lo hi mx:Option Operand} (ho:o.op = .slice t x lo hi mx) (K:C->Prop) (h:uY P t (ev x) (lo.map ev) (hi.map ev) (mx.map ev) K):∃ c,zG P G bx ev nx o c nx/\K c:=by
 unfold uY at h;split at h
 ·rename_i lo' hi' mx' hlo hhi hmx;split at h
  ·rename_i s b z hl;have ht:=Zg hl rfl;split at h
   ·rename_i l hev;refine ⟨_,.of_same fun B R Lc ρ hf hr=>?_,h.2⟩;have hx:=hr x;rw[hev,qc]at hx;have hmx0:mx=none:=by
     have:=Z0 hmx;cases mx<;>simp_all
    subst hmx0;have hsz:(ByteArray.mk l.toArray).size=l.length:=by simp[ByteArray.size]
    have hb:=Xq (P:=P) (w:=R.w) (isS:=false) (n:=l.length) (cap:=l.length) (lo:=lo.map ρ) (hi:=hi.map ρ) (mx:=none) (mx':=none) (.inr (Ji hr hlo)) (Ji hr hhi) ⟨.i64,rfl⟩ h.1 (Wb _) (.inl rfl);refine ⟨.string ⟨(cut l lo' hi').toArray⟩,?_,qc.2 rfl⟩;unfold execOp;simp only[ho,hx,Instr.sliceAt,Wm,WD ht,Wh,Instr.slice,WX,hsz,hb,BN,Oa,Ol,WA];simp only[Wm,WA,Wh,hb,ux l h.1]
   ·exact h.elim
  ·rename_i e s b z hl;have ht:=qe hl rfl;split at h
   ·rename_i L hLe;split at h
    ·rename_i j off k n cap hev;obtain ⟨hz,hmh,h0,h1,h2,h3,hK⟩:=h.out;refine ⟨_,.of_same fun B R Lc ρ hf hr=>?_,hK⟩;have hx:=hr x;rw[hev,jy]at hx;obtain ⟨bb,hb0,ad,e',had⟩:=hx;have hb:=uk (P:=P) (w:=R.w) (n:=n) (cap:=cap) (Ji hr hlo) (Ji hr hhi) (Ji hr hmx) h0 h1 h2 h3 hmh;have hsz:=qV hLe R.w;refine ⟨.slice (some (if (mx'.getD cap).toNat=(lo'.getD 0).toNat then ad else ad.add ((lo'.getD 0).toNat*L.size))) ((hi'.getD n).toNat-(lo'.getD 0).toNat) ((mx'.getD cap).toNat-(lo'.getD 0).toNat),?_,jy.2 ⟨bb,hb0,_,rfl,fun hne=>?_⟩⟩
     ·unfold execOp;simp only[ho,e',Instr.sliceAt,Wm,WD ht,Wh,Instr.slice,hb,WA,hsz];split<;>simp
     ·rw[if_neg (by omega),had (by omega)];rw[Addr.add_none];cases lo' with
      | none=>simp
      | some a=>rw[hz (by simp)]
    ·-- of none
     unfold zqP at h;rename_i hev;split at h
     ·refine ⟨_,.of_same fun B R Lc ρ hf hr=>?_,h.2⟩;have hx:=hr x;rw[hev,zp]at hx;have hmx0:mx=none:=by
       have:=Z0 hmx;cases mx<;>simp_all
      subst hmx0;have hb:=Xq (P:=P) (w:=R.w) (isS:=true) (n:=0) (cap:=0) (lo:=lo.map ρ) (hi:=hi.map ρ) (mx:=none) (mx':=none) (.inr (Ji hr hlo)) (Ji hr hhi) ⟨.i64,rfl⟩ h.1 (Wb _) (.inl rfl);have hsz:=qV hLe R.w;have hz0:(lo'.map (·.toNat)).getD 0=0/\(hi'.map (·.toNat)).getD 0=0:=by
       have h4:=h.1;cases lo'<;>cases hi'<;>simp[Jf]at h4 ⊢<;>omega
      refine ⟨.slice none 0 0,?_,zp.2 rfl⟩;unfold execOp;simp only[ho,hx,Instr.sliceAt,Wm,WD ht,Wh,Instr.slice,WX,hb,WA,hsz];simp[hz0.1,hz0.2]
     ·rename_i m hh;obtain ⟨rfl,h⟩:=h;refine ⟨_,.of_same fun B R Lc ρ hf hr=>?_,h.2⟩;have hx:=hr x;rw[hev,zp]at hx;have hb:=Xq (P:=P) (w:=R.w) (isS:=true) (n:=0) (cap:=0) (lo:=lo.map ρ) (hi:=hi.map ρ) (mx:=mx.map ρ) (.inr (Ji hr hlo)) (Ji hr hhi) (Ji hr hmx) h.1 (Wb _) (.inr ⟨rfl,by simp⟩);have hsz:=qV hLe R.w;have hz0:(lo'.map (·.toNat)).getD 0=0/\m.toNat=0:=by
       have h4:=h.1;cases lo'<;>simp[Jf]at h4 ⊢<;>omega
      have hct:cut ([]:List (List C)) lo' (some m) = []:=by cases lo'<;>simp[cut]
      rw[hct];refine ⟨.slice none 0 0,?_,Jy.2 ⟨none,rfl,by unfold maxLen;simp,.inl rfl⟩⟩;unfold execOp;simp only[ho,hx,Instr.sliceAt,Wm,WD ht,Wh,Instr.slice,hb,WA,hsz];simp[hz0.1,hz0.2]
     ·exact h.elim
    split at h
    ·rename_i rows hrows;split at h
     ·-- no max
      refine ⟨_,.of_same fun B R Lc ρ hf hr=>?_,h.2⟩;have hx:=hr x;obtain ⟨a,cap,ev',h1,h2,h3⟩:=hx.rows hrows;have hmx0:mx=none:=by
       have:=Z0 hmx;cases mx<;>simp_all
      subst hmx0;have hb:=Xq (P:=P) (w:=R.w) (isS:=true) (n:=rows.length) (cap:=cap) (lo:=lo.map ρ) (hi:=hi.map ρ) (mx:=none) (mx':=none) (.inr (Ji hr hlo)) (Ji hr hhi) ⟨.i64,rfl⟩ h.1 h1 (.inl rfl);have hcl:=Gl rows h.1;have hsz:=qV hLe R.w;refine ⟨.slice (if cap=(lo'.map (·.toNat)).getD 0 then a else a.map (·.add ((lo'.map (·.toNat)).getD 0*L.size))) ((hi'.map (·.toNat)).getD rows.length-(lo'.map (·.toNat)).getD 0) (cap-(lo'.map (·.toNat)).getD 0),?_,?_⟩
      ·unfold execOp;simp only[ho,ev',Instr.sliceAt,Wm,WD ht,Wh,Instr.slice,WX,hb,WA,hsz];simp
      ·have hle:(hi'.map (·.toNat)).getD rows.length<=rows.length:=by
        have h4:=h.1;cases lo'<;>cases hi'<;>simp[Jf]at h4 ⊢<;>omega
       refine Gd.2 ⟨_,_,by rw[hcl],by rw[hcl];omega,by omega,?_⟩;by_cases hc0:cut rows lo' hi' = []
       ·exact .inl hc0
       ·right
        have hpos:0<(cut rows lo' hi').length:=WI.2 hc0;rcases h3 with h3 | ⟨bb,off,ea,h3⟩
        ·have h0:rows.length=0:=by rw[h3];rfl
         omega
        ·refine ⟨bb,off+(lo'.map (·.toNat)).getD 0*L.size,?_,zam h3 lo' hi'⟩;rw[if_neg (by omega),ea];simp[Addr.add_none]
     ·-- with max
      rename_i m hh;obtain ⟨rfl,h⟩:=h;refine ⟨_,.of_same fun B R Lc ρ hf hr=>?_,h.2⟩;have hx:=hr x;obtain ⟨a,cap,ev',h1,h2,h3⟩:=hx.rows hrows;have hb:=Xq (P:=P) (w:=R.w) (isS:=true) (n:=rows.length) (cap:=cap) (lo:=lo.map ρ) (hi:=hi.map ρ) (mx:=mx.map ρ) (.inr (Ji hr hlo)) (Ji hr hhi) (Ji hr hmx) h.1 h1 (.inr ⟨rfl,by simp⟩);have hcl:=Gl rows h.1;have hsz:=qV hLe R.w;refine ⟨.slice (if m.toNat=(lo'.map (·.toNat)).getD 0 then a else a.map (·.add ((lo'.map (·.toNat)).getD 0*L.size))) (m.toNat-(lo'.map (·.toNat)).getD 0) (m.toNat-(lo'.map (·.toNat)).getD 0),?_,?_⟩
      ·unfold execOp;simp only[ho,ev',Instr.sliceAt,Wm,WD ht,Wh,Instr.slice,hb,WA,hsz];simp
      ·have hle:m.toNat<=rows.length:=by
        have h4:=h.1;cases lo'<;>simp only[Jf]at h4<;>omega
       simp only[Wu,W9]at hcl;refine Jy.2 ⟨_,by rw[hcl],by rw[hcl];omega,?_⟩;by_cases hc0:cut rows lo' (some m) = []
       ·exact .inl hc0
       ·right
        have hpos:0<(cut rows lo' (some m)).length:=WI.2 hc0;rcases h3 with h3 | ⟨bb,off,ea,h3⟩
        ·have h0:rows.length=0:=by rw[h3];rfl
         omega
        ·refine ⟨bb,off+(lo'.map (·.toNat)).getD 0*L.size,?_,zam h3 lo' (some m)⟩;rw[if_neg (by omega),ea];simp[Addr.add_none]
     ·exact h.elim
    ·exact h.elim
   ·exact h.elim
  ·exact h.elim
 ·exact h.elim
end
end
section
open Go.RowKit
section
variable {P:Program} {G:zq} {bx:List (List C)} {ev:Operand->C} {nx:Nat} {o:Oper}
theorem j5 {R:Env}:∀ {cs:List C} {b off:Nat},zP R cs b off->∃ vs:List Value,(∀ (j:Nat) v,vs[j]?=some v->R.w.cell? ⟨b,off+j,none⟩=some v)/\zx R zU cs vs/\∀ v∈vs,v.oneCell'=true
 | [],_,_,_=>⟨[],fun j v h=>by simp at h,zm.2 rfl,fun v h=>by cases h⟩
 | x :: r,b,off,h=>by
  obtain ⟨⟨v0,e1,e2,e3,e4⟩,h2⟩:=qq.1 h;obtain ⟨us,g1,g2,g3⟩:=j5 h2;refine ⟨v0 :: us,fun j v hj=>?_,zg.2 ⟨v0,us,rfl,e3,g2⟩,fun v hv=>?_⟩
  ·cases j with
   | zero=>simp at hj;subst hj;exact e1
   | succ j =>
    have:=g1 j v (by simpa using hj);rwa [show off+(j+1)=off+1+j by omega]
  ·rcases WJ.1 hv with rfl | hv
   ·exact e4
   ·exact g3 v hv
theorem X0 {k:Nat}:∀ {rows:List (List C)},(∀ r∈rows,r.length=k)->∀ (i j:Nat) row,rows[i]?=some row->j<k->rows.flatten[i*k+j]?=row[j]?
 | [],_,i,j,row,h,_=>by simp at h
 | r :: rs,h,0,j,row,hr,hj=>by
  simp at hr;subst hr;rw[OR,Nat.zero_mul,Ov,Wt (by rw[h r Wj];exact hj)]
 | r :: rs,h,i+1,j,row,hr,hj=>by
  have h0:=h r Wj;rw[OR,WK (by rw[h0,On];omega)];have:=X0 (fun x hx=>h x (Wk _ hx)) i j row (by simpa using hr) hj;rw[←this];congr 1;rw[h0,On];omega
theorem own_new {g cap e nx:Nat} {cur:Array Value} {rows:List (List C)} (hβ:∀ b∈L.β,b<R.w.heap.size)
  (hb:Below R.w.heap.size R.w w') (hg:R.w.heap.size<=g) (hh:w'.heap[g]?=some (.cells cur e (0,0))) (hcur:cur.size=cap*k) (hk:∀ r∈rows,r.length=k)
  (hrep:zx R zU rows.flatten vs) (hone:∀ v∈vs,v.oneCell'=true) (htake:cur.toList.take (rows.length*k)=vs) (hcap:rows.length<=cap) (hm:cap<=maxLen) :
  ∃ R' L',R'.w=w'/\qK nx (nx+1) R L R' L'/\Rep R' L' (.own nx e k rows) (.slice (some ⟨g,0,none⟩) rows.length cap):=by
 have hext:Ext R ⟨w',fun b o=>(b<R.w.heap.size/\R.M b o)∨(b=g/\rows.length*k<=o),R.F⟩:=by
  refine Ext.of_below hb fun b o h=>⟨fun h'=>?_,fun h'=>.inl ⟨h,h'⟩⟩;rcases h' with h' | h'
  ·exact h'.2
  ·omega
 refine ⟨⟨w',fun b o=>(b<R.w.heap.size/\R.M b o)∨(b=g/\rows.length*k<=o),R.F⟩,⟨L.β,fun id=>if id=nx then some (e,k,.slice (some ⟨g,0,none⟩) rows.length cap) else L.T id⟩,rfl,⟨hb,rfl,rfl,fun b o h=>⟨fun h'=>?_,fun h'=>.inl ⟨h,h'⟩⟩,fun id hi=>if_neg (by omega),fun id e' k' v' hi hi2 h=>?_,fun id id' e1 k1 v1 e2 k2 v2 b hi hi2 hj hj2 h1 h2 h3 h4=>by omega⟩,Xf.2 ⟨if_pos rfl,_,_,rfl,hcap,hm,?_⟩⟩
 ·rcases h' with h' | h'
  ·exact h'.2
  ·omega
 ·simp only at h;rw[if_pos (by omega)]at h;cases h;exact .inr (.inl ⟨g,_,cap,cur,_,rfl,hg,hh,hcap,hm,hcur,fun hx=>by have:=hβ g hx;omega,fun o ho=>.inr ⟨rfl,ho⟩⟩)
 ·by_cases h0:rows = []
  ·exact .inl h0
  ·refine .inr ⟨g,0,rfl,ji fun i row hrow=>⟨hk row (Wf hrow),qi fun j c hc=>?_⟩⟩;have hkr:=hk row (Wf hrow);have hj:j<k:=by rw[←hkr];exact (Wc.1 hc).1
   have hi:i<rows.length:=(Wc.1 hrow).1;have hf:=X0 hk i j row hrow hj;rw[hc]at hf;obtain ⟨v,hv,hr⟩:=JF hrep _ _ hf;have hlt2:i*k+j<rows.length*k:=by
    have:(i+1)*k<=rows.length*k:=WM _ hi;rw[On]at this;omega
   refine ⟨v,?_,?_,Rep.ext hext (zR.refl _) _ _ hr,hone v (Wf hv)⟩
   ·rw[Ac w' g (0+i*k+j) cur e (0,0) hh];rw[←htake,WF]at hv;rw[Ov];rw[if_pos hlt2]at hv;simpa using hv
   ·rintro (hx | hx)
    ·omega
    ·omega
theorem zlR {e nx:Nat} :
  ∃ R' L',R'.w=R.w/\qK nx (nx+1) R L R' L'/\Rep R' L' (.own nx e k []) (.slice none 0 0):=by
 refine ⟨R,⟨L.β,fun id=>if id=nx then some (e,k,.slice none 0 0) else L.T id⟩,rfl,⟨Ob _ _,rfl,rfl,fun b o h=>Iff.rfl,fun id hi=>if_neg (by omega),fun id e' k' v' hi hi2 h=>?_,fun id id' e1 k1 v1 e2 k2 v2 b hi hi2 hj hj2 h1 h2 h3 h4=>by omega⟩,Xf.2 ⟨if_pos rfl,_,_,rfl,Wb _,Wd _,.inl rfl⟩⟩;simp only at h;rw[if_pos (by omega)]at h;cases h;exact .inl rfl
theorem Fit.β_lt (hf:Fit G B bx R L):∀ b∈L.β,b<R.w.heap.size:=fun b hb=>by
 obtain ⟨i,hi,rfl⟩:=Wx hb;have hl:=hf.boxes.len;obtain ⟨vs,ty,h,_⟩:=hf.boxes.box i L.β[i] (bx[i]'(by omega)) (Wa hi) (Wa (by omega));exact qg h
theorem qK.mem (hb:Below R.w.heap.size R.w w'):qK nx nx R L ⟨w',fun b o=>b<R.w.heap.size/\R.M b o,R.F⟩ L:=
 ⟨hb,rfl,rfl,fun b o h=>⟨fun h'=>h'.2,fun h'=>⟨h,h'⟩⟩,fun _ _=>rfl,fun id e k v h h'=>by omega,fun id id' e k v e' k' v' b h h'=>by omega⟩
def Xz (place:Nat->Option (Nat×Nat)) (cs:List C):List (Nat×C)->Option (List C)
 | []=>some cs
 | (i,c) :: rest =>
  match place i with
  | none=>none
  | some (off,size)=>if c.cells.length=size/\off+size<=cs.length then Xz place (cs.take off++c.cells++cs.drop (off+size)) rest else none
def C.partB:C->Bool
 | .agg _=>true
 | c=>c.cellB
theorem Qf (h:Rep R L c v) (hc:c.partB=true):zx R L c.cells v.cells.toList:=by
 cases c<;>simp only[C.partB]at hc
 case agg cs=>obtain ⟨vs,rfl,hl⟩:=Jd.1 h;exact hl
 all_goals
  have h1:=h.oneCell hc;have:v.cells = #[v]:=by cases v<;>simp_all [Value.oneCell',Value.cells]
  rw[this];exact zg.2 ⟨v,[],rfl,h,zm.2 rfl⟩
theorem UZ:∀ (us:List Value) (k off:Nat) (cs:Array Value),off+k+us.length<=cs.size ->
  ((us.zipIdx k).foldl (fun (cs:Array Value) (p:Value×Nat)=>cs.setIfInBounds (off+p.2) p.1) cs).toList=cs.toList.take (off+k)++us++cs.toList.drop (off+k+us.length)
 | [],k,off,cs,h=>by simp
 | u :: us,k,off,cs,h=>by
  simp only[List.zipIdx_cons,Bn];rw[UZ us (k+1) off _ (by simp at h ⊢;omega)];simp only[Wr]at h ⊢;apply OX;intro i;simp only[Ar];rcases O9 i (off+k) with hi | hi | hi
  ·rw[WL,WL,Wt (by simp at h ⊢;omega),Wt (by simp at h ⊢;omega)];rw[WF,WF,if_pos (by omega),if_pos hi,Ou (by omega)]
  ·subst hi;rw[WL,WL,Wt (by simp at h ⊢;omega),WK (by simp at h ⊢;omega)];rw[WF,if_pos (by omega),Oy (by simpa using (by omega:off+k<cs.size))];simp[OD (by omega:off+k<=cs.size)]
  ·have e1:(cs.toList.set (off+k) u).take (off+(k+1))=cs.toList.take (off+k)++[u]:=by
    apply OX;intro j;rcases O9 j (off+k) with hj | hj | hj
    ·rw[Wt (by simp;omega),WF,WF,if_pos (by omega),if_pos hj,Ou (by omega)]
    ·subst hj;rw[WK (by simp;omega),WF,if_pos (by omega),Oy (by simp;omega)];simp[OD (by omega:off+k<=cs.size)]
    ·rw[WK (by simp;omega),WF,if_neg (by omega),WY (by simp;omega)]
   have e2:(cs.toList.set (off+k) u).drop (off+(k+1)+us.length)=cs.toList.drop (off+k+(us.length+1)):=by
    rw[List.drop_set_of_lt (by omega)];congr 1;omega
   rw[e1,e2];simp
theorem UF {R:Env} {L:Loc} (place:Nat->Option (Nat×Nat)):∀ (parts:List (Nat×C)) (pv:List (Nat×Value)) (cs:List C) (vs:Array Value) (out:List C),
  zx R L cs vs.toList->pv.map (·.1)=parts.map (·.1)->zx R L (parts.map (·.2)) (pv.map (·.2))->(∀ p∈parts,p.2.partB=true)->Xz place cs parts=some out ->
  ∃ us:Array Value,Instr.fill place vs pv=some us/\zx R L out us.toList
 | [],pv,cs,vs,out,h,h1,h2,h3,h4=>by
  cases pv with
  | nil=>simp only[Xz]at h4;cases h4;exact ⟨vs,rfl,h⟩
  | cons p q=>simp at h1
 | (i,c) :: rest,pv,cs,vs,out,h,h1,h2,h3,h4=>by
  cases pv with
  | nil=>simp at h1
  | cons p q =>
   obtain ⟨i',v⟩:=p;simp only[WC,List.cons.injEq]at h1;obtain ⟨rfl,h1⟩:=h1;simp only[WC]at h2;obtain ⟨v',us,e,hv,h2⟩:=zg.1 h2;cases e;simp only[Xz]at h4;cases hp:place i' with
   | none=>simp[hp]at h4
   | some x =>
    obtain ⟨off,size⟩:=x;simp only[hp]at h4;split at h4
    ·rename_i hc;have hcells:=Qf hv (h3 (i',c) Wj);have hl1:=zy hcells;have hl2:=zy h;simp only[WS]at hl1 hl2;have hfold:=UZ v.cells.toList 0 off vs (by simp;omega);obtain ⟨out',g1,g2⟩:=UF place rest q (cs.take off++c.cells++cs.drop (off+size)) (v.cells.zipIdx.foldl (fun cs (p:Value×Nat)=>cs.setIfInBounds (off+p.2) p.1) vs) out (by
      have:(v.cells.zipIdx.foldl (fun (cs:Array Value) (p:Value×Nat)=>cs.setIfInBounds (off+p.2) p.1) vs).toList=vs.toList.take off++v.cells.toList++vs.toList.drop (off+size):=by
       rw[←Array.foldl_toList,Array.toList_zipIdx];rw[hfold];simp only[O8,WS];rw[hl1,hc.1]
      rw[this];exact zo (zo (qR off h) hcells) (jg (off+size) h)) h1 h2 (fun p hp=>h3 p (Wk _ hp)) h4
     refine ⟨out',?_,g2⟩;simp only[Instr.fill,hp];rw[if_neg (by simp;omega)];exact g1
    ·cases h4
end
end
section
open Go.RowKit
section
variable {P:Program} {G:zq} {bx:List (List C)} {ev:Operand->C} {nx:Nat} {o:Oper}
theorem YX {R:Env} {T:Loc}:∀ vs:List Value,zx R T (vs.map zD) vs
 | []=>zm.2 rfl
 | v :: r=>zg.2 ⟨v,_,rfl,jX R T v,YX r⟩
def zae (P:Program) (t:TypeId) (parts:List (Nat×C)) (K:C->Prop):Prop:=
 match lay P t with
 | some ⟨.struct fs,_,_,some z⟩=>(parts.all fun p=>p.2.partB)=true/\match Xz (fun i=>(fs[i]?).map fun f=>(f.1,f.2.1)) (z.map zD) parts with
  | some cs=>K (.agg cs)
  | none=>False
 | _=>False
theorem Vc (h:(P.underlying t).isSome=true):∃ i,P.info? t=some i:=by
 cases hq:P.info? t with
 | none=>unfold Program.underlying at h;simp[hq]at h
 | some i=>exact ⟨i,rfl⟩
theorem Hj:∀ (fields:List Field),(∀ f∈fields,(P.underlying f.type).isSome=true) ->
  fields.mapM (fun f=>(P.info? f.type).map fun i=>(f.offset,i.size))=some (fields.map fun f=>(f.offset,((P.info? f.type).map (·.size)).getD 0))
 | [],_=>rfl
 | f :: r,h=>by
  obtain ⟨i,hi⟩:=Vc (h f Wj);simp[List.mapM_cons,hi,Hj r fun g hg=>h g (Wk _ hg)]
theorem QU {R:Env} {L:Loc} {ρ:Operand->Value} (hr:∀ x,Rep R L (ev x) (ρ x)):∀ l:List (Nat×Operand),zx R L ((l.map fun p=>(p.1,ev p.2)).map (·.2)) ((l.map fun p=>(p.1,ρ p.2)).map (·.2))
 | []=>zm.2 rfl
 | x :: r=>zg.2 ⟨_,_,rfl,hr x.2,QU hr r⟩
theorem zbT (ho:o.op = .build t parts) (K:C->Prop) (h:zae P t (parts.toList.map fun p=>(p.1,ev p.2)) K):∃ c,zG P G bx ev nx o c nx/\K c:=by
 unfold zae at h;split at h
 ·rename_i fs s b z hl;obtain ⟨hall,h⟩:=h;obtain ⟨fields,hfu,hfk,hfs⟩:=V0 hl rfl;obtain ⟨i,d,hi,hd,_,_,_,hz⟩:=qk hl;split at h
  ·rename_i cs hfill;refine ⟨_,.of_same fun B R L ρ hf hr=>?_,h⟩;cases hiz:i.zero with
   | none=>simp[hiz]at hz
   | some zv =>
    simp only[hiz,Wu,Option.some.injEq]at hz;subst hz;obtain ⟨us,g1,g2⟩:=UF (R:=R) (L:=L) (fun i=>(fs[i]?).map fun f=>(f.1,f.2.1)) (parts.toList.map fun p=>(p.1,ev p.2)) (parts.toList.map fun p=>(p.1,ρ p.2)) (zv.cells.toList.map zD) zv.cells cs
     (YX _) (by simp) (QU hr _) (fun p hp=>Ws.1 hall p hp) hfill
    have hb:P.built t (parts.map fun p=>(p.1,ρ p.2)).toList=some us:=by
     unfold Program.built;rw[hi,hfu];simp only[hiz];rw[Hj _ hfk];simp only;have hpl:(fun x:Nat=>(fields.toList.map fun f=>(f.offset,((P.info? f.type).map (·.size)).getD 0)).toArray[x]?)=fun i:Nat=>(fs[i]?).map fun f:Nat×Nat×Bool=>(f.1,f.2.1):=by
      funext x;rw[hfs];simp only[Ah,Wy,Option.map_map]
      rfl
     rw[hpl,O5];exact g1
    have hrun:=run_build (P:=P) R.w t (parts.map fun p=>(p.1,ρ p.2)) us hb;refine ⟨.agg us,?_,Jd.2 ⟨us,rfl,g2⟩⟩;unfold execOp;simp only[ho];rw[Wm,hrun];rfl
  ·exact h.elim
 ·exact h.elim
def Q7 (k:Nat):Nat->List C->List (List C)
 | 0,_=>[]
 | n+1,cs=>cs.take k :: Q7 k n (cs.drop k)
theorem Uk (k:Nat):∀ (n:Nat) (cs:List C),(Q7 k n cs).length=n
 | 0,_=>rfl
 | n+1,cs=>by simp[Q7,Uk k n]
theorem xv (k:Nat):∀ (n:Nat) (cs:List C),n*k<=cs.length->∀ r∈Q7 k n cs,r.length=k
 | 0,_,_,r,h=>by cases h
 | n+1,cs,hl,r,h=>by
  rw[On]at hl;rcases WJ.1 h with rfl | h
  ·simp;omega
  ·exact xv k n _ (by simp;omega) r h
theorem Z4 (k:Nat):∀ (n:Nat) (cs:List C),cs.length=n*k->(Q7 k n cs).flatten=cs
 | 0,cs,h=>by simp at h;simp[Q7,h]
 | n+1,cs,h=>by
  rw[On]at h;simp only[Q7,OR];rw[Z4 k n _ (by simp;omega),W1]
def YS (P:Program) (t:TypeId) (n:Nat) (parts:List (Nat×C)) (nx:Nat) (K:C->Nat->Prop):Prop:=
 match lay P t with
 | some ⟨.slice e,_,_,_⟩=>match lay P e with
  | some ⟨_,k,_,some z⟩=>z.length=k/\0<k/\n*k<=16777216/\(parts.all fun p=>p.2.frz.partB)=true/\match Xz (fun i=>some (i*k,k)) (List.replicate n (z.map zD)).flatten (parts.map fun p=>(p.1,p.2.frz)) with
   | some cs=>(cs.all C.cellB)=true/\cs.length=n*k/\K (.own nx e k (Q7 k n cs)) (nx+1)
   | none=>False
  | _=>False
 | _=>False
theorem J3 {α:Type} (z:List α) (k:Nat) (hz:z.length=k):∀ (n p:Nat),p<n*k->(List.replicate n z).flatten[p]?=z[p % k]?
 | 0,p,h=>by simp at h
 | n+1,p,h=>by
  rw[AI,OR];rcases Wp p k with hp | hp
  ·rw[Wt (by omega),Nat.mod_eq_of_lt hp]
  ·rw[WK (by omega),J3 z k hz n (p-z.length) (by rw[On]at h;omega),hz];rw[←Nat.mod_eq_sub_mod hp]
theorem Xu (z:List α) (n:Nat):(List.replicate n z).flatten.length=n*z.length:=by
 induction n with
 | zero=>simp
 | succ n ih=>rw[AI,OR,Wn,ih,On];omega
theorem Qn (z:Array Value) (k n:Nat) (hz:z.size=k) (hk:0<k):zx R L (List.replicate n (z.toList.map zD)).flatten ((Array.range (n*k)).map (z[· % z.size]!)).toList:=by
 refine YL ?_ fun p c v hc hv=>?_
 ·rw[Xu];simp[hz]
 ·have hp:p<n*k:=by
   have:=(Wc.1 hv).1;simpa using this
  rw[J3 _ k (by simpa using hz) n p hp]at hc;rw[Wy]at hc;have hm:p % k<z.size:=by rw[hz];exact Nat.mod_lt _ hk
  have hv':v=z[p % z.size]!:=by
   simp[Wy,Array.getElem?_range,hp]at hv;exact hv.symm
  rw[hz]at hv';rw[BJ z (p % k) hm]at hv';have:z.toList[p % k]?=some z[p % k]:=by simp[hm]
  rw[this]at hc;simp at hc;subst hc hv';exact jX R L _
theorem kO {R:Env} {L:Loc} (L':Loc):∀ (l:List (Nat×C)) (vs:List Value),zx R L (l.map (·.2)) vs->zx R L' ((l.map fun p=>(p.1,p.2.frz)).map (·.2)) vs
 | [],_,h=>by simpa using zm.2 (zm.1 h)
 | p :: r,_,h=>by
  obtain ⟨v,us,rfl,h1,h2⟩:=zg.1 h;exact zg.2 ⟨v,us,rfl,h1.frz L',kO L' r us h2⟩
theorem X2 {R:Env} {L:Loc}:∀ {cs:List C} {vs:List Value},zx R L cs vs->cs.all C.cellB=true->∀ v∈vs,v.oneCell'=true
 | [],_,h,_,v,hv=>by rw[zm.1 h]at hv;cases hv
 | c :: r,_,h,ha,v,hv=>by
  obtain ⟨v0,us,rfl,h1,h2⟩:=zg.1 h;simp only[AO,Wo]at ha;rcases WJ.1 hv with rfl | hv
  ·exact h1.oneCell ha.1
  ·exact X2 h2 ha.2 v hv
theorem Ql (ho:o.op = .buildSlice t n parts) (K:C->Nat->Prop) (h:YS P t n (parts.toList.map fun p=>(p.1,ev p.2)) nx K):∃ c nx',zG P G bx ev nx o c nx'/\K c nx':=by
 unfold YS at h;split at h
 ·rename_i e s b zz hl;have ht:=qe hl rfl;split at h
  ·rename_i kd k by' z hle;obtain ⟨hzk,hk0,hsz,hall,h⟩:=h;split at h
   ·rename_i cs hfill;obtain ⟨hcb,hlen,hK⟩:=h;refine ⟨_,_,⟨by omega,fun B R L ρ hf hfree hr=>?_⟩,hK⟩;obtain ⟨i,d,hi,hd,h1,h2,h3,h4⟩:=qk hle;cases hiz:i.zero with
    | none=>simp[hiz]at h4
    | some zv =>
     simp only[hiz,Wu,Option.some.injEq]at h4;subst h4;have hzs:zv.cells.size=k:=by simpa using hzk
     obtain ⟨us,g1,g2⟩:=UF (R:=R) (L:=zU) (fun i=>some (i*k,k)) ((parts.toList.map fun p=>(p.1,ev p.2)).map fun p=>(p.1,p.2.frz)) (parts.toList.map fun p=>(p.1,ρ p.2)) _ ((Array.range (n*k)).map (zv.cells[· % zv.cells.size]!)) cs
      (Qn zv.cells k n hzs hk0) (by simp) (kO zU _ _ (QU hr _)) (fun p hp=>by
       obtain ⟨q,hq,rfl⟩:=WQ.1 hp;exact Ws.1 hall q hq) hfill
     have husz:us.size=n*k:=by have:=zy g2;simp at this;omega
     have hrun:(execOp ρ o).run P R.w = .ok (.value (.slice (some ⟨R.w.heap.size,0,none⟩) n n)) (R.w.alloc (.cells us e)):=by
      have hss:(sizeOf e).run P R.w = .ok k R.w:=by simp[sizeOf,typeInfo,hi,←h2]
      have hzz:(zeroValue e).run P R.w = .ok zv R.w:=by simp[zeroValue,typeInfo,hi,hiz]
      unfold execOp;simp only[ho,Instr.buildSlice,Wm,WD ht,Wh,hss];rw[if_neg (show ¬n*k>2 ^ 24 by omega)];by_cases hn:n*k=0
      ·have hn0:n=0:=by
        rcases Nat.mul_eq_zero.1 hn with h | h
        ·exact h
        ·omega
       subst hn0;have hz0:(Array.map (fun x=>(#[]:Array Value)[x % (#[]:Array Value).size]!) (Array.range (0*k)))=(Array.range (0*k)).map (zv.cells[· % zv.cells.size]!):=by simp[Array.range_zero']
       simp only[if_pos hn,WA,Wm,Wh,hz0,O5,g1];simp[newRow]
      ·simp only[if_neg hn,WA,Wm,Wh,hzz,O5,g1];simp[newRow]
     have hrl:=Uk k n cs;obtain ⟨R',L',w1,w2,w3⟩:=own_new (R:=R) (L:=L) (w':=R.w.alloc (.cells us e)) (g:=R.w.heap.size) (cap:=n) (e:=e) (k:=k) (nx:=nx) (cur:=us) (rows:=Q7 k n cs) (vs:=us.toList) hf.β_lt
      ((Ob _ _).alloc (Wb _) _) (Wb _) (OH _ _) husz (xv k n cs (by omega)) (by rw[Z4 k n cs hlen];exact g2) (X2 g2 hcb)
      (by rw[hrl,Wg (by simp[husz])]) (by omega) (by
       have:n<=n*k:=Nat.le_mul_of_pos_right n hk0;unfold maxLen;omega)
     rw[hrl]at w3;exact jv.value hrun ⟨R',L',w1,w2,w3⟩
   ·exact h.elim
  ·exact h.elim
 ·exact h.elim
def vf (P:Program) (t:TypeId) (nx:Nat) (K:C->Nat->Prop):Prop:=
 match lay P t with
 | some ⟨.slice e,_,_,_⟩=>match lay P e with
  | some ⟨_,k,_,some z⟩=>z.length=k/\0<k/\K (.tight k []) nx
  | _=>False
 | _=>False
def Nm (P:Program) (t:TypeId) (n:Nat) (parts:List (Nat×C)) (nx:Nat) (K:C->Nat->Prop):Prop:=
 match n,parts with
 | 0,[]=>vf P t nx K
 | n,ps=>YS P t n ps nx K
theorem ui (ho:o.op = .buildSlice t 0 #[]) (K:C->Nat->Prop) (h:vf P t nx K):∃ c nx',zG P G bx ev nx o c nx'/\K c nx':=by
 unfold vf at h;split at h
 ·rename_i e s b zz hl;have ht:=qe hl rfl;split at h
  ·rename_i kd k by' z hle;obtain ⟨hzk,hk0,hK⟩:=h;refine ⟨_,_,⟨Wb _,fun B R L ρ hf hfree hr=>?_⟩,hK⟩;obtain ⟨i,d,hi,hd,h1,h2,h3,h4⟩:=qk hle;have hrun:(execOp ρ o).run P R.w = .ok (.value (.slice (some ⟨R.w.heap.size,0,none⟩) 0 0)) (R.w.alloc (.cells #[] e)):=by
    have hss:(sizeOf e).run P R.w = .ok k R.w:=by simp[sizeOf,typeInfo,hi,←h2]
    unfold execOp;simp only[ho,Instr.buildSlice,Wm,WD ht,Wh,hss];simp[newRow,Instr.fill,Array.range_zero']
   have hb:Below R.w.heap.size R.w (R.w.alloc (.cells #[] e)):=(Ob _ _).alloc (Wb _) _;exact jv.value hrun ⟨_,L,rfl,qK.mem hb,Jy.2 ⟨_,rfl,Wd _,.inl rfl⟩⟩
  ·exact h.elim
 ·exact h.elim
theorem uy (ho:o.op = .buildSlice t n parts) (K:C->Nat->Prop) (h:Nm P t n (parts.toList.map fun p=>(p.1,ev p.2)) nx K):∃ c nx',zG P G bx ev nx o c nx'/\K c nx':=by
 unfold Nm at h;split at h
 ·rename_i hp;have e:parts = #[]:=by
   have:=List.map_eq_nil_iff.1 hp;cases parts;simp at this;subst this;rfl
  subst e;exact ui ho K h
 ·exact Ql ho K h
def zeO (P:Program) (t:TypeId) (l c:C) (nx:Nat) (K:C->Nat->Prop):Prop:=
 match lay P t,l,c with
 | some ⟨.slice e,_,_,_⟩,.sc (.int _ l),.sc (.int _ c)=>match lay P e with
  | some ⟨_,k,by',some z⟩=>z.length=k/\0<k/\(z.all Value.oneCell')=true/\0<=l/\l<=c/\(by':Int)*c<=281474976710656/\c<=9223372036854775807/\K (.own nx e k (List.replicate l.toNat (z.map zD))) (nx+1)
  | _=>False
 | _,_,_=>False
theorem ze5 {l c:Operand} (ho:o.op = .makeSlice t l c) (K:C->Nat->Prop) (h:zeO P t (ev l) (ev c) nx K):∃ c nx',zG P G bx ev nx o c nx'/\K c nx':=by
 unfold zeO at h;split at h
 ·rename_i e s b zz k1 l' k2 c' hl hev1 hev2;have ht:=qe hl rfl;split at h
  ·rename_i kd k by' z hle;obtain ⟨hzk,hk0,hone,h0,hlc,hby,h63,hK⟩:=h;refine ⟨_,_,⟨by omega,fun B R L ρ hf hfree hr=>?_⟩,hK⟩;obtain ⟨i,d,hi,hd,h1,h2,h3,h4⟩:=qk hle;cases hiz:i.zero with
   | none=>simp[hiz]at h4
   | some zv =>
    simp only[hiz,Wu,Option.some.injEq]at h4;subst h4;have hzs:zv.cells.size=k:=by simpa using hzk
    have hx:=hr l;rw[hev1,zp]at hx;have hy:=hr c;rw[hev2,zp]at hy;have hrun:=run_make (P:=P) R.w t e i zv ht hi hiz k1 k2 l' c' h0 hlc (by rw[←h3];exact hby) h63;have hrep:=Qn (R:=R) (L:=zU) zv.cells k l'.toNat hzs hk0;have hle2:l'.toNat<=c'.toNat:=by omega
    have hlk:l'.toNat*k<=c'.toNat*k:=WM _ hle2;have hks:i.size=k:=h2.symm;obtain ⟨R',L',w1,w2,w3⟩:=own_new (R:=R) (L:=L) (w':=R.w.alloc (.cells (madeCells zv.cells (c'.toNat*k)) e)) (g:=R.w.heap.size) (cap:=c'.toNat) (e:=e) (k:=k) (nx:=nx) (cur:=madeCells zv.cells (c'.toNat*k)) (rows:=List.replicate l'.toNat (zv.cells.toList.map zD))
     (vs:=((Array.range (l'.toNat*k)).map (zv.cells[· % zv.cells.size]!)).toList) hf.β_lt
     ((Ob _ _).alloc (Wb _) _) (Wb _) (OH _ _) (size_madeCells _ _) (fun r hr=>by rw[List.eq_of_mem_replicate hr];simpa using hzs) hrep
     (fun v hv=>by
      simp only[O5,WQ]at hv;obtain ⟨p,hp,rfl⟩:=hv;have hm:p % zv.cells.size<zv.cells.size:=Nat.mod_lt _ (by omega);rw[BJ zv.cells _ hm];exact Ws.1 hone _ (by simp))
     (by
      simp only[madeCells,AU];apply OX;intro p;rw[WF];simp only[O5,Wy,Array.toList_range,BG];by_cases hp:p<l'.toNat*k
      ·rw[if_pos hp,BG (by omega),BG hp]
      ·rw[if_neg hp,WY (by simp;omega)];rfl)
     (by simp;omega) (by unfold maxLen;omega)
    rw[AU]at w3;refine jv.value ?_ ⟨R',L',w1,w2,w3⟩;unfold execOp;simp only[ho,hx,hy];rw[Wm,hrun,hks];rfl
  ·exact h.elim
 ·exact h.elim
end
end
section
open Go.RowKit Go.MapKept
inductive MKd where
 | int (k:IntKind)
 | str
def MKd.nil:MKd->MK
 | .int k=>.int k []
 | .str=>.str []
def zct:Value->C
 | .agg vs=>.agg (vs.toList.map zD)
 | v=>zD v
def zdj (P:Program) (t:TypeId):Option (MKd×C):=
 match P.underlying t with
 | some (.map kt et)=>match P.underlying kt,(P.info? et).bind (·.zero) with
  | some (.int k),some z=>some (.int k,zct z)
  | some .string,some z=>some (.str,zct z)
  | _,_=>none
 | _=>none
theorem xE (R:Env) (L:Loc) (v:Value):Rep R L (zct v) v:=by
 unfold zct;split
 ·exact Jd.2 ⟨_,rfl,YX _⟩
 ·exact jX R L _
theorem Xw {kd:MKd} {z:C} (h:zdj P t=some (kd,z)):∃ kt et i zv,P.underlying t=some (.map kt et)/\P.info? et=some i/\i.zero=some zv/\z=zct zv /\
  ((∃ k,kd = .int k/\P.underlying kt=some (.int k))∨(kd = .str/\P.underlying kt=some .string)):=by
 unfold zdj at h;split at h
 ·rename_i kt et ht;split at h
  ·rename_i k zv hk hz;cases h;cases hi:P.info? et with
   | none=>rw[hi]at hz;cases hz
   | some i=>rw[hi]at hz;exact ⟨kt,et,i,zv,ht,hi,hz,rfl,.inl ⟨k,rfl,hk⟩⟩
  ·rename_i zv hk hz;cases h;cases hi:P.info? et with
   | none=>rw[hi]at hz;cases hz
   | some i=>rw[hi]at hz;exact ⟨kt,et,i,zv,ht,hi,hz,rfl,.inr ⟨rfl,hk⟩⟩
  ·cases h
 ·cases h
def Q0 {α:Type} [DecidableEq α] (a:α):List α->Option Nat
 | []=>none
 | k :: ks=>if k=a then some 0 else (Q0 a ks).map (·+1)
def H8 {α:Type} [DecidableEq α] (a:α) (l:List α) (vs:List C):Option C:=match Q0 a l with
 | some j=>vs[j]?
 | none=>none
def VV {α:Type} [DecidableEq α] (a:α) (c:C) (l:List α) (vs:List C):List α×List C:=match Q0 a l with
 | some j=>(l,vs.set j c)
 | none=>(l++[a],vs++[c])
theorem GF {α:Type} [DecidableEq α] {a:α}:∀ {l:List α} {j:Nat},Q0 a l=some j->l[j]?=some a
 | [],j,h=>by cases h
 | k :: ks,j,h=>by
  unfold Q0 at h;split at h
  ·cases h;subst_vars;rfl
  ·cases hq:Q0 a ks with
   | none=>rw[hq]at h;cases h
   | some i =>
    rw[hq]at h;cases h;simpa using GF hq
theorem Qo {α:Type} [DecidableEq α] {kd:TypeDesc} {kv:α->Value} (hk:∀ a b,Instr.sameNow kd (kv a) (kv b)=some (decide (a=b))) (a:α):∀ (es:List MapEntry) (l:List α) (i:Nat),es.map (·.key)=l.map kv ->
  Instr.findNow kd (kv a) es i=some ((Q0 a l).bind fun j=>(es[j]?).map fun e=>(i+j,e.val))
 | [],[],i,_=>rfl
 | [],_ :: _,i,h=>by cases h
 | _ :: _,[],i,h=>by cases h
 | e :: es,k :: ks,i,h=>by
  simp only[WC,List.cons.injEq]at h;unfold Instr.findNow Q0;rw[h.1,hk];by_cases hak:a=k
  ·subst hak;simp
  ·have hka:¬k=a:=fun e=>hak e.symm;simp only[hak,decide_false,hka,Ol];rw[Qo hk a es ks (i+1) h.2];cases Q0 a ks with
   | none=>rfl
   | some j=>simp[Bj,Nat.add_comm 1 j]
theorem zax {r:Bool} {p:Prop} [Decidable p] (h:r=true↔p):r=decide p:=by
 cases r with
 | true=>exact (Wl (h.1 rfl)).symm
 | false=>exact (Wi fun hp=>Bool.noConfusion (h.2 hp)).symm
theorem zaB (k:IntKind) (a b:Int):Instr.sameNow (.int k) (.int k a) (.int k b)=some (decide (a=b)):=by
 obtain ⟨r,h1,h2⟩:=sameNow_of_keys (d:=.int k) (a:=.int k a) (b:=.int k b) (by simp[IsKey]) (by simp[IsKey]);rw[h1,zax (h2.trans ⟨fun h=>(Value.int.inj h).2,fun h=>by rw[h]⟩)]
theorem Nb (a b:Lz):Instr.sameNow .string (.string ⟨a.toArray⟩) (.string ⟨b.toArray⟩)=some (decide (a=b)):=by
 obtain ⟨r,h1,h2⟩:=sameNow_of_keys (d:=.string) (a:=.string ⟨a.toArray⟩) (b:=.string ⟨b.toArray⟩) (by simp[IsKey]) (by simp[IsKey]);rw[h1,zax (h2.trans ⟨fun h=>by simpa using ByteArray.mk.inj (Value.string.inj h),fun h=>by rw[h]⟩)]
theorem Ge (P:Program) (o:Obj) (w:World):(newObj o).run P w = .ok w.heap.size (w.alloc o):=rfl
theorem Vz {r:Nat} {es:Array MapEntry} {cl:Nat} (hb:w.heap[r]?=some (.map es cl)):(getObj r).run P w = .ok (.map es cl) w:=by simp[getObj,Sem.run,hb]
theorem Gh {r:Nat} {es:Array MapEntry} {cl:Nat} (o:Obj) (hb:w.heap[r]?=some (.map es cl)):(setObj r o).run P w = .ok () (w.putObj r o):=by simp[setObj,Sem.run,hb,World.putObj]
section
variable {P:Program} {G:zq} {bx:List (List C)} {ev:Operand->C} {nx:Nat} {o:Oper}
def NN (P:Program) (t:TypeId) (r:Option C) (nx:Nat) (K:C->Nat->Prop):Prop:=
 match zdj P t with
 | some (kd,_)=>match r with
  | none=>K (.mo nx t kd.nil []) (nx+1)
  | some (.sc (.int _ _))=>K (.mo nx t kd.nil []) (nx+1)
  | _=>False
 | none=>False
theorem zkN (kd:MKd):kd.nil.vals = []:=by cases kd<;>rfl
theorem zn8 (hβ:∀ b∈L.β,b<R.w.heap.size) (t:TypeId) (kd:MKd) :
  ∃ R' L',R'.w=R.w.alloc (.map #[] 0)/\qK nx (nx+1) R L R' L'/\Rep R' L' (.mo nx t kd.nil []) (.map (some R.w.heap.size)):=by
 have hb:Below R.w.heap.size R.w (R.w.alloc (.map #[] 0)):=(Ob _ _).alloc (Wb _) _;refine ⟨⟨R.w.alloc (.map #[] 0),R.M,R.F⟩,⟨L.β,fun id=>if id=nx then some (t,0,Hi R.w.heap.size [] []) else L.T id⟩,rfl,⟨hb,rfl,rfl,fun b o h=>Iff.rfl,fun id hi=>if_neg (by omega),fun id e' k' v' hi hi2 h=>?_,fun id id' e1 k1 v1 e2 k2 v2 b h1 h2 h3 h4 _ _ _ _=>by omega⟩,?_⟩
 ·simp only at h;rw[if_pos (by omega)]at h;cases h;exact .inr (.inr ⟨R.w.heap.size,#[],[],[],rfl,Wb _,OH _ _,fun hx=>by have:=hβ _ hx;omega,rfl,rfl,fun i e hi=>by simp at hi⟩)
 ·unfold Rep;exact ⟨_,[],rfl,by rw[zkN];exact if_pos rfl,zm.2 rfl⟩
theorem Mj {r:Option Operand} (ho:o.op = .makeMap t r) (K:C->Nat->Prop) (h:NN P t (r.map ev) nx K):∃ c nx',zG P G bx ev nx o c nx'/\K c nx':=by
 unfold NN at h;split at h<;>try exact h.elim
 rename_i kd z hm;obtain ⟨kt,et,i,zv,ht,_⟩:=Xw hm;have key:(∀ (R:Env) (L:Loc) (ρ:Operand->Value),(∀ x,Rep R L (ev x) (ρ x))->(execOp ρ o).run P R.w = .ok (.value (.map (some R.w.heap.size))) (R.w.alloc (.map #[] 0)))->K (.mo nx t kd.nil []) (nx+1)->∃ c nx',zG P G bx ev nx o c nx'/\K c nx':=fun hrun hK =>
  ⟨_,_,⟨by omega,fun B R L ρ hf _ hr=>by
   obtain ⟨R',L',e1,e2,e3⟩:=zn8 (nx:=nx) hf.β_lt t kd;exact jv.value (hrun R L ρ hr) ⟨R',L',e1,e2,e3⟩⟩,hK⟩
 cases r with
 | none=>exact key (fun R L ρ hr=>by unfold execOp;simp[ho,Instr.makeMap,Ge]) h
 | some x =>
  simp only[Wu]at h;split at h<;>try exact h.elim
  ·rename_i h0;cases h0
  ·rename_i q n h0;have h0:ev x = .sc (.int q n):=by simpa using h0
   exact key (fun R L ρ hr=>by
    have hx:=hr x;rw[h0,zp]at hx;unfold execOp;simp[ho,Instr.makeMap,Ge,WD ht,hx,asInt,asIntOf]) h
def Gf (r:Option C) (z:C) (ok:Bool) (K:C->Prop):Prop:=match r,ok with
 | some c,true=>K (.tup [c,.sc (.bool true)])
 | some c,false=>K c
 | none,true=>K (.tup [z,.sc (.bool false)])
 | none,false=>K z
def zmG (P:Program) (t:TypeId) (m key:C) (ok:Bool) (K:C->Prop):Prop:=
 match zdj P t with
 | some (.int k,z)=>match m,key with
  | .mo _ t' (.int k' l) vs,.sc (.int q n)=>t'=t/\k'=k/\q=k/\Gf (H8 n l vs) z ok K
  | _,_=>False
 | some (.str,z)=>match m,key with
  | .mo _ t' (.str l) vs,.str s=>t'=t/\Gf (H8 s l vs) z ok K
  | _,_=>False
 | none=>False
theorem Fit.map (hf:Fit G B bx R L) {id:Nat} {t:TypeId} {ks:MK} {vs:List C} {v:Value} (h:Rep R L (.mo id t ks vs) v) :
  ∃ b es,v = .map (some b)/\R.w.heap[b]?=some (.map es es.size)/\es.toList.map (·.key)=ks.vals/\zx R ⟨L.β,fun _=>none⟩ vs (es.toList.map (·.val)):=by
 unfold Rep at h;obtain ⟨b,vvs,e,ht,hl⟩:=h;rcases hf.owns.own id _ _ _ ht with g | ⟨g,n,cap,cur,ty,q1,_⟩ | ⟨g,es,kvs,vvs',q1,q2,q3,q4,q5,q6,q7⟩
 ·unfold Hi at g;cases g
 ·unfold Hi at q1;cases q1
 ·obtain ⟨rfl,rfl,rfl⟩:=NK q1;exact ⟨b,es,e,q3,q5,by rw[q6];exact hl⟩
theorem Vi {i:TypeInfo} {zv:Value} (hi:P.info? t=some i) (hz:i.zero=some zv) (w:World):(zeroValue t).run P w = .ok zv w:=by simp[zeroValue,typeInfo,hi,hz]
theorem uO [DecidableEq α] {kd:TypeDesc} {kv:α->Value} (hk:∀ a b,Instr.sameNow kd (kv a) (kv b)=some (decide (a=b))) (hchk:∀ (e:Bool) (kt:TypeId) (a:α) (w:World),P.underlying kt=some kd->(Instr.checkKey e 10000 kt (kv a)).run P w = .ok () w)
  {t kt et:TypeId} {i:TypeInfo} {zv:Value} (ht:P.underlying t=some (.map kt et)) (hkt:P.underlying kt=some kd) (hi:P.info? et=some i) (hz:i.zero=some zv) {w:World} {b:Nat} {es:Array MapEntry} {cl:Nat} (hb:w.heap[b]?=some (.map es cl)) (a:α) (l:List α) (hl:es.toList.map (·.key)=l.map kv) (ok:Bool) :
  (Instr.lookup t (.map (some b)) (kv a) ok).run P w = .ok (match (Q0 a l).bind fun j=>es.toList[j]? with | some e=>if ok then .tuple #[e.val,.bool true] else e.val | none=>if ok then .tuple #[zv,.bool false] else zv) w:=by
 have hf:=Qo hk a es.toList l 0 hl;unfold Instr.lookup;simp only[Wm,WD ht,Wh,Vz hb,WA,hchk _ kt a w hkt,Instr.findKey,WD hkt,hf];cases hm:Q0 a l with
 | none =>
  simp only[Option.bind_none,WA,Wh,Wm,Vi hi hz]
  first | done | (cases ok<;>rfl)
 | some j =>
  simp only[AC];cases he:es.toList[j]? with
  | none =>
   simp only[WX,WA,Wh,Wm,Vi hi hz]
   first | done | (cases ok<;>rfl)
  | some e =>
   simp only[Wu,WA,Wh,Wm]
   first | done | (cases ok<;>rfl)
theorem MI {k:IntKind} (e:Bool) (kt:TypeId) (a:Int) (w:World) (h:P.underlying kt=some (.int k)):(Instr.checkKey e 10000 kt (.int k a)).run P w = .ok () w:=by
 unfold Instr.checkKey;simp only[Wm,WD h,Wh,WA]
theorem xB (e:Bool) (kt:TypeId) (a:Lz) (w:World) (h:P.underlying kt=some .string):(Instr.checkKey e 10000 kt (.string ⟨a.toArray⟩)).run P w = .ok () w:=by
 unfold Instr.checkKey;simp only[Wm,WD h,Wh,WA]
theorem zaC [DecidableEq α] {a:α} {l:List α} {vs:List C} {zv:Value} {ok:Bool} {K:C->Prop} (h:Gf (H8 a l vs) (zct zv) ok K) :
  ∃ c,K c/\∀ (R:Env) (L:Loc) (es:List MapEntry),l.length=es.length->zx R ⟨L.β,fun _=>none⟩ vs (es.map (·.val))->Rep R L c (match (Q0 a l).bind fun j=>es[j]? with | some e=>if ok then .tuple #[e.val,.bool true] else e.val | none=>if ok then .tuple #[zv,.bool false] else zv):=by
 have tup:∀ (R:Env) (L:Loc) (c:C) (v:Value) (q:Bool),Rep R L c v->Rep R L (.tup [c,.sc (.bool q)]) (.tuple #[v,.bool q]):=fun R L c v q hc=>VL.2 ⟨#[v,.bool q],rfl,zg.2 ⟨v,_,rfl,hc,zg.2 ⟨.bool q,[],rfl,zp.2 rfl,zm.2 rfl⟩⟩⟩;unfold H8 at h;cases hm:Q0 a l with
 | none =>
  rw[hm]at h;cases ok with
  | true=>exact ⟨_,h,fun R L es _ _=>tup _ _ _ _ _ (xE R L zv)⟩
  | false=>exact ⟨_,h,fun R L es _ _=>xE R L zv⟩
 | some j =>
  rw[hm]at h;simp only at h;have hj:j<l.length:=(Wc.1 (GF hm)).1;cases hv:vs[j]? with
  | none =>
   rw[hv]at h;have hno:∀ (R:Env) (L:Loc) (es:List MapEntry),l.length=es.length->zx R ⟨L.β,fun _=>none⟩ vs (es.map (·.val))->False:=fun R L es he hr=>by
    have hvl:=zy hr;rw[We]at hvl;rw[List.getElem?_eq_none_iff]at hv;omega
   cases ok with
   | true=>exact ⟨_,h,fun R L es he hr=>(hno R L es he hr).elim⟩
   | false=>exact ⟨_,h,fun R L es he hr=>(hno R L es he hr).elim⟩
  | some c =>
   rw[hv]at h;have hc:∀ (R:Env) (L:Loc) (es:List MapEntry),l.length=es.length->zx R ⟨L.β,fun _=>none⟩ vs (es.map (·.val))->∃ e,es[j]?=some e/\Rep R L c e.val:=fun R L es he hr=>by
    obtain ⟨v,e1,e2⟩:=JF hr j c hv;rw[Wy]at e1;cases hq:es[j]? with
    | none=>rw[hq]at e1;cases e1
    | some e=>rw[hq]at e1;cases e1;exact ⟨e,rfl,Rep.ext (Ext.refl _) (T:=⟨L.β,fun _=>none⟩) (T':=L) ⟨fun _ _ h=>h,fun _ _ h=>by cases h⟩ _ _ e2⟩
   cases ok with
   | true=>exact ⟨_,h,fun R L es he hr=>by
     obtain ⟨e,e1,e2⟩:=hc R L es he hr;simp only[AC,e1];exact tup _ _ _ _ _ e2⟩
   | false=>exact ⟨_,h,fun R L es he hr=>by
     obtain ⟨e,e1,e2⟩:=hc R L es he hr;simp only[AC,e1];exact e2⟩
theorem zeY {m k:Operand} {ok:Bool} (ho:o.op = .lookup t m k ok) (K:C->Prop) (h:zmG P t (ev m) (ev k) ok K):∃ c,zG P G bx ev nx o c nx/\K c:=by
 unfold zmG at h;split at h
 ·rename_i q z hm;obtain ⟨kt,et,i,zv,ht,hi,hz,rfl,hk⟩:=Xw hm;rcases hk with ⟨k0,hk0,hkt⟩ | ⟨hk0,_⟩
  ·cases hk0;split at h<;>try exact h.elim
   rename_i id t' k' l vs q' n hev hek;obtain ⟨rfl,rfl,rfl,h⟩:=h;obtain ⟨c,hK,hc⟩:=zaC h;refine ⟨c,.of_same fun B R L ρ hf hr=>?_,hK⟩;have hx:=hr m;rw[hev]at hx;have hy:=hr k;rw[hek,zp]at hy;obtain ⟨b,es,e1,e2,e3,e4⟩:=hf.map hx;refine ⟨_,?_,hc R L es.toList (by have:=Wv List.length e3;simpa [MK.vals] using this.symm) e4⟩;unfold execOp;simp only[ho,e1,hy];rw[Wm,uO (zaB _) MI ht hkt hi hz e2 n l e3 ok]
   rfl
  ·cases hk0
 ·rename_i z hm;obtain ⟨kt,et,i,zv,ht,hi,hz,rfl,hk⟩:=Xw hm;rcases hk with ⟨k0,hk0,_⟩ | ⟨_,hkt⟩
  ·cases hk0
  ·split at h<;>try exact h.elim
   rename_i id t' l vs s hev hek;obtain ⟨rfl,h⟩:=h;obtain ⟨c,hK,hc⟩:=zaC h;refine ⟨c,.of_same fun B R L ρ hf hr=>?_,hK⟩;have hx:=hr m;rw[hev]at hx;have hy:=hr k;rw[hek,qc]at hy;obtain ⟨b,es,e1,e2,e3,e4⟩:=hf.map hx;refine ⟨_,?_,hc R L es.toList (by have:=Wv List.length e3;simpa [MK.vals] using this.symm) e4⟩;unfold execOp;simp only[ho,e1,hy];rw[Wm,uO Nb xB ht hkt hi hz e2 s l e3 ok]
   rfl
 ·exact h.elim
def zm4 (P:Program) (t t':TypeId) (vs:List C) (K:C->Prop):Prop:=
 match zdj P t with
 | some _=>K (.sc (.int .i64 (vs.length:Int)))
 | none=>False
theorem zfH {t':TypeId} {id:Nat} {ks:MK} {vs:List C} (ho:o.op = .call { callee:=.builtin .len,args:=#[x],argTypes:=#[t] }) (hev:ev x = .mo id t' ks vs) (K:C->Prop) (h:zm4 P t t' vs K):∃ c,zG P G bx ev nx o c nx/\K c:=by
 unfold zm4 at h;split at h<;>try exact h.elim
 rename_i q hm;obtain ⟨kt,et,i,zv,ht,_⟩:=Xw (kd:=q.1) (z:=q.2) hm;refine ⟨_,.of_same fun B R L ρ hf hr=>?_,h⟩;have hx:=hr x;rw[hev]at hx;obtain ⟨b,es,e1,e2,e3,e4⟩:=hf.map hx;have hl:=zy e4;rw[We,WS]at hl;refine ⟨.int .i64 (vs.length:Int),?_,zp.2 rfl⟩;have hrun:(Builtin.len_ #[t] o.type #[.map (some b)]).run P R.w = .ok (goInt es.size) R.w:=by
  simp[Builtin.len_,WD ht,Vz e2]
 unfold execOp;simp only[ho,resolve,invoke,builtin,Wm,WA,Wh,OC,WC,Oo,e1,hrun,hl]
 rfl
end
end
section
open Go.RowKit
section
variable {P:Program} {G:zq} {bx:List (List C)} {ev:Operand->C} {nx:Nat} {o:Oper}
def Yl (l:Lz):List (List C):=l.map fun b=>[.sc (.int .u8 (b.toNat:Int))]
def zil (P:Program) (s d:TypeId) (c:C) (K:C->Prop):Prop:=
 match lay P d with
 | some ⟨.int k,_,_,_⟩=>match c with
  | .sc (.int _ n)=>match lay P s with | some _=>inR k n/\K (.sc (.int k n)) | none=>False
  | _=>False
 | some ⟨.str,_,_,_⟩=>match lay P s with
  | some ⟨.str,_,_,_⟩=>match c with
   | .str l=>K (.str l)
   | _=>False
  | some ⟨.slice e,_,_,_⟩=>match lay P e with
   | some ⟨.int .u8,_,_,_⟩=>match c.rows? 1 with
    | some rows=>∃ l,rows=Yl l/\K (.str l)
    | none=>False
   | _=>False
  | some ⟨.int _,_,_,_⟩=>match c with
   | .sc (.int _ n)=>K (.str (Utf8.encode n).data.toList)
   | _=>False
  | _=>False
 | some ⟨.slice e,_,_,_⟩=>match lay P s,lay P e with
  | some ⟨.str,_,_,_⟩,some ⟨.int .u8,_,_,_⟩=>match c with
   | .str l=>((l.length:Nat):Int)<=9223372036854775807/\K (.sl 1 (Yl l))
   | _=>False
  | _,_=>False
 | _=>False
def zgV (P:Program) (bx:List (List C)) (s d:TypeId) (i off n:Nat) (K:C->Prop):Prop:=
 match lay P d,lay P s with
 | some ⟨.str,_,_,_⟩,some ⟨.slice e,_,_,_⟩=>match lay P e with
  | some ⟨.int .u8,_,_,_⟩=>match bx[i]? with
   | some cs=>∃ l:Lz,l.length=n/\(cs.drop off).take n=l.map (fun b=>C.sc (.int .u8 (b.toNat:Int)))/\K (.str l)
   | none=>False
  | _=>False
 | _,_=>False
def zbe (P:Program) (bx:List (List C)) (s d:TypeId) (c:C) (K:C->Prop):Prop:=
 match c with
 | .bs i off _ n _=>zgV P bx s d i off n K
 | c=>zil P s d c K
theorem zkC {o:Nat}:∀ {l:Lz},zW R (Yl l) 1 b o->∀ j (hj:j<l.length),R.w.cell? ((⟨b,o,none⟩:Addr).add j)=some (.int .u8 (l[j].toNat:Int)):=fun {l} h j hj=>by
 obtain ⟨_,h2⟩:=jE h j [.sc (.int .u8 (l[j].toNat:Int))] (by simp[Yl,Wa hj]);obtain ⟨⟨v,h3,_,h4,_⟩,_⟩:=qq.1 h2;rw[zp]at h4;subst h4;rw[Addr.add_none];simpa using h3
theorem zfr {s d:TypeId} (ho:o.op = .convert s d x) (K:C->Prop) (h:zil P s d (ev x) K):∃ c,zG P G bx ev nx o c nx/\K c:=by
 unfold zil at h;split at h
 ·rename_i k s1 b1 z1 hd;have hu:=VF hd rfl;split at h
  ·rename_i k0 n hev;split at h<;>try exact h.elim
   rename_i Ls hls;refine ⟨_,.of_same fun B R L ρ hf hr=>?_,h.2⟩;have hx:=hr x;rw[hev,zp]at hx;obtain ⟨ds,hds⟩:=AF.mp (ziy hls);refine ⟨.int k n,?_,zp.2 rfl⟩;unfold execOp;simp[ho,hx,convert,WD hds,WD hu,Conv.intToInt,Q3 h.1]
  ·exact h.elim
 ·rename_i s1 b1 z1 hd;have hu:=Zg hd rfl;split at h
  ·rename_i s2 b2 z2 hs;have hus:=Zg hs rfl;split at h
   ·rename_i l hev;refine ⟨_,.of_same fun B R L ρ hf hr=>?_,h⟩;have hx:=hr x;rw[hev,qc]at hx;refine ⟨.string ⟨l.toArray⟩,?_,qc.2 rfl⟩;unfold execOp;simp[ho,hx,convert,WD hus,WD hu]
   ·exact h.elim
  ·rename_i e s2 b2 z2 hs;have hus:=qe hs rfl;split at h
   ·rename_i s3 b3 z3 he;have hue:=VF he rfl;split at h
    ·rename_i rows hrows;obtain ⟨l,rfl,hK⟩:=h;refine ⟨_,.of_same fun B R L ρ hf hr=>?_,hK⟩;obtain ⟨a,cap,e1,h1,h2,h3⟩:=(hr x).rows hrows;have hlen:(Yl l).length=l.length:=by simp[Yl]
     refine ⟨.string ⟨l.toArray⟩,?_,qc.2 rfl⟩;have hrun:(convert s d (ρ x)).run P R.w = .ok (.string ⟨l.toArray⟩) R.w:=by
      rw[e1,hlen];cases a with
      | none =>
       have hl0:l = []:=by
        rcases h3 with h3 | ⟨b,o,h3,_⟩
        ·simpa [Yl] using h3
        ·cases h3
       subst hl0;exact run_convert_bytes_nil R.w s e hus hue _ _ d hu
      | some ad =>
       refine run_convert_bytes_back R.w s d e ad cap l hus hue hu fun j hj=>?_;rcases h3 with h3 | ⟨b,o,h3,h4⟩
       ·have:l = []:=by simpa [Yl] using h3
        subst this;simp at hj
       ·cases h3;exact zkC h4 j hj
     unfold execOp;simp only[ho];rw[Wm,hrun];rfl
    ·exact h.elim
   ·exact h.elim
  ·rename_i k2 s2 b2 z2 hs;have hus:=VF hs rfl;split at h
   ·rename_i k0 n hev;refine ⟨_,.of_same fun B R L ρ hf hr=>?_,h⟩;have hx:=hr x;rw[hev,zp]at hx;refine ⟨.string (Utf8.encode n),?_,qc.2 (by simp)⟩;unfold execOp;simp[ho,hx,convert,WD hus,WD hu,Conv.intToString]
   ·exact h.elim
  ·exact h.elim
 ·rename_i e s1 b1 z1 hd;have hu:=qe hd rfl;split at h
  ·rename_i s2 b2 z2 s3 b3 z3 hs he;have hus:=Zg hs rfl;have hue:=VF he rfl;split at h
   ·rename_i l hev;obtain ⟨hsz,hK⟩:=h;refine ⟨_,⟨Wb _,fun B R L ρ hf hfree hr=>?_⟩,hK⟩;have hx:=hr x;rw[hev,qc]at hx;have hls:(ByteArray.mk l.toArray).size=l.length:=by simp[ByteArray.size]
    have hrun:=run_bytes_of_string (P:=P) R.w s d e ⟨l.toArray⟩ hus hu hue;have hbelow:Below R.w.heap.size R.w (R.w.drew.alloc (.cells (bytesRow ⟨l.toArray⟩ (grownCap R.w (ByteArray.mk l.toArray).size 0 e)) e ((bytesRow ⟨l.toArray⟩ (grownCap R.w (ByteArray.mk l.toArray).size 0 e)).size,(bytesRow ⟨l.toArray⟩ (grownCap R.w (ByteArray.mk l.toArray).size 0 e)).size+1))):=
     ((Ob _ _).drew).alloc (Wb _) _
    have hge:=AX R.w l.length 0 e;refine jv.value (w':=R.w.drew.alloc (.cells (bytesRow ⟨l.toArray⟩ (grownCap R.w (ByteArray.mk l.toArray).size 0 e)) e ((bytesRow ⟨l.toArray⟩ (grownCap R.w (ByteArray.mk l.toArray).size 0 e)).size,(bytesRow ⟨l.toArray⟩ (grownCap R.w (ByteArray.mk l.toArray).size 0 e)).size+1))) (v:=.slice (some ⟨R.w.heap.size,0,none⟩) (ByteArray.mk l.toArray).size (grownCap R.w (ByteArray.mk l.toArray).size 0 e)) ?_ ⟨_,L,rfl,qK.mem hbelow,?_⟩
    ·unfold execOp;simp only[ho,hx];rw[Wm,hrun];rfl
    ·rw[hls];refine Gd.2 ⟨some ⟨R.w.heap.size,0,none⟩,grownCap R.w l.length 0 e,by simp[Yl],by simpa [Yl] using hge,O1 _ _ _ _ (by unfold maxLen;omega),?_⟩;by_cases h0:Yl l = []
     ·exact .inl h0
     ·refine .inr ⟨R.w.heap.size,0,rfl,ji fun i row hrow=>?_⟩;simp only[Yl,Wy]at hrow;cases hq:l[i]? with
      | none=>simp[hq]at hrow
      | some bt =>
       simp[hq]at hrow;subst hrow;refine ⟨rfl,qq.2 ⟨⟨.int .u8 (bt.toNat:Int),?_,fun hm=>by have:=hm.1;omega,zp.2 rfl,rfl⟩,Jo⟩⟩;have hh:=OH R.w.drew (.cells (bytesRow ⟨l.toArray⟩ (grownCap R.w l.length 0 e)) e ((bytesRow ⟨l.toArray⟩ (grownCap R.w l.length 0 e)).size,(bytesRow ⟨l.toArray⟩ (grownCap R.w l.length 0 e)).size+1));rw[Ac _ R.w.heap.size (0+i*1) _ _ _ hh];have hi:i<l.length:=(Wc.1 hq).1;unfold bytesRow;rw[Ov,Nat.mul_one,Array.getElem?_append_left (by simpa using hi)];simp[hq]
   ·exact h.elim
  ·exact h.elim
 ·exact h.elim
theorem zcj {s d:TypeId} (ho:o.op = .convert s d x) (K:C->Prop) (h:zbe P bx s d (ev x) K):∃ c,zG P G bx ev nx o c nx/\K c:=by
 unfold zbe at h;split at h
 ·rename_i i off k n cap hev;unfold zgV at h;split at h<;>try exact h.elim
  rename_i s1 b1 z1 e s2 b2 z2 hd hs;have hu:=Zg hd rfl;have hus:=qe hs rfl;split at h<;>try exact h.elim
  rename_i s3 b3 z3 he;have hue:=VF he rfl;split at h<;>try exact h.elim
  rename_i cs hcs;obtain ⟨l,rfl,hl,hK⟩:=h;refine ⟨_,.of_same fun B R L ρ hf hr=>?_,hK⟩;have hx:=hr x;rw[hev,jy]at hx;obtain ⟨b,hb,ad,e1,had⟩:=hx;obtain ⟨vs,ty,h1,h2,h3,_⟩:=hf.boxes.box i b cs hb hcs;refine ⟨.string ⟨l.toArray⟩,?_,qc.2 rfl⟩;have hrun:(convert s d (ρ x)).run P R.w = .ok (.string ⟨l.toArray⟩) R.w:=by
   rw[e1];refine run_convert_bytes_back R.w s d e ad cap l hus hue hu fun j hj=>?_;obtain rfl:=had (by omega);have hcj:cs[off+j]?=some (.sc (.int .u8 (l[j].toNat:Int))):=by
    have:=Wv (·[j]?) hl;simp only[WF,if_pos hj,W3,Wy,Wa hj]at this;exact this
   obtain ⟨v,hv,hrep⟩:=JF h2 _ _ hcj;rw[zp]at hrep;subst hrep;rw[Addr.add_none,Ac R.w b (off+j) vs ty (0,0) h1];simpa using hv
  unfold execOp;simp only[ho];rw[Wm,hrun];rfl
 ·exact zfr ho K h
def zdm (P:Program) (t:TypeId) (rows:List (List C)) (K:C->Prop):Prop:=
 match lay P t with
 | some ⟨.slice _,_,_,_⟩=>K (.sc (.int .i64 (rows.length:Int)))
 | _=>False
def zre (P:Program) (t:TypeId) (c:C) (K:C->Prop):Prop:=
 match c with
 | .str l=>match lay P t with
  | some ⟨.str,_,_,_⟩=>K (.sc (.int .i64 (l.length:Int)))
  | _=>False
 | .sl _ rows=>zdm P t rows K
 | .tight _ rows=>zdm P t rows K
 | .own _ _ _ rows=>zdm P t rows K
 | .sc (.slice none 0 0)=>match lay P t with
  | some ⟨.slice _,_,_,_⟩=>K (.sc (.int .i64 0))
  | _=>False
 | .bs _ _ _ n _=>match lay P t with
  | some ⟨.slice _,_,_,_⟩=>K (.sc (.int .i64 (n:Int)))
  | _=>False
 | .mo _ t' _ vs=>zm4 P t t' vs K
 | _=>False
theorem zdm.out {rows:List (List C)} {K:C->Prop} (h:zdm P t rows K):(∃ e,P.underlying t=some (.slice e))/\K (.sc (.int .i64 (rows.length:Int))):=by
 unfold zdm at h;split at h
 ·rename_i hl;exact ⟨⟨_,qe hl rfl⟩,h⟩
 ·exact h.elim
theorem zdx (h:P.underlying t=some (.slice e)) (w:World) (a:Option Addr) (n c:Nat):(Builtin.len_ #[t] ty #[.slice a n c]).run P w = .ok (goInt n) w:=by
 simp[Builtin.len_,WD h]
theorem zjw (ho:o.op = .call { callee:=.builtin .len,args:=#[x],argTypes:=#[t] }) (K:C->Prop) (h:zre P t (ev x) K):∃ c,zG P G bx ev nx o c nx/\K c:=by
 have key:∀ (n:Nat),K (.sc (.int .i64 (n:Int)))->(∃ e,P.underlying t=some (.slice e))->(∀ (R:Env) (L:Loc) v,Rep R L (ev x) v->∃ a c,v = .slice a n c)->∃ c,zG P G bx ev nx o c nx/\K c:=fun n hK ⟨e,he⟩ hv =>
  ⟨_,.of_same fun B R L ρ hf hr=>by
   obtain ⟨a,c,e1⟩:=hv R L _ (hr x);refine ⟨.int .i64 (n:Int),?_,zp.2 rfl⟩;unfold execOp;simp only[ho,resolve,invoke,builtin,Wm,WA,Wh,OC,WC,Oo,e1,zdx he]
   rfl,hK⟩
 unfold zre at h;split at h
 ·rename_i l hev;split at h<;>try exact h.elim
  rename_i hls;refine ⟨_,.of_same fun B R L ρ hf hr=>?_,h⟩;have hx:=hr x;rw[hev,qc]at hx;refine ⟨.int .i64 (l.length:Int),?_,zp.2 rfl⟩;have hsz:(ByteArray.mk l.toArray).size=l.length:=by simp[ByteArray.size]
  unfold execOp;simp only[ho,resolve,invoke,builtin,Wm,WA,Wh,OC,WC,Oo,hx,run_len_string R.w t _ _ (Zg hls rfl),hsz]
  rfl
 ·rename_i k rows hev;refine key rows.length h.out.2 h.out.1 fun R L v hv=>?_;rw[hev]at hv;obtain ⟨a,cap,e1,_⟩:=Gd.1 hv;exact ⟨a,cap,e1⟩
 ·rename_i k rows hev;refine key rows.length h.out.2 h.out.1 fun R L v hv=>?_;rw[hev]at hv;obtain ⟨a,e1,_⟩:=Jy.1 hv;exact ⟨a,_,e1⟩
 ·rename_i id e k rows hev;refine key rows.length h.out.2 h.out.1 fun R L v hv=>?_;rw[hev]at hv;obtain ⟨_,a,cap,e1,_⟩:=Xf.1 hv;exact ⟨a,_,e1⟩
 ·rename_i hev;split at h<;>try exact h.elim
  rename_i hls;refine key 0 h ⟨_,qe hls rfl⟩ fun R L v hv=>?_;rw[hev,zp]at hv;exact ⟨none,0,hv⟩
 ·rename_i i0 off0 k0 n0 c0 hev;split at h<;>try exact h.elim
  rename_i hls;refine key n0 h ⟨_,qe hls rfl⟩ fun R L v hv=>?_;rw[hev,jy]at hv;obtain ⟨b,_,ad,e1,_⟩:=hv;exact ⟨_,_,e1⟩
 ·rename_i id t' ks vs hev;exact zfH ho hev K h
 ·exact h.elim
def Vr (P:Program) (t:TypeId) (s x:C) (nx:Nat) (K:C->Nat->Prop):Prop:=
 match lay P t with
 | some ⟨.slice e,_,_,_⟩=>match lay P e with
  | some ⟨_,k,by',some z⟩=>match x.rows? k with
   | some xs=>match s with
    | .sc (.slice none 0 0)=>z.length=k/\0<k/\xs.length<=9223372036854775807/\xs.length*by'<=140737488355328/\K (.own nx e k xs) (nx+1)
    | .tight k' rows=>k'=k/\z.length=k/\0<k/\rows.length+xs.length<=9223372036854775807/\(rows.length+xs.length)*by'<=140737488355328/\(xs = []->K (.tight k' rows) nx)/\(xs≠[]->K (.own nx e k (rows++xs)) (nx+1))
    | _=>False
   | none=>False
  | _=>False
 | _=>False
theorem jY {i:TypeInfo} (ht:P.underlying t=some (.slice e)) (hi:P.info? e=some i) (w:World) (a b:Option Addr) (n c c':Nat) (hc:n<=c) :
  (Builtin.append_ #[t,t] ty #[.slice a n c,.slice b 0 c']).run P w = .ok (.slice a n c) w:=by
 cases a<;>cases b<;>simp[Builtin.append_,WD ht,sizeOf,typeInfo,hi,Builtin.lenOf,Builtin.firstCells,loadCells,loadCellsFrom,hc,storeCells]
theorem X7 {i:TypeInfo} {z:Value} (ht:P.underlying t=some (.slice e)) (hi:P.info? e=some i) (hz:i.zero=some z) (w:World)
  (b:Option Addr) (n:Nat) (olds:List Value) (hlo:olds.length=n*i.size) (holds:n=0∨∃ ad,b=some ad/\∀ (j:Nat) v,olds[j]?=some v->w.cell? (ad.add j)=some v)
  (a:Addr) (m c:Nat) (news:List Value) (hl:news.length=m*i.size) (hnews:∀ (j:Nat) v,news[j]?=some v->w.cell? (a.add j)=some v)
  (hm:0<m) (h63:n+m<=9223372036854775807) (hby:(n+m)*i.bytes<=140737488355328) :
  (Builtin.append_ #[t,t] ty #[.slice b n n,.slice (some a) m c]).run P w =
   .ok (.slice (some ⟨w.heap.size,0,none⟩) (n+m) (grownCap w (n+m) n e)) (w.drew.alloc (.cells (olds.toArray++news.toArray++Builtin.zeroCells z.cells (grownCap w (n+m) n e-(n+m))) e)):=by
 have hfit:=Bb (need:=n+m) (old:=n) (bytes:=i.bytes) (by omega) hby;rcases b with _ | ad
 ·have hn0:n=0:=by
   rcases holds with h | ⟨ad,h,_⟩
   ·exact h
   ·cases h
  subst hn0;have ho:olds = []:=WV (by simpa using hlo);subst ho;have:=BO (P:=P) w t ty e i z ht hi hz a m c news hl hnews hm (by omega) (by rw[Ov]at hby;omega);simpa using this
 ·rcases holds with h | ⟨ad',h,hh⟩
  ·subst h;have ho:olds = []:=WV (by simpa using hlo);subst ho;exact Bo (P:=P) w t ty e i z ht hi hz ad 0 0 [] (by simp) (fun j v h=>by simp at h) a m c news hl hnews (by omega) (by omega) hfit
  ·cases h;exact Bo (P:=P) w t ty e i z ht hi hz ad n n olds hlo hh a m c news hl hnews (by omega) (by omega) hfit
theorem uC {s:Operand} (ho:o.op = .call { callee:=.builtin .append,args:=#[s,x],argTypes:=#[t,t] }) (K:C->Nat->Prop) (h:Vr P t (ev s) (ev x) nx K):∃ c nx',zG P G bx ev nx o c nx'/\K c nx':=by
 unfold Vr at h;split at h
 ·rename_i e s1 b1 z1 hl;have ht:=qe hl rfl;split at h
  ·rename_i kd k by' z hle;obtain ⟨i,d,hi,hd,_,hsz,hbyt,hzz⟩:=qk hle;simp only at hsz hbyt hzz;split at h
   ·rename_i xs hxs;have key:∀ (rows:List (List C)),z.length=k->0<k->rows.length+xs.length<=9223372036854775807->(rows.length+xs.length)*by'<=140737488355328->xs≠[] ->
      (∀ (R:Env) (L:Loc) v,Rep R L (ev s) v->∃ a,v = .slice a rows.length rows.length/\(rows = []∨∃ b o,a=some ⟨b,o,none⟩/\zW R rows k b o))->zG P G bx ev nx o (.own nx e k (rows++xs)) (nx+1):=by
     intro rows hzk hk0 h63 hby hne hsv;refine ⟨by omega,fun B R L ρ hf hfree hr=>?_⟩;obtain ⟨a,es,hrows⟩:=hsv R L _ (hr s);obtain ⟨ax,capx,ex,hx1,hx2,hx3⟩:=(hr x).rows hxs;rcases hx3 with hx3 | ⟨bb,off,rfl,hxr⟩
     ·exact absurd hx3 hne
     ·cases hiz:i.zero with
      | none=>simp[hiz]at hzz
      | some zv =>
       simp only[hiz,Wu,Option.some.injEq]at hzz;obtain ⟨hxc,hxl⟩:=jd hxr;obtain ⟨news,n1,n2,n3⟩:=j5 hxc;have hnl:=zy n2;have hrs:∃ olds:List Value,zx R zU rows.flatten olds/\(∀ v∈olds,v.oneCell'=true)/\olds.length=rows.length*k/\(∀ r∈rows,r.length=k)/\(rows.length=0∨∃ ad,a=some ad/\∀ (j:Nat) v,olds[j]?=some v->R.w.cell? (ad.add j)=some v):=by
        rcases hrows with rfl | ⟨b,o',rfl,hrr⟩
        ·exact ⟨[],zm.2 rfl,fun v h=>by (cases h),by simp,fun r h=>by (cases h),.inl rfl⟩
        ·obtain ⟨h1,h2⟩:=jd hrr;obtain ⟨olds,o1,o2,o3⟩:=j5 h1;refine ⟨olds,o2,o3,by rw[zy o2,h2],fun r hr=>?_,.inr ⟨_,rfl,fun j v hj=>by rw[Addr.add_none];exact o1 j v hj⟩⟩;obtain ⟨i,hi,rfl⟩:=Wx hr;exact (jE hrr i _ (Wa hi)).1
       obtain ⟨olds,p1,p2,p3,p4,p5⟩:=hrs;have hrun:=X7 (P:=P) (ty:=o.type) ht hi hiz R.w a rows.length olds (by rw[p3,hsz]) p5 ⟨bb,off,none⟩ xs.length capx news (by rw[hnl,hxl,hsz]) (fun j v hj=>by rw[Addr.add_none];exact n1 j v hj)
        (WI.2 hne) h63 (by rw[←hbyt];exact hby)
       have hxk:∀ r∈xs,r.length=k:=fun r hr=>by
        obtain ⟨i,hi,rfl⟩:=Wx hr;exact (jE hxr i _ (Wa hi)).1
       have hall:∀ r∈rows++xs,r.length=k:=fun r hr=>by
        rcases WB.1 hr with hr | hr
        ·exact p4 r hr
        ·exact hxk r hr
       have hlen:(rows++xs).length=rows.length+xs.length:=Wn;have hge:=AX R.w (rows.length+xs.length) rows.length e;have hzc:zv.cells.size=k:=by rw[←hzk,hzz];simp
       obtain ⟨R',L',w1,w2,w3⟩:=own_new (R:=R) (L:=L) (w':=R.w.drew.alloc (.cells (olds.toArray++news.toArray++Builtin.zeroCells zv.cells (grownCap R.w (rows.length+xs.length) rows.length e-(rows.length+xs.length))) e))
        (g:=R.w.heap.size) (cap:=grownCap R.w (rows.length+xs.length) rows.length e) (e:=e) (k:=k) (nx:=nx) (rows:=rows++xs) (vs:=olds++news) hf.β_lt
        (((Ob _ _).drew).alloc (Wb _) _) (Wb _) (OH _ _) (by
         simp only[Array.size_append,Bw,As,hzc,p3,hnl,hxl,←On];congr 1;omega) hall (by rw[A2];exact zo p1 n2) (fun v hv=>by
         rcases WB.1 hv with hv | hv
         ·exact p2 v hv
         ·exact n3 v hv) (by
         rw[hlen,On,←p3,←hxl,←hnl];simp only[Og];rw[←Wn,OE];simp) (by rw[hlen];exact hge) (O1 _ _ _ _ (by unfold maxLen;omega))
       rw[hlen]at w3;refine jv.value ?_ ⟨R',L',w1,w2,w3⟩;unfold execOp;simp only[ho,resolve,invoke,builtin,Wm,WA,Wh,OC,WC,Oo,es,ex,hrun]
    split at h
    ·rename_i hev;obtain ⟨hzk,hk0,h63,hby,hK⟩:=h;refine ⟨_,_,?_,hK⟩;by_cases hne:xs = []
     ·subst hne;refine ⟨by omega,fun B R L ρ hf hfree hr=>?_⟩;have hs:=hr s;rw[hev,zp]at hs;obtain ⟨ax,capx,ex,_⟩:=(hr x).rows hxs;obtain ⟨R',L',w1,w2,w3⟩:=zlR (R:=R) (L:=L) (e:=e) (k:=k) (nx:=nx);refine jv.value (w':=R.w) (v:=.slice none 0 0) ?_ ⟨R',L',w1,w2,w3⟩;unfold execOp;simp only[ho,resolve,invoke,builtin,Wm,WA,Wh,OC,WC,Oo,hs,ex];simp only[OF,jY ht hi R.w none ax 0 0 capx (Wb _),Wh]
     ·have:=key [] hzk hk0 (by simpa using h63) (by simpa using hby) hne fun R L v hv=>⟨none,by rw[hev,zp]at hv;simpa using hv,.inl rfl⟩;simpa using this
    ·rename_i k' rows hev;obtain ⟨rfl,hzk,hk0,h63,hby,hK0,hK⟩:=h;by_cases hne:xs = []
     ·refine ⟨_,_,⟨by omega,fun B R L ρ hf hfree hr=>?_⟩,hK0 hne⟩;subst hne;have hs:=hr s;rw[hev]at hs;obtain ⟨a,e1,e0,e2⟩:=Jy.1 hs;obtain ⟨ax,capx,ex,_⟩:=(hr x).rows hxs;refine jv.value (w':=R.w) (v:=.slice a rows.length rows.length) ?_ ⟨R,L,rfl,qK.refl _ _ _,Jy.2 ⟨a,rfl,e0,e2⟩⟩;unfold execOp;simp only[ho,resolve,invoke,builtin,Wm,WA,Wh,OC,WC,Oo,e1,ex];simp only[OF,jY ht hi R.w a ax rows.length rows.length capx (Wb _),Wh]
     ·refine ⟨_,_,key rows hzk hk0 h63 hby hne fun R L v hv=>?_,hK hne⟩;rw[hev]at hv;obtain ⟨a,e1,_,e2⟩:=Jy.1 hv;exact ⟨a,e1,e2⟩
    ·exact h.elim
   ·exact h.elim
  ·exact h.elim
 ·exact h.elim
end
end
section
open Go.RowKit
section
variable {P:Program} {G:zq} {bx:List (List C)} {ev:Operand->C} {nx:Nat} {o:Oper}
def Xd (P:Program) (f:FuncId):Bool:=match P.funcs[f]? with | some fn=>!(fn.name == "runtime.NumGoroutine")&&fn.body.isSome | none=>false
def Fun (P:Program) (G:zq) (f:FuncId) (args:List C) (r:C) (n:Nat):Prop:=
 Xd P f=true/\∀ (R:Env) (vs:List Value),Qb G R->zx R zU args vs ->
  Calls P f vs.toArray R.w fun e w'=>∃ v R' L',e = .returned v/\R'.w=w'/\qK 0 n R zU R' L'/\Rep R' L' r v
theorem Fun.bySlice {f:FuncId} {rows:List (List C)} {rest:List C} {r:C} (h1:rows≠[]->Fun P G f (.sl k rows :: rest) r n)
  (h2:rows = []->∀ a cap,(∀ k,C.rows? k (.sc (.slice a 0 cap))=some [])->Fun P G f (.sc (.slice a 0 cap) :: rest) r n):Fun P G f (.sl k rows :: rest) r n:=by
 by_cases h:rows = []
 ·have hn:=h2 h none 0 (fun k=>rfl);refine ⟨hn.1,fun R vs hg hv=>?_⟩;obtain ⟨v,us,rfl,hv,hus⟩:=zg.1 hv;unfold Rep at hv;obtain ⟨a,cap,e,_,hc,_⟩:=hv;rw[h]at e;refine (h2 h a cap (fun k=>?_)).2 R _ hg (zg.2 ⟨v,us,rfl,zp.2 e,hus⟩);cases a with
  | none=>cases cap with
   | zero=>rfl
   | succ c=>simp[C.rows?,hc]
  | some a=>simp[C.rows?,hc]
 ·exact h1 h
theorem ZX {f:FuncId} (h:Xd P f=true) (args:Array Value) (w:World):(callFunc f args).run P w = .ok (.enter f args) w:=by
 unfold Xd at h;split at h
 ·rename_i fn hf;simp only[Wo,OY]at h;obtain ⟨c,hc⟩:=AF.mp h.2;have h1:fn.name ≠ "runtime.NumGoroutine":=by simpa using h.1
  simp[callFunc,hf,h1,hc]
 ·cases h
theorem qK.caller {nx:Nat} (hβ:∀ b∈L.β,b<R.w.heap.size) (h:qK 0 n R zU R' L') :
  qK nx (nx+n) R L R' ⟨L.β,fun id=>if nx<=id/\id<nx+n then L'.T (id-nx) else L.T id⟩:=by
 refine ⟨h.below,h.fgn,rfl,h.mt,fun id hi=>if_neg (by omega),fun id e k v hi hj ht=>?_,fun id id' e k v e' k' v' b hi hi2 hj hj2 h1 h2 h3 h4=>?_⟩
 ·simp only at ht;rw[if_pos ⟨hi,hj⟩]at ht;exact (h.new (id-nx) e k v (Wd _) (by omega) ht).move fun g _ e2 _ _=>⟨e2,rfl,fun hx=>by have:=hβ g hx;have e2:R.w.heap.size<=g:=e2;omega,fun _ h=>h⟩
 ·simp only at h1 h2;rw[if_pos ⟨by omega,by omega⟩]at h1 h2;have:=h.apart (id-nx) (id'-nx) e k v e' k' v' b (Wd _) (by omega) (Wd _) (by omega) h1 h2 h3 h4;omega
def x9 (P:Program) (G:zq) (callee:C) (args:List C) (nx:Nat) (K:C->Nat->Prop):Prop:=
 match callee with
 | .clo (.func f) first cap=>∃ r n,Fun P G f (C.frzL (first++args++cap)) r n/\K (r.sh nx) (nx+n)
 | _=>False
theorem zbo {c:Call} (ho:o.op = .call c) (hc:c.callee = .value f) (K:C->Nat->Prop) (h:x9 P G (ev f) (c.args.toList.map ev) nx K):∃ r nx',zG P G bx ev nx o r nx'/\K r nx':=by
 unfold x9 at h;split at h
 ·rename_i fid first cap hev
  obtain ⟨r,n,hfun,hK⟩:=h;refine ⟨_,_,⟨by omega,fun B R L ρ hf hfree hr=>?_⟩,hK⟩;have hx:=hr f;rw[hev,YI]at hx;obtain ⟨fs,cs,e1,h1,h2⟩:=hx;have hargs:zx R zU (C.frzL (first++c.args.toList.map ev++cap)) (fs.toList++c.args.toList.map ρ++cs.toList):=
   zx.frz zU _ _ (zo (zo h1 (YY hr _)) h2)
  have hcall:=hfun.2 R _ hf.glob hargs;have hrun:(execOp ρ o).run P R.w = .ok (.enter fid (fs.toList++c.args.toList.map ρ++cs.toList).toArray) R.w:=by
   unfold execOp;simp only[ho,resolve,hc,e1];have e2:(Deferred.ofValue (.func (.func fid) fs cs) (c.args.map ρ)).run P R.w = .ok { target:=.fn (.func fid) cs,args:=fs++c.args.map ρ } R.w:=by
    simp[Deferred.ofValue]
   rw[Wm,e2];simp only[Wh,invoke];rw[ZX hfun.1];congr 2;apply Bq;simp
  unfold jv;rw[hrun];refine hcall.mono fun e w'=>?_;rintro ⟨v,R',L',rfl,hw,hst,hrep⟩;have hst':=hst.caller (nx:=nx) hf.β_lt;refine ⟨v,rfl,R',_,hw,hst',?_⟩;refine Rep.sh (fun i b hb=>?_) (fun i x hi=>?_) _ _ hrep
  ·rw[hst.box]at hb;simp at hb
  ·show (if nx<=nx+i/\nx+i<nx+n then L'.T (nx+i-nx) else _)=some x;have hin:i<n:=by
    rcases Wp i n with h | h
    ·exact h
    ·rw[hst.old i (.inr h)]at hi;cases hi
   rw[if_pos ⟨by omega,by omega⟩,OW];exact hi
 ·exact h.elim
def zqu (x y:C) (K:C->Prop):Prop:=match x,y with
 | .sc (.int k n),.sc (.int _ m)=>K (.sc (.int k (if m>n then m else n)))
 | _,_=>False
theorem zh8 {t':TypeId} {y:Operand} (ho:o.op = .call { callee:=.builtin .max,args:=#[x,y],argTypes:=#[t,t'] }) (K:C->Prop) (h:zqu (ev x) (ev y) K):∃ c,zG P G bx ev nx o c nx/\K c:=by
 unfold zqu at h;split at h
 ·rename_i k n k' m hx hy;refine ⟨_,.of_same fun B R L ρ hf hr=>?_,h⟩;have h1:=hr x;have h2:=hr y;rw[hx,zp]at h1;rw[hy,zp]at h2;refine ⟨_,?_,zp.2 rfl⟩;unfold execOp;simp only[ho,resolve,invoke,builtin,Wm,WA,Wh,OC,WC,Oo,h1,h2,run_max_int2]
 ·exact h.elim
def kl (P:Program) (b:Builtin) (ev:Operand->C) (args:List Operand) (tys:List TypeId) (nx:Nat) (K:C->Nat->Prop):Prop:=
 match b,args,tys with
 | .len,[x],[t]=>zre P t (ev x) fun c=>K c nx
 | .append,[s,x],[t,t']=>t'=t/\Vr P t (ev s) (ev x) nx K
 | .max,[x,y],[_,_]=>zqu (ev x) (ev y) fun c=>K c nx
 | _,_,_=>False
def xg (P:Program) (G:zq) (ev:Operand->C) (c:Call) (nx:Nat) (K:C->Nat->Prop):Prop:=
 match c.callee with
 | .value f=>x9 P G (ev f) (c.args.toList.map ev) nx K
 | .builtin b=>kl P b ev c.args.toList c.argTypes.toList nx K
 | _=>False
def zjm:List C->List C->Prop
 | [],[]=>True
 | .sc u :: r,.sc v :: s=>u=v/\zjm r s
 | .str a :: r,.str b :: s=>a=b/\zjm r s
 | _,_=>False
theorem Vx {R R':Env} {L L':Loc}:∀ {cs ds:List C} {vs us:List Value},zjm cs ds->zx R L cs vs->zx R' L' ds us->vs=us
 | [],[],vs,us,_,h1,h2=>by rw[zm]at h1 h2;rw[h1,h2]
 | .sc u :: r,.sc v :: s,vs,us,h,h1,h2=>by
  obtain ⟨e,h⟩:=h;obtain ⟨v1,w1,rfl,a1,b1⟩:=zg.1 h1;obtain ⟨v2,w2,rfl,a2,b2⟩:=zg.1 h2;rw[zp]at a1 a2;rw[a1,a2,e,Vx h b1 b2]
 | .str a :: r,.str b :: s,vs,us,h,h1,h2=>by
  obtain ⟨e,h⟩:=h;obtain ⟨v1,w1,rfl,a1,b1⟩:=zg.1 h1;obtain ⟨v2,w2,rfl,a2,b2⟩:=zg.1 h2;rw[qc]at a1 a2;rw[a1,a2,e,Vx h b1 b2]
def zny (P:Program) (t:TypeId) (p c:C) (bx:List (List C)) (K:C->Prop):Prop:=
 match lay P t,p with
 | some L,.ptr i off=>match bx[i]? with
  | some cs=>c.partB=true/\(c.cells.all C.cellB)=true/\c.cells.length=L.size/\off+L.size<=cs.length/\zjm ((cs.drop off).take L.size) c.cells/\K .any
  | none=>False
 | _,_=>False
theorem zgu {p:Operand} (ho:o.op = .store t p x) (K:C->Prop) (h:zny P t (ev p) (ev x) bx K):∃ c,zG P G bx ev nx o c nx/\K c:=by
 unfold zny at h;split at h
 ·rename_i Ly i off hl hev;split at h
  ·rename_i cs hcs;obtain ⟨h1,h2,h3,h4,h5,hK⟩:=h;refine ⟨_,⟨Wb _,fun B R L ρ hf _ hr=>?_⟩,hK⟩;have hp:=hr p;rw[hev,JD]at hp;obtain ⟨b,hb,hpv⟩:=hp;have hx:=Qf (hr x) h1;obtain ⟨vs,ty,e1,e2,e3,e4⟩:=hf.boxes.box i b cs hb hcs;have hxl:=zy hx;have hvl:=zy e2;simp only[WS]at hxl hvl;have hone:=X2 hx h2;have hst:=AG P b off ty (ρ x).cells.toList 0 vs R.w e1 (by simp;omega) hone;simp only[O8]at hst;have hsame:=Vx h5 (qR Ly.size (jg off e2)) hx;have hrow:(vs.toList.take off++(ρ x).cells.toList++vs.toList.drop (off+(ρ x).cells.toList.length))=vs.toList:=by
    have hlen:(ρ x).cells.toList.length=Ly.size:=by simp;omega
    rw[hlen,←hsame,WL,←Aq,W1,W1]
   rw[hrow]at hst;simp only[Array.toArray_toList]at hst;rw[setRow_self R.w b vs ty (0,0) e1]at hst;unfold jv;have hrun:(execOp ρ o).run P R.w = .ok .skip R.w:=by
    have hsz:=qV hl R.w;unfold execOp;simp only[ho,hpv,Instr.storeAt,Instr.sureAddr,storeVar,Wm,WA,Wh,hsz];rw[if_neg (by omega)];simp only[Wm,hst,Wh,WA]
   rw[hrun];exact ⟨R,L,rfl,qK.refl _ _ _,by unfold Rep;trivial⟩
  ·exact h.elim
 ·exact h.elim
def JI (P:Program) (G:zq) (bx:List (List C)) (ev:Operand->C) (op:Op) (nx:Nat) (K:C->Nat->Prop):Prop:=
 match op with
 | .move x=>K (ev x) nx
 | .assign x=>K (ev x) nx
 | .pick c a b=>ABr (ev c) (K (ev a) nx) (K (ev b) nx)
 | .build t parts=>zae P t (parts.toList.map fun p=>(p.1,ev p.2)) fun c=>K c nx
 | .buildSlice t n parts=>Nm P t n (parts.toList.map fun p=>(p.1,ev p.2)) nx K
 | .load t a=>v6 P t (ev a) bx fun c=>K c nx
 | .nilCheck x=>zrE (ev x) fun c=>K c nx
 | .binOp op t x y _=>zoL P t op (ev x) (ev y) fun c=>K c nx
 | .unOp op _ x=>aUn op (ev x) fun c=>K c nx
 | .convert s d x=>zbe P bx s d (ev x) fun c=>K c nx
 | .makeFunc fn first cap=>K (.clo fn (first.toList.map ev) (cap.toList.map ev)) nx
 | .makeSlice t l c=>zeO P t (ev l) (ev c) nx K
 | .slice t x lo hi mx=>uY P t (ev x) (lo.map ev) (hi.map ev) (mx.map ev) fun c=>K c nx
 | .fieldAddr t x f=>QG P t (ev x) f fun c=>K c nx
 | .field t x f=>zbd P t (ev x) f fun c=>K c nx
 | .indexAddr t x i=>QR P t (ev x) (ev i) fun c=>K c nx
 | .index t x i=>zaO P t (ev x) (ev i) fun c=>K c nx
 | .extract t i=>UQ (ev t) i fun c=>K c nx
 | .call c=>xg P G ev c nx K
 | .store t p x=>zny P t (ev p) (ev x) bx fun c=>K c nx
 | .makeMap t r=>NN P t (r.map ev) nx K
 | .lookup t m k ok=>zmG P t (ev m) (ev k) ok fun c=>K c nx
 | _=>False
theorem Oper.ext {o:Oper} {op:Op} (h:o.op=op):o.op=op:=h
theorem YB {α:Type} {a:Array α} {x:α} (h:a.toList = [x]):a = #[x]:=by apply Bq;simpa using h
theorem qy {α:Type} {a:Array α} {x y:α} (h:a.toList = [x,y]):a = #[x,y]:=by apply Bq;simpa using h
theorem one {K:C->Nat->Prop} (h:∃ c,zG P G bx ev nx o c nx/\K c nx):∃ c nx',zG P G bx ev nx o c nx'/\K c nx':=let ⟨c,h1,h2⟩:=h;⟨c,nx,h1,h2⟩
theorem U3 (K:C->Nat->Prop) (h:JI P G bx ev o.op nx K):∃ c nx',zG P G bx ev nx o c nx'/\K c nx':=by
 cases ho:o.op<;>rw[ho]at h<;>simp only[JI]at h<;>try exact h.elim
 case move x=>exact ⟨_,_,zdS ho,h⟩
 case assign x=>exact ⟨_,_,vY ho,h⟩
 case pick c a b =>
  obtain ⟨t,ht,h1,h2⟩:=h.out;refine ⟨_,_,zga ho ht,?_⟩;cases t
  ·exact h2 rfl
  ·exact h1 rfl
 case build t parts=>exact one (zbT ho (fun c=>K c nx) h)
 case buildSlice t n parts=>exact uy ho K h
 case load t a=>exact one (zea ho (fun c=>K c nx) h)
 case nilCheck x=>exact one (ziZ ho (fun c=>K c nx) h)
 case store t p x=>exact one (zgu ho (fun c=>K c nx) h)
 case binOp op t x y t'=>exact one (zkV ho (fun c=>K c nx) h)
 case unOp op t x=>exact one (zmB ho (fun c=>K c nx) h)
 case convert s d x=>exact one (zcj ho (fun c=>K c nx) h)
 case makeFunc fn first cap=>exact ⟨_,_,zfZ ho,h⟩
 case makeSlice t l c=>exact ze5 ho K h
 case slice t x lo hi mx=>exact one (zcF ho (fun c=>K c nx) h)
 case fieldAddr t x f=>exact one (HL ho (fun c=>K c nx) h)
 case field t x f=>exact one (zb7 ho (fun c=>K c nx) h)
 case indexAddr t x i=>exact one (HM ho (fun c=>K c nx) h)
 case index t x i=>exact one (zb8 ho (fun c=>K c nx) h)
 case extract t i=>exact one (MO ho (fun c=>K c nx) h)
 case makeMap t r=>exact Mj ho K h
 case lookup t m k ok=>exact one (zeY ho (fun c=>K c nx) h)
 case call c =>
  unfold xg at h;split at h
  ·rename_i f hc;exact zbo ho hc K h
  ·rename_i b hc;unfold kl at h;obtain ⟨callee,args,argTypes⟩:=c;simp only at hc h;subst hc;split at h
   ·rename_i x t h1 h2;rw[YB h1,YB h2]at ho;exact one (zjw ho (fun c=>K c nx) h)
   ·rename_i s x t t' h1 h2;obtain ⟨rfl,h⟩:=h;rw[qy h1,qy h2]at ho;exact uC ho K h
   ·rename_i x y t t' h1 h2;rw[qy h1,qy h2]at ho;exact one (zh8 ho (fun c=>K c nx) h)
   ·exact h.elim
  ·exact h.elim
end
end
section
open Go.RowKit
structure St where
 tm:List (Nat×C)
 bx:List (List C)
 nx:Nat
 lg:Nat
def j7:List (Nat×C)->Nat->C
 | [],_=>.any
 | (t,c) :: r,u=>if u=t then c else j7 r u
def St.put (σ:St) (dst:Option Tmp) (c:C):St:=match dst with | some d=>⟨(d,c) :: σ.tm,σ.bx,σ.nx,σ.lg⟩ | none=>σ
def Qd (N:Nat) (dst:Option Tmp):Prop:=match dst with | some d=>d<N | none=>True
def zB (G:zq) (tm:List (Nat×C)):Operand->C
 | .tmp t=>j7 tm t
 | .const v=>zD v
 | .global g=>match G g with | some cs=>.row cs | none=>.any
 | .func f=>.clo (.func f) [] []
structure xX (w0:World) (ex:Nat->Prop) (R R':Env):Prop where
 os:R'.w.os=R.w.os
 tape:R'.w.tape=R.w.tape
 output:R'.w.output=R.w.output
 size:R.w.heap.size<=R'.w.heap.size
 fgn:R'.F=R.F
 ext:Ext R R'
 blk:∀ b,b<R.w.heap.size->(R'.w.heap[b]?=R.w.heap[b]?/\∀ o,(R'.M b o↔R.M b o))∨((w0.heap.size<=b∨ex b)/\¬R.F b/\((∃ cs t f,R.w.heap[b]?=some (.cells cs t f))∨∃ es cl,R.w.heap[b]?=some (.map es cl)))
theorem xX.refl (w0:World) (ex:Nat->Prop) (R:Env):xX w0 ex R R:=⟨rfl,rfl,rfl,Wb _,rfl,Ext.refl R,fun _ _=>.inl ⟨rfl,fun _=>Iff.rfl⟩⟩
structure zdA (w0:World) (ex:Nat->Prop) (R R':Env):Prop where
 os:R'.w.os=R.w.os
 tape:R'.w.tape=R.w.tape
 output:R'.w.output=R.w.output
 size:R.w.heap.size<=R'.w.heap.size
 fgn:R'.F=R.F
 ext:Ext R R'
 blk:∀ b,b<R.w.heap.size->(R'.w.heap[b]?=R.w.heap[b]?/\∀ o,(R'.M b o↔R.M b o))∨((w0.heap.size<=b∨ex b)/\¬R.F b)
theorem xX.nigh {w0:World} {ex:Nat->Prop} (h:xX w0 ex R R'):zdA w0 ex R R':=
 ⟨h.os,h.tape,h.output,h.size,h.fgn,h.ext,fun b hb=>(h.blk b hb).imp id fun g=>⟨g.1,g.2.1⟩⟩
structure Ctx where
 w0:World
 M0:Nat->Nat->Prop
 β0:List Nat
 ex:Nat->Prop
 N:Nat
 df:List Deferred
 F0:Nat->Prop
 bo:Nat->Prop
 bex:∀ b,bo b->ex b
 J:Nat->Env->Prop
 stab:∀ k R R',J k R->zdA w0 ex R R'->J k R'
def Ctx.tu (E:Ctx) (b:Nat):Prop:=E.w0.heap.size<=b∨E.ex b
structure YU (G:zq) (E:Ctx) (σ:St) (R:Env) (L:Loc):Prop where
 fit:Fit G E.tu σ.bx R L
 os:R.w.os=E.w0.os
 tape:R.w.tape=E.w0.tape
 output:R.w.output=E.w0.output
 size:E.w0.heap.size<=R.w.heap.size
 blk:∀ b,b<E.w0.heap.size->¬E.ex b->¬R.F b->R.w.heap[b]?=E.w0.heap[b]?/\∀ o,(R.M b o↔E.M0 b o)
 ext:Ext ⟨E.w0,E.M0,fun _=>False⟩ R
 box:∃ more,L.β=E.β0++more
 tub:∀ b∈L.β,E.w0.heap.size<=b∨E.bo b
 flt:∀ b,R.F b->b<R.w.heap.size
 fz:∀ b,b<E.w0.heap.size->(R.F b↔E.F0 b)
 fbx:∀ b∈L.β,¬R.F b
 fow:∀ id e k v b,L.T id=some (e,k,v)->v.ownB=some b->¬R.F b
 free:∀ id,σ.nx<=id->L.T id=none
 log:E.J σ.lg R
theorem YU.tubx {G:zq} {E:Ctx} {σ:St} (h:YU G E σ R L):∀ b∈L.β,E.tu b:=fun b hb=>(h.tub b hb).imp id (E.bex b)
abbrev Ym (d:Nat):Deferred:={ target:=.collected d,args:=#[] }
def N2 (E:Ctx) (ds:List Deferred) (R:Env):Prop:=∃ l:List Nat,ds=l.map Ym++E.df/\l.Nodup/\∀ d∈l,R.w.heap[d]?=some (.deferred (some []))/\E.w0.heap.size<=d/\¬R.F d
structure qT (G:zq) (E:Ctx) (σ:St) (a:Act) (R:Env) (L:Loc):Prop where
 good:YU G E σ R L
 size:a.tmps.size=E.N
 df:N2 E a.defers R
 tm:∀ t,Rep R L (j7 σ.tm t) (a.tmps.getD t undef)
theorem N2.near {E:Ctx} {ds:List Deferred} (h:N2 E ds R) (hn:xX E.w0 E.ex R R'):N2 E ds R':=by
 obtain ⟨l,e,hl,h⟩:=h;refine ⟨l,e,hl,fun d hd=>?_⟩;obtain ⟨h1,h2,h3⟩:=h d hd;refine ⟨?_,h2,by rw[hn.fgn];exact h3⟩;rcases hn.blk d (qg h1) with ⟨g,_⟩ | ⟨_,_,⟨cs,t,f,g⟩ | ⟨cs,t,g⟩⟩
 ·rw[g];exact h1
 ·rw[h1]at g;cases g
 ·rw[h1]at g;cases g
theorem YU.move {G:zq} {E:Ctx} {σ:St} {tm':List (Nat×C)} {bx':List (List C)} (h:YU G E σ R L) (hn:zdA E.w0 E.ex R R') (hf:Fit G E.tu bx' R' L')
  (hbox:∃ more,L'.β=L.β++more/\∀ b∈more,R.w.heap.size<=b)
  (hown:∀ id e k v b,L'.T id=some (e,k,v)->v.ownB=some b->(∃ i e' k' v',L.T i=some (e',k',v')/\v'.ownB=some b)∨R.w.heap.size<=b)
  (hfree:∀ id,nx'<=id->L'.T id=none):YU G E ⟨tm',bx',nx',σ.lg⟩ R' L':=by
 obtain ⟨more,hm1,hm2⟩:=hbox;obtain ⟨more0,hm0⟩:=h.box;refine ⟨hf,hn.os.trans h.os,hn.tape.trans h.tape,hn.output.trans h.output,WN h.size hn.size,fun b hb hx hF=>?_,h.ext.trans hn.ext,⟨more0++more,by rw[hm1,hm0,WL]⟩,fun b hb=>?_,fun b hF=>?_,fun b hb=>by rw[hn.fgn];exact h.fz b hb,fun b hb hF=>?_,fun id e k v b ht hv hF=>?_,hfree,E.stab _ _ _ h.log hn⟩
 ·rw[hn.fgn]at hF;obtain ⟨g1,g2⟩:=h.blk b hb hx hF;rcases hn.blk b (WH hb h.size) with ⟨k1,k2⟩ | ⟨k1,_⟩
  ·exact ⟨k1.trans g1,fun o=>(k2 o).trans (g2 o)⟩
  ·rcases k1 with k1 | k1
   ·omega
   ·exact absurd k1 hx
 ·rw[hm1]at hb;rcases WB.1 hb with hb | hb
  ·exact h.tub b hb
  ·exact .inl (WN h.size (hm2 b hb))
 ·rw[hn.fgn]at hF;exact WH (h.flt b hF) hn.size
 ·rw[hn.fgn]at hF;rw[hm1]at hb;rcases WB.1 hb with hb | hb
  ·exact h.fbx b hb hF
  ·have:=h.flt b hF;have:=hm2 b hb;omega
 ·rw[hn.fgn]at hF;rcases hown id e k v b ht hv with ⟨i,e',k',v',g1,g2⟩ | g
  ·exact h.fow i e' k' v' b g1 g2 hF
  ·have:=h.flt b hF;omega
theorem qK.near (h:qK nx nx' R L R' L') (w0:World) (ex:Nat->Prop):xX w0 ex R R':=
 ⟨h.below.os,h.below.tape,h.below.output,h.below.size,h.fgn,h.ext,fun b hb=>.inl ⟨h.below.block b hb,fun o=>h.mt b o hb⟩⟩
def Inv (G:zq) (E:Ctx) (σ:St) (a:Act) (w:World):Prop:=∃ R L,R.w=w/\qT G E σ a R L
section
variable {P:Program} {G:zq} {E:Ctx} {σ:St} {o:Oper} {a:Act}
theorem qT.ev (h:qT G E σ a R L) (x:Operand):Rep R L (zB G σ.tm x) (a.eval x):=by
 cases x with
 | tmp t=>exact h.tm t
 | const v=>exact jX R L v
 | global g =>
  simp only[zB];cases hg:G g with
  | none=>unfold Rep;trivial
  | some cs=>exact Jz.2 ⟨g,0,rfl,(h.good.fit.glob g cs hg).1⟩
 | func f=>exact YI.2 ⟨#[],#[],rfl,zm.2 rfl,zm.2 rfl⟩
theorem qT.put (h:qT G E σ a R L) {dst:Option Tmp} {c:C} {v:Value} (hd:Qd E.N dst) (hr:Rep R L c v):qT G E (σ.put dst c) (a.put dst v) R L:=by
 cases dst with
 | none=>exact h
 | some d =>
  refine ⟨{ h.good with },by simpa [Act.put] using h.size,h.df,fun t=>?_⟩;have hlt:d<a.tmps.size:=by rw[h.size];exact hd
  show Rep R L (if t=d then c else j7 σ.tm t) ((a.tmps.setIfInBounds d v).getD t undef);split
  ·subst_vars
   simpa [Wq,hlt] using hr
  ·rename_i hnt;have:=h.tm t;have hne:d≠t:=fun e=>hnt e.symm;simpa [Wq,OS hne] using this
theorem YU.step {nx':Nat} {R R':Env} {L L':Loc} (hn:σ.nx<=nx') (h:YU G E σ R L) (st:qK σ.nx nx' R L R' L'):YU G E ⟨σ.tm,σ.bx,nx',σ.lg⟩ R' L':=by
 have hfree:zoB L σ.nx nx':=fun id h1 _=>h.free id h1;refine h.move (st.near _ _).nigh (h.fit.step hfree st) ⟨[],by rw[st.box,Od],fun b hb=>by cases hb⟩ (fun id e k v b ht hv=>?_) fun id hi=>?_
 ·rcases st.cases ht with hi | ⟨hi,hj⟩
  ·exact .inl ⟨id,e,k,v,hi,hv⟩
  ·exact .inr ((st.new id e k v hi hj ht).block hv).1
 ·rw[st.old id (.inr hi)];exact h.free id (WN hn hi)
theorem qT.step {nx':Nat} {R R':Env} {L L':Loc} (hn:σ.nx<=nx') (h:qT G E σ a R L) (st:qK σ.nx nx' R L R' L'):qT G E ⟨σ.tm,σ.bx,nx',σ.lg⟩ a R' L':=
 ⟨h.good.step hn st,h.size,h.df.near (st.near _ _),fun t=>Rep.ext st.ext (st.le fun id h1 _=>h.good.free id h1) _ _ (h.tm t)⟩
abbrev YV (G:zq) (E:Ctx) (a:Act) (K:C->St->Prop) (v:Value) (w':World):Prop:=∃ c σ' R L,R.w=w'/\qT G E σ' a R L/\Rep R L c v/\K c σ'
theorem VK {K:C->St->Prop} (hp:zG P G σ.bx (zB G σ.tm) σ.nx o c nx') (h:qT G E σ a R L) (hK:K c ⟨σ.tm,σ.bx,nx',σ.lg⟩):jv P o a.eval R.w (YV G E a K):=
 (hp.2 _ R L a.eval h.good.fit (fun id h1 _=>h.good.free id h1) h.ev).mono fun v w' ⟨R',L',hw,st,hr⟩=>⟨c,_,R',L',hw,h.step hp.1 st,hr,hK⟩
theorem qT.newBox (h:qT G E σ a R L) (cs:List C) (vs:Array Value) (ty:TypeId) (hr:zx R L cs vs.toList) (h1:∀ v∈vs.toList,v.oneCell'=true) :
  ∃ R' L',R'.w=R.w.alloc (.cells vs ty (0,0))/\qT G E ⟨σ.tm,σ.bx++[cs],σ.nx,σ.lg⟩ a R' L'/\Rep R' L' (.ptr σ.bx.length 0) (.pointer (some ⟨R.w.heap.size,0,none⟩)):=by
 have hb:Below R.w.heap.size R.w (R.w.alloc (.cells vs ty (0,0))):=(Ob _ _).alloc (Wb _) _;have hmt:∀ b o,b<R.w.heap.size->(((b<R.w.heap.size/\R.M b o)∨b=R.w.heap.size)↔R.M b o):=fun b o hlt=>⟨fun h'=>by rcases h' with h' | h';exact h'.2;omega,fun h'=>.inl ⟨hlt,h'⟩⟩;have hext:Ext R ⟨R.w.alloc (.cells vs ty (0,0)),fun b o=>(b<R.w.heap.size/\R.M b o)∨b=R.w.heap.size,R.F⟩:=Ext.of_below hb hmt;have hnear:xX E.w0 E.ex R ⟨R.w.alloc (.cells vs ty (0,0)),fun b o=>(b<R.w.heap.size/\R.M b o)∨b=R.w.heap.size,R.F⟩:=
  ⟨hb.os,hb.tape,hb.output,hb.size,rfl,hext,fun b hlt=>.inl ⟨hb.block b hlt,fun o=>hmt b o hlt⟩⟩
 have hlen:=h.good.fit.boxes.len;have hle:zR L ⟨L.β++[R.w.heap.size],L.T⟩:=⟨fun i b e=>by
  have hi:i<L.β.length:=(Wc.1 e).1;rw[Wt hi];exact e,fun _ _ e=>e⟩
 refine ⟨⟨R.w.alloc (.cells vs ty (0,0)),fun b o=>(b<R.w.heap.size/\R.M b o)∨b=R.w.heap.size,R.F⟩,⟨L.β++[R.w.heap.size],L.T⟩,rfl,
  ⟨h.good.move hnear.nigh ⟨h.good.fit.glob.ext hext,⟨by simp[hlen],?_,fun i b cs' hi hc=>?_⟩,⟨fun id e k v ht=>?_,fun id id' e k v e' k' v' b=>h.good.fit.owns.apart id id' e k v e' k' v' b⟩,fun g hg=>?_⟩
   ⟨[R.w.heap.size],rfl,fun b hb=>by simp at hb;omega⟩ (fun id e k v b ht hv=>.inl ⟨id,e,k,v,ht,hv⟩) h.good.free,h.size,h.df.near hnear,fun t=>Rep.ext hext hle _ _ (h.tm t)⟩,JD.2 ⟨R.w.heap.size,?_,rfl⟩⟩
 ·rw[Aa];refine ⟨h.good.fit.boxes.nodup,by simp,fun x hx y hy e=>?_⟩;have:=h.good.fit.β_lt x hx;simp at hy;omega
 ·rcases Wp i L.β.length with hl | hl
  ·rw[Wt hl]at hi;rw[Wt (by omega)]at hc;obtain ⟨us,ty',e1,e2,e3,e4⟩:=h.good.fit.boxes.box i b cs' hi hc;exact ⟨us,ty',(Below.heap_alloc R.w _ b (qg e1)).trans e1,zx.ext hext hle _ _ e2,e3,fun o=>.inl ⟨qg e1,e4 o⟩⟩
  ·rw[WK hl]at hi;rw[WK (by omega)]at hc;have h0:i-L.β.length=0:=by
    have:=(Wc.1 hi).1;simp at this;omega
   rw[h0]at hi;rw[show i-σ.bx.length=0 by omega]at hc;simp at hi hc;subst hi hc;exact ⟨vs,ty,OH _ _,zx.ext hext hle _ _ hr,h1,fun o=>.inr rfl⟩
 ·refine (h.good.fit.owns.own id e k v ht).move fun g _ e2 hlt e7=>⟨e2,Below.heap_alloc R.w _ g hlt,fun hx=>?_,fun o ho=>.inl ⟨hlt,ho⟩⟩;rcases WB.1 hx with hx | hx
  ·exact e7 hx
  ·simp at hx;omega
 ·exact h.good.fit.base g (WN hb.size hg)
 ·simp[hlen]
def zhn (P:Program) (t:TypeId) (σ:St) (K:C->St->Prop):Prop:=
 match lay P t with
 | some ⟨_,_,_,some z⟩=>(z.all Value.oneCell')=true/\K (.ptr σ.bx.length 0) ⟨σ.tm,σ.bx++[z.map zD],σ.nx,σ.lg⟩
 | _=>False
theorem v7 (ho:o.op = .alloc t) {K:C->St->Prop} {R:Env} {L:Loc} (h:qT G E σ a R L) (hK:zhn P t σ K):jv P o a.eval R.w (YV G E a K):=by
 unfold zhn at hK;split at hK
 ·rename_i kd s b z hl;obtain ⟨i,d,hi,hd,_,_,_,hz⟩:=qk hl;cases hiz:i.zero with
  | none=>simp[hiz]at hz
  | some zv =>
   simp only[hiz,Wu,Option.some.injEq]at hz;subst hz;obtain ⟨R',L',e1,e2,e3⟩:=h.newBox (zv.cells.toList.map zD) zv.cells t (YX _) (fun v hv=>Ws.1 hK.1 v hv);refine jv.value (w':=R.w.alloc (.cells zv.cells t (0,0))) (v:=.pointer (some ⟨R.w.heap.size,0,none⟩)) ?_ ⟨_,_,R',L',e1,e2,e3,hK.2⟩;have hzz:(zeroValue t).run P R.w = .ok zv R.w:=by simp[zeroValue,typeInfo,hi,hiz]
   unfold execOp;simp[ho,Instr.alloc,hzz,newVar,newRow]
 ·exact hK.elim
def zsZ (c:C) (σ:St) (K:C->St->Prop):Prop:=
 c.partB=true/\(c.cells.all C.cellB)=true/\K (.ptr σ.bx.length 0) ⟨σ.tm,σ.bx++[c.cells],σ.nx,σ.lg⟩
theorem zfn (ho:o.op = .box t x) {K:C->St->Prop} {R:Env} {L:Loc} (h:qT G E σ a R L) (hK:zsZ (zB G σ.tm x) σ K):jv P o a.eval R.w (YV G E a K):=by
 obtain ⟨h1,h2,hK⟩:=hK;have hc:=Qf (h.ev x) h1;obtain ⟨R',L',e1,e2,e3⟩:=h.newBox (zB G σ.tm x).cells (a.eval x).cells t hc (X2 hc h2);refine jv.value (w':=R.w.alloc (.cells (a.eval x).cells t (0,0))) (v:=.pointer (some ⟨R.w.heap.size,0,none⟩)) ?_ ⟨_,_,R',L',e1,e2,e3,hK⟩;unfold execOp;simp[ho,Instr.box,newVar,newRow]
def ZT (P:Program) (t:TypeId) (p c:C) (σ:St) (K:C->St->Prop):Prop:=
 match lay P t,p with
 | some L,.ptr i off=>match σ.bx[i]? with
  | some cs=>c.partB=true/\(c.cells.all C.cellB)=true/\c.cells.length=L.size/\off+L.size<=cs.length/\K .any ⟨σ.tm,σ.bx.set i (cs.take off++c.cells++cs.drop (off+L.size)),σ.nx,σ.lg⟩
  | none=>False
 | _,_=>False
theorem Ja (w:World) (g:Nat) (cs:Array Value) (b o:Nat) (h:b≠g):(w.setRow g cs).cell? ⟨b,o,none⟩=w.cell? ⟨b,o,none⟩:=by
 simp[World.cell?,Al w g b cs h]
theorem qT.setBox (h:qT G E σ a R L) {i b:Nat} {cs cs':List C} {vs us:Array Value} {ty:TypeId} (hi:L.β[i]?=some b) (hc:σ.bx[i]?=some cs) (hh:R.w.heap[b]?=some (.cells vs ty (0,0)))
  (hM:∀ o,R.M b o) (hr:zx R L cs' us.toList) (h1:∀ v∈us.toList,v.oneCell'=true):qT G E ⟨σ.tm,σ.bx.set i cs',σ.nx,σ.lg⟩ a ⟨R.w.setRow b us,R.M,R.F⟩ L:=by
 have hext:Ext R ⟨R.w.setRow b us,R.M,R.F⟩:=⟨fun b' o v hcell hm=>⟨by
  have hne:b'≠b:=fun e=>hm (e▸hM o);rw[Ja R.w b us b' o hne];exact hcell,hm⟩,fun c cs ty fl hc hm=>⟨by rw[Al R.w b c us fun e=>hm 0 (e▸hM 0)];exact hc,hm⟩⟩
 have hbm:b∈L.β:=Wf hi;have hnear:xX E.w0 E.ex R ⟨R.w.setRow b us,R.M,R.F⟩:=⟨rfl,rfl,rfl,by rw[BT];exact Wb _,rfl,hext,fun k hk=>by
  by_cases hkb:k=b
  ·subst hkb;exact .inr ⟨h.good.tubx _ hbm,h.good.fbx _ hbm,.inl ⟨_,_,_,hh⟩⟩
  ·exact .inl ⟨Al R.w b k us hkb,fun _=>Iff.rfl⟩⟩
 have hil:i<σ.bx.length:=(Wc.1 hc).1;refine ⟨h.good.move hnear.nigh ⟨h.good.fit.glob.ext hext,⟨by simp[h.good.fit.boxes.len],h.good.fit.boxes.nodup,fun j b' cs2 hj hc2=>?_⟩,⟨fun id e k v ht=>?_,h.good.fit.owns.apart⟩,fun g hg=>?_⟩
  ⟨[],by rw[Od],fun b hb=>by cases hb⟩ (fun id e k v b ht hv=>.inl ⟨id,e,k,v,ht,hv⟩) h.good.free,h.size,h.df.near hnear,fun t=>Rep.ext hext (zR.refl _) _ _ (h.tm t)⟩
 ·by_cases hij:j=i
  ·subst hij;rw[hi]at hj;cases hj;simp only[Oy hil]at hc2;cases hc2;exact ⟨us,ty,setRow_heap R.w b vs us ty (0,0) hh,zx.ext hext (zR.refl _) _ _ hr,h1,hM⟩
  ·simp only[Ou (fun e=>hij e.symm)]at hc2;obtain ⟨us',ty',e1,e2,e3,e4⟩:=h.good.fit.boxes.box j b' cs2 hj hc2;have hne:b'≠b:=fun e=>by
    subst e;have hn:=h.good.fit.boxes.nodup;have hlj:j<L.β.length:=(Wc.1 hj).1;have hli:i<L.β.length:=(Wc.1 hi).1;exact hij ((Ab hlj hn).1 (hj.trans hi.symm))
   exact ⟨us',ty',by rw[Al R.w b b' us hne];exact e1,zx.ext hext (zR.refl _) _ _ e2,e3,e4⟩
 ·exact (h.good.fit.owns.own id e k v ht).move fun g _ e2 hlt e7=>⟨e2,Al R.w b g us fun e=>e7 (e▸hbm),e7,fun _ h=>h⟩
 ·rw[BT]at hg;exact h.good.fit.base g hg
theorem Ua {p:Operand} (ho:o.op = .store t p x) {K:C->St->Prop} {R:Env} {L:Loc} (h:qT G E σ a R L) (hK:ZT P t (zB G σ.tm p) (zB G σ.tm x) σ K):jv P o a.eval R.w fun v w'=>∃ c σ' R',R'.w=w'/\qT G E σ' a R' L/\Ext R R'/\Rep R' L c v/\K c σ':=by
 unfold ZT at hK;split at hK
 ·rename_i Ly i off hl hev;split at hK
  ·rename_i cs hcs;obtain ⟨h1,h2,h3,h4,hK⟩:=hK;have hp:=h.ev p;rw[hev,JD]at hp;obtain ⟨b,hb,hpv⟩:=hp;have hx:=Qf (h.ev x) h1;obtain ⟨vs,ty,e1,e2,e3,e4⟩:=h.good.fit.boxes.box i b cs hb hcs;have hxl:=zy hx;have hvl:=zy e2;simp only[WS]at hxl hvl;have hone:=X2 hx h2;have hst:=AG P b off ty (a.eval x).cells.toList 0 vs R.w e1 (by simp;omega) hone;simp only[O8]at hst;have hinv:=h.setBox (us:=(vs.toList.take off++(a.eval x).cells.toList++vs.toList.drop (off+(a.eval x).cells.toList.length)).toArray) (cs':=cs.take off++(zB G σ.tm x).cells++cs.drop (off+Ly.size)) hb hcs e1 e4 (by
     have:off+(a.eval x).cells.toList.length=off+Ly.size:=by simp;omega
     rw[this];exact zo (zo (qR off e2) hx) (jg _ e2)) (fun v hv=>by
     simp only[WB]at hv;rcases hv with (hv | hv) | hv
     ·exact e3 v (Ww hv)
     ·exact hone v hv
     ·exact e3 v (WU hv))
   unfold jv;have hrun:(execOp a.eval o).run P R.w = .ok .skip (R.w.setRow b (vs.toList.take off++(a.eval x).cells.toList++vs.toList.drop (off+(a.eval x).cells.toList.length)).toArray):=by
    have hsz:=qV hl R.w;unfold execOp;simp only[ho,hpv,Instr.storeAt,Instr.sureAddr,storeVar,Wm,WA,Wh,hsz];rw[if_neg (by omega)];simp only[Wm,hst,Wh,WA]
   rw[hrun];exact ⟨.any,_,_,rfl,hinv,⟨fun b' o v hcell hm=>⟨by
    have hne:b'≠b:=fun e=>hm (e▸e4 o);rw[Ja R.w b _ b' o hne];exact hcell,hm⟩,fun c cs ty fl hc hm=>⟨by rw[Al R.w b c _ fun e=>hm 0 (e▸e4 0)];exact hc,hm⟩⟩,by unfold Rep;trivial,hK⟩
  ·exact hK.elim
 ·exact hK.elim
theorem uG {p:Operand} (ho:o.op = .store t p x) {K:C->St->Prop} {R:Env} {L:Loc} (h:qT G E σ a R L) (hK:ZT P t (zB G σ.tm p) (zB G σ.tm x) σ K):jv P o a.eval R.w (YV G E a K):=
 (Ua ho h hK).mono fun v w' ⟨c,σ',R',h1,h2,_,h3,h4⟩=>⟨c,σ',R',L,h1,h2,h3,h4⟩
end
end
section
open Go.RowKit
section
variable {P:Program} {G:zq} {E:Ctx} {σ:St} {o:Oper} {a:Act}
def zcU (id:Nat):List (Nat×C)->List (Nat×C)
 | []=>[]
 | (t,c) :: r=>(t,c.dg id) :: zcU id r
def yr (id:Nat):List (List C)->List (List C)
 | []=>[]
 | cs :: r=>C.dgL id cs :: yr id r
theorem zgP (id:Nat):∀ (tm:List (Nat×C)) (t:Nat),j7 (zcU id tm) t=(j7 tm t).dg id
 | [],t=>by simp only[zcU,j7];unfold C.dg;rfl
 | (u,c) :: r,t=>by
  simp only[zcU,j7];split
  ·rfl
  ·exact zgP id r t
theorem Hn (id:Nat):∀ bx:List (List C),(yr id bx).length=bx.length
 | []=>rfl
 | c :: r=>by simp[yr,Hn id r]
theorem zas (id:Nat):∀ (bx:List (List C)) (i:Nat),(yr id bx)[i]?=(bx[i]?).map (C.dgL id)
 | [],i=>by simp[yr]
 | c :: r,0=>by simp[yr]
 | c :: r,i+1=>by simp[yr,zas id r i]
def vC (P:Program) (t:TypeId) (s x:C) (σ:St) (K:C->St->Prop):Prop:=
 match s with
 | .own id e k rows=>match lay P t with
  | some ⟨.slice e',_,_,_⟩=>match lay P e with
   | some ⟨_,k',by',some z⟩=>match x.rows? k with
    | some xs=>e'=e/\k'=k/\z.length=k/\0<k/\rows.length+xs.length<=9223372036854775807/\(rows.length+xs.length)*by'<=140737488355328/\K (.own id e k (rows++xs)) ⟨zcU id σ.tm,yr id σ.bx,σ.nx,σ.lg⟩
    | none=>False
   | _=>False
  | _=>False
 | _=>False
theorem qT.regrow (h:qT G E σ a R L) {id e k:Nat} {v0 v':Value} (hid:L.T id=some (e,k,v0)) {R':Env} (hext:Ext R R') (hos:R'.w.os=R.w.os) (htp:R'.w.tape=R.w.tape) (hout:R'.w.output=R.w.output) (hsz:R.w.heap.size<=R'.w.heap.size) (hfgn:R'.F=R.F)
  (hblk:∀ b,b<R.w.heap.size->v0.ownB≠some b->R'.w.heap[b]?=R.w.heap[b]?/\∀ o,R'.M b o↔R.M b o)
  (hown:Qr E.tu R' L.β e k v') (hnew:∀ b,v'.ownB=some b->v0.ownB=some b∨R.w.heap.size<=b) :
  qT G E ⟨zcU id σ.tm,yr id σ.bx,σ.nx,σ.lg⟩ a R' ⟨L.β,fun i=>if i=id then some (e,k,v') else L.T i⟩:=by
 have hdgb:∀ (i b:Nat),L.β[i]?=some b->(Loc.mk L.β (fun i=>if i=id then some (e,k,v') else L.T i)).β[i]?=some b:=fun i b hb=>hb;have hdgt:∀ i x,i≠id->L.T i=some x->(Loc.mk L.β (fun i=>if i=id then some (e,k,v') else L.T i)).T i=some x:=fun i x hne hi=>by
  show (if i=id then _ else L.T i)=some x;rw[if_neg hne];exact hi
 have hv0:=h.good.fit.owns.own id e k v0 hid;have hother:∀ i e1 k1 v1 b,i≠id->L.T i=some (e1,k1,v1)->v1.ownB=some b->v0.ownB≠some b:=fun i e1 k1 v1 b hne h1 h2 h3=>hne (h.good.fit.owns.apart i id e1 k1 v1 e k v0 b h1 hid h2 h3);have hbase:∀ b,v0.ownB=some b->E.tu b/\b<R.w.heap.size/\b∉L.β:=fun b hb=>hv0.block hb;have hcells:∀ b,v0.ownB=some b->(∃ cs t f,R.w.heap[b]?=some (.cells cs t f))∨∃ es cl,R.w.heap[b]?=some (.map es cl):=fun b hb=>hv0.held hb;have hnear:xX E.w0 E.ex R R':=⟨hos,htp,hout,hsz,hfgn,hext,fun b hb=>by
  by_cases hvb:v0.ownB=some b
  ·exact .inr ⟨(hbase b hvb).1,h.good.fow id e k v0 b hid hvb,hcells b hvb⟩
  ·exact .inl (hblk b hb hvb)⟩
 refine ⟨h.good.move hnear.nigh ⟨h.good.fit.glob.ext hext,⟨by rw[Hn];exact h.good.fit.boxes.len,h.good.fit.boxes.nodup,fun i b cs hi hc=>?_⟩,⟨fun i e1 k1 v1 ht=>?_,fun i j e1 k1 v1 e2 k2 v2 b h1 h2 h3 h4=>?_⟩,fun g hg=>h.good.fit.base g (WN hsz hg)⟩
  ⟨[],by rw[Od],fun b hb=>by cases hb⟩ (fun i e1 k1 v1 b ht hv=>?_) (fun i hi=>?_),h.size,h.df.near hnear,fun t=>?_⟩
 ·simp only[zas]at hc;cases hq:σ.bx[i]? with
  | none=>simp[hq]at hc
  | some cs0 =>
   simp[hq]at hc;subst hc;obtain ⟨vs,ty,e1,e2,e3,e4⟩:=h.good.fit.boxes.box i b cs0 hi hq;have hne:v0.ownB≠some b:=fun e'=>(hbase b e').2.2 (Wf hi);obtain ⟨g1,g2⟩:=hblk b (qg e1) hne;exact ⟨vs,ty,by rw[g1];exact e1,zx.dg hdgb hdgt _ _ (zx.ext hext (zR.refl _) _ _ e2),e3,fun o=>(g2 o).2 (e4 o)⟩
 ·simp only at ht;split at ht
  ·cases ht;exact hown
  ·rename_i hne;refine (h.good.fit.owns.own i e1 k1 v1 ht).move fun g hv q2 hlt q7=>?_;obtain ⟨g1,g2⟩:=hblk g hlt (hother i e1 k1 v1 g hne ht hv);exact ⟨q2,g1,q7,fun o ho=>(g2 o).2 ho⟩
 ·simp only at h1 h2;split at h1<;>split at h2
  ·omega
  ·rename_i hi hj;cases h1;rcases hnew b h3 with g | g
   ·exact absurd g (hother j e2 k2 v2 b hj h2 h4)
   ·have:=((h.good.fit.owns.own j e2 k2 v2 h2).block h4).2.1;omega
  ·rename_i hi hj;cases h2;rcases hnew b h4 with g | g
   ·exact absurd g (hother i e1 k1 v1 b hi h1 h3)
   ·have:=((h.good.fit.owns.own i e1 k1 v1 h1).block h3).2.1;omega
  ·exact h.good.fit.owns.apart i j e1 k1 v1 e2 k2 v2 b h1 h2 h3 h4
 ·simp only at ht;split at ht
  ·cases ht;rcases hnew b hv with g | g
   ·exact .inl ⟨id,e,k,v0,hid,g⟩
   ·exact .inr g
  ·exact .inl ⟨i,e1,k1,v1,ht,hv⟩
 ·show (if i=id then _ else L.T i)=none;have hne:i≠id:=fun e'=>by
   subst e';rw[h.good.free i hi]at hid;cases hid
  rw[if_neg hne];exact h.good.free i hi
 ·simp only[zgP];exact Rep.dg hdgb hdgt _ _ (Rep.ext hext (zR.refl _) _ _ (h.tm t))
theorem Qc {i:TypeInfo} (ht:P.underlying t=some (.slice e)) (hi:P.info? e=some i) (w:World)
  (g sLen sCap:Nat) (cur:Array Value) (e':TypeId) (hg:w.heap[g]?=some (.cells cur e' (0,0)))
  (a:Addr) (m c:Nat) (news:List Value) (hl:news.length=m*i.size) (hnews:∀ (j:Nat) u,news[j]?=some u->w.cell? (a.add j)=some u) (h1:∀ u∈news,u.oneCell'=true)
  (hroom:sLen+m<=sCap) (hfit:sLen*i.size+news.length<=cur.size) :
  (Builtin.append_ #[t,t] ty #[.slice (some ⟨g,0,none⟩) sLen sCap,.slice (some a) m c]).run P w =
   .ok (.slice (some ⟨g,0,none⟩) (sLen+m) sCap) (w.setRow g (cur.toList.take (sLen*i.size)++news++cur.toList.drop (sLen*i.size+news.length)).toArray):=by
 have hf:=Bh (P:=P) w i.size m a m c news hl hnews;have hst:=AG P g (sLen*i.size) e' news 0 cur w hg (by simpa using hfit) h1;simp only[O8]at hst;simp[Builtin.append_,WD ht,sizeOf,typeInfo,hi,Builtin.lenOf,hroom,hf,Addr.add_lit,hst]
theorem Ux {g:Nat} {rows:List (List C)} {cur:Array Value} (hext:Ext R R') (hh:R'.w.heap[g]?=some (.cells cur e (0,0))) (hk:∀ r∈rows,r.length=k)
  (hrep:zx R zU rows.flatten vs) (hone:∀ v∈vs,v.oneCell'=true) (htake:cur.toList.take (rows.length*k)=vs) (hM:∀ o,o<rows.length*k->¬R'.M g o):zW R' rows k g 0:=by
 refine ji fun i row hrow=>⟨hk row (Wf hrow),qi fun j c hc=>?_⟩;have hkr:=hk row (Wf hrow);have hj:j<k:=by rw[←hkr];exact (Wc.1 hc).1
 have hi:i<rows.length:=(Wc.1 hrow).1;have hf:=X0 hk i j row hrow hj;rw[hc]at hf;obtain ⟨v,hv,hr⟩:=JF hrep _ _ hf;have hlt2:i*k+j<rows.length*k:=by
  have:(i+1)*k<=rows.length*k:=WM _ hi;rw[On]at this;omega
 refine ⟨v,?_,hM _ (by omega),Rep.ext hext (zR.refl _) _ _ hr,hone v (Wf hv)⟩;rw[Ac R'.w g (0+i*k+j) cur e (0,0) hh];rw[←htake,WF]at hv;rw[Ov];rw[if_pos hlt2]at hv;simpa using hv
theorem Mv {s:Operand} (ho:o.op = .call { callee:=.builtin .append,args:=#[s,x],argTypes:=#[t,t] }) {K:C->St->Prop} {R:Env} {L:Loc} (h:qT G E σ a R L) (hK:vC P t (zB G σ.tm s) (zB G σ.tm x) σ K):jv P o a.eval R.w (YV G E a K):=by
 unfold vC at hK;split at hK
 ·rename_i id e k rows hev;split at hK
  ·rename_i e' s1 b1 z1 hl;have ht:=qe hl rfl;split at hK
   ·rename_i kd k' by' z hle;obtain ⟨i,d,hi,hd,_,hsz,hbyt,hzz⟩:=qk hle;simp only at hsz hbyt hzz;split at hK
    ·rename_i xs hxs;obtain ⟨rfl,rfl,hzk,hk0,h63,hby,hK⟩:=hK;have hs:=h.ev s;rw[hev,Xf]at hs;obtain ⟨hid,aa,cap,ev1,hcap,hcm,hrows⟩:=hs;rw[ev1]at hid;obtain ⟨ax,capx,ex,hx1,hx2,hx3⟩:=(h.ev x).rows hxs;have hexec:∀ v' w',(Builtin.append_ #[t,t] o.type #[a.eval s,a.eval x]).run P R.w = .ok v' w'->(execOp a.eval o).run P R.w = .ok (.value v') w':=fun v' w' hrun=>by
      unfold execOp;simp only[ho,resolve,invoke,builtin,Wm,WA,Wh,OC,WC,Oo,hrun]
     by_cases hne:xs = []
     ·subst hne;have hrun:=hexec _ _ (by rw[ev1,ex];exact jY ht hi R.w aa ax rows.length cap capx hcap);have hinv:=h.regrow hid (Ext.refl R) rfl rfl rfl (Wb _) rfl (fun b hb hn=>⟨rfl,fun o=>Iff.rfl⟩) (h.good.fit.owns.own id e' k' _ hid) (fun b hb=>.inl hb);refine jv.value hrun ⟨_,_,R,_,rfl,hinv,Xf.2 ⟨if_pos rfl,aa,cap,?_,?_,hcm,?_⟩,hK⟩
      ·simp
      ·simpa using hcap
      ·simpa using hrows
     ·rcases hx3 with hx3 | ⟨bb,off,rfl,hxr⟩
      ·exact absurd hx3 hne
      ·cases hiz:i.zero with
       | none=>simp[hiz]at hzz
       | some zv =>
        simp only[hiz,Wu,Option.some.injEq]at hzz;have hzc:zv.cells.size=k':=by rw[←hzk,hzz];simp
        obtain ⟨hxc,hxl⟩:=jd hxr;obtain ⟨news,n1,n2,n3⟩:=j5 hxc;have hnl:=zy n2;have hxk:∀ r∈xs,r.length=k':=fun r hr=>by
         obtain ⟨i,hi,rfl⟩:=Wx hr;exact (jE hxr i _ (Wa hi)).1
        have hlen:(rows++xs).length=rows.length+xs.length:=Wn;have hn1':∀ (j:Nat) v,news[j]?=some v->R.w.cell? ((⟨bb,off,none⟩:Addr).add j)=some v:=fun j v hj=>by rw[Addr.add_none];exact n1 j v hj
        have hmpos:0<xs.length:=WI.2 hne
        -- the new block, where it grows
        have grow:∀ (olds:List Value),zx R zU rows.flatten olds->(∀ v∈olds,v.oneCell'=true)->olds.length=rows.length*k'->(∀ r∈rows,r.length=k') ->
          (Builtin.append_ #[t,t] o.type #[a.eval s,a.eval x]).run P R.w = .ok (.slice (some ⟨R.w.heap.size,0,none⟩) (rows.length+xs.length) (grownCap R.w (rows.length+xs.length) cap e'))
           (R.w.drew.alloc (.cells (olds.toArray++news.toArray++Builtin.zeroCells zv.cells (grownCap R.w (rows.length+xs.length) cap e'-(rows.length+xs.length))) e'))->jv P o a.eval R.w (YV G E a K):=by
         intro olds p1 p2 p3 p4 hrun;have hall:∀ r∈rows++xs,r.length=k':=fun r hr=>by
          rcases WB.1 hr with hr | hr
          ·exact p4 r hr
          ·exact hxk r hr
         have hge:=AX R.w (rows.length+xs.length) cap e';have hgm:grownCap R.w (rows.length+xs.length) cap e'<=maxLen:=O1 _ _ _ _ (by unfold maxLen;omega);generalize grownCap R.w (rows.length+xs.length) cap e'=nc at hrun hge hgm;have hcs:(olds.toArray++news.toArray++Builtin.zeroCells zv.cells (nc-(rows.length+xs.length))).size=nc*k':=by
          simp only[Array.size_append,Bw,As,hzc,p3,hnl,hxl,←On];congr 1;omega
         have htk:(olds.toArray++news.toArray++Builtin.zeroCells zv.cells (nc-(rows.length+xs.length))).toList.take ((rows++xs).length*k')=olds++news:=by
          rw[hlen,On,←p3,←hxl,←hnl];simp only[Og];rw[←Wn,OE];simp
         generalize (olds.toArray++news.toArray++Builtin.zeroCells zv.cells (nc-(rows.length+xs.length)))=cur at hrun hcs htk;have hb:Below R.w.heap.size R.w (R.w.drew.alloc (.cells cur e')):=((Ob _ _).drew).alloc (Wb _) _;have hext:Ext R ⟨R.w.drew.alloc (.cells cur e'),fun b o=>(b<R.w.heap.size/\R.M b o)∨(b=R.w.heap.size/\(rows++xs).length*k'<=o),R.F⟩:=
          Ext.of_below hb fun b o hlt=>⟨fun h'=>by rcases h' with h' | h';exact h'.2;omega,fun h'=>.inl ⟨hlt,h'⟩⟩
         have hh:(R.w.drew.alloc (.cells cur e')).heap[R.w.heap.size]?=some (.cells cur e' (0,0)):=OH R.w.drew _;have hinv:=h.regrow hid (v':=.slice (some ⟨R.w.heap.size,0,none⟩) (rows.length+xs.length) nc) hext hb.os hb.tape hb.output hb.size rfl
          (fun b hlt _=>⟨hb.block b hlt,fun o=>⟨fun h'=>by rcases h' with h' | h';exact h'.2;omega,fun h'=>.inl ⟨hlt,h'⟩⟩⟩)
          (.inr (.inl ⟨_,_,nc,cur,_,rfl,h.good.fit.base _ (Wb _),hh,hge,hgm,hcs,fun hx=>by have:=h.good.fit.β_lt _ hx;omega,fun o ho=>.inr ⟨rfl,by rw[hlen];exact ho⟩⟩))
          (fun b hb'=>.inr (by cases hb';exact Wb _))
         refine jv.value (hexec _ _ hrun) ⟨_,_,_,_,rfl,hinv,Xf.2 ⟨if_pos rfl,_,nc,by rw[hlen],by rw[hlen];exact hge,hgm,.inr ⟨_,0,rfl,Ux hext hh hall (by rw[A2];exact zo p1 n2) (fun v hv=>?_) htk fun o ho=>?_⟩⟩,hK⟩
         ·rcases WB.1 hv with hv | hv
          ·exact p2 v hv
          ·exact n3 v hv
         ·rintro (h' | h')
          ·omega
          ·omega
        rcases h.good.fit.owns.own id e' k' _ hid with hnil | ⟨g,n',cap',cur,tyq,q1,q2,q3,q4,q5,q6,q7,q8⟩ | ⟨_,_,_,_,hmap,_⟩
        ·obtain ⟨rfl,hr0,rfl⟩:=Value.slice.inj hnil;have hr0':rows = []:=WV hr0;subst hr0';refine grow [] (zm.2 rfl) (fun v h=>by cases h) (by simp) (fun r h=>by cases h) ?_;have:=BO (P:=P) R.w t o.type e' i zv ht hi hiz ⟨bb,off,none⟩ xs.length capx news (by rw[hnl,hxl,hsz]) hn1' hmpos (by omega) (by rw[←hbyt];simp only[OF,Ov]at hby;omega);rw[ev1,ex];simpa using this
        ·cases q1;have hrr:zW R rows k' g 0∨rows = []:=by
          rcases hrows with h0 | ⟨b0,o0,hb0,h0⟩
          ·exact .inr h0
          ·cases hb0;exact .inl h0
         have hvals:∃ olds:List Value,zx R zU rows.flatten olds/\(∀ v∈olds,v.oneCell'=true)/\olds.length=rows.length*k'/\(∀ r∈rows,r.length=k')/\∀ (j:Nat) v,olds[j]?=some v->R.w.cell? ⟨g,j,none⟩=some v:=by
          rcases hrr with hrr | rfl
          ·obtain ⟨h1,h2⟩:=jd hrr;obtain ⟨olds,o1,o2,o3⟩:=j5 h1;refine ⟨olds,o2,o3,by rw[zy o2,h2],fun r hr=>?_,fun j v hj=>by simpa using o1 j v hj⟩;obtain ⟨i,hi,rfl⟩:=Wx hr;exact (jE hrr i _ (Wa hi)).1
          ·exact ⟨[],zm.2 rfl,fun v h=>by (cases h),by simp,fun r h=>by (cases h),fun j v h=>by simp at h⟩
         obtain ⟨olds,p1,p2,p3,p4,p5⟩:=hvals;by_cases hroom:rows.length+xs.length<=cap
         ·-- in place
          have hfit:rows.length*i.size+news.length<=cur.size:=by
           rw[←hsz,hnl,hxl,q6,←On];exact WM _ hroom
          have hrun:=Qc (P:=P) (ty:=o.type) ht hi R.w g rows.length cap cur tyq q3 ⟨bb,off,none⟩ xs.length capx news (by rw[hnl,hxl,hsz]) hn1' n3 hroom hfit;rw[←hsz]at hrun hfit;have htk0:cur.toList.take (rows.length*k')=olds:=by
           apply OX;intro j;rw[WF];by_cases hj:j<rows.length*k'
           ·rw[if_pos hj];have hjo:j<olds.length:=by omega
            have:=p5 j olds[j] (Wa hjo);rw[Ac R.w g j cur tyq (0,0) q3]at this;rw[Wa hjo];simpa using this
           ·rw[if_neg hj,WY (by omega)]
          have hcs:(cur.toList.take (rows.length*k')++news++cur.toList.drop (rows.length*k'+news.length)).toArray.size=cap*k':=by
           simp only[Bw,Wn,W2,W7,WS];omega
          have htk:(cur.toList.take (rows.length*k')++news++cur.toList.drop (rows.length*k'+news.length)).toArray.toList.take ((rows++xs).length*k')=olds++news:=by
           simp only[htk0];rw[hlen,On,←p3,←hxl,←hnl,←Wn];exact OE rfl
          have hold:∀ j,j<rows.length*k'->(cur.toList.take (rows.length*k')++news++cur.toList.drop (rows.length*k'+news.length)).toArray[j]?=cur[j]?:=fun j hj=>by
           simp only[Ah];rw[WL,Wt (by simp;omega),WF,if_pos hj];simp
          generalize (cur.toList.take (rows.length*k')++news++cur.toList.drop (rows.length*k'+news.length)).toArray=cur' at hrun hcs htk hold;have hh:=setRow_heap R.w g cur cur' tyq (0,0) q3;have hext:Ext R ⟨R.w.setRow g cur',fun b o=>R.M b o/\¬(b=g/\o<(rows++xs).length*k'),R.F⟩:=⟨fun b o v hc hm=>⟨by
           by_cases hbg:b=g
           ·subst hbg;have hlt:o<rows.length*k':=by
             rcases Wp o (rows.length*k') with h' | h'
             ·exact h'
             ·exact absurd (q8 o h') hm
            rw[Ac R.w b o cur tyq (0,0) q3]at hc;rw[Ac _ b o cur' tyq (0,0) hh,hold o hlt];exact hc
           ·rw[Ja R.w g cur' b o hbg];exact hc,fun h'=>hm h'.1⟩,fun c cs ty fl hc hm=>⟨by rw[Al R.w g c cur' fun e=>hm _ (e▸q8 _ (Wb _))];exact hc,fun o h'=>hm o h'.1⟩⟩
          have hinv:=h.regrow hid (v':=.slice (some ⟨g,0,none⟩) (rows.length+xs.length) cap) (R':=⟨R.w.setRow g cur',fun b o=>R.M b o/\¬(b=g/\o<(rows++xs).length*k'),R.F⟩) hext rfl rfl rfl (by rw[BT];exact Wb _) rfl
           (fun b hlt hne'=>by
            have hbg:b≠g:=fun e1=>hne' (by rw[e1];rfl);exact ⟨Al R.w g b cur' hbg,fun o=>⟨fun h'=>h'.1,fun h'=>⟨h',fun h2=>hbg h2.1⟩⟩⟩)
           (.inr (.inl ⟨g,_,cap,cur',_,rfl,q2,hh,hroom,hcm,hcs,q7,fun o ho=>⟨q8 o (WN (WM _ (BC _ _)) ho),fun h2=>by rw[hlen]at h2;omega⟩⟩))
           (fun b hb'=>.inl (by cases hb';rfl))
          rw[←ev1,←ex]at hrun;have hall:∀ r∈rows++xs,r.length=k':=fun r hr=>by
           rcases WB.1 hr with hr | hr
           ·exact p4 r hr
           ·exact hxk r hr
          refine jv.value (hexec _ _ hrun) ⟨_,_,_,_,rfl,hinv,Xf.2 ⟨if_pos rfl,_,cap,by rw[hlen],by rw[hlen];exact hroom,hcm,.inr ⟨g,0,rfl,Ux hext hh hall (by rw[A2];exact zo p1 n2) (fun v hv=>?_) htk fun o ho h'=>h'.2 ⟨rfl,ho⟩⟩⟩,hK⟩;rcases WB.1 hv with hv | hv
          ·exact p2 v hv
          ·exact n3 v hv
         ·refine grow olds p1 p2 p3 p4 ?_;rw[ev1,ex];exact Bo (P:=P) R.w t o.type e' i zv ht hi hiz ⟨g,0,none⟩ rows.length cap olds (by rw[p3,hsz]) (fun j v hj=>by rw[Addr.add_none];simpa using p5 j v hj) ⟨bb,off,none⟩ xs.length capx news (by rw[hnl,hxl,hsz]) hn1' (by omega) (by omega)
           (Bb (by omega) (by rw[←hbyt];exact hby))
        ·unfold Hi at hmap;cases hmap
    ·exact hK.elim
   ·exact hK.elim
  ·exact hK.elim
 ·exact hK.elim
end
end
section
open Go.RowKit Go.MapKept
section
variable {P:Program} {G:zq} {E:Ctx} {σ:St} {o:Oper} {a:Act}
def zhN (id:Nat) (ks:MK) (vs:List C):List (Nat×C)->List (Nat×C)
 | []=>[]
 | (t,c) :: r=>(t,c.up id ks vs) :: zhN id ks vs r
def zdq (id:Nat) (ks:MK) (vs:List C):List (List C)->List (List C)
 | []=>[]
 | cs :: r=>C.upL id ks vs cs :: zdq id ks vs r
theorem zfv (id:Nat) (ks:MK) (vs:List C):∀ (tm:List (Nat×C)) (t:Nat),j7 (zhN id ks vs tm) t=(j7 tm t).up id ks vs
 | [],t=>by simp only[zhN,j7];unfold C.up;rfl
 | (u,c) :: r,t=>by
  simp only[zhN,j7];split
  ·rfl
  ·exact zfv id ks vs r t
theorem kg (id:Nat) (ks:MK) (vs:List C):∀ bx:List (List C),(zdq id ks vs bx).length=bx.length
 | []=>rfl
 | c :: r=>by simp[zdq,kg id ks vs r]
theorem zbh (id:Nat) (ks:MK) (vs:List C):∀ (bx:List (List C)) (i:Nat),(zdq id ks vs bx)[i]?=(bx[i]?).map (C.upL id ks vs)
 | [],i=>by simp[zdq]
 | c :: r,0=>by simp[zdq]
 | c :: r,i+1=>by simp[zdq,zbh id ks vs r i]
theorem zc3 {es:Array MapEntry} {cl:Nat} (o:Obj) (hb:R.w.heap[b]?=some (.map es cl)):Ext R ⟨R.w.putObj b o,R.M,R.F⟩:=⟨fun c off v hcell hm=>⟨by
 by_cases hc:c=b
 ·subst hc
  exfalso
  unfold World.cell? at hcell;rw[hb]at hcell;simp at hcell
 ·unfold World.cell? at hcell ⊢;rw[WW hc];exact hcell,hm⟩,fun c cs ty fl hc hm=>⟨by
 have hne:c≠b:=fun e=>by subst e;rw[hb]at hc;cases hc
 show (R.w.putObj b o).heap[c]?=_;rw[WW hne];exact hc,hm⟩⟩
theorem qT.remap (h:qT G E σ a R L) {id b:Nat} {t:TypeId} {kvs vvs:List Value} (hid:L.T id=some (t,0,Hi b kvs vvs)) {es es':Array MapEntry} {cl:Nat} (hb:R.w.heap[b]?=some (.map es cl))
  {ks':MK} {vs':List C} {vvs':List Value} (hk':es'.toList.map (·.key)=ks'.vals) (hv':es'.toList.map (·.val)=vvs') (hborn:∀ (i:Nat) (e:MapEntry),es'[i]?=some e->e.born=i) (hr:zx R ⟨L.β,fun _=>none⟩ vs' vvs') :
  qT G E ⟨zhN id ks' vs' σ.tm,zdq id ks' vs' σ.bx,σ.nx,σ.lg⟩ a ⟨R.w.putObj b (.map es' es'.size),R.M,R.F⟩ ⟨L.β,fun i=>if i=id then some (t,0,Hi b ks'.vals vvs') else L.T i⟩:=by
 have hext:Ext R ⟨R.w.putObj b (.map es' es'.size),R.M,R.F⟩:=zc3 _ hb;have hupb:∀ (i b':Nat),L.β[i]?=some b'->(Loc.mk L.β (fun i=>if i=id then some (t,0,Hi b ks'.vals vvs') else L.T i)).β[i]?=some b':=fun i b' hb=>hb;have hupt:∀ i x,i≠id->L.T i=some x->(Loc.mk L.β (fun i=>if i=id then some (t,0,Hi b ks'.vals vvs') else L.T i)).T i=some x:=fun i x hne hi=>by
  show (if i=id then _ else L.T i)=some x;rw[if_neg hne];exact hi
 have hupi:(Loc.mk L.β (fun i=>if i=id then some (t,0,Hi b ks'.vals vvs') else L.T i)).T id=some (t,0,Hi b ks'.vals vvs'):=if_pos rfl;have hv0:=h.good.fit.owns.own id _ _ _ hid;obtain ⟨hbt,hblt,hbβ⟩:=hv0.block (b:=b) rfl;have hother:∀ i e1 k1 v1 c,i≠id->L.T i=some (e1,k1,v1)->v1.ownB=some c->c≠b:=fun i e1 k1 v1 c hne h1 h2 h3=>hne (h.good.fit.owns.apart i id e1 k1 v1 t 0 _ c h1 hid h2 (by rw[h3];rfl));have hnear:xX E.w0 E.ex R ⟨R.w.putObj b (.map es' es'.size),R.M,R.F⟩:=⟨rfl,rfl,rfl,by simp,rfl,hext,fun c hc=>by
  by_cases hcb:c=b
  ·subst hcb;exact .inr ⟨hbt,h.good.fow id _ _ _ c hid rfl,.inr ⟨_,_,hb⟩⟩
  ·exact .inl ⟨WW hcb,fun _=>Iff.rfl⟩⟩
 have hrr:zx ⟨R.w.putObj b (.map es' es'.size),R.M,R.F⟩ ⟨L.β,fun _=>none⟩ vs' vvs':=zx.ext hext (zR.refl _) _ _ hr;refine ⟨h.good.move hnear.nigh ⟨h.good.fit.glob.ext hext,⟨by rw[kg];exact h.good.fit.boxes.len,h.good.fit.boxes.nodup,fun i c cs hi hc=>?_⟩,⟨fun i e1 k1 v1 ht=>?_,fun i j e1 k1 v1 e2 k2 v2 c h1 h2 h3 h4=>?_⟩,fun g hg=>h.good.fit.base g (by simpa using hg)⟩
  ⟨[],by rw[Od],fun b hb=>by cases hb⟩ (fun i e1 k1 v1 c ht hv=>?_) (fun i hi=>?_),h.size,h.df.near hnear,fun u=>?_⟩
 ·simp only[zbh]at hc;cases hq:σ.bx[i]? with
  | none=>simp[hq]at hc
  | some cs0 =>
   simp[hq]at hc;subst hc;obtain ⟨vs,ty,e1,e2,e3,e4⟩:=h.good.fit.boxes.box i c cs0 hi hq;have hne:c≠b:=fun e'=>hbβ (e'▸Wf hi);exact ⟨vs,ty,(WW hne).trans e1,zx.up hupb hupt hid hupi hrr _ _ (zx.ext hext (zR.refl _) _ _ e2),e3,e4⟩
 ·simp only at ht;split at ht
  ·cases ht;exact .inr (.inr ⟨b,es',_,_,rfl,hbt,A6 hblt,hbβ,hk',hv',hborn⟩)
  ·rename_i hne;refine (h.good.fit.owns.own i e1 k1 v1 ht).move fun g hv q2 hlt q7=>⟨q2,WW (hother i e1 k1 v1 g hne ht hv),q7,fun _ h=>h⟩
 ·simp only at h1 h2;split at h1<;>split at h2
  ·omega
  ·rename_i hi hj;cases h1;cases h3;exact absurd rfl (hother j e2 k2 v2 b hj h2 h4)
  ·rename_i hi hj;cases h2;cases h4;exact absurd rfl (hother i e1 k1 v1 b hi h1 h3)
  ·exact h.good.fit.owns.apart i j e1 k1 v1 e2 k2 v2 c h1 h2 h3 h4
 ·simp only at ht;split at ht
  ·cases ht;cases hv;exact .inl ⟨id,t,0,_,hid,rfl⟩
  ·exact .inl ⟨i,e1,k1,v1,ht,hv⟩
 ·show (if i=id then _ else L.T i)=none;have hne:i≠id:=fun e'=>by
   subst e';rw[h.good.free i hi]at hid;cases hid
  rw[if_neg hne];exact h.good.free i hi
 ·simp only[zfv];exact Rep.up hupb hupt hid hupi hrr _ _ (Rep.ext hext (zR.refl _) _ _ (h.tm u))
def G4 (id:Nat) (ks:MK) (vs:List C) (σ:St) (K:C->St->Prop):Prop:=K .any ⟨zhN id ks vs σ.tm,zdq id ks vs σ.bx,σ.nx,σ.lg⟩
def G6 (P:Program) (t:TypeId) (m key x:C) (σ:St) (K:C->St->Prop):Prop:=
 match zdj P t with
 | some (.int k,_)=>match m,key with
  | .mo id t' (.int k' l) vs,.sc (.int q n)=>t'=t/\k'=k/\q=k/\G4 id (.int k (VV n x.frq l vs).1) (VV n x.frq l vs).2 σ K
  | _,_=>False
 | some (.str,_)=>match m,key with
  | .mo id t' (.str l) vs,.str s=>t'=t/\G4 id (.str (VV s x.frq l vs).1) (VV s x.frq l vs).2 σ K
  | _,_=>False
 | none=>False
def zdB (j:Option Nat) (key value:Value) (es:Array MapEntry):Array MapEntry:=match j with
 | some j=>es.modify j fun e=>{ e with key:=key,val:=value }
 | none=>es.push { key:=key,val:=value,born:=es.size }
theorem HZ [DecidableEq α] {kd:TypeDesc} {kv:α->Value} (hk:∀ a b,Instr.sameNow kd (kv a) (kv b)=some (decide (a=b))) (hchk:∀ (e:Bool) (kt:TypeId) (a:α) (w:World),P.underlying kt=some kd->(Instr.checkKey e 10000 kt (kv a)).run P w = .ok () w)
  (hsame:∀ a,Instr.sameBits 10000 (kv a) (kv a)=true)
  {t kt et:TypeId} (ht:P.underlying t=some (.map kt et)) (hkt:P.underlying kt=some kd) {w:World} {b:Nat} {es:Array MapEntry} (hb:w.heap[b]?=some (.map es es.size)) (a:α) (value:Value) (l:List α) (hl:es.toList.map (·.key)=l.map kv) :
  (Instr.mapUpdate t (.map (some b)) (kv a) value).run P w = .ok () (w.putObj b (.map (zdB (Q0 a l) (kv a) value es) (zdB (Q0 a l) (kv a) value es).size)):=by
 have hf:=Qo hk a es.toList l 0 hl;unfold Instr.mapUpdate;simp only[Wm,WD ht,Wh,Vz hb,WA,hchk _ kt a w hkt,Instr.findKey,WD hkt,hf];cases hm:Q0 a l with
 | none =>
  simp only[Option.bind_none,WA,Wh,Gh _ hb];simp[zdB]
 | some j =>
  have hlj:=GF hm;have hj:j<l.length:=(Wc.1 hlj).1;have hes:l.length=es.size:=by have:=Wv List.length hl;simpa using this.symm
  have hje:j<es.size:=by omega
  have hkey:es[j].key=kv a:=by
   have h1:(es.toList.map (·.key))[j]?=some (kv a):=by rw[hl,Wy,hlj];rfl
   simpa [hje] using h1
  have hg:es.toList[j]?=some es[j]:=by simp[hje]
  have hg2:es[j]?=some es[j]:=by simp[hje]
  simp only[AC,hg,Wu,WA,Wh,Ov,hg2,W9,hkey,Instr.keyThatStays,hsame a,if_true];simp only[zdB,Array.size_modify];exact Gh _ hb
theorem NE (a:Lz):Instr.sameBits 10000 (.string ⟨a.toArray⟩) (.string ⟨a.toArray⟩)=true:=by
 have h:=Nb a a;simpa [Instr.sameNow,Instr.sameBits] using h
theorem xZ [DecidableEq α] {kv:α->Value} (a:α) (x:C) (value:Value) (l:List α) (vs:List C) (es:Array MapEntry) (hl:es.toList.map (·.key)=l.map kv):(zdB (Q0 a l) (kv a) value es).toList.map (·.key)=(VV a x l vs).1.map kv:=by
 unfold VV;cases hm:Q0 a l with
 | none=>simp[zdB,hl]
 | some j =>
  have hlj:=GF hm;have hj:j<l.length:=(Wc.1 hlj).1;have hes:l.length=es.size:=by have:=Wv List.length hl;simpa using this.symm
  simp only[zdB,←hl];refine OX fun i=>?_;simp only[Wy,AA,BB];by_cases hij:j=i
  ·subst hij;have hje:j<es.size:=by omega
   have h1:(es.toList.map (·.key))[j]?=some (kv a):=by rw[hl,Wy,hlj];rfl
   have h2:es[j].key=kv a:=by simpa [hje] using h1
   simp[hje,h2]
  ·simp[hij]
theorem Mu [DecidableEq α] {kv:α->Value} {R:Env} {Z:Loc} (a:α) (x:C) (value:Value) (l:List α) (vs:List C) (es:Array MapEntry) (hx:Rep R Z x value) (hl:es.toList.map (·.key)=l.map kv) (hv:zx R Z vs (es.toList.map (·.val))):zx R Z (VV a x l vs).2 ((zdB (Q0 a l) (kv a) value es).toList.map (·.val)):=by
 have hvl:=zy hv;rw[We,WS]at hvl;unfold VV;cases hm:Q0 a l with
 | none =>
  simp only[zdB,Array.toList_push,W5,WC,Oo];exact zo hv (zg.2 ⟨value,[],rfl,hx,zm.2 rfl⟩)
 | some j =>
  simp only[zdB];refine YL (by simp;omega) fun i c v hc hv'=>?_;simp only[Wy,AA,BB]at hv';rw[List.getElem?_set]at hc;by_cases hij:j=i
  ·subst hij;rw[if_pos rfl]at hc;split at hc
   ·cases hc;rename_i hlt;have hje:j<es.size:=by omega
    simp[hje]at hv';subst hv';exact hx
   ·cases hc
  ·rw[if_neg hij]at hc;simp[hij]at hv';obtain ⟨u,e1,e2⟩:=JF hv i c hc;rw[Wy,AA]at e1;obtain ⟨e,he,rfl⟩:=hv';rw[he]at e1;cases e1;exact e2
theorem xQ {j:Option Nat} {key value:Value} {es:Array MapEntry} (h:∀ (i:Nat) (e:MapEntry),es[i]?=some e->e.born=i):∀ (i:Nat) (e:MapEntry),(zdB j key value es)[i]?=some e->e.born=i:=by
 intro i e he;unfold zdB at he;cases j with
 | none =>
  simp only[Array.getElem?_push]at he;split at he
  ·cases he;subst_vars;rfl
  ·exact h i e he
 | some j =>
  simp only[BB]at he;by_cases hij:j=i
  ·rw[if_pos hij]at he;cases hq:es[i]? with
   | none=>rw[hq]at he;cases he
   | some e0=>rw[hq]at he;cases he;exact h i e0 hq
  ·rw[if_neg hij]at he;exact h i e he
theorem xP (h:qT G E σ a R L) {id:Nat} {t:TypeId} {ks:MK} {vs:List C} {v:Value} (hr:Rep R L (.mo id t ks vs) v) :
  ∃ b es vvs,v = .map (some b)/\L.T id=some (t,0,Hi b ks.vals vvs)/\R.w.heap[b]?=some (.map es es.size)/\es.toList.map (·.key)=ks.vals/\es.toList.map (·.val)=vvs/\(∀ (i:Nat) (e:MapEntry),es[i]?=some e->e.born=i)/\zx R ⟨L.β,fun _=>none⟩ vs vvs:=by
 unfold Rep at hr;obtain ⟨b,vvs,e,ht,hl⟩:=hr;rcases h.good.fit.owns.own id _ _ _ ht with g | ⟨g,n,cap,cur,ty,q1,_⟩ | ⟨g,es,kvs,vvs',q1,q2,q3,q4,q5,q6,q7⟩
 ·unfold Hi at g;cases g
 ·unfold Hi at q1;cases q1
 ·obtain ⟨rfl,rfl,rfl⟩:=NK q1;exact ⟨b,es,vvs,e,ht,q3,q5,q6,q7,hl⟩
theorem Uo {m k:Operand} (ho:o.op = .mapUpdate t m k x∨o.op = .insert t m k x) {K:C->St->Prop} {R:Env} {L:Loc} (h:qT G E σ a R L) (hK:G6 P t (zB G σ.tm m) (zB G σ.tm k) (zB G σ.tm x) σ K):jv P o a.eval R.w (YV G E a K):=by
 have hfin:∀ (w':World),(Instr.mapUpdate t (a.eval m) (a.eval k) (a.eval x)).run P R.w = .ok () w'->(execOp a.eval o).run P R.w = .ok .skip w':=fun w' hw=>by
  unfold execOp;rcases ho with ho | ho<;>simp only[ho]<;>rw[Wm,hw]<;>rfl
 unfold G6 at hK;split at hK
 ·rename_i q z hm;obtain ⟨kt,et,i,zv,ht,hi,hz,rfl,hk⟩:=Xw hm;rcases hk with ⟨k0,hk0,hkt⟩ | ⟨hk0,_⟩
  ·cases hk0;split at hK<;>try exact hK.elim
   rename_i id t' k' l vs q' n hev hek;obtain ⟨rfl,rfl,rfl,hK⟩:=hK;have hx:=h.ev m;rw[hev]at hx;have hy:=h.ev k;rw[hek,zp]at hy;obtain ⟨b,es,vvs,e1,e2,e3,e4,e5,e6,e7⟩:=xP h hx;have hxr:Rep R ⟨L.β,fun _=>none⟩ (zB G σ.tm x).frq (a.eval x):=(h.ev x).frq;have hrun:=HZ (zaB _) MI (fun a=>by simp[Instr.sameBits]) ht hkt e3 n (a.eval x) l e4;have hinv:=h.remap e2 e3 (ks':=.int _ (VV n (zB G σ.tm x).frq l vs).1) (vs':=(VV n (zB G σ.tm x).frq l vs).2) (xZ n (zB G σ.tm x).frq (a.eval x) l vs es e4) rfl (xQ (key:=.int _ n) e6) (Mu n _ _ l vs es hxr e4 (by rw[e5];exact e7));unfold jv;rw[hfin _ (by rw[e1,hy];exact hrun)];exact ⟨.any,_,_,_,rfl,hinv,by unfold Rep;trivial,hK⟩
  ·cases hk0
 ·rename_i z hm;obtain ⟨kt,et,i,zv,ht,hi,hz,rfl,hk⟩:=Xw hm;rcases hk with ⟨k0,hk0,_⟩ | ⟨_,hkt⟩
  ·cases hk0
  ·split at hK<;>try exact hK.elim
   rename_i id t' l vs s hev hek;obtain ⟨rfl,hK⟩:=hK;have hx:=h.ev m;rw[hev]at hx;have hy:=h.ev k;rw[hek,qc]at hy;obtain ⟨b,es,vvs,e1,e2,e3,e4,e5,e6,e7⟩:=xP h hx;have hxr:Rep R ⟨L.β,fun _=>none⟩ (zB G σ.tm x).frq (a.eval x):=(h.ev x).frq;have hrun:=HZ Nb xB NE ht hkt e3 s (a.eval x) l e4;have hinv:=h.remap e2 e3 (ks':=.str (VV s (zB G σ.tm x).frq l vs).1) (vs':=(VV s (zB G σ.tm x).frq l vs).2) (xZ (kv:=fun s:Lz=>Value.string ⟨s.toArray⟩) s (zB G σ.tm x).frq (a.eval x) l vs es e4) rfl (xQ (key:=.string ⟨s.toArray⟩) e6) (Mu (kv:=fun s:Lz=>Value.string ⟨s.toArray⟩) s _ _ l vs es hxr e4 (by rw[e5];exact e7));unfold jv;rw[hfin _ (by rw[e1,hy];exact hrun)];exact ⟨.any,_,_,_,rfl,hinv,by unfold Rep;trivial,hK⟩
 ·exact hK.elim
end
end
section
open Go.RowKit
abbrev Src:=List (Nat ⊕ (TypeId×Nat))
def Vo (src:Src) (T:Own):Own:=fun id=>match src[id]? with
 | some (.inl i)=>T i
 | some (.inr (e,k))=>some (e,k,.slice none 0 0)
 | none=>none
def Vy:Src->List Nat
 | []=>[]
 | .inl i :: r=>i :: Vy r
 | .inr _ :: r=>Vy r
def Q6 (src:Src):Bool:=decide (Vy src).Nodup
def C.bare:C->Bool
 | .sc _=>true
 | .str _=>true
 | .sl _ _=>true
 | .tight _ _=>true
 | .row _=>true
 | .any=>true
 | .clo _ f c=>f.isEmpty&&c.isEmpty
 | _=>false
def C.bareL:List C->Bool
 | []=>true
 | c :: r=>c.bare&&C.bareL r
theorem Rep.bare (h:c.bare=true) (hr:Rep R L c v):Rep R L' c v:=by
 unfold C.bare at h;split at h
 case h_7 f a b =>
  rw[Wo,List.isEmpty_iff,List.isEmpty_iff]at h;obtain ⟨rfl,rfl⟩:=h;unfold Rep at hr ⊢;obtain ⟨fs,cs,e,h1,h2⟩:=hr;rw[zm]at h1 h2;exact ⟨fs,cs,e,zm.2 h1,zm.2 h2⟩
 case h_8=>cases h
 all_goals (unfold Rep at hr ⊢;exact hr)
theorem zx.bare:∀ {cs:List C} {vs:List Value},C.bareL cs=true->zx R L cs vs->zx R L' cs vs
 | [],_,_,h=>by rw[zm]at h ⊢;exact h
 | c :: r,_,hb,h=>by
  unfold C.bareL at hb;rw[Wo]at hb;rw[zg]at h ⊢;obtain ⟨v,us,e,h1,h2⟩:=h;exact ⟨v,us,e,h1.bare hb.1,h2.bare hb.2⟩
theorem ztc:C.bareL []=true:=rfl
theorem zsc:C.bareL (.sc v :: r)=C.bareL r:=rfl
theorem zs1 {v:Lz}:C.bareL (.str v :: r)=C.bareL r:=rfl
theorem zta {f:Fn}:C.bareL (.clo f [] [] :: r)=C.bareL r:=rfl
theorem zsq {v:List (List C)}:C.bareL (.sl k v :: r)=C.bareL r:=rfl
mutual
/-- says less than -/
def CLe (src:Src) (n:Nat):C->C->Prop
 | .own id e k rows,.own id' e' k' rows'=>src[id']?=some (.inl id)/\e=e'/\k=k'/\rows=rows'
 | .own _ _ k rows,.sl k' rows'=>k=k'/\rows=rows'
 | .tight k rows,.sl k' rows'=>k=k'/\rows=rows'
 | .tight k rows,.tight k' rows'=>k=k'/\rows=rows'
 | .sl k rows,.sl k' rows'=>k=k'/\rows=rows'
 | .sc v,.own id e k rows=>v = .slice none 0 0/\src[id]?=some (.inr (e,k))/\rows = []
 | .sc v,.sl _ rows=>v = .slice none 0 0/\rows = []
 | .sc v,.tight _ rows=>v = .slice none 0 0/\rows = []
 | .sc v,.sc u=>v=u
 | .str l,.str l'=>l=l'
 | .agg cs,.agg cs'=>zh src n cs cs'
 | .tup cs,.tup cs'=>zh src n cs cs'
 | .ptr i off,.ptr i' off'=>i=i'/\off=off'/\i<n
 | .bs i off k m c,.bs i' off' k' m' c'=>i=i'/\off=off'/\k=k'/\m=m'/\c=c'/\i<n
 | .row cs,.row cs'=>cs=cs'
 | .mo id t ks vs,.mo id' t' ks' vs'=>src[id']?=some (.inl id)/\t=t'/\ks=ks'/\vs=vs'/\C.bareL vs=true
 | .clo fn first cap,.clo fn' first' cap'=>fn=fn'/\zh src n first first'/\zh src n cap cap'
 | _,.any=>True
 | _,_=>False
def zh (src:Src) (n:Nat):List C->List C->Prop
 | [],[]=>True
 | c :: r,c' :: r'=>CLe src n c c'/\zh src n r r'
 | _,_=>False
end
section
variable {R:Env} {L:Loc} {src:Src} {n:Nat}
abbrev Jw (src:Src) (n:Nat) (L:Loc):Loc:=⟨L.β.take n,Vo src L.T⟩
theorem Ur:Rep R L' .any v:=by unfold Rep;trivial
mutual
theorem Rep.less:∀ (c c':C) (v:Value),CLe src n c c'->Rep R L c v->Rep R (Jw src n L) c' v
 | .own id e k rows,.own id' e' k' rows',v,h,hr=>by
  unfold CLe at h;obtain ⟨h1,rfl,rfl,rfl⟩:=h;unfold Rep at hr ⊢;refine ⟨?_,hr.2⟩;show Vo src L.T id'=_;unfold Vo;rw[h1];exact hr.1
 | .own _ _ k rows,.sl k' rows',v,h,hr=>by
  unfold CLe at h;obtain ⟨rfl,rfl⟩:=h;unfold Rep at hr ⊢;exact hr.2
 | .tight k rows,.sl k' rows',v,h,hr=>by
  unfold CLe at h;obtain ⟨rfl,rfl⟩:=h;unfold Rep at hr ⊢;obtain ⟨a,e,h2,h3⟩:=hr;exact ⟨a,_,e,Wb _,h2,h3⟩
 | .tight k rows,.tight k' rows',v,h,hr=>by
  unfold CLe at h;obtain ⟨rfl,rfl⟩:=h;unfold Rep at hr ⊢;exact hr
 | .sl k rows,.sl k' rows',v,h,hr=>by
  unfold CLe at h;obtain ⟨rfl,rfl⟩:=h;unfold Rep at hr ⊢;exact hr
 | .sc u,.tight k rows,v,h,hr=>by
  unfold CLe at h;obtain ⟨rfl,rfl⟩:=h;unfold Rep at hr ⊢;exact ⟨none,hr,Wd _,.inl rfl⟩
 | .sc u,.own id e k rows,v,h,hr=>by
  unfold CLe at h;obtain ⟨rfl,h1,rfl⟩:=h;unfold Rep at hr ⊢;refine ⟨?_,none,0,hr,Wb _,Wd _,.inl rfl⟩;show Vo src L.T id=_;unfold Vo;rw[h1,hr]
 | .sc u,.sl k rows,v,h,hr=>by
  unfold CLe at h;obtain ⟨rfl,rfl⟩:=h;unfold Rep at hr ⊢;exact ⟨none,0,hr,Wb _,Wd _,.inl rfl⟩
 | .sc u,.sc u',v,h,hr=>by
  unfold CLe at h;subst h;unfold Rep at hr ⊢;exact hr
 | .str l,.str l',v,h,hr=>by
  unfold CLe at h;subst h;unfold Rep at hr ⊢;exact hr
 | .agg cs,.agg cs',v,h,hr=>by
  unfold CLe at h;unfold Rep at hr ⊢;obtain ⟨vs,e,hl⟩:=hr;exact ⟨vs,e,zx.less cs cs' _ h hl⟩
 | .tup cs,.tup cs',v,h,hr=>by
  unfold CLe at h;unfold Rep at hr ⊢;obtain ⟨vs,e,hl⟩:=hr;exact ⟨vs,e,zx.less cs cs' _ h hl⟩
 | .ptr i off,.ptr i' off',v,h,hr=>by
  unfold CLe at h;obtain ⟨rfl,rfl,h⟩:=h;unfold Rep at hr ⊢;obtain ⟨b,hb,e⟩:=hr;exact ⟨b,by rw[WF,if_pos h];exact hb,e⟩
 | .bs i off k m c,.bs i' off' k' m' c',v,h,hr=>by
  unfold CLe at h;obtain ⟨rfl,rfl,rfl,rfl,rfl,h⟩:=h;unfold Rep at hr ⊢;obtain ⟨b,hb,e⟩:=hr;exact ⟨b,by rw[WF,if_pos h];exact hb,e⟩
 | .row cs,.row cs',v,h,hr=>by
  unfold CLe at h;subst h;unfold Rep at hr ⊢;exact hr
 | .mo id t ks vs,.mo id' t' ks' vs',v,h,hr=>by
  unfold CLe at h;obtain ⟨h1,rfl,rfl,rfl,hbr⟩:=h;unfold Rep at hr ⊢;obtain ⟨b,vvs,e,ht,hl⟩:=hr;refine ⟨b,vvs,e,?_,zx.bare hbr hl⟩;show Vo src L.T id'=_;unfold Vo;rw[h1];exact ht
 | .clo fn first cap,.clo fn' first' cap',v,h,hr=>by
  unfold CLe at h;obtain ⟨rfl,h1,h2⟩:=h;unfold Rep at hr ⊢;obtain ⟨fs,cs,e,h3,h4⟩:=hr;exact ⟨fs,cs,e,zx.less first first' _ h1 h3,zx.less cap cap' _ h2 h4⟩
 | c,.any,v,h,hr=>Ur
 | .any,.sc _,_,h,_ | .any,.str _,_,h,_ | .any,.agg _,_,h,_ | .any,.tup _,_,h,_ | .any,.sl _ _,_,h,_ | .any,.tight _ _,_,h,_ | .any,.own _ _ _ _,_,h,_ | .any,.ptr _ _,_,h,_ | .any,.row _,_,h,_ | .any,.clo _ _ _,_,h,_ | .any,.bs _ _ _ _ _,_,h,_ | .any,.mo _ _ _ _,_,h,_=>by unfold CLe at h;exact h.elim
 | .sc _,.str _,_,h,_ | .sc _,.agg _,_,h,_ | .sc _,.tup _,_,h,_ | .sc _,.ptr _ _,_,h,_ | .sc _,.row _,_,h,_ | .sc _,.clo _ _ _,_,h,_ | .sc _,.bs _ _ _ _ _,_,h,_ | .sc _,.mo _ _ _ _,_,h,_=>by unfold CLe at h;exact h.elim
 | .str _,.sc _,_,h,_ | .str _,.agg _,_,h,_ | .str _,.tup _,_,h,_ | .str _,.sl _ _,_,h,_ | .str _,.tight _ _,_,h,_ | .str _,.own _ _ _ _,_,h,_ | .str _,.ptr _ _,_,h,_ | .str _,.row _,_,h,_ | .str _,.clo _ _ _,_,h,_ | .str _,.bs _ _ _ _ _,_,h,_ | .str _,.mo _ _ _ _,_,h,_=>by unfold CLe at h;exact h.elim
 | .agg _,.sc _,_,h,_ | .agg _,.str _,_,h,_ | .agg _,.tup _,_,h,_ | .agg _,.sl _ _,_,h,_ | .agg _,.tight _ _,_,h,_ | .agg _,.own _ _ _ _,_,h,_ | .agg _,.ptr _ _,_,h,_ | .agg _,.row _,_,h,_ | .agg _,.clo _ _ _,_,h,_ | .agg _,.bs _ _ _ _ _,_,h,_ | .agg _,.mo _ _ _ _,_,h,_=>by unfold CLe at h;exact h.elim
 | .tup _,.sc _,_,h,_ | .tup _,.str _,_,h,_ | .tup _,.agg _,_,h,_ | .tup _,.sl _ _,_,h,_ | .tup _,.tight _ _,_,h,_ | .tup _,.own _ _ _ _,_,h,_ | .tup _,.ptr _ _,_,h,_ | .tup _,.row _,_,h,_ | .tup _,.clo _ _ _,_,h,_ | .tup _,.bs _ _ _ _ _,_,h,_ | .tup _,.mo _ _ _ _,_,h,_=>by unfold CLe at h;exact h.elim
 | .sl _ _,.sc _,_,h,_ | .sl _ _,.str _,_,h,_ | .sl _ _,.agg _,_,h,_ | .sl _ _,.tup _,_,h,_ | .sl _ _,.tight _ _,_,h,_ | .sl _ _,.own _ _ _ _,_,h,_ | .sl _ _,.ptr _ _,_,h,_ | .sl _ _,.row _,_,h,_ | .sl _ _,.clo _ _ _,_,h,_ | .sl _ _,.bs _ _ _ _ _,_,h,_ | .sl _ _,.mo _ _ _ _,_,h,_=>by unfold CLe at h;exact h.elim
 | .tight _ _,.sc _,_,h,_ | .tight _ _,.str _,_,h,_ | .tight _ _,.agg _,_,h,_ | .tight _ _,.tup _,_,h,_ | .tight _ _,.own _ _ _ _,_,h,_ | .tight _ _,.ptr _ _,_,h,_ | .tight _ _,.row _,_,h,_ | .tight _ _,.clo _ _ _,_,h,_ | .tight _ _,.bs _ _ _ _ _,_,h,_ | .tight _ _,.mo _ _ _ _,_,h,_=>by unfold CLe at h;exact h.elim
 | .own _ _ _ _,.sc _,_,h,_ | .own _ _ _ _,.str _,_,h,_ | .own _ _ _ _,.agg _,_,h,_ | .own _ _ _ _,.tup _,_,h,_ | .own _ _ _ _,.tight _ _,_,h,_ | .own _ _ _ _,.ptr _ _,_,h,_ | .own _ _ _ _,.row _,_,h,_ | .own _ _ _ _,.clo _ _ _,_,h,_ | .own _ _ _ _,.bs _ _ _ _ _,_,h,_ | .own _ _ _ _,.mo _ _ _ _,_,h,_=>by unfold CLe at h;exact h.elim
 | .ptr _ _,.sc _,_,h,_ | .ptr _ _,.str _,_,h,_ | .ptr _ _,.agg _,_,h,_ | .ptr _ _,.tup _,_,h,_ | .ptr _ _,.sl _ _,_,h,_ | .ptr _ _,.tight _ _,_,h,_ | .ptr _ _,.own _ _ _ _,_,h,_ | .ptr _ _,.row _,_,h,_ | .ptr _ _,.clo _ _ _,_,h,_ | .ptr _ _,.bs _ _ _ _ _,_,h,_ | .ptr _ _,.mo _ _ _ _,_,h,_=>by unfold CLe at h;exact h.elim
 | .row _,.sc _,_,h,_ | .row _,.str _,_,h,_ | .row _,.agg _,_,h,_ | .row _,.tup _,_,h,_ | .row _,.sl _ _,_,h,_ | .row _,.tight _ _,_,h,_ | .row _,.own _ _ _ _,_,h,_ | .row _,.ptr _ _,_,h,_ | .row _,.clo _ _ _,_,h,_ | .row _,.bs _ _ _ _ _,_,h,_ | .row _,.mo _ _ _ _,_,h,_=>by unfold CLe at h;exact h.elim
 | .clo _ _ _,.sc _,_,h,_ | .clo _ _ _,.str _,_,h,_ | .clo _ _ _,.agg _,_,h,_ | .clo _ _ _,.tup _,_,h,_ | .clo _ _ _,.sl _ _,_,h,_ | .clo _ _ _,.tight _ _,_,h,_ | .clo _ _ _,.own _ _ _ _,_,h,_ | .clo _ _ _,.ptr _ _,_,h,_ | .clo _ _ _,.row _,_,h,_ | .clo _ _ _,.bs _ _ _ _ _,_,h,_ | .clo _ _ _,.mo _ _ _ _,_,h,_=>by unfold CLe at h;exact h.elim
 | .bs _ _ _ _ _,.sc _,_,h,_ | .bs _ _ _ _ _,.str _,_,h,_ | .bs _ _ _ _ _,.agg _,_,h,_ | .bs _ _ _ _ _,.tup _,_,h,_ | .bs _ _ _ _ _,.sl _ _,_,h,_ | .bs _ _ _ _ _,.tight _ _,_,h,_ | .bs _ _ _ _ _,.own _ _ _ _,_,h,_ | .bs _ _ _ _ _,.ptr _ _,_,h,_ | .bs _ _ _ _ _,.row _,_,h,_ | .bs _ _ _ _ _,.clo _ _ _,_,h,_ | .bs _ _ _ _ _,.mo _ _ _ _,_,h,_=>by unfold CLe at h;exact h.elim
 | .mo _ _ _ _,.sc _,_,h,_ | .mo _ _ _ _,.str _,_,h,_ | .mo _ _ _ _,.agg _,_,h,_ | .mo _ _ _ _,.tup _,_,h,_ | .mo _ _ _ _,.sl _ _,_,h,_ | .mo _ _ _ _,.tight _ _,_,h,_ | .mo _ _ _ _,.own _ _ _ _,_,h,_ | .mo _ _ _ _,.ptr _ _,_,h,_ | .mo _ _ _ _,.row _,_,h,_ | .mo _ _ _ _,.clo _ _ _,_,h,_ | .mo _ _ _ _,.bs _ _ _ _ _,_,h,_=>by unfold CLe at h;exact h.elim
theorem zx.less:∀ (cs cs':List C) (vs:List Value),zh src n cs cs'->zx R L cs vs->zx R (Jw src n L) cs' vs
 | [],[],vs,h,hr=>by rw[zm]at hr ⊢;exact hr
 | c :: r,c' :: r',vs,h,hr=>by
  unfold zh at h;rw[zg]at hr ⊢;obtain ⟨v,us,e,h1,h2⟩:=hr;exact ⟨v,us,e,Rep.less c c' v h.1 h1,zx.less r r' us h.2 h2⟩
 | [],_ :: _,_,h,_=>by unfold zh at h;exact h.elim
 | _ :: _,[],_,h,_=>by unfold zh at h;exact h.elim
end
end
def ze (src:Src) (n:Nat) (tm:List (Nat×C)):List (Nat×C)->Prop
 | []=>True
 | (t,c) :: r=>CLe src n (j7 tm t) c/\ze src n tm r
def zd (src:Src) (n:Nat):List (List C)->List (List C)->Prop
 | _,[]=>True
 | cs :: r,cs' :: r'=>zh src n cs cs'/\zd src n r r'
 | [],_ :: _=>False
def Yc (p:Nat) (σ σ':St):Prop:=∃ src:Src,Q6 src=true/\src.length=σ'.nx/\p<=σ'.bx.length/\σ'.lg=σ.lg/\ze src σ'.bx.length σ.tm σ'.tm/\zd src σ'.bx.length σ.bx σ'.bx
theorem Yc.mk {p:Nat} {σ σ':St} (src:Src) (h1:Q6 src=true) (h2:src.length=σ'.nx) (h3:p<=σ'.bx.length) (h0:σ'.lg=σ.lg) (h4:ze src σ'.bx.length σ.tm σ'.tm) (h5:zd src σ'.bx.length σ.bx σ'.bx):Yc p σ σ':=⟨src,h1,h2,h3,h0,h4,h5⟩
theorem Gk {src:Src} {n:Nat} {tm:List (Nat×C)} {R:Env} {L:Loc} {f:Nat->Value} (h0:∀ t,Rep R L (j7 tm t) (f t)):∀ {tm':List (Nat×C)},ze src n tm tm'->∀ t,Rep R (Jw src n L) (j7 tm' t) (f t)
 | [],_,t=>Ur
 | (u,c) :: r,h,t=>by
  simp only[ze]at h;simp only[j7];split
  ·subst_vars;exact Rep.less _ _ _ h.1 (h0 _)
  ·exact Gk h0 h.2 t
theorem Xn {src:Src} {n:Nat}:∀ {bx bx':List (List C)},zd src n bx bx'->∀ (i:Nat) cs',bx'[i]?=some cs'->∃ cs,bx[i]?=some cs/\zh src n cs cs'
 | _,[],_,i,cs',h=>by simp at h
 | cs :: r,cs0 :: r',h,0,cs',hc=>by
  simp only[zd]at h;simp at hc;subst hc;exact ⟨cs,rfl,h.1⟩
 | cs :: r,cs0 :: r',h,i+1,cs',hc=>by
  simp only[zd]at h;obtain ⟨c,h1,h2⟩:=Xn h.2 i cs' (by simpa using hc);exact ⟨c,by simpa using h1,h2⟩
 | [],_ :: _,h,_,_,_=>by simp only[zd]at h
theorem ZN:∀ {src:Src} {id i:Nat},src[id]?=some (.inl i)->i∈Vy src
 | [],_,_,h=>by simp at h
 | x :: r,0,i,h=>by
  simp at h;subst h;simp[Vy]
 | .inl j :: r,id+1,i,h=>by
  simp only[Vy];exact Wk _ (ZN (by simpa using h))
 | .inr j :: r,id+1,i,h=>by
  simp only[Vy];exact ZN (src:=r) (id:=id) (by simpa using h)
theorem xS:∀ {src:Src},(Vy src).Nodup->∀ {id id' i:Nat},src[id]?=some (.inl i)->src[id']?=some (.inl i)->id=id'
 | [],_,_,_,_,h,_=>by simp at h
 | x :: r,hn,0,0,i,h,h'=>rfl
 | x :: r,hn,0,id'+1,i,h,h'=>by
  simp at h;subst h;simp only[Vy,OP]at hn;exact absurd (ZN (src:=r) (id:=id') (by simpa using h')) hn.1
 | x :: r,hn,id+1,0,i,h,h'=>by
  simp at h';subst h';simp only[Vy,OP]at hn;exact absurd (ZN (src:=r) (id:=id) (by simpa using h)) hn.1
 | x :: r,hn,id+1,id'+1,i,h,h'=>by
  have hn':(Vy r).Nodup:=by
   cases x with
   | inl j=>simp only[Vy,OP]at hn;exact hn.2
   | inr j=>exact hn
  rw[xS hn' (id:=id) (id':=id') (i:=i) (by simpa using h) (by simpa using h')]
theorem UT {src:Src} {β':List Nat} (hs:Q6 src=true) (hβ:∀ b∈β',b∈L.β) (h:ZZ B R L):ZZ B R ⟨β',Vo src L.T⟩:=by
 have hn:(Vy src).Nodup:=WP hs;have key:∀ id e k v b,Vo src L.T id=some (e,k,v)->v.ownB=some b->∃ i,src[id]?=some (.inl i)/\L.T i=some (e,k,v):=fun id e k v b ht hb=>by
  unfold Vo at ht;split at ht
  ·rename_i i hi;exact ⟨i,hi,ht⟩
  ·cases ht;cases hb
  ·cases ht
 refine ⟨fun id e k v ht=>?_,fun id id' e k v e' k' v' b h1 h2 h3 h4=>?_⟩
 ·have ht':Vo src L.T id=some (e,k,v):=ht;unfold Vo at ht';split at ht'
  ·exact (h.own _ e k v ht').move fun g _ q2 _ q7=>⟨q2,rfl,fun hx=>q7 (hβ _ hx),fun _ h=>h⟩
  ·cases ht';exact .inl rfl
  ·cases ht'
 ·obtain ⟨i,hi1,hi2⟩:=key id e k v b h1 h3;obtain ⟨j,hj1,hj2⟩:=key id' e' k' v' b h2 h4;have:=h.apart i j e k v e' k' v' b hi2 hj2 h3 h4;subst this;exact xS hn hi1 hj1
section
variable {G:zq} {E:Ctx} {σ σ':St} {a:Act} {p:Nat}
theorem Xt {R:Env} {src:Src} {id e:Nat} (ht:Vo src L.T id=some (e,k,v)) (hb:v.ownB=some b):∃ i,src[id]?=some (.inl i)/\L.T i=some (e,k,v):=by
 unfold Vo at ht;split at ht
 ·rename_i i hi;exact ⟨i,hi,ht⟩
 ·cases ht;cases hb
 ·cases ht
theorem YU.weak (hp:E.β0.length<=p) (hw:Yc p σ σ') (h:YU G E σ R L):∃ src:Src,ze src σ'.bx.length σ.tm σ'.tm/\YU G E σ' R (Jw src σ'.bx.length L):=by
 obtain ⟨src,h1,h2,h3,h0,h4,h5⟩:=hw;have hl:=h.fit.boxes.len;have hlen:σ'.bx.length<=σ.bx.length:=by
  rcases Wp σ.bx.length σ'.bx.length with hx | hx
  ·obtain ⟨cs,hc,_⟩:=Xn h5 σ.bx.length (σ'.bx[σ.bx.length]) (Wa hx);simp at hc
  ·exact hx
 obtain ⟨more,hm1⟩:=h.box;have hg:=h;refine ⟨src,h4,⟨⟨h.fit.glob,⟨by simp;omega,h.fit.boxes.nodup.sublist (List.take_sublist _ _),fun i b cs' hi hc=>?_⟩,UT h1 (fun b hb=>Ww hb) h.fit.owns,h.fit.base⟩,hg.os,hg.tape,hg.output,hg.size,hg.blk,hg.ext,⟨more.take (σ'.bx.length-E.β0.length),?_⟩,fun b hb=>hg.tub b (Ww hb),hg.flt,hg.fz,fun b hb=>hg.fbx b (Ww hb),fun id e k v b ht hv=>?_,fun id hi=>?_,by rw[h0];exact hg.log⟩⟩
 ·obtain ⟨cs,hc1,hc2⟩:=Xn h5 i cs' hc;have hi':L.β[i]?=some b:=by
   have hi:(L.β.take σ'.bx.length)[i]?=some b:=hi;rw[WF]at hi;split at hi
   ·exact hi
   ·cases hi
  obtain ⟨vs,ty,e1,e2,e3,e4⟩:=h.fit.boxes.box i b cs hi' hc1;exact ⟨vs,ty,e1,zx.less _ _ _ hc2 e2,e3,e4⟩
 ·show L.β.take σ'.bx.length=_;rw[hm1,AD,Wg (by omega)]
 ·obtain ⟨i,_,hi⟩:=Xt (R:=R) ht hv;exact hg.fow i e k v b hi hv
 ·show Vo src L.T id=none;unfold Vo;rw[WY (by omega)]
theorem qT.weak (hp:E.β0.length<=p) (hw:Yc p σ σ') (h:qT G E σ a R L):∃ L',qT G E σ' a R L':=by
 obtain ⟨src,h4,hg⟩:=h.good.weak hp hw;exact ⟨_,hg,h.size,h.df,Gk h.tm h4⟩
theorem Inv.weak (hp:E.β0.length<=p) (hw:Yc p σ σ') (h:Inv G E σ a w):Inv G E σ' a w:=by
 obtain ⟨R,L,e,h⟩:=h;obtain ⟨L',h'⟩:=h.weak hp hw;exact ⟨R,L',e,h'⟩
end
end
section
open Go.RowKit
def XG (L:Loc) (b:Nat):Prop:=b∈L.β∨∃ id e k v,L.T id=some (e,k,v)/\v.ownB=some b
mutual
/-- boxes and owners under other zn -/
def C.re (fp fo:Nat->Option Nat):C->C
 | .own id e k rows=>match fo id with
  | some j=>.own j e k rows
  | none=>.sl k rows
 | .ptr i off=>match fp i with
  | some j=>.ptr j off
  | none=>.any
 | .bs i off k n c=>match fp i with
  | some j=>.bs j off k n c
  | none=>.any
 | .mo id t ks vs=>match fo id with
  | some j=>.mo j t ks (C.reL fp fo vs)
  | none=>.any
 | .agg cs=>.agg (C.reL fp fo cs)
 | .tup cs=>.tup (C.reL fp fo cs)
 | .clo fn first cap=>.clo fn (C.reL fp fo first) (C.reL fp fo cap)
 | .sc v=>.sc v
 | .str l=>.str l
 | .sl k rows=>.sl k rows
 | .tight k rows=>.tight k rows
 | .row cs=>.row cs
 | .any=>.any
def C.reL (fp fo:Nat->Option Nat):List C->List C
 | []=>[]
 | c :: r=>c.re fp fo :: C.reL fp fo r
end
section
variable {fp fo:Nat->Option Nat} {R R':Env}
mutual
theorem Rep.re (he:Ext R R'):∀ {L L':Loc} (hb:∀ i j b,fp i=some j->L.β[i]?=some b->L'.β[j]?=some b) (ho:∀ i j x,fo i=some j->L.T i=some x->L'.T j=some x) (c:C) (v:Value),Rep R L c v->Rep R' L' (c.re fp fo) v
 | _,L',hb,ho,.sc _,_,h=>by unfold C.re;unfold Rep at h ⊢;exact h
 | _,L',hb,ho,.str _,_,h=>by unfold C.re;unfold Rep at h ⊢;exact h
 | _,L',hb,ho,.agg cs,_,h=>by
  unfold C.re;unfold Rep at h ⊢;obtain ⟨vs,e,hl⟩:=h;exact ⟨vs,e,zx.re he hb ho cs _ hl⟩
 | _,L',hb,ho,.tup cs,_,h=>by
  unfold C.re;unfold Rep at h ⊢;obtain ⟨vs,e,hl⟩:=h;exact ⟨vs,e,zx.re he hb ho cs _ hl⟩
 | _,L',hb,ho,.sl k rows,v,h=>by
  unfold C.re;exact Rep.ext he (zR.none L') (.sl k rows) v (T:=zU) (by unfold Rep at h ⊢;exact h)
 | _,L',hb,ho,.tight k rows,v,h=>by
  unfold C.re;exact Rep.ext he (zR.none L') (.tight k rows) v (T:=zU) (by unfold Rep at h ⊢;exact h)
 | _,L',hb,ho,.own id e k rows,v,h=>by
  unfold C.re;have h2:=Rep.ext he (zR.none L') (.sl k rows) v (T:=zU) (by unfold Rep at h ⊢;exact h.2);split
  ·rename_i j hj;unfold Rep at h h2 ⊢;exact ⟨ho _ _ _ hj h.1,h2⟩
  ·exact h2
 | _,L',hb,ho,.ptr i off,_,h=>by
  unfold C.re;unfold Rep at h;split
  ·rename_i j hj;obtain ⟨b,e,h⟩:=h;unfold Rep;exact ⟨b,hb _ _ _ hj e,h⟩
  ·unfold Rep;trivial
 | _,L',hb,ho,.bs i off k n c,_,h=>by
  unfold C.re;unfold Rep at h;split
  ·rename_i j hj;obtain ⟨b,e,h⟩:=h;unfold Rep;exact ⟨b,hb _ _ _ hj e,h⟩
  ·unfold Rep;trivial
 | _,L',hb,ho,.mo id t ks vs,_,h=>by
  unfold C.re;unfold Rep at h;split
  ·rename_i j hj;obtain ⟨b,vvs,e,ht,hl⟩:=h;unfold Rep;exact ⟨b,vvs,e,ho _ _ _ hj ht,zx.re he (L:=⟨_,fun _=>none⟩) (L':=⟨_,fun _=>none⟩) hb (fun _ _ _ _ h=>by cases h) vs _ hl⟩
  ·unfold Rep;trivial
 | _,L',hb,ho,.row cs,v,h=>by
  unfold C.re;exact Rep.ext he (zR.none L') (.row cs) v (T:=zU) (by unfold Rep at h ⊢;exact h)
 | _,L',hb,ho,.clo fn first cap,_,h=>by
  unfold C.re;unfold Rep at h ⊢;obtain ⟨fs,cs,e,h1,h2⟩:=h;exact ⟨fs,cs,e,zx.re he hb ho first _ h1,zx.re he hb ho cap _ h2⟩
 | _,L',hb,ho,.any,_,_=>by unfold C.re;unfold Rep;trivial
theorem zx.re (he:Ext R R'):∀ {L L':Loc} (hb:∀ i j b,fp i=some j->L.β[i]?=some b->L'.β[j]?=some b) (ho:∀ i j x,fo i=some j->L.T i=some x->L'.T j=some x) (cs:List C) (vs:List Value),zx R L cs vs->zx R' L' (C.reL fp fo cs) vs
 | _,L',hb,ho,[],_,h=>by unfold C.reL;rw[zm]at h ⊢;exact h
 | _,L',hb,ho,c :: r,_,h=>by
  unfold C.reL;rw[zg]at h ⊢;obtain ⟨v,us,e,h1,h2⟩:=h;exact ⟨v,us,e,Rep.re he hb ho c v h1,zx.re he hb ho r us h2⟩
end
end
def Xe (P:Program) (G:zq) (f:FuncId) (args:List C) (bx:List (List C)) (q:Nat) (post:C->List (List C)->Nat->Prop):Prop:=
 Xd P f=true/\∀ (R:Env) (L:Loc) (vs:List Value),Qb G R->j4 R L bx->ZZ (fun _=>True) R L->(∀ id,q<=id->L.T id=none)->(∀ b,R.F b->b<R.w.heap.size)->(∀ b,XG L b->¬R.F b)->zx R L args vs ->
  Calls P f vs.toArray R.w fun e w'=>∃ r bx' n,(post r bx' n/\bx.length<=bx'.length)/\∃ v R' L',e = .returned v/\R'.w=w'/\xX R.w (XG L) R R'/\j4 R' L' bx'/\ZZ (fun g=>R.w.heap.size<=g∨XG L g) R' L'/\(∃ more,L'.β=L.β++more/\∀ b∈more,R.w.heap.size<=b)/\(∀ id,n<=id->L'.T id=none)/\Rep R' L' r v
theorem Xe.bySlice {G:zq} {f:FuncId} {rows:List (List C)} {rest:List C} {bx:List (List C)} {q:Nat} {post:C->List (List C)->Nat->Prop} (h1:rows≠[]->Xe P G f (.sl k rows :: rest) bx q post)
  (h2:rows = []->∀ a cap,(∀ k,C.rows? k (.sc (.slice a 0 cap))=some [])->Xe P G f (.sc (.slice a 0 cap) :: rest) bx q post):Xe P G f (.sl k rows :: rest) bx q post:=by
 by_cases h:rows = []
 ·have hn:=h2 h none 0 (fun k=>rfl);refine ⟨hn.1,fun R L vs a1 a2 a3 a4 a5 a6 hv=>?_⟩;obtain ⟨v,us,rfl,hv,hus⟩:=zg.1 hv;unfold Rep at hv;obtain ⟨a,cap,e,_,hc,_⟩:=hv;rw[h]at e;refine (h2 h a cap (fun k=>?_)).2 R L _ a1 a2 a3 a4 a5 a6 (zg.2 ⟨v,us,rfl,zp.2 e,hus⟩);cases a with
  | none=>cases cap with
   | zero=>rfl
   | succ c=>simp[C.rows?,hc]
  | some a=>simp[C.rows?,hc]
 ·exact h1 h
def Zb (P:Program) (G:zq) (f:FuncId) (args:List C) (bx:List (List C)) (q:Nat) (r:C) (bx':List (List C)) (n:Nat):Prop:=
 Xe P G f args bx q fun r' b' n'=>r'=r/\b'=bx'/\n'=n
def X5:List Nat->Nat->Option Nat
 | [],_=>none
 | x :: r,i=>if i=x then some 0 else (X5 r i).map (·+1)
theorem ZA:∀ (l:List Nat) (i j:Nat),X5 l i=some j->l[j]?=some i
 | [],i,j,h=>by simp[X5]at h
 | x :: r,i,j,h=>by
  unfold X5 at h;split at h
  ·cases h;subst_vars;rfl
  ·cases hq:X5 r i with
   | none=>rw[hq]at h;cases h
   | some k =>
    rw[hq]at h;cases h;simpa using ZA r i k hq
def upB (ι:List Nat) (m j:Nat):Option Nat:=match ι[j]? with | some i=>some i | none=>some (m+(j-ι.length))
def upO (nx j:Nat):Option Nat:=some (nx+j)
def Z6 (κ:List Nat) (i:Nat):Option Nat:=if i∈κ then none else some i
def Gp (fp fo:Nat->Option Nat):List (Nat×C)->List (Nat×C)
 | []=>[]
 | (t,c) :: r=>(t,c.re fp fo) :: Gp fp fo r
theorem GR (fp fo:Nat->Option Nat):∀ (tm:List (Nat×C)) (t:Nat),j7 (Gp fp fo tm) t=(j7 tm t).re fp fo
 | [],t=>by simp only[Gp,j7];unfold C.re;rfl
 | (u,c) :: r,t=>by
  simp only[Gp,j7];split
  ·rfl
  ·exact GR fp fo r t
def N3 (fp fo:Nat->Option Nat):List (List C)->List (List C)
 | []=>[]
 | cs :: r=>C.reL fp fo cs :: N3 fp fo r
theorem QX (fp fo:Nat->Option Nat):∀ (bx:List (List C)) (i:Nat),(N3 fp fo bx)[i]?=(bx[i]?).map (C.reL fp fo)
 | [],i=>by simp[N3]
 | c :: r,0=>by simp[N3]
 | c :: r,i+1=>by simp[N3,QX fp fo r i]
theorem jk (fp fo:Nat->Option Nat):∀ bx:List (List C),(N3 fp fo bx).length=bx.length
 | []=>rfl
 | c :: r=>by simp[N3,jk fp fo r]
def VH:List Nat->List (List C)->List (List C)->List (List C)
 | i :: ι,cs :: r,bx=>VH ι r (bx.set i cs)
 | _,_,bx=>bx
theorem J9:∀ (ι:List Nat) (l bx:List (List C)),(VH ι l bx).length=bx.length
 | [],_,_=>rfl
 | i :: ι,[],_=>rfl
 | i :: ι,c :: r,bx=>by simp[VH,J9 ι r]
theorem Zs:∀ (ι:List Nat) (l bx:List (List C)) (i:Nat),i∉ι->(VH ι l bx)[i]?=bx[i]?
 | [],_,_,i,_=>rfl
 | x :: ι,[],_,i,_=>rfl
 | x :: ι,c :: r,bx,i,h=>by
  simp only[VH];rw[Zs ι r _ i (fun h'=>h (Wk _ h')),Ou (fun e:x=i=>h (by rw[e];exact Wj))]
theorem MU:∀ (ι:List Nat) (l bx:List (List C)) (i j:Nat) (cs:List C),ι.Nodup->ι[j]?=some i->l[j]?=some cs->i<bx.length->(VH ι l bx)[i]?=some cs
 | [],_,_,i,j,cs,_,h,_,_=>by simp at h
 | x :: ι,[],_,i,j,cs,_,_,h,_=>by simp at h
 | x :: ι,c :: r,bx,i,0,cs,hn,h1,h2,h3=>by
  simp at h1 h2;subst h1 h2;simp only[VH];rw[Zs ι r _ x (OP.1 hn).1,Oy h3]
 | x :: ι,c :: r,bx,i,j+1,cs,hn,h1,h2,h3=>by
  simp only[VH];exact MU ι r _ i j cs (OP.1 hn).2 (by simpa using h1) (by simpa using h2) (by simpa using h3)
def Z3 (ι κ:List Nat) (bx':List (List C)) (n:Nat) (σ:St):St:=
 ⟨Gp some (Z6 κ) σ.tm,VH ι (N3 (upB ι σ.bx.length) (upO σ.nx) bx') (N3 some (Z6 κ) σ.bx)++N3 (upB ι σ.bx.length) (upO σ.nx) (bx'.drop ι.length),σ.nx+n,σ.lg⟩
def kI (P:Program) (G:zq) (f:FuncId) (args:List C) (σ:St) (K:C->St->Prop):Prop:=
 ∃ (ι κ:List Nat) (post:C->List (List C)->Nat->Prop),ι.Nodup/\κ.Nodup/\(∀ i∈ι,i<σ.bx.length) /\
  Xe P G f (C.reL (X5 ι) (X5 κ) args) (ι.map fun i=>C.reL (X5 ι) (X5 κ) (σ.bx.getD i [])) κ.length post/\∀ r bx' n,post r bx' n->K (r.re (upB ι σ.bx.length) (upO σ.nx)) (Z3 ι κ bx' n σ)
def vx (P:Program) (G:zq) (f:FuncId) (args:List C) (σ:St) (K:C->St->Prop):Prop:=
 ∃ (ι κ:List Nat) (r:C) (bx':List (List C)) (n:Nat),ι.Nodup/\κ.Nodup/\(∀ i∈ι,i<σ.bx.length) /\
  Zb P G f (C.reL (X5 ι) (X5 κ) args) (ι.map fun i=>C.reL (X5 ι) (X5 κ) (σ.bx.getD i [])) κ.length r bx' n/\K (r.re (upB ι σ.bx.length) (upO σ.nx)) (Z3 ι κ bx' n σ)
section
variable {P:Program} {G:zq} {E:Ctx} {σ σ':St} {o:Oper} {a:Act} {R R':Env} {L L':Loc}
theorem YU.turf (h:YU G E σ R L) {b:Nat} (hb:XG L b):E.tu b/\¬R.F b/\b<R.w.heap.size/\((∃ cs t f,R.w.heap[b]?=some (.cells cs t f))∨∃ es cl,R.w.heap[b]?=some (.map es cl)):=by
 rcases hb with hb | ⟨id,e,k,v,ht,hv⟩
 ·obtain ⟨i,hi,rfl⟩:=Wx hb;have hl:=h.fit.boxes.len;obtain ⟨vs,ty,g,_⟩:=h.fit.boxes.box i L.β[i] (σ.bx[i]'(by omega)) (Wa hi) (Wa (by omega));exact ⟨h.tubx _ hb,h.fbx _ hb,qg g,.inl ⟨_,_,_,g⟩⟩
 ·have ho:=h.fit.owns.own id e k v ht;have hf:=h.fow id e k v b ht hv;exact ⟨(ho.block hv).1,hf,(ho.block hv).2.1,ho.held hv⟩
abbrev Gm (G:zq) (E:Ctx) (a:Act) (nx:Nat) (L:Loc) (K:C->St->Prop) (v:Value) (w':World):Prop:=∃ c σ' R' L',R'.w=w'/\qT G E σ' a R' L'/\Rep R' L' c v/\K c σ'/\∀ id,id<nx->L.T id=none->L'.T id=none
theorem Gm.after {L:Loc} {K:C->St->Prop} (h:Gm G E a nx L K v w'):YV G E a K v w':=by
 obtain ⟨c,σ',R',L',h1,h2,h3,h4,_⟩:=h;exact ⟨c,σ',R',L',h1,h2,h3,h4⟩
theorem Uc {c:Call} (ho:o.op = .call c) (hc:c.callee = .value f) {fid:FuncId} {first cap:List C} (hev:zB G σ.tm f = .clo (.func fid) first cap) {K:C->St->Prop} (h:qT G E σ a R L)
  (hK:kI P G fid (first++c.args.toList.map (zB G σ.tm)++cap) σ K):jv P o a.eval R.w (Gm G E a σ.nx L K):=by
 obtain ⟨ι,κ,post,hι,hκ,hιb,⟨hent,hfun⟩,hK⟩:=hK;have hg:=h.good;have hbl:=hg.fit.boxes.len;have hnd:=hg.fit.boxes.nodup
 let g:Nat->Nat:=fun i=>L.β.getD i 0
 have hgv:∀ i,i<σ.bx.length->L.β[i]?=some (g i):=fun i hi=>by
  simp only[g,W4];rw[Wa (by omega)];rfl
 have hginj:∀ i j,i<σ.bx.length->j<σ.bx.length->g i=g j->i=j:=fun i j hi hj e=>by
  have h1:=hgv i hi;have h2:=hgv j hj;rw[e,←h2]at h1;exact (Ab (by omega) hnd).1 h1
 let Lf:Loc:=⟨ι.map g,fun j=>(κ[j]?).bind L.T⟩
 have hfβ:∀ j b,(ι.map g)[j]?=some b->∃ i,ι[j]?=some i/\i<σ.bx.length/\L.β[i]?=some b:=fun j b hj=>by
  rw[Wy]at hj;cases hq:ι[j]? with
  | none=>rw[hq]at hj;cases hj
  | some i =>
   rw[hq]at hj;cases hj;have hi:=hιb i (Wf hq);exact ⟨i,hq,hi,hgv i hi⟩
 have hre:∀ cs vs,zx R L cs vs->zx R Lf (C.reL (X5 ι) (X5 κ) cs) vs:=fun cs vs hr=>zx.re (Ext.refl R) (fun i j b hij hb=>by
   have:=ZA ι i j hij;show (ι.map g)[j]?=some b;rw[Wy,this];have hi:=hιb i (Wf this);rw[←hb,hgv i hi];rfl) (fun i j x hij hx=>by
   have:=ZA κ i j hij;show (κ[j]?).bind L.T=some x;rw[this];exact hx) _ _ hr
 have hTf:∀ j x,Lf.T j=some x->∃ id,κ[j]?=some id/\L.T id=some x:=fun j x hj=>by
  have hj:(κ[j]?).bind L.T=some x:=hj;cases hq:κ[j]? with
  | none=>rw[hq]at hj;cases hj
  | some id=>rw[hq]at hj;exact ⟨id,rfl,hj⟩
 have hturf:∀ b,XG Lf b->XG L b:=fun b hb=>by
  rcases hb with hb | ⟨id,e,k,v,ht,hv⟩
  ·obtain ⟨j,hj,rfl⟩:=Wx hb;obtain ⟨i,_,_,hi⟩:=hfβ j _ (Wa hj);exact .inl (Wf hi)
  ·obtain ⟨id',_,ht'⟩:=hTf id _ ht;exact .inr ⟨id',e,k,v,ht',hv⟩
 have hownOld:∀ id e k v b,L.T id=some (e,k,v)->v.ownB=some b->E.tu b/\b<R.w.heap.size/\b∉L.β:=fun id e k v b ht hv=>(hg.fit.owns.own id e k v ht).block hv;have hf:=h.ev f;rw[hev,YI]at hf;obtain ⟨fs,cs,e1,h1,h2⟩:=hf;have hargs:=hre _ _ (zo (zo h1 (YY h.ev c.args.toList)) h2);have hκinj:∀ (i j x:Nat),κ[i]?=some x->κ[j]?=some x->i=j:=fun i j x hi hj=>(Ab (Wc.1 hi).1 hκ).1 (hi.trans hj.symm);have hcall:=hfun R Lf _ hg.fit.glob ⟨by simp[Lf],by
   show (ι.map g).Nodup;rw[List.Nodup,List.pairwise_map];exact hι.imp_of_mem fun {i j} hi hj hne e=>hne (hginj i j (hιb i hi) (hιb j hj) e),fun j b cs' hj hc'=>by
   obtain ⟨i,hi,hib,hib'⟩:=hfβ j b hj;rw[Wy,hi]at hc';have hbx:σ.bx[i]?=some (σ.bx.getD i []):=by rw[W4,Wa hib];rfl
   cases hc';obtain ⟨vs,ty,q1,q2,q3,q4⟩:=hg.fit.boxes.box i b _ hib' hbx;exact ⟨vs,ty,q1,hre _ _ q2,q3,q4⟩⟩
  ⟨fun j e k v hj=>by
   obtain ⟨id,_,hid⟩:=hTf j _ hj
   ·refine (hg.fit.owns.own id e k v hid).move fun gg _ q2 _ q7=>⟨trivial,rfl,fun hx=>q7 ?_,fun _ h=>h⟩;have hx:gg∈ι.map g:=hx;obtain ⟨i,hi,rfl⟩:=WQ.1 hx;exact Wf (hgv i (hιb i hi)),fun i j e k v e' k' v' b hi hj hv hv'=>by
   obtain ⟨x,hx,hx'⟩:=hTf i _ hi;obtain ⟨y,hy,hy'⟩:=hTf j _ hj;have:=hg.fit.owns.apart x y e k v e' k' v' b hx' hy' hv hv';subst this;exact hκinj i j x hx hy⟩ (fun id hid=>by
   show (κ[id]?).bind L.T=none;rw[WY hid];rfl) hg.flt (fun b hb=>(hg.turf (hturf b hb)).2.1) hargs
 have hrun:(execOp a.eval o).run P R.w = .ok (.enter fid (fs.toList++c.args.toList.map a.eval++cs.toList).toArray) R.w:=by
  unfold execOp;simp only[ho,resolve,hc,e1];have e2:(Deferred.ofValue (.func (.func fid) fs cs) (c.args.map a.eval)).run P R.w = .ok { target:=.fn (.func fid) cs,args:=fs++c.args.map a.eval } R.w:=by
   simp[Deferred.ofValue]
  rw[Wm,e2];simp only[Wh,invoke];rw[ZX hent];congr 2;apply Bq;simp
 unfold jv;rw[hrun];refine hcall.mono ?_;rintro e w' ⟨r,bx',n,⟨hpost,hlen⟩,v,R',L',rfl,rfl,hn,hbx',how',⟨more,hm1,hm2⟩,hfree',hrep⟩;have hK:=hK r bx' n hpost;have hm1:L'.β=ι.map g++more:=hm1;have hιl:(ι.map g).length=ι.length:=by simp
 have hmn:=hbx'.nodup;rw[hm1,Aa]at hmn;have hnear:xX E.w0 E.ex R R':=⟨hn.os,hn.tape,hn.output,hn.size,hn.fgn,hn.ext,fun b hb=>(hn.blk b hb).imp id fun ⟨q1,q2,q3⟩=>⟨by
  rcases q1 with q1 | q1
  ·omega
  ·exact (hg.turf (hturf b q1)).1,q2,q3⟩⟩
 have hsame:∀ b,b<R.w.heap.size->¬XG Lf b->R'.w.heap[b]?=R.w.heap[b]?/\∀ o,(R'.M b o↔R.M b o):=fun b hb hT=>by
  rcases hn.blk b hb with q | ⟨q,_⟩
  ·exact q
  ·rcases q with q | q
   ·omega
   ·exact absurd q hT
 let L2:Loc:=⟨L.β++more,fun id=>if σ.nx<=id/\id<σ.nx+n then L'.T (id-σ.nx) else if id∈κ then none else L.T id⟩
 have hnewT:∀ j x,L'.T j=some x->L2.T (σ.nx+j)=some x:=fun j x hj=>by
  have hjn:j<n:=by
   rcases Wp j n with q | q
   ·exact q
   ·rw[hfree' j q]at hj;cases hj
  show (if σ.nx<=σ.nx+j/\σ.nx+j<σ.nx+n then L'.T (σ.nx+j-σ.nx) else _)=some x;rw[if_pos ⟨by omega,by omega⟩,OW];exact hj
 have hup:∀ cs vs,zx R' L' cs vs->zx R' L2 (C.reL (upB ι σ.bx.length) (upO σ.nx) cs) vs:=fun cs vs hr=>zx.re (Ext.refl R') (fun j i b hji hb=>by
   rw[hm1]at hb;unfold upB at hji;show (L.β++more)[i]?=some b;split at hji
   ·rename_i i' hi';cases hji;have hjl:j<ι.length:=(Wc.1 hi').1;rw[Wt (by omega)]at hb;obtain ⟨i2,hi2,hi2b,hb2⟩:=hfβ j b hb;rw[hi']at hi2;cases hi2;rw[Wt (by omega)];exact hb2
   ·rename_i hno;cases hji;have hjl:ι.length<=j:=by
     rcases Wp j ι.length with q | q
     ·rw[Wa q]at hno;cases hno
     ·exact q
    rw[WK (by omega),hιl]at hb;rw[WK (by omega),hbl,OW];exact hb) (fun j i x hji hx=>by
   unfold upO at hji;cases hji;exact hnewT j x hx) _ _ hr
 have hupC:Rep R' L2 (r.re (upB ι σ.bx.length) (upO σ.nx)) v:=by
  have:=hup [r] [v] (zg.2 ⟨v,[],rfl,hrep,zm.2 rfl⟩);unfold C.reL at this;obtain ⟨v',us,q1,q2,_⟩:=zg.1 this;cases q1;exact q2
 have hkeep1:∀ (i j b:Nat),some i=some j->L.β[i]?=some b->L2.β[j]?=some b:=fun i j b hij hb=>by
  cases hij;show (L.β++more)[i]?=some b;rw[Wt (Wc.1 hb).1];exact hb
 have hkeep2:∀ i j x,Z6 κ i=some j->L.T i=some x->L2.T j=some x:=fun i j x hij hx=>by
  unfold Z6 at hij;split at hij
  ·cases hij
  ·rename_i hni;cases hij;have hlt:i<σ.nx:=by
    rcases Wp i σ.nx with q | q
    ·exact q
    ·rw[hg.free i q]at hx;cases hx
   show (if _ then _ else if i∈κ then none else L.T i)=some x;rw[if_neg (by omega),if_neg hni];exact hx
 have hL2:∀ id x,L2.T id=some x->(σ.nx<=id/\id<σ.nx+n/\L'.T (id-σ.nx)=some x)∨(id∉κ/\L.T id=some x):=fun id x hx=>by
  have hx:(if σ.nx<=id/\id<σ.nx+n then L'.T (id-σ.nx) else if id∈κ then none else L.T id)=some x:=hx;split at hx
  ·rename_i hq;exact .inl ⟨hq.1,hq.2,hx⟩
  ·split at hx
   ·cases hx
   ·rename_i hni;exact .inr ⟨hni,hx⟩
 have hnewB:∀ j e k v b,L'.T j=some (e,k,v)->v.ownB=some b->(R.w.heap.size<=b∨∃ i e' k' v',i∈κ/\L.T i=some (e',k',v')/\v'.ownB=some b)/\b∉L'.β:=fun j e k v b hj hv=>by
  have hbk:=(how'.own j e k v hj).block hv;refine ⟨?_,hbk.2.2⟩;rcases hbk.1 with q | q
  ·exact .inl q
  ·rcases q with q | ⟨i,e',k',v',ht,hv'⟩
   ·exact absurd (by rw[hm1];exact OB _ q) hbk.2.2
   ·obtain ⟨x,hx,hx'⟩:=hTf i _ ht;exact .inr ⟨x,e',k',v',Wf hx,hx',hv'⟩
 have hnewL:∀ j e k v b,L'.T j=some (e,k,v)->v.ownB=some b->b∉L.β++more:=fun j e k v b hj hv hb=>by
  obtain ⟨q1,q2⟩:=hnewB j e k v b hj hv;rcases WB.1 hb with hb | hb
  ·rcases q1 with q1 | ⟨i,e',k',v',_,ht,hv'⟩
   ·have:=hg.fit.β_lt b hb;omega
   ·exact (hownOld i e' k' v' b ht hv').2.2 hb
  ·exact q2 (by rw[hm1];exact List.mem_append_right _ hb)
 have hnotT:∀ i e k v b,i∉κ->L.T i=some (e,k,v)->v.ownB=some b->¬XG Lf b:=fun i e k v b hni ht hv hT=>by
  rcases hT with hT | ⟨j,e',k',v',ht',hv'⟩
  ·obtain ⟨x,hx,rfl⟩:=WQ.1 hT;exact (hownOld i e k v _ ht hv).2.2 (Wf (hgv x (hιb x hx)))
  ·obtain ⟨x,hx,hx'⟩:=hTf j _ ht';have:=hg.fit.owns.apart i x e k v e' k' v' b ht hx' hv hv';subst this;exact hni (Wf hx)
 refine ⟨v,rfl,_,Z3 ι κ bx' n σ,R',L2,rfl,⟨hg.move (tm':=Gp some (Z6 κ) σ.tm) hnear.nigh ⟨hg.fit.glob.ext hn.ext,⟨?_,?_,fun i b cs' hi hc'=>?_⟩,⟨fun id e k v ht=>?_,fun id id' e k v e' k' v' b ht ht' hv hv'=>?_⟩,fun gg hgg=>hg.fit.base gg (WN hn.size hgg)⟩ ⟨more,rfl,hm2⟩ (fun id e k v b ht hv=>?_) (fun id hid=>?_),h.size,h.df.near hnear,fun t=>?_⟩,hupC,hK,fun id hid hT=>?_⟩
 ·have:=hbx'.len;rw[hm1]at this;simp only[L2,Wn,J9,jk,W7]at this ⊢;simp at this;omega
 ·show (L.β++more).Nodup;rw[Aa];refine ⟨hnd,hmn.2.1,fun x hx y hy e=>?_⟩;have:=hg.fit.β_lt x hx;have:=hm2 y hy;omega
 ·have hi:(L.β++more)[i]?=some b:=hi;rcases Wp i L.β.length with hlt | hge
  ·rw[Wt hlt]at hi;rw[Wt (by rw[J9,jk];omega)]at hc';by_cases hmem:i∈ι
   ·obtain ⟨j,hj,hji⟩:=Wx hmem;have hji':ι[j]?=some i:=by rw[Wa hj,hji]
    have hj2:j<bx'.length:=by simp at hlen;omega
    rw[MU ι _ _ i j (C.reL (upB ι σ.bx.length) (upO σ.nx) bx'[j]) hι hji' (by rw[QX,Wa hj2];rfl) (by rw[jk];omega)]at hc';cases hc';have hLj:L'.β[j]?=some b:=by
     rw[hm1,Wt (by omega),Wy,hji'];have hgi:=hgv i (by omega);rw[hi]at hgi;simpa using hgi.symm
    obtain ⟨vs,ty,q1,q2,q3,q4⟩:=hbx'.box j b _ hLj (Wa hj2);exact ⟨vs,ty,q1,hup _ _ q2,q3,q4⟩
   ·rw[Zs ι _ _ i hmem,QX]at hc';cases hq:σ.bx[i]? with
    | none=>rw[hq]at hc';cases hc'
    | some c0 =>
     rw[hq]at hc';cases hc';obtain ⟨vs,ty,q1,q2,q3,q4⟩:=hg.fit.boxes.box i b c0 hi hq;have hnT:¬XG Lf b:=fun hT=>by
      rcases hT with hT | ⟨j,e',k',v',ht',hv'⟩
      ·obtain ⟨x,hx,rfl⟩:=WQ.1 hT;have h5:=hgv x (hιb x hx);have:=(Ab (by omega) hnd).1 (hi.trans h5.symm);subst this;exact hmem hx
      ·obtain ⟨x,hx,hx'⟩:=hTf j _ ht';exact (hownOld x e' k' v' b hx' hv').2.2 (Wf hi)
     obtain ⟨k1,k2⟩:=hsame b (qg q1) hnT;exact ⟨vs,ty,k1.trans q1,zx.re hn.ext hkeep1 hkeep2 _ _ q2,q3,fun o=>(k2 o).2 (q4 o)⟩
  ·rw[WK hge]at hi;rw[WK (by rw[J9,jk];omega),J9,jk,QX,W3]at hc';have hLj:L'.β[ι.length+(i-σ.bx.length)]?=some b:=by
    rw[hm1,WK (by omega),hιl,OW,←hbl];exact hi
   cases hq:bx'[ι.length+(i-σ.bx.length)]? with
   | none=>rw[hq]at hc';cases hc'
   | some c0 =>
    rw[hq]at hc';cases hc';obtain ⟨vs,ty,q1,q2,q3,q4⟩:=hbx'.box _ b c0 hLj hq;exact ⟨vs,ty,q1,hup _ _ q2,q3,q4⟩
 ·rcases hL2 id _ ht with ⟨_,_,hj⟩ | ⟨hni,hj⟩
  ··refine (how'.own _ e k v hj).move fun gg hv q2 _ q7=>⟨?_,rfl,hnewL _ e k v gg hj hv,fun _ h=>h⟩;rcases q2 with q2 | q2
    ·exact hg.fit.base gg q2
    ·exact (hg.turf (hturf gg q2)).1
  ··refine (hg.fit.owns.own id e k v hj).move fun gg hv q2 hlt q7=>?_;obtain ⟨k1,k2⟩:=hsame gg hlt (hnotT id e k v gg hni hj hv);refine ⟨q2,k1,fun hx=>?_,fun o ho=>(k2 o).2 ho⟩;rcases WB.1 hx with hx | hx
    ·exact q7 hx
    ·have:=hm2 gg hx;omega
 ·rcases hL2 id _ ht with ⟨p1,p2,hj⟩ | ⟨hni,hj⟩<;>rcases hL2 id' _ ht' with ⟨p1',p2',hj'⟩ | ⟨hni',hj'⟩
  ·have:=how'.apart _ _ e k v e' k' v' b hj hj' hv hv';omega
  ·exfalso
   rcases (hnewB _ e k v b hj hv).1 with q | ⟨i,e2,k2,v2,hik,hti,hvi⟩
   ·have:=(hownOld id' e' k' v' b hj' hv').2.1;omega
   ·have:=hg.fit.owns.apart i id' e2 k2 v2 e' k' v' b hti hj' hvi hv';subst this;exact hni' hik
  ·exfalso
   rcases (hnewB _ e' k' v' b hj' hv').1 with q | ⟨i,e2,k2,v2,hik,hti,hvi⟩
   ·have:=(hownOld id e k v b hj hv).2.1;omega
   ·have:=hg.fit.owns.apart i id e2 k2 v2 e k v b hti hj hvi hv;subst this;exact hni hik
  ·exact hg.fit.owns.apart id id' e k v e' k' v' b hj hj' hv hv'
 ·rcases hL2 id _ ht with ⟨_,_,hj⟩ | ⟨hni,hj⟩
  ·rcases (hnewB _ e k v b hj hv).1 with q | ⟨i,e2,k2,v2,hik,hti,hvi⟩
   ·exact .inr q
   ·exact .inl ⟨i,e2,k2,v2,hti,hvi⟩
  ·exact .inl ⟨id,e,k,v,hj,hv⟩
 ·show (if σ.nx<=id/\id<σ.nx+n then _ else if id∈κ then none else L.T id)=none;rw[if_neg (by omega)];split
  ·rfl
  ·exact hg.free id (by omega)
 ·show Rep R' L2 (j7 (Gp some (Z6 κ) σ.tm) t) _;rw[GR];exact Rep.re hn.ext hkeep1 hkeep2 _ _ (h.tm t)
 ·show (if σ.nx<=id/\id<σ.nx+n then _ else if id∈κ then none else L.T id)=none;rw[if_neg (by omega),hT];split<;>rfl
theorem Hz {c:Call} (ho:o.op = .call c) (hc:c.callee = .value f) {fid:FuncId} {first cap:List C} (hev:zB G σ.tm f = .clo (.func fid) first cap) {K:C->St->Prop} (h:qT G E σ a R L)
  (hK:kI P G fid (first++c.args.toList.map (zB G σ.tm)++cap) σ K):jv P o a.eval R.w (YV G E a K):=(Uc ho hc hev h hK).mono fun _ _ h=>h.after
theorem vE {c:Call} (ho:o.op = .call c) (hc:c.callee = .value f) {fid:FuncId} {first cap:List C} (hev:zB G σ.tm f = .clo (.func fid) first cap) {K:C->St->Prop} (h:qT G E σ a R L)
  (hK:vx P G fid (first++c.args.toList.map (zB G σ.tm)++cap) σ K):jv P o a.eval R.w (YV G E a K):=by
 obtain ⟨ι,κ,r,bx',n,hι,hκ,hιb,hf,hK⟩:=hK;exact Hz ho hc hev h ⟨ι,κ,_,hι,hκ,hιb,hf,by rintro r' b' n' ⟨rfl,rfl,rfl⟩;exact hK⟩
def zsw (P:Program) (f:FuncId) (args:List C) (bx:List (List C)) (r:C):Prop:=
 ∀ (B:Nat->Prop) (R:Env) (L:Loc) (vs:List Value),j4 R L bx->ZZ B R L->zx R L args vs->∃ v,(callFunc f vs.toArray).run P R.w = .ok (.value v) R.w/\Rep R L r v
def zd0 (P:Program) (f:FuncId) (args:List C) (σ:St) (K:C->St->Prop):Prop:=∃ r,zsw P f args σ.bx r/\K r σ
theorem vn {c:Call} (ho:o.op = .call c) (hc:c.callee = .value f) {fid:FuncId} {first cap:List C} (hev:zB G σ.tm f = .clo (.func fid) first cap) {K:C->St->Prop} (h:qT G E σ a R L)
  (hK:zd0 P fid (first++c.args.toList.map (zB G σ.tm)++cap) σ K):jv P o a.eval R.w (YV G E a K):=by
 obtain ⟨r,hr,hK⟩:=hK;have hf:=h.ev f;rw[hev,YI]at hf;obtain ⟨fs,cs,e1,h1,h2⟩:=hf;obtain ⟨v,hv,hrep⟩:=hr _ R L _ h.good.fit.boxes h.good.fit.owns (zo (zo h1 (YY h.ev c.args.toList)) h2);refine jv.value (w':=R.w) (v:=v) ?_ ⟨_,_,R,L,rfl,h,hrep,hK⟩;unfold execOp;simp only[ho,resolve,hc,e1];have e2:(Deferred.ofValue (.func (.func fid) fs cs) (c.args.map a.eval)).run P R.w = .ok { target:=.fn (.func fid) cs,args:=fs++c.args.map a.eval } R.w:=by
  simp[Deferred.ofValue]
 rw[Wm,e2];simp only[Wh,invoke];rw[←hv];congr 2;apply Bq;simp
end
end
section
open Go.RowKit
section
variable {P:Program} {G:zq} {E:Ctx} {σ:St} {o:Oper} {a:Act}
theorem qT.newBoxT (h:qT G E σ a R L) {w':World} (hb:Below R.w.heap.size R.w w') {g:Nat} (hg:R.w.heap.size<=g) (cs:List C) (vs:Array Value) (ty:TypeId) (hh:w'.heap[g]?=some (.cells vs ty (0,0)))
  (hr:∀ M',(∀ b o,b<R.w.heap.size->(M' b o↔R.M b o))->(∀ o,M' g o)->(∀ b o,R.w.heap.size<=b->b≠g->¬M' b o)->zx ⟨w',M',R.F⟩ L cs vs.toList) (h1:∀ v∈vs.toList,v.oneCell'=true) :
  ∃ R' L',R'.w=w'/\qT G E ⟨σ.tm,σ.bx++[cs],σ.nx,σ.lg⟩ a R' L'/\L'.β[σ.bx.length]?=some g/\L'.T=L.T:=by
 have hmt:∀ b o,b<R.w.heap.size->(((b<R.w.heap.size/\R.M b o)∨b=g)↔R.M b o):=fun b o hlt=>⟨fun h'=>by rcases h' with h' | h';exact h'.2;omega,fun h'=>.inl ⟨hlt,h'⟩⟩;have hext:Ext R ⟨w',fun b o=>(b<R.w.heap.size/\R.M b o)∨b=g,R.F⟩:=Ext.of_below hb hmt;have hnear:xX E.w0 E.ex R ⟨w',fun b o=>(b<R.w.heap.size/\R.M b o)∨b=g,R.F⟩:=
  ⟨hb.os,hb.tape,hb.output,hb.size,rfl,hext,fun b hlt=>.inl ⟨hb.block b hlt,fun o=>hmt b o hlt⟩⟩
 have hlen:=h.good.fit.boxes.len;have hle:zR L ⟨L.β++[g],L.T⟩:=⟨fun i b e=>by
  have hi:i<L.β.length:=(Wc.1 e).1;rw[Wt hi];exact e,fun _ _ e=>e⟩
 have hrr:=hr (fun b o=>(b<R.w.heap.size/\R.M b o)∨b=g) hmt (fun o=>.inr rfl) (fun b o hb' hne hx=>by rcases hx with hx | hx;omega;exact hne hx);refine ⟨⟨w',fun b o=>(b<R.w.heap.size/\R.M b o)∨b=g,R.F⟩,⟨L.β++[g],L.T⟩,rfl,
  ⟨h.good.move hnear.nigh ⟨h.good.fit.glob.ext hext,⟨by simp[hlen],?_,fun i b cs' hi hc=>?_⟩,⟨fun id e k v ht=>?_,fun id id' e k v e' k' v' b=>h.good.fit.owns.apart id id' e k v e' k' v' b⟩,fun g hg=>?_⟩
   ⟨[g],rfl,fun b hb=>by simp at hb;omega⟩ (fun id e k v b ht hv=>.inl ⟨id,e,k,v,ht,hv⟩) h.good.free,h.size,h.df.near hnear,fun t=>Rep.ext hext hle _ _ (h.tm t)⟩,?_,rfl⟩
 ·rw[Aa];refine ⟨h.good.fit.boxes.nodup,by simp,fun x hx y hy e=>?_⟩;have:=h.good.fit.β_lt x hx;simp at hy;omega
 ·rcases Wp i L.β.length with hl | hl
  ·rw[Wt hl]at hi;rw[Wt (by omega)]at hc;obtain ⟨us,ty',e1,e2,e3,e4⟩:=h.good.fit.boxes.box i b cs' hi hc;exact ⟨us,ty',(hb.block b (qg e1)).trans e1,zx.ext hext hle _ _ e2,e3,fun o=>.inl ⟨qg e1,e4 o⟩⟩
  ·rw[WK hl]at hi;rw[WK (by omega)]at hc;have h0:i-L.β.length=0:=by
    have:=(Wc.1 hi).1;simp at this;omega
   rw[h0]at hi;rw[show i-σ.bx.length=0 by omega]at hc;simp at hi hc;subst hi hc;exact ⟨vs,ty,hh,zx.ext (Ext.refl _) hle _ _ hrr,h1,fun o=>.inr rfl⟩
 ·refine (h.good.fit.owns.own id e k v ht).move fun g' _ e2 hlt e7=>⟨e2,hb.block g' hlt,fun hx=>?_,fun o ho=>.inl ⟨hlt,ho⟩⟩;rcases WB.1 hx with hx | hx
  ·exact e7 hx
  ·simp at hx;omega
 ·exact h.good.fit.base g (WN hb.size hg)
 ·simp[hlen]
theorem qT.newBoxW (h:qT G E σ a R L) {w':World} (hb:Below R.w.heap.size R.w w') {g:Nat} (hg:R.w.heap.size<=g) (cs:List C) (vs:Array Value) (ty:TypeId) (hh:w'.heap[g]?=some (.cells vs ty (0,0)))
  (hr:∀ M',(∀ b o,b<R.w.heap.size->(M' b o↔R.M b o))->(∀ o,M' g o)->(∀ b o,R.w.heap.size<=b->b≠g->¬M' b o)->zx ⟨w',M',R.F⟩ L cs vs.toList) (h1:∀ v∈vs.toList,v.oneCell'=true) :
  ∃ R' L',R'.w=w'/\qT G E ⟨σ.tm,σ.bx++[cs],σ.nx,σ.lg⟩ a R' L'/\L'.β[σ.bx.length]?=some g:=by
 obtain ⟨R',L',h1,h2,h3,_⟩:=h.newBoxT hb hg cs vs ty hh hr h1;exact ⟨R',L',h1,h2,h3⟩
def Vj (P:Program) (t:TypeId) (n:Nat) (parts:List (Nat×C)) (σ:St) (K:C->St->Prop):Prop:=
 match lay P t with
 | some ⟨.slice e,_,_,_⟩=>match lay P e with
  | some ⟨_,k,_,some z⟩=>z.length=k/\0<k/\n*k<=16777216/\(parts.all fun p=>p.2.frz.partB)=true/\match Xz (fun i=>some (i*k,k)) (List.replicate n (z.map zD)).flatten (parts.map fun p=>(p.1,p.2.frz)) with
   | some cs=>(cs.all C.cellB)=true/\cs.length=n*k/\K (.bs σ.bx.length 0 k n n) ⟨σ.tm,σ.bx++[cs],σ.nx,σ.lg⟩
   | none=>False
  | _=>False
 | _=>False
theorem HT (ho:o.op = .buildSlice t n parts) {K:C->St->Prop} {R:Env} {L:Loc} (hI:qT G E σ a R L) (h:Vj P t n (parts.toList.map fun p=>(p.1,zB G σ.tm p.2)) σ K):jv P o a.eval R.w (YV G E a K):=by
 unfold Vj at h;split at h
 ·rename_i e s b zz hl;have ht:=qe hl rfl;split at h
  ·rename_i kd k by' z hle;obtain ⟨hzk,hk0,hsz,hall,h⟩:=h;split at h
   ·rename_i cs hfill;obtain ⟨hcb,hlen,hK⟩:=h;obtain ⟨i,d,hi,hd,h1,h2,h3,h4⟩:=qk hle;cases hiz:i.zero with
    | none=>simp[hiz]at h4
    | some zv =>
     simp only[hiz,Wu,Option.some.injEq]at h4;subst h4;have hzs:zv.cells.size=k:=by simpa using hzk
     obtain ⟨us,g1,g2⟩:=UF (R:=R) (L:=zU) (fun i=>some (i*k,k)) ((parts.toList.map fun p=>(p.1,zB G σ.tm p.2)).map fun p=>(p.1,p.2.frz)) (parts.toList.map fun p=>(p.1,a.eval p.2)) _ ((Array.range (n*k)).map (zv.cells[· % zv.cells.size]!)) cs
      (Qn zv.cells k n hzs hk0) (by simp) (kO zU _ _ (QU hI.ev _)) (fun p hp=>by
       obtain ⟨q,hq,rfl⟩:=WQ.1 hp;exact Ws.1 hall q hq) hfill
     have husz:us.size=n*k:=by have:=zy g2;simp at this;omega
     have hrun:(execOp a.eval o).run P R.w = .ok (.value (.slice (some ⟨R.w.heap.size,0,none⟩) n n)) (R.w.alloc (.cells us e)):=by
      have hss:(sizeOf e).run P R.w = .ok k R.w:=by simp[sizeOf,typeInfo,hi,←h2]
      have hzz:(zeroValue e).run P R.w = .ok zv R.w:=by simp[zeroValue,typeInfo,hi,hiz]
      unfold execOp;simp only[ho,Instr.buildSlice,Wm,WD ht,Wh,hss];rw[if_neg (show ¬n*k>2 ^ 24 by omega)];by_cases hn:n*k=0
      ·have hn0:n=0:=by
        rcases Nat.mul_eq_zero.1 hn with h | h
        ·exact h
        ·omega
       subst hn0;have hz0:(Array.map (fun x=>(#[]:Array Value)[x % (#[]:Array Value).size]!) (Array.range (0*k)))=(Array.range (0*k)).map (zv.cells[· % zv.cells.size]!):=by simp[Array.range_zero']
       simp only[if_pos hn,WA,Wm,Wh,hz0,O5,g1];simp[newRow]
      ·simp only[if_neg hn,WA,Wm,Wh,hzz,O5,g1];simp[newRow]
     have hbel:Below R.w.heap.size R.w (R.w.alloc (.cells us e)):=(Ob _ _).alloc (Wb _) _;obtain ⟨R',L',e1,e2,e3⟩:=hI.newBoxW hbel (Wb _) cs us e (OH _ _) (fun M' hM _ _=>zx.ext (R:=R) (Ext.of_below hbel hM) (zR.none L) _ _ g2) (X2 g2 hcb);exact jv.value hrun ⟨_,_,R',L',e1,e2,jy.2 ⟨_,e3,_,rfl,fun _=>rfl⟩,hK⟩
   ·exact h.elim
  ·exact h.elim
 ·exact h.elim
def UK (P:Program) (t:TypeId) (l c:C) (σ:St) (K:C->St->Prop):Prop:=
 match lay P t,l,c with
 | some ⟨.slice e,_,_,_⟩,.sc (.int _ l),.sc (.int _ c)=>match lay P e with
  | some ⟨_,k,by',some z⟩=>z.length=k/\0<k/\(z.all Value.oneCell')=true/\0<=l/\l<=c/\(by':Int)*c<=281474976710656/\c<=9223372036854775807/\K (.bs σ.bx.length 0 k l.toNat c.toNat) ⟨σ.tm,σ.bx++[(List.replicate c.toNat (z.map zD)).flatten],σ.nx,σ.lg⟩
  | _=>False
 | _,_,_=>False
theorem NC {l c:Operand} (ho:o.op = .makeSlice t l c) {K:C->St->Prop} {R:Env} {L:Loc} (hI:qT G E σ a R L) (h:UK P t (zB G σ.tm l) (zB G σ.tm c) σ K):jv P o a.eval R.w (YV G E a K):=by
 unfold UK at h;split at h
 ·rename_i e s b zz k1 l' k2 c' hl hev1 hev2;have ht:=qe hl rfl;split at h
  ·rename_i kd k by' z hle;obtain ⟨hzk,hk0,hone,h0,hlc,hby,h63,hK⟩:=h;obtain ⟨i,d,hi,hd,h1,h2,h3,h4⟩:=qk hle;cases hiz:i.zero with
   | none=>simp[hiz]at h4
   | some zv =>
    simp only[hiz,Wu,Option.some.injEq]at h4;subst h4;have hzs:zv.cells.size=k:=by simpa using hzk
    have hx:=hI.ev l;rw[hev1,zp]at hx;have hy:=hI.ev c;rw[hev2,zp]at hy;have hrun:=run_make (P:=P) R.w t e i zv ht hi hiz k1 k2 l' c' h0 hlc (by rw[←h3];exact hby) h63;have hrep:=Qn (R:=R) (L:=zU) zv.cells k c'.toNat hzs hk0;have hks:i.size=k:=h2.symm;have hbel:Below R.w.heap.size R.w (R.w.alloc (.cells (madeCells zv.cells (c'.toNat*k)) e)):=(Ob _ _).alloc (Wb _) _;obtain ⟨R',L',e1,e2,e3⟩:=hI.newBoxW hbel (Wb _) ((List.replicate c'.toNat (zv.cells.toList.map zD)).flatten) (madeCells zv.cells (c'.toNat*k)) e (OH _ _) (fun M' hM _ _=>zx.ext (R:=R) (Ext.of_below hbel hM) (zR.none L) _ _ hrep)
     (fun v hv=>by
      simp only[madeCells,O5,WQ]at hv;obtain ⟨p,hp,rfl⟩:=hv;have hm:p % zv.cells.size<zv.cells.size:=Nat.mod_lt _ (by omega);rw[BJ zv.cells _ hm];exact Ws.1 hone _ (by simp))
    refine jv.value ?_ ⟨_,_,R',L',e1,e2,jy.2 ⟨_,e3,_,rfl,fun _=>rfl⟩,hK⟩;unfold execOp;simp only[ho,hx,hy];rw[Wm,hrun,hks];rfl
  ·exact h.elim
 ·exact h.elim
theorem YU.moveB {tm':List (Nat×C)} {bx':List (List C)} (h:YU G E σ R L) (hn:zdA E.w0 E.ex R R') (hf:Fit G E.tu bx' R' L')
  (hbox:∃ more,L'.β=E.β0++more) (htub:∀ b∈L'.β,b∈L.β∨R.w.heap.size<=b)
  (hown:∀ id e k v b,L'.T id=some (e,k,v)->v.ownB=some b->(∃ i e' k' v',L.T i=some (e',k',v')/\v'.ownB=some b)∨R.w.heap.size<=b)
  (hfree:∀ id,nx'<=id->L'.T id=none):YU G E ⟨tm',bx',nx',σ.lg⟩ R' L':=by
 refine ⟨hf,hn.os.trans h.os,hn.tape.trans h.tape,hn.output.trans h.output,WN h.size hn.size,fun b hb hx hF=>?_,h.ext.trans hn.ext,hbox,fun b hb=>?_,fun b hF=>?_,fun b hb=>by rw[hn.fgn];exact h.fz b hb,fun b hb hF=>?_,fun id e k v b ht hv hF=>?_,hfree,E.stab _ _ _ h.log hn⟩
 ·rw[hn.fgn]at hF;obtain ⟨g1,g2⟩:=h.blk b hb hx hF;rcases hn.blk b (WH hb h.size) with ⟨k1,k2⟩ | ⟨k1,_⟩
  ·exact ⟨k1.trans g1,fun o=>(k2 o).trans (g2 o)⟩
  ·rcases k1 with k1 | k1
   ·omega
   ·exact absurd k1 hx
 ·rcases htub b hb with hb | hb
  ·exact h.tub b hb
  ·exact .inl (WN h.size hb)
 ·rw[hn.fgn]at hF;exact WH (h.flt b hF) hn.size
 ·rw[hn.fgn]at hF;rcases htub b hb with hb | hb
  ·exact h.fbx b hb hF
  ·have:=h.flt b hF;omega
 ·rw[hn.fgn]at hF;rcases hown id e k v b ht hv with ⟨i,e',k',v',g1,g2⟩ | g
  ·exact h.fow i e' k' v' b g1 g2 hF
  ·have:=h.flt b hF;omega
def Yv (i j:Nat):Option Nat:=if j=i then none else some j
def Vl (i:Nat) (cs:List C) (bx:List (List C)):List (List C):=(N3 (Yv i) some bx).set i cs
theorem qT.reBox (h:qT G E σ a R L) {i:Nat} (hi0:E.β0.length<=i) (hil:i<σ.bx.length) {w':World} (hb:Below R.w.heap.size R.w w') {g:Nat} (hg:R.w.heap.size<=g) (cs:List C) (vs:Array Value) (ty:TypeId) (hh:w'.heap[g]?=some (.cells vs ty (0,0)))
  (hr:∀ M',(∀ b o,b<R.w.heap.size->(M' b o↔R.M b o))->zx ⟨w',M',R.F⟩ ⟨L.β.set i g,L.T⟩ cs vs.toList) (h1:∀ v∈vs.toList,v.oneCell'=true) :
  ∃ R' L',R'.w=w'/\qT G E ⟨Gp (Yv i) some σ.tm,Vl i cs σ.bx,σ.nx,σ.lg⟩ a R' L'/\L'.β[i]?=some g:=by
 have hmt:∀ b o,b<R.w.heap.size->(((b<R.w.heap.size/\R.M b o)∨b=g)↔R.M b o):=fun b o hlt=>⟨fun h'=>by rcases h' with h' | h';exact h'.2;omega,fun h'=>.inl ⟨hlt,h'⟩⟩;have hext:Ext R ⟨w',fun b o=>(b<R.w.heap.size/\R.M b o)∨b=g,R.F⟩:=Ext.of_below hb hmt;have hnear:xX E.w0 E.ex R ⟨w',fun b o=>(b<R.w.heap.size/\R.M b o)∨b=g,R.F⟩:=
  ⟨hb.os,hb.tape,hb.output,hb.size,rfl,hext,fun b hlt=>.inl ⟨hb.block b hlt,fun o=>hmt b o hlt⟩⟩
 have hlen:=h.good.fit.boxes.len;have hrr:=hr (fun b o=>(b<R.w.heap.size/\R.M b o)∨b=g) hmt;have hβ:∀ j q b,Yv i j=some q->L.β[j]?=some b->(Loc.mk (L.β.set i g) L.T).β[q]?=some b:=fun j q b hq hb=>by
  unfold Yv at hq;split at hq
  ·cases hq
  ·rename_i hne;cases hq;show (L.β.set i g)[j]?=some b;rw[Ou (fun e=>hne e.symm)];exact hb
 have hT:∀ j q x,(some j:Option Nat)=some q->L.T j=some x->(Loc.mk (L.β.set i g) L.T).T q=some x:=fun j q x hq hx=>by cases hq;exact hx
 have hget:(L.β.set i g)[i]?=some g:=Oy (by omega);refine ⟨⟨w',fun b o=>(b<R.w.heap.size/\R.M b o)∨b=g,R.F⟩,⟨L.β.set i g,L.T⟩,rfl,
  ⟨h.good.moveB hnear.nigh ⟨h.good.fit.glob.ext hext,⟨by simp[Vl,jk,hlen],?_,fun j b cs' hj hc=>?_⟩,⟨fun id e k v ht=>?_,fun id id' e k v e' k' v' b=>h.good.fit.owns.apart id id' e k v e' k' v' b⟩,fun g hg=>?_⟩ ?_ (fun b hb=>?_) (fun id e k v b ht hv=>.inl ⟨id,e,k,v,ht,hv⟩) h.good.free,h.size,h.df.near hnear,fun t=>?_⟩,hget⟩
 ·show (L.β.set i g).Nodup;have hnd:=h.good.fit.boxes.nodup;rw[List.Nodup,WO]at hnd ⊢;intro x y hx hy hxy;rw[Bp]at hx hy;have hxl:=h.good.fit.β_lt _ (Wz hx);have hyl:=h.good.fit.β_lt _ (Wz hy);rw[List.getElem_set,List.getElem_set];split<;>split
  ·omega
  ·omega
  ·omega
  ·exact hnd x y hx hy hxy
 ·have hj:(L.β.set i g)[j]?=some b:=hj;by_cases hji:i=j
  ·subst hji;rw[hget]at hj;cases hj;rw[Vl,Oy (by rw[jk];exact hil)]at hc;cases hc;exact ⟨vs,ty,hh,hrr,h1,fun o=>.inr rfl⟩
  ·rw[Ou hji]at hj;rw[Vl,Ou hji,QX]at hc;cases hq:σ.bx[j]? with
   | none=>rw[hq]at hc;cases hc
   | some c0 =>
    rw[hq]at hc;cases hc;obtain ⟨us,ty',e1,e2,e3,e4⟩:=h.good.fit.boxes.box j b c0 hj hq;exact ⟨us,ty',(hb.block b (qg e1)).trans e1,zx.re hext hβ hT _ _ e2,e3,fun o=>.inl ⟨qg e1,e4 o⟩⟩
 ·refine (h.good.fit.owns.own id e k v ht).move fun g' _ e2 hlt e7=>⟨e2,hb.block g' hlt,fun hx=>?_,fun o ho=>.inl ⟨hlt,ho⟩⟩;have hx:g'∈L.β.set i g:=hx;rcases List.mem_or_eq_of_mem_set hx with hx | hx
  ·exact e7 hx
  ·omega
 ·exact h.good.fit.base g (WN hb.size hg)
 ·obtain ⟨more,hm⟩:=h.good.box;refine ⟨more.set (i-E.β0.length) g,?_⟩;show L.β.set i g=_;rw[hm,List.set_append_right _ _ hi0]
 ·have hb':b∈L.β.set i g:=hb;rcases List.mem_or_eq_of_mem_set hb' with hx | hx
  ·exact .inl hx
  ·exact .inr (by omega)
 ·rw[GR];exact Rep.re hext hβ hT _ _ (h.tm t)
theorem zfe {g:Nat}:∀ (j q b:Nat),Yv i j=some q->L.β[j]?=some b->(Loc.mk (L.β.set i g) L.T).β[q]?=some b:=fun j q b hq hb=>by
 unfold Yv at hq;split at hq
 ·cases hq
 ·rename_i hne;cases hq;show (L.β.set i g)[j]?=some b;rw[Ou (fun e=>hne e.symm)];exact hb
theorem V6:∀ (j q b:Nat),Yv i j=some q->L.β[j]?=some b->L.β[q]?=some b:=fun j q b hq hb=>by
 unfold Yv at hq;split at hq
 ·cases hq
 ·cases hq;exact hb
theorem US (h:∀ i,L'.T i=L.T i):∀ (i j:Nat) x,(some i:Option Nat)=some j->L.T i=some x->L'.T j=some x:=fun i j x hij hx=>by cases hij;rw[h];exact hx
theorem qT.lessB (h:qT G E σ a R L) (tm':List (Nat×C)) (bx':List (List C)) (hl:bx'.length=σ.bx.length) (ht:∀ t v,Rep R L (j7 σ.tm t) v->Rep R L (j7 tm' t) v)
  (hb:∀ (i:Nat) cs cs' vs,σ.bx[i]?=some cs->bx'[i]?=some cs'->zx R L cs vs->zx R L cs' vs):qT G E ⟨tm',bx',σ.nx,σ.lg⟩ a R L:=by
 have g:=h.good;refine ⟨⟨⟨g.fit.glob,⟨by rw[hl];exact g.fit.boxes.len,g.fit.boxes.nodup,fun i b cs' hi hc=>?_⟩,g.fit.owns,g.fit.base⟩,g.os,g.tape,g.output,g.size,g.blk,g.ext,g.box,g.tub,g.flt,g.fz,g.fbx,g.fow,g.free,g.log⟩,h.size,h.df,fun t=>ht t _ (h.tm t)⟩;have hi':i<σ.bx.length:=by rw[←hl];exact (Wc.1 hc).1
 obtain ⟨vs,ty,e1,e2,e3,e4⟩:=g.fit.boxes.box i b _ hi (Wa hi');exact ⟨vs,ty,e1,hb i _ _ _ (Wa hi') hc e2,e3,e4⟩
theorem Yo {R:Env} {L:Loc}:∀ vs:List Value,zx R L (List.replicate vs.length .any) vs
 | []=>zm.2 rfl
 | v :: r=>zg.2 ⟨v,r,rfl,by unfold Rep;trivial,Yo r⟩
def C.xs? (k:Nat) (bx:List (List C)):C->Option (Nat×List C)
 | .bs i off k' n _=>if k'=k then (bx[i]?).bind fun cs=>if off+n*k<=cs.length then some (n,(cs.drop off).take (n*k)) else none else none
 | c=>(c.rows? k).map fun rows=>(rows.length,rows.flatten)
theorem yH {bx:List (List C)} {m:Nat} {xs:List C} (hf:Fit G B bx R L) (h:Rep R L c v) (hx:c.xs? k bx=some (m,xs)) :
    ∃ ad cap,v = .slice ad m cap/\(0<m->∃ b off news,ad=some ⟨b,off,none⟩/\news.length=m*k/\(∀ (j:Nat) u,news[j]?=some u->R.w.cell? ((⟨b,off,none⟩:Addr).add j)=some u)/\zx R L xs news/\∀ u∈news,u.oneCell'=true):=by
  have hrows:∀ rows,c.rows? k=some rows->(rows.length,rows.flatten)=(m,xs)->∃ ad cap,v = .slice ad m cap/\(0<m->∃ b off news,ad=some ⟨b,off,none⟩/\news.length=m*k/\(∀ (j:Nat) u,news[j]?=some u->R.w.cell? ((⟨b,off,none⟩:Addr).add j)=some u)/\zx R L xs news/\∀ u∈news,u.oneCell'=true):=fun rows hr he=>by
    cases he;obtain ⟨ad,cap,e,h1,h2,h3⟩:=h.rows hr;refine ⟨ad,cap,e,fun hm=>?_⟩;rcases h3 with h3 | ⟨b,o,e,h3⟩
    · subst h3;cases hm
    · obtain ⟨g1,g2⟩:=jd h3;obtain ⟨news,n1,n2,n3⟩:=j5 g1;exact ⟨b,o,news,e,by rw[zy n2,g2],fun j u hj=>by rw[Addr.add_none];exact n1 j u hj,zx.ext (Ext.refl R) (zR.none L) _ _ n2,n3⟩
  cases c with
  | bs i off k' n c' =>
    simp only[C.xs?]at hx;split at hx
    · subst_vars
      cases hq:bx[i]? with
      | none=>rw[hq]at hx;cases hx
      | some cs =>
        rw[hq]at hx;simp only[AC]at hx;split at hx
        · rename_i hle;cases hx;obtain ⟨b,hb,ad,rfl,had⟩:=jy.1 h;obtain ⟨vs,ty,e1,e2,e3,e4⟩:=hf.boxes.box i b cs hb hq;have hvl:=zy e2;refine ⟨_,_,rfl,fun hm=>⟨b,off,(vs.toList.drop off).take (m*k'),Wv some (had (by omega)),by simp at hvl ⊢;omega,fun j u hj=>?_,qR _ (jg _ e2),fun u hu=>e3 u (WU (Ww hu))⟩⟩;rw[Addr.add_none,Ac R.w b (off+j) vs ty (0,0) e1];rw[WF]at hj;split at hj
          · rw[W3]at hj;simpa using hj
          · cases hj
        · cases hx
    · cases hx
  | _ =>
    simp only[C.xs?]at hx
    first
    | (cases hq:C.rows? k _ with
       | none=>rw[hq]at hx;cases hx
       | some rows=>rw[hq]at hx;exact hrows rows hq (by simpa using hx))
def k7 (P:Program) (p:Nat) (t:TypeId) (s x:C) (σ:St) (K:C->St->Prop):Prop:=
 match lay P t with
 | some ⟨.slice e,_,_,_⟩=>match lay P e with
  | some ⟨_,k,by',some z⟩=>match x.xs? k σ.bx with
   | some (m,xs)=>z.length=k/\0<k/\(z.all Value.oneCell')=true/\0<m/\match s with
    | .sc (.slice none 0 0)=>m<=9223372036854775807/\m*by'<=140737488355328/\∀ c,m<=c->c<=maxLen->K (.bs σ.bx.length 0 k m c) ⟨σ.tm,σ.bx++[xs++List.replicate ((c-m)*k) .any],σ.nx,σ.lg⟩
    | .bs i 0 k' n c=>match σ.bx[i]? with
     | some cs=>k'=k/\p<=i/\cs.length=c*k/\n<=c/\c<=9223372036854775807/\n+m<=9223372036854775807/\(n+m)*by'<=140737488355328 /\
       ∀ c',n+m<=c'->c'<=maxLen->K (.bs i 0 k (n+m) c') ⟨Gp (Yv i) some σ.tm,Vl i (C.reL (Yv i) some (cs.take (n*k)++xs)++List.replicate ((c'-(n+m))*k) .any) σ.bx,σ.nx,σ.lg⟩
     | none=>False
    | _=>False
   | none=>False
  | _=>False
 | _=>False
theorem Jb {zc:Array Value} (hz:(zc.toList.all Value.oneCell')=true) (n:Nat):∀ v∈(Builtin.zeroCells zc n).toList,v.oneCell'=true:=by
 intro v hv;simp only[Builtin.zeroCells,O5,WQ]at hv;obtain ⟨i,hi,rfl⟩:=hv;have hi':i<n*zc.size:=by simpa using hi
 have hpos:0<zc.size:=by
  rcases O2 zc.size with h | h
  ·rw[h]at hi';omega
  ·exact h
 have hlt:=Nat.mod_lt i hpos;rw[BJ zc _ hlt];exact Ws.1 hz _ (by simp)
theorem MW {p:Nat} (hp:E.β0.length<=p) {t:TypeId} {s x:Operand} (ho:o.op = .call { callee:=.builtin .append,args:=#[s,x],argTypes:=#[t,t] }) {K:C->St->Prop} {R:Env} {L:Loc} (h:qT G E σ a R L) (hK:k7 P p t (zB G σ.tm s) (zB G σ.tm x) σ K):jv P o a.eval R.w (YV G E a K):=by
 unfold k7 at hK;split at hK
 ·rename_i e s1 b1 z1 hl;have ht:=qe hl rfl;split at hK
  ·rename_i kd k by' z hle;obtain ⟨i,d,hi,hd,_,hsz,hbyt,hzz⟩:=qk hle;simp only at hsz hbyt hzz;split at hK
   ·rename_i m xs hxs;obtain ⟨hzk,hk0,hz1,hm,hK⟩:=hK;have hexec:∀ v' w',(Builtin.append_ #[t,t] o.type #[a.eval s,a.eval x]).run P R.w = .ok v' w'->(execOp a.eval o).run P R.w = .ok (.value v') w':=fun v' w' hrun=>by
     unfold execOp;simp only[ho,resolve,invoke,builtin,Wm,WA,Wh,OC,WC,Oo,hrun]
    cases hiz:i.zero with
    | none=>simp[hiz]at hzz
    | some zv =>
     simp only[hiz,Wu,Option.some.injEq]at hzz;have hzc:zv.cells.size=k:=by rw[←hzk,hzz];simp
     obtain ⟨ad,capx,ex,hx⟩:=yH h.good.fit (h.ev x) hxs;obtain ⟨bb,off,news,rfl,n1,n2,n3,n4⟩:=hx hm;have hxl:=zy n3;have hzone:∀ n,∀ v∈(Builtin.zeroCells zv.cells n).toList,v.oneCell'=true:=Jb (by rw[←hzz];exact hz1);split at hK
     ·rename_i hev;obtain ⟨h63,hby,hK⟩:=hK;have hs:=h.ev s;rw[hev,zp]at hs;have hrun:=BO (P:=P) R.w t o.type e i zv ht hi hiz ⟨bb,off,none⟩ m capx news (by rw[n1,hsz]) n2 hm (by omega) (by rw[←hbyt];omega);rw[←hs,←ex]at hrun;have hge:=AX R.w m 0 e;have hgm:grownCap R.w m 0 e<=maxLen:=O1 _ _ _ _ (by unfold maxLen;omega);generalize grownCap R.w m 0 e=nc at hrun hge hgm;have hb:Below R.w.heap.size R.w (R.w.drew.alloc (.cells (news.toArray++Builtin.zeroCells zv.cells (nc-m)) e)):=((Ob _ _).drew).alloc (Wb _) _;have hzl:(Builtin.zeroCells zv.cells (nc-m)).toList.length=(nc-m)*k:=by rw[WS,As,hzc]
      obtain ⟨R',L',e1,e2,e3⟩:=h.newBoxW hb (Wb _) (xs++List.replicate ((nc-m)*k) .any) (news.toArray++Builtin.zeroCells zv.cells (nc-m)) e (OH R.w.drew _) (fun M' hM _ _=>by
       simp only[Og];refine zo (zx.ext (R:=R) (Ext.of_below hb hM) (zR.refl L) _ _ n3) ?_;rw[←hzl];exact Yo _) (fun v hv=>by
       simp only[Og]at hv;rcases WB.1 hv with hv | hv
       ·exact n4 v hv
       ·exact hzone _ v hv)
      exact jv.value (hexec _ _ hrun) ⟨_,_,R',L',e1,e2,jy.2 ⟨_,e3,_,rfl,fun _=>rfl⟩,hK nc hge hgm⟩
     ·rename_i bi k' n c hev;split at hK
      ·rename_i cs hcs;obtain ⟨rfl,hpi,hcl,hnc,hcm,h63,hby,hK⟩:=hK;have hs:=h.ev s;rw[hev,jy]at hs;obtain ⟨b,hb,ad0,es,had0⟩:=hs;obtain ⟨vs,ty,e1,e2,e3,e4⟩:=h.good.fit.boxes.box bi b cs hb hcs;have hvl:=zy e2;have hvs:vs.size=c*k':=by simpa [hcl] using hvl
       have hbil:bi<σ.bx.length:=(Wc.1 hcs).1;have hnk:n*k'<=c*k':=WM _ hnc;have hadd:(n+m)*k'=n*k'+m*k':=On _ _ _;by_cases hroom:n+m<=c
       ·have hck:(n+m)*k'<=c*k':=WM _ hroom;obtain rfl:=had0 (by omega);have hrun:=Qc (P:=P) (ty:=o.type) ht hi R.w b n c vs ty e1 ⟨bb,off,none⟩ m capx news (by rw[n1,hsz]) n2 n4 hroom (by rw[←hsz];omega);rw[←hsz,←es,←ex]at hrun;have hA:(cs.take (n*k')++xs).length=n*k'+m*k':=by simp;omega
        have hinv:=h.setBox hb hcs e1 e4 (cs':=cs.take (n*k')++xs++cs.drop (n*k'+news.length)) (us:=(vs.toList.take (n*k')++news++vs.toList.drop (n*k'+news.length)).toArray) (zo (zo (qR _ e2) n3) (jg _ e2)) (fun v hv=>by
         simp only[WB]at hv;rcases hv with (hv | hv) | hv
         ·exact e3 v (Ww hv)
         ·exact n4 v hv
         ·exact e3 v (WU hv))
        have hinv2:=hinv.lessB (Gp (Yv bi) some σ.tm) (Vl bi (C.reL (Yv bi) some (cs.take (n*k')++xs)++List.replicate ((c-(n+m))*k') .any) σ.bx) (by simp[Vl,jk]) (fun t v hv=>by
          rw[GR];exact Rep.re (Ext.refl _) V6 (US fun _=>rfl) _ _ hv) (fun j c1 c2 us hc1 hc2 hr=>by
         by_cases hji:bi=j
         ·subst hji;rw[Oy hbil]at hc1;rw[Vl,Oy (by rw[jk];exact hbil)]at hc2;cases hc1;cases hc2;have hul:=zy hr;simp only[Wn]at hul hA;have h1:=qR (n*k'+m*k') hr;rw[OE (by simp only[Wn];exact hA)]at h1;have h2:=Yo (R:=⟨R.w.setRow b (vs.toList.take (n*k')++news++vs.toList.drop (n*k'+news.length)).toArray,R.M,R.F⟩) (L:=L) (us.drop (n*k'+m*k'));have hdl:(us.drop (n*k'+m*k')).length=(c-(n+m))*k':=by
           rw[W7,hul,W7,hcl,n1,Nat.sub_mul,hadd];omega
          rw[hdl]at h2;have h3:=zo (zx.re (fp:=Yv bi) (fo:=some) (L':=L) (Ext.refl _) V6 (US fun _=>rfl) _ _ h1) h2;rwa [W1]at h3
         ·rw[Ou hji]at hc1;rw[Vl,Ou hji,QX,hc1]at hc2;cases hc2;exact zx.re (Ext.refl _) V6 (US fun _=>rfl) _ _ hr)
        exact jv.value (hexec _ _ hrun) ⟨_,_,_,L,rfl,hinv2,jy.2 ⟨_,hb,_,rfl,fun _=>rfl⟩,hK c hroom (by unfold maxLen;omega)⟩
       ·have hol:(vs.toList.take (n*k')).length=n*k':=by simp;omega
        have hrun:=Bo (P:=P) R.w t o.type e i zv ht hi hiz ad0 n c (vs.toList.take (n*k')) (by rw[hol,hsz]) (fun j v hj=>by
          obtain rfl:=had0 (by
           rcases O2 n with h0 | h0
           ·subst h0;simp at hj
           ·omega)
          rw[Addr.add_none,Ov,Ac R.w b j vs ty (0,0) e1];rw[WF]at hj;split at hj
          ·simpa using hj
          ·cases hj) ⟨bb,off,none⟩ m capx news (by rw[n1,hsz]) n2 (by omega) (by omega) (Bb (by omega) (by rw[←hbyt];exact hby))
        rw[←es,←ex]at hrun;have hge:=AX R.w (n+m) c e;have hgm:grownCap R.w (n+m) c e<=maxLen:=O1 _ _ _ _ (by unfold maxLen;omega);generalize grownCap R.w (n+m) c e=nc at hrun hge hgm;have hbel:Below R.w.heap.size R.w (R.w.drew.alloc (.cells ((vs.toList.take (n*k')).toArray++news.toArray++Builtin.zeroCells zv.cells (nc-(n+m))) e)):=((Ob _ _).drew).alloc (Wb _) _;have hzl:(Builtin.zeroCells zv.cells (nc-(n+m))).toList.length=(nc-(n+m))*k':=by rw[WS,As,hzc]
        obtain ⟨R',L',f1,f2,f3⟩:=h.reBox (WN hp hpi) hbil hbel (Wb _) (C.reL (Yv bi) some (cs.take (n*k')++xs)++List.replicate ((nc-(n+m))*k') .any) ((vs.toList.take (n*k')).toArray++news.toArray++Builtin.zeroCells zv.cells (nc-(n+m))) e (OH R.w.drew _) (fun M' hM=>by
         simp only[Og];refine zo (zx.re (R:=R) (L:=L) (Ext.of_below hbel hM) zfe (US fun _=>rfl) _ _ (zo (qR _ e2) n3)) ?_;rw[←hzl];exact Yo _) (fun v hv=>by
         simp only[Og,WB]at hv;rcases hv with (hv | hv) | hv
         ·exact e3 v (Ww hv)
         ·exact n4 v hv
         ·exact hzone _ v hv)
        exact jv.value (hexec _ _ hrun) ⟨_,_,R',L',f1,f2,jy.2 ⟨_,f3,_,rfl,fun _=>rfl⟩,hK nc hge hgm⟩
      ·exact hK.elim
     ·exact hK.elim
   ·exact hK.elim
  ·exact hK.elim
 ·exact hK.elim
end
end
end Go.Proofs.YtnpdbhbmakdklaaGreatDoor.Vcg
