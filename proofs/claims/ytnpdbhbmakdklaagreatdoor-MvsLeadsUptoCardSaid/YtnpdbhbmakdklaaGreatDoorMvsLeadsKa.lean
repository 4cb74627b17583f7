/- What the proof of MvsLeads leans on, part 1. No condition beyond what each theorem states. -/
import Derived.WalkKit
import Derived.Sort.LoopGhostIn
import Derived.Deep.MidRow
import Derived.IntWalk
import Derived.CallsIn
import Derived.Laws.StructEq
import Derived.Laws.Cover3
import Derived.Lib.ConvBytes
import Derived.Laws.BytesArg
import Derived.Laws.IdiomStrings
import Derived.MapKept
import Derived.RangeFuncRecord
import Derived.TacticsIn
import Derived.ArgAppend
set_option linter.unusedVariables false
set_option linter.unusedSimpArgs false
set_option linter.unusedSectionVars false
set_option maxRecDepth 100000
set_option maxHeartbeats 4000000
namespace Go.Proofs.YtnpdbhbmakdklaaGreatDoor
abbrev Wa:=@List.getElem?_eq_getElem
abbrev Wb:=@Nat.zero_le
abbrev Wc:=@Nat.le_refl
abbrev Wd:=@List.getElem?_eq_some_iff
abbrev We:=@List.length_map
abbrev Wf:=@List.take_of_length_le
abbrev Wg:=@List.mem_of_getElem?
abbrev Wh:=@List.length_cons
abbrev Wi:=@Go.Result.andThen_ok
abbrev Wj:=@decide_eq_false
abbrev Wk:=@List.mem_cons_self
abbrev Wl:=@List.mem_cons_of_mem
abbrev Wm:=@decide_eq_true
abbrev Wn:=@List.length_append
abbrev Wo:=@Go.Sem.run_bind
abbrev Wp:=@Bool.and_eq_true
abbrev Wq:=@List.map_cons
abbrev Wr:=@Nat.lt_or_ge
abbrev Ws:=@Array.getD_eq_getD_getElem?
abbrev Wt:=@List.getElem_of_mem
abbrev Wu:=@congrArg
abbrev Wv:=@List.getElem?_append_left
abbrev Ww:=@List.getElem_mem
abbrev Wx:=@List.mem_of_mem_take
abbrev Wy:=@eq_false
abbrev Wz:=@List.all_eq_true
abbrev WA:=@List.getElem?_map
abbrev WB:=@Classical.not_not
abbrev WC:=@List.mem_append
abbrev WD:=@Go.Sem.run_pure
abbrev WE:=@Go.run_underlying
abbrev WF:=@List.mem_cons
abbrev WG:=@List.length_nil
abbrev WH:=@List.append_assoc
abbrev WI:=@List.length_pos_iff
abbrev WJ:=@Nat.le_trans
abbrev WK:=@List.getElem?_take
abbrev WL:=@List.map_nil
abbrev WM:=@Nat.lt_of_lt_of_le
abbrev WN:=@Option.map_some
abbrev WO:=@List.getElem?_append_right
abbrev WP:=@of_decide_eq_true
abbrev WQ:=@List.take_add_one
abbrev WR:=@List.pairwise_iff_getElem
abbrev WS:=@List.map_append
abbrev WT:=@Nat.mul_le_mul_right
abbrev WU:=@List.mem_of_mem_drop
abbrev WV:=@List.mem_map
abbrev WW:=@decide_eq_true_eq
abbrev WX:=@Bool.false_eq_true
abbrev WY:=@Array.length_toList
abbrev WZ:=@Option.getD_some
abbrev W0:=@List.mem_singleton
abbrev W1:=@Go.World.putObj_heap_other
abbrev W2:=@List.append_nil
abbrev W3:=@List.length_drop
abbrev W4:=@List.getElem?_eq_none
abbrev W5:=@List.any_eq_false
abbrev W6:=@List.eq_nil_of_length_eq_zero
abbrev W7:=@List.length_take
abbrev W8:=@Bool.false_and
abbrev W9:=@Array.getElem?_eq_getElem
abbrev Oa:=@Go.RowKit.Below.refl
abbrev Ob:=@List.getElem?_drop
abbrev Oc:=@List.getD_eq_getElem?_getD
abbrev Od:=@List.take_append_drop
abbrev Oe:=@List.drop_eq_getElem_cons
abbrev Of:=@List.cons_append
abbrev Og:=@List.filter_cons_of_pos
abbrev Oh:=@if_false
abbrev Oi:=@List.take_length
abbrev Oj:=@Bool.true_and
abbrev Ok:=@decide_eq_false_iff_not
abbrev Ol:=@Array.toList_append
abbrev Om:=@List.length_singleton
abbrev On:=@Int.toNat_natCast
abbrev Oo:=@Nat.not_lt_zero
abbrev Oq:=@Nat.add_mul
abbrev Or:=@List.drop_of_length_le
abbrev Ot:=@Option.getD_none
abbrev Ou:=@List.any_eq_true
abbrev Ov:=@Option.map_none
abbrev Ow:=@List.getElem?_set_ne
abbrev Ox:=@Nat.zero_add
abbrev Oy:=@Bool.eq_false_iff
abbrev Oz:=@List.filter_append
abbrev OA:=@Bool.or_eq_true
abbrev OB:=@List.nil_append
abbrev OC:=@List.mem_filter
abbrev OD:=@List.getElem?_set_self
abbrev OE:=@beq_iff_eq
abbrev OF:=@List.take_zero
abbrev OG:=@List.map_toArray
abbrev OH:=@List.filter_cons_of_neg
abbrev OI:=@List.length_filter_le
abbrev OJ:=@Nat.min_eq_left
abbrev OK:=@List.take_left'
abbrev OL:=@List.all_replicate
abbrev OM:=@Classical.byContradiction
abbrev ON:=@Go.heap_alloc_new
abbrev OO:=@Array.mem_toList_iff
abbrev OP:=@List.mem_append_left
abbrev OQ:=@Bool.not_eq_true'
abbrev OR:=@Nat.le_succ_of_le
abbrev OS:=@of_decide_eq_false
abbrev OT:=@Nat.le_of_ble_eq_true
abbrev OU:=@List.take_append_of_le_length
abbrev OV:=@List.nodup_cons
abbrev OW:=@List.find?_cons
abbrev OX:=@List.flatten_cons
abbrev OY:=@List.sum_cons
abbrev OZ:=@Array.getElem?_setIfInBounds_ne
abbrev O0:=@Int.le_refl
abbrev O1:=@beq_eq_false_iff_ne
abbrev O2:=@List.all_append
abbrev O3:=@Nat.add_sub_cancel_left
abbrev O4:=@List.filter_cons
abbrev O5:=@List.ext_getElem?
abbrev O6:=@Bool.false_or
abbrev O7:=@Go.grownCap_le_maxLen
abbrev O8:=@Nat.eq_zero_or_pos
abbrev O9:=@Option.isNone_none
abbrev Aa:=@Option.isNone_some
abbrev Ab:=@Bool.not_false
abbrev Ac:=@Array.toList_map
abbrev Ad:=@Array.mem_of_getElem?
abbrev Ae:=@List.concat_eq_append
abbrev Af:=@Nat.lt_trichotomy
abbrev Ag:=@List.nodup_append
abbrev Ah:=@List.getElem?_inj
abbrev Ai:=@List.take_succ_eq_append_getElem
abbrev Aj:=@Go.cell_of_row
abbrev Ak:=@List.nodup_nil
abbrev Al:=@Bool.and_false
abbrev Am:=@UInt8.toNat_inj
abbrev An:=@Nat.add_zero
abbrev Ao:=@List.find?_cons_of_neg
abbrev Ap:=@List.flatMap_cons
abbrev Aq:=@List.getElem?_toArray
abbrev Ar:=@List.eq_nil_or_concat
abbrev As:=@Go.setRow_other
abbrev At:=@List.length_eq_zero_iff
abbrev Au:=@List.mem_flatMap
abbrev Av:=@Bool.not_true
abbrev Aw:=@Array.getElem?_eq_some_iff
abbrev Ax:=@Option.map_eq_some_iff
abbrev Ay:=@List.drop_drop
abbrev Az:=@Array.toList_setIfInBounds
abbrev AA:=@Go.size_zeroCells
abbrev AB:=@Array.all_eq_true_iff_forall_mem
abbrev AC:=@List.find?_cons_of_pos
abbrev AD:=@List.take_succ_cons
abbrev AE:=@List.mem_take_iff_getElem
abbrev AF:=@Array.getElem?_toList
abbrev AG:=@Bool.and_eq_false_iff
abbrev AH:=@UInt8.lt_iff_toNat_lt
abbrev AI:=@Option.bind_some
abbrev AJ:=@List.take_append
abbrev AK:=@false_and
abbrev AL:=@List.drop_length
abbrev AM:=@Option.isSome_iff_exists
abbrev AN:=@List.any_cons
abbrev AO:=@Bool.or_eq_false_iff
abbrev AP:=@List.pairwise_append
abbrev AQ:=@Go.run_storeCells_at
abbrev AR:=@List.mem_zipIdx_iff_getElem?
abbrev AS:=@List.replicate_succ
abbrev AT:=@Nat.succ_mul
abbrev AU:=@List.filter_eq_nil_iff
abbrev AV:=@Nat.zero_lt_succ
abbrev AW:=@decide_eq_decide
abbrev AX:=@List.append_inj'
abbrev AY:=@List.drop_zero
abbrev AZ:=@Option.isSome_some
abbrev A0:=@List.length_replicate
abbrev A1:=@Go.grownCap_ge
abbrev A2:=@Bool.and_eq_true_iff
abbrev A3:=@Nat.succ_pos
abbrev A4:=@List.all_cons
abbrev A5:=@Bool.or_false
abbrev A6:=@List.flatten_append
abbrev A7:=@List.map_congr_left
abbrev A8:=@List.drop_succ_cons
abbrev A9:=@List.find?_eq_some_iff_getElem
abbrev Ba:=@Bool.toNat_false
abbrev Bb:=@Go.World.putObj_heap_same
abbrev Bc:=@List.drop_eq_nil_of_le
abbrev Bd:=@List.count_pos_iff
abbrev Be:=@List.find?_eq_none
abbrev Bf:=@List.pairwise_cons
abbrev Bg:=@Bool.toNat_true
abbrev Bh:=@Go.growslice_fits
abbrev Bi:=@List.take_left
abbrev Bj:=@List.count_replicate_self
abbrev Bk:=@List.ne_nil_of_length_pos
abbrev Bl:=@List.mem_of_find?_eq_some
abbrev Bm:=@List.getLastD_eq_getLast?
abbrev Bn:=@Go.run_firstCells_some
abbrev Bo:=@List.filter_eq_self
abbrev Bp:=@List.flatMap_append
abbrev Bq:=@List.length_reverse
abbrev Br:=@Bool.and_true
abbrev Bt:=@Array.getElem?_replicate
abbrev Bu:=@List.getElem?_take_of_lt
abbrev Bv:=@List.foldl_cons
abbrev Bw:=@Go.run_append_grow
abbrev Bx:=@List.length_set
abbrev By:=@List.any_append
abbrev Bz:=@Option.isSome_none
abbrev BA:=@Array.ext'
abbrev BB:=@List.mem_filterMap
abbrev BC:=@List.getElem?_cons_succ
abbrev BD:=@List.pairwise_singleton
abbrev BE:=@List.size_toArray
abbrev BF:=@congrFun
abbrev BG:=@Array.toList_replicate
abbrev BH:=@Array.getElem?_eq_none
abbrev BI:=@Bool.or_true
abbrev BJ:=@Array.getElem?_modify
abbrev BK:=@Nat.le_add_right
abbrev BL:=@Go.World.alloc_heap_new
abbrev BM:=@List.getElem?_append
abbrev BN:=@List.getLast?_append
abbrev BO:=@List.filter_nil
abbrev BP:=@List.sum_append
abbrev BQ:=@Bool.eq_iff_iff
abbrev BR:=@List.getElem?_range
abbrev BS:=@List.mem_map_of_mem
abbrev BT:=@getElem!_pos
abbrev BU:=@Nat.sub_self
abbrev BV:=@List.any_nil
abbrev BW:=@Bool.true_or
abbrev BX:=@Go.wpIn_mono
abbrev BY:=@Bool.and_assoc
abbrev BZ:=@Go.run_append_nil
abbrev B0:=@List.foldl_nil
abbrev B3:=@List.take_take
abbrev B4:=@Go.size_setRow
abbrev B5:=@Nat.add_assoc
abbrev Lz:=List UInt8
end Go.Proofs.YtnpdbhbmakdklaaGreatDoor
namespace Go.Proofs.YtnpdbhbmakdklaaGreatDoor.Vcg
variable {vs:List Value} {b o k n nx nx' i:Nat} {v:Value} {P:Program} {t e ty:TypeId} {w w':World} {B:Nat->Prop} {β:List Nat} {ρ:Operand->Value} {X Y:Prop} {x f:Operand} {α:Type} {parts:Array (Nat×Operand)}
section
open Go.RowKit
inductive MK where
 | int (k:IntKind) (l:List Int)
 | str (l:List Lz)
def MK.vals:MK->List Value
 | .int k l=>l.map (Value.int k)
 | .str l=>l.map fun s=>Value.string ⟨s.toArray⟩
def HD (b:Nat) (kvs vvs:List Value):Value:=.iface b (.tuple #[.agg kvs.toArray,.agg vvs.toArray])
def _root_.Go.Value.ownB:Value->Option Nat
 | .slice (some a) _ _=>some a.block
 | .iface b _=>some b
 | _=>none
inductive C where
 | sc (v:Value)
 | str (l:Lz)
 | agg (cs:List C)
 | tup (cs:List C)
 | sl (k:Nat) (rows:List (List C))
 | tight (k:Nat) (rows:List (List C))
 | own (id:Nat) (e:TypeId) (k:Nat) (rows:List (List C))
 | ptr (i off:Nat)
 | row (cs:List C)
 | clo (fn:Fn) (first captured:List C)
 | bs (i off k n c:Nat)
 | mo (id:Nat) (t:TypeId) (ks:MK) (vs:List C)
 | any
instance:Inhabited C:=⟨.any⟩
structure Env where
 w:World
 M:Nat->Nat->Prop
 F:Nat->Prop
abbrev Own:=Nat->Option (TypeId×Nat×Value)
structure Loc where
 β:List Nat
 T:Own
abbrev zP:Loc:=⟨[],fun _=>none⟩
mutual
def Rep (R:Env):Loc->C->Value->Prop
 | _,.sc u,v=>v=u
 | _,.str l,v=>v = .string ⟨l.toArray⟩
 | T,.agg cs,v=>∃ vs,v = .agg vs/\zy R T cs vs.toList
 | T,.tup cs,v=>∃ vs,v = .tuple vs/\zy R T cs vs.toList
 | _,.sl k rows,v=>∃ a cap,v = .slice a rows.length cap/\rows.length<=cap/\cap<=maxLen/\(rows = []∨∃ b o,a=some ⟨b,o,none⟩/\zZ R rows k b o)
 | _,.tight k rows,v=>∃ a,v = .slice a rows.length rows.length/\rows.length<=maxLen/\(rows = []∨∃ b o,a=some ⟨b,o,none⟩/\zZ R rows k b o)
 | T,.own id e k rows,v=>T.T id=some (e,k,v)/\∃ a cap,v = .slice a rows.length cap/\rows.length<=cap/\cap<=maxLen/\(rows = []∨∃ b o,a=some ⟨b,o,none⟩/\zZ R rows k b o)
 | T,.ptr i off,v=>∃ b,T.β[i]?=some b/\v = .pointer (some ⟨b,off,none⟩)
 | _,.row cs,v=>∃ b o,v = .pointer (some ⟨b,o,none⟩)/\zU R cs b o
 | T,.clo fn first cap,v=>∃ fs cs,v = .func fn fs cs/\zy R T first fs.toList/\zy R T cap cs.toList
 | T,.bs i off _ n c,v=>∃ b,T.β[i]?=some b/\∃ ad,v = .slice (some ad) n c/\(n+c≠0->ad=⟨b,off,none⟩)
 | T,.mo id t ks vs,v=>∃ b vvs,v = .map (some b)/\T.T id=some (t,0,HD b ks.vals vvs)/\zy R zP vs vvs
 | _,.any,_=>True
def zy (R:Env):Loc->List C->List Value->Prop
 | _,[],vs=>vs = []
 | T,c :: r,vs=>∃ v us,vs=v :: us/\Rep R T c v/\zy R T r us
def zU (R:Env):List C->Nat->Nat->Prop
 | [],_,_=>True
 | c :: r,b,o=>(∃ v,R.w.cell? ⟨b,o,none⟩=some v/\¬R.M b o/\Rep R zP c v/\v.oneCell'=true)/\zU R r b (o+1)
def zZ (R:Env):List (List C)->Nat->Nat->Nat->Prop
 | [],_,_,_=>True
 | row :: r,k,b,o=>row.length=k/\zU R row b o/\zZ R r k b (o+k)
end
structure Ext (R R':Env):Prop where
 cell:∀ b o v,R.w.cell? ⟨b,o,none⟩=some v->¬R.M b o->R'.w.cell? ⟨b,o,none⟩=some v/\¬R'.M b o
 whole:∀ b cs ty fl,R.w.heap[b]?=some (.cells cs ty fl)->(∀ o,¬R.M b o)->R'.w.heap[b]?=some (.cells cs ty fl)/\∀ o,¬R'.M b o
theorem Ext.refl (R:Env):Ext R R:=⟨fun _ _ _ h h'=>⟨h,h'⟩,fun _ _ _ _ h h'=>⟨h,h'⟩⟩
theorem Ext.trans {A B D:Env} (h:Ext A B) (h':Ext B D):Ext A D:=
 ⟨fun b o v hc hm=>let ⟨x,y⟩:=h.cell b o v hc hm;h'.cell b o v x y,fun b cs ty fl hc hm=>let ⟨x,y⟩:=h.whole b cs ty fl hc hm;h'.whole b cs ty fl x y⟩
structure zS (L L':Loc):Prop where
 box:∀ (i b:Nat),L.β[i]?=some b->L'.β[i]?=some b
 own:∀ id x,L.T id=some x->L'.T id=some x
theorem zS.refl (T:Loc):zS T T:=⟨fun _ _ h=>h,fun _ _ h=>h⟩
theorem zS.trans {A B D:Loc} (h:zS A B) (h':zS B D):zS A D:=⟨fun i b e=>h'.box i b (h.box i b e),fun i b e=>h'.own i b (h.own i b e)⟩
theorem zS.none (T:Loc):zS zP T:=⟨fun _ _ h=>by simp at h,fun _ _ h=>by cases h⟩
mutual
theorem Rep.ext {R R':Env} (h:Ext R R'):∀ {T T':Loc} (hT:zS T T') (c:C) (v:Value),Rep R T c v->Rep R' T' c v
 | _,_,_,.sc _,_,hv=>hv
 | _,_,_,.str _,_,hv=>hv
 | _,_,hT,.agg cs,_,hv=>by
  unfold Rep at hv ⊢;obtain ⟨vs,e,hl⟩:=hv;exact ⟨vs,e,zy.ext h hT cs _ hl⟩
 | _,_,hT,.tup cs,_,hv=>by
  unfold Rep at hv ⊢;obtain ⟨vs,e,hl⟩:=hv;exact ⟨vs,e,zy.ext h hT cs _ hl⟩
 | _,_,hT,.sl k rows,_,hv=>by
  unfold Rep at hv ⊢;obtain ⟨a,cap,e,h1,h2,h3⟩:=hv;refine ⟨a,cap,e,h1,h2,?_⟩;rcases h3 with h3 | ⟨b,o,e,h3⟩
  ·exact .inl h3
  ·exact .inr ⟨b,o,e,zZ.ext h rows k b o h3⟩
 | _,_,hT,.tight k rows,_,hv=>by
  unfold Rep at hv ⊢;obtain ⟨a,e,h2,h3⟩:=hv;refine ⟨a,e,h2,?_⟩;rcases h3 with h3 | ⟨b,o,e,h3⟩
  ·exact .inl h3
  ·exact .inr ⟨b,o,e,zZ.ext h rows k b o h3⟩
 | _,_,hT,.own id e k rows,_,hv=>by
  unfold Rep at hv ⊢;obtain ⟨ht,a,cap,e,h1,h2,h3⟩:=hv;refine ⟨hT.own _ _ ht,a,cap,e,h1,h2,?_⟩;rcases h3 with h3 | ⟨b,o,e,h3⟩
  ·exact .inl h3
  ·exact .inr ⟨b,o,e,zZ.ext h rows k b o h3⟩
 | _,_,hT,.ptr i off,_,hv=>by
  unfold Rep at hv ⊢;obtain ⟨b,hb,e⟩:=hv;exact ⟨b,hT.box i b hb,e⟩
 | _,_,hT,.row cs,_,hv=>by
  unfold Rep at hv ⊢;obtain ⟨b,o,e,hc⟩:=hv;exact ⟨b,o,e,zU.ext h cs b o hc⟩
 | _,_,hT,.clo fn first cap,_,hv=>by
  unfold Rep at hv ⊢;obtain ⟨fs,cs,e,h1,h2⟩:=hv;exact ⟨fs,cs,e,zy.ext h hT first _ h1,zy.ext h hT cap _ h2⟩
 | _,_,hT,.bs i off k n c,_,hv=>by
  unfold Rep at hv ⊢;obtain ⟨b,hb,e⟩:=hv;exact ⟨b,hT.box i b hb,e⟩
 | _,_,hT,.mo id t ks vs,_,hv=>by
  unfold Rep at hv ⊢;obtain ⟨b,vvs,e,ht,hl⟩:=hv;exact ⟨b,vvs,e,hT.own _ _ ht,zy.ext h (zS.refl _) vs _ hl⟩
 | _,_,_,.any,_,_=>by unfold Rep;trivial
theorem zy.ext {R R':Env} (h:Ext R R'):∀ {T T':Loc} (hT:zS T T') (cs:List C) (vs:List Value),zy R T cs vs->zy R' T' cs vs
 | _,_,_,[],_,hv=>hv
 | _,_,hT,c :: r,_,hv=>by
  unfold zy at hv ⊢;obtain ⟨v,us,e,h1,h2⟩:=hv;exact ⟨v,us,e,Rep.ext h hT c v h1,zy.ext h hT r us h2⟩
theorem zU.ext {R R':Env} (h:Ext R R'):∀ (cs:List C) (b o:Nat),zU R cs b o->zU R' cs b o
 | [],_,_,_=>by unfold zU;trivial
 | c :: r,b,o,hv=>by
  unfold zU at hv ⊢;obtain ⟨⟨v,hc,hm,h1,h2⟩,h3⟩:=hv;obtain ⟨hc',hm'⟩:=h.cell b o v hc hm;exact ⟨⟨v,hc',hm',Rep.ext h (zS.refl _) c v h1,h2⟩,zU.ext h r b (o+1) h3⟩
theorem zZ.ext {R R':Env} (h:Ext R R'):∀ (rows:List (List C)) (k b o:Nat),zZ R rows k b o->zZ R' rows k b o
 | [],_,_,_,_=>by unfold zZ;trivial
 | row :: r,k,b,o,hv=>by
  unfold zZ at hv ⊢;exact ⟨hv.1,zU.ext h row b o hv.2.1,zZ.ext h r k b (o+k) hv.2.2⟩
end
theorem zo {R:Env} {T:Loc}:zy R T [] vs↔vs = []:=by unfold zy;rfl
theorem zi {R:Env} {T:Loc} {c:C} {r:List C}:zy R T (c :: r) vs↔∃ v us,vs=v :: us/\Rep R T c v/\zy R T r us:=by
 constructor<;>intro h
 ·unfold zy at h;exact h
 ·unfold zy;exact h
theorem zx {R:Env} {T:Loc}:∀ {cs:List C} {vs:List Value},zy R T cs vs->vs.length=cs.length
 | [],_,h=>by rw[zo.1 h];rfl
 | c :: r,_,h=>by
  obtain ⟨v,us,rfl,_,h2⟩:=zi.1 h;simp[zx h2]
theorem JB {R:Env} {T:Loc}:∀ {cs:List C} {vs:List Value},zy R T cs vs->∀ (i:Nat) (c:C),cs[i]?=some c->∃ v,vs[i]?=some v/\Rep R T c v
 | [],_,h,i,c,hc=>by simp at hc
 | c0 :: r,_,h,i,c,hc=>by
  obtain ⟨v,us,rfl,h1,h2⟩:=zi.1 h;cases i with
  | zero=>simp at hc;subst hc;exact ⟨v,rfl,h1⟩
  | succ i=>simpa using JB h2 i c (by simpa using hc)
theorem Yx {R:Env} {T:Loc}:∀ {cs:List C} {vs:List Value},vs.length=cs.length->(∀ (i:Nat) c v,cs[i]?=some c->vs[i]?=some v->Rep R T c v)->zy R T cs vs
 | [],vs,hl,_=>zo.2 (W6 (by simpa using hl))
 | c :: r,[],hl,_=>by simp at hl
 | c :: r,v :: us,hl,h=>zi.2 ⟨v,us,rfl,h 0 c v rfl rfl,Yx (by simpa using hl) fun i c' v' hc hv=>h (i+1) c' v' (by simpa using hc) (by simpa using hv)⟩
theorem zq {R:Env} {T:Loc}:∀ {cs ds:List C} {vs us:List Value},zy R T cs vs->zy R T ds us->zy R T (cs++ds) (vs++us)
 | [],_,_,_,h,h'=>by rw[zo.1 h];exact h'
 | c :: r,_,_,_,h,h'=>by
  obtain ⟨v,us,rfl,h1,h2⟩:=zi.1 h;exact zi.2 ⟨v,_,rfl,h1,zq h2 h'⟩
theorem qY {R:Env} {T:Loc}:∀ (n:Nat) {cs:List C} {vs:List Value},zy R T cs vs->zy R T (cs.drop n) (vs.drop n)
 | 0,_,_,h=>h
 | n+1,[],_,h=>by rw[zo.1 h];exact zo.2 (by simp)
 | n+1,c :: r,_,h=>by
  obtain ⟨v,us,rfl,h1,h2⟩:=zi.1 h;exact qY n h2
theorem qM {R:Env} {T:Loc}:∀ (n:Nat) {cs:List C} {vs:List Value},zy R T cs vs->zy R T (cs.take n) (vs.take n)
 | 0,_,_,h=>zo.2 rfl
 | n+1,[],_,h=>by rw[zo.1 h];exact zo.2 (by simp)
 | n+1,c :: r,_,h=>by
  obtain ⟨v,us,rfl,h1,h2⟩:=zi.1 h;exact zi.2 ⟨v,_,rfl,h1,qM n h2⟩
theorem Jn {R:Env}:zU R [] b o:=by unfold zU;trivial
theorem qu {R:Env} {c:C} {r:List C}:zU R (c :: r) b o↔(∃ v,R.w.cell? ⟨b,o,none⟩=some v/\¬R.M b o/\Rep R zP c v/\v.oneCell'=true)/\zU R r b (o+1):=by
 constructor<;>intro h
 ·unfold zU at h;exact h
 ·unfold zU;exact h
theorem Jo {R:Env}:∀ {cs:List C} {b o:Nat},zU R cs b o->∀ (i:Nat) (c:C),cs[i]?=some c->∃ v,R.w.cell? ⟨b,o+i,none⟩=some v/\¬R.M b (o+i)/\Rep R zP c v/\v.oneCell'=true
 | [],_,_,_,i,c,hc=>by simp at hc
 | c0 :: r,b,o,h,i,c,hc=>by
  obtain ⟨h1,h2⟩:=qu.1 h;cases i with
  | zero=>simp at hc;subst hc;exact h1
  | succ i =>
   have:=Jo h2 i c (by simpa using hc);rwa [B5,Nat.add_comm 1 i]at this
theorem qm {R:Env}:∀ {cs:List C} {b o:Nat},(∀ (i:Nat) c,cs[i]?=some c->∃ v,R.w.cell? ⟨b,o+i,none⟩=some v/\¬R.M b (o+i)/\Rep R zP c v/\v.oneCell'=true)->zU R cs b o
 | [],_,_,_=>Jn
 | c0 :: r,b,o,h=>qu.2 ⟨h 0 c0 rfl,qm fun i c hc=>by
   have:=h (i+1) c (by simpa using hc);rwa [show o+(i+1)=o+1+i by omega]at this⟩
theorem XG {R:Env}:∀ (n:Nat) {cs:List C} {b o:Nat},zU R cs b o->zU R (cs.drop n) b (o+n)
 | 0,_,_,_,h=>h
 | n+1,[],_,_,h=>Jn
 | n+1,c :: r,b,o,h=>by
  have:=XG n (qu.1 h).2;rwa [show o+1+n=o+(n+1) by omega]at this
theorem XQ {R:Env}:zZ R [] k b o:=by unfold zZ;trivial
theorem jx {R:Env} {row:List C} {r:List (List C)}:zZ R (row :: r) k b o↔row.length=k/\zU R row b o/\zZ R r k b (o+k):=by
 constructor<;>intro h
 ·unfold zZ at h;exact h
 ·unfold zZ;exact h
theorem jA {R:Env}:∀ {rows:List (List C)} {k b o:Nat},zZ R rows k b o->∀ (i:Nat) row,rows[i]?=some row->row.length=k/\zU R row b (o+i*k)
 | [],_,_,_,_,i,c,hc=>by simp at hc
 | r0 :: r,k,b,o,h,i,row,hc=>by
  obtain ⟨h0,h1,h2⟩:=jx.1 h;cases i with
  | zero=>simp at hc;subst hc;exact ⟨h0,by simpa using h1⟩
  | succ i =>
   have:=jA h2 i row (by simpa using hc);rwa [show o+k+i*k=o+(i+1)*k by rw[Oq];omega]at this
theorem jf {R:Env}:∀ {rows:List (List C)} {k b o:Nat},(∀ (i:Nat) row,rows[i]?=some row->row.length=k/\zU R row b (o+i*k))->zZ R rows k b o
 | [],_,_,_,_=>XQ
 | r0 :: r,k,b,o,h=>jx.2 ⟨(h 0 r0 rfl).1,by simpa using (h 0 r0 rfl).2,jf fun i row hc=>by
   have:=h (i+1) row (by simpa using hc);rwa [show o+(i+1)*k=o+k+i*k by rw[Oq];omega]at this⟩
theorem QA {R:Env} {k b:Nat}:∀ (n:Nat) {rows:List (List C)} {o:Nat},zZ R rows k b o->zZ R (rows.drop n) k b (o+n*k)
 | 0,_,o,h=>by simpa using h
 | n+1,[],_,h=>XQ
 | n+1,c :: r,o,h=>by
  have:=QA n (jx.1 h).2.2;rwa [show o+k+n*k=o+(n+1)*k by rw[Oq];omega]at this
theorem QL {R:Env} {k b:Nat}:∀ (n:Nat) {rows:List (List C)} {o:Nat},zZ R rows k b o->zZ R (rows.take n) k b o
 | 0,_,_,h=>XQ
 | n+1,[],_,h=>XQ
 | n+1,c :: r,o,h=>jx.2 ⟨(jx.1 h).1,(jx.1 h).2.1,QL n (jx.1 h).2.2⟩
theorem qW {R:Env} {k b:Nat}:∀ {rows:List (List C)} {o:Nat},zZ R rows k b o->zU R rows.flatten b o/\rows.flatten.length=rows.length*k
 | [],_,h=>⟨Jn,by simp⟩
 | c :: r,o,h=>by
  obtain ⟨h0,h1,h2⟩:=jx.1 h;obtain ⟨h3,h4⟩:=qW h2;refine ⟨qm fun i x hx=>?_,by simp[h4,h0,Oq];omega⟩;rw[OX]at hx;rcases Wr i c.length with hi | hi
  ·rw[Wv hi]at hx;exact Jo h1 i x hx
  ·rw[WO hi]at hx;have:=Jo h3 (i-c.length) x hx;rwa [show o+k+(i-c.length)=o+i by omega]at this
def zE:Value->C
 | .string s=>.str s.data.toList
 | .agg vs=>.agg (vs.toList.map .sc)
 | v=>.sc v
theorem zhW {R:Env} {T:Loc}:∀ vs:List Value,zy R T (vs.map .sc) vs
 | []=>zo.2 rfl
 | v :: r=>zi.2 ⟨v,_,rfl,by unfold Rep;rfl,zhW r⟩
theorem jX (R:Env) (T:Loc) (v:Value):Rep R T (zE v) v:=by
 unfold zE;split
 ·unfold Rep;simp
 ·unfold Rep;exact ⟨_,rfl,zhW _⟩
 ·unfold Rep;rfl
def C.cellB:C->Bool
 | .sc v=>v.oneCell'
 | .agg _ | .tup _ | .any=>false
 | _=>true
theorem Rep.oneCell {R:Env} {T:Loc} {c:C} (h:Rep R T c v) (hc:c.cellB=true):v.oneCell'=true:=by
 cases c<;>simp only[C.cellB]at hc<;>unfold Rep at h
 case sc u=>subst h;exact hc
 case str l=>subst h;rfl
 case agg=>cases hc
 case tup=>cases hc
 case sl=>obtain ⟨_,_,rfl,_⟩:=h;rfl
 case tight=>obtain ⟨_,rfl,_⟩:=h;rfl
 case own=>obtain ⟨_,_,_,rfl,_⟩:=h;rfl
 case ptr=>obtain ⟨_,_,rfl⟩:=h;rfl
 case row=>obtain ⟨_,_,rfl,_⟩:=h;rfl
 case clo=>obtain ⟨_,_,rfl,_⟩:=h;rfl
 case bs=>obtain ⟨_,_,_,rfl,_⟩:=h;rfl
 case mo=>obtain ⟨_,_,rfl,_⟩:=h;rfl
 case any=>cases hc
def C.cells:C->List C
 | .agg cs=>cs
 | c=>[c]
mutual
/-- what a callee may know of it: no owner, no place of the caller's -/
def C.frz:C->C
 | .own _ _ k rows=>.sl k rows
 | .ptr _ _=>.any
 | .bs _ _ _ _ _=>.any
 | .mo _ _ _ _=>.any
 | .agg cs=>.agg (C.frzL cs)
 | .tup cs=>.tup (C.frzL cs)
 | .clo fn first cap=>.clo fn (C.frzL first) (C.frzL cap)
 | .sc v=>.sc v
 | .str l=>.str l
 | .sl k rows=>.sl k rows
 | .tight k rows=>.tight k rows
 | .row cs=>.row cs
 | .any=>.any
def C.frzL:List C->List C
 | []=>[]
 | c :: r=>c.frz :: C.frzL r
end
mutual
theorem Rep.frz {R:Env} {L:Loc} (L':Loc):∀ (c:C) (v:Value),Rep R L c v->Rep R L' c.frz v
 | .sc _,_,h=>by unfold C.frz;unfold Rep at h ⊢;exact h
 | .str _,_,h=>by unfold C.frz;unfold Rep at h ⊢;exact h
 | .agg cs,_,h=>by
  unfold C.frz;unfold Rep at h ⊢;obtain ⟨vs,e,hl⟩:=h;exact ⟨vs,e,zy.frz L' cs _ hl⟩
 | .tup cs,_,h=>by
  unfold C.frz;unfold Rep at h ⊢;obtain ⟨vs,e,hl⟩:=h;exact ⟨vs,e,zy.frz L' cs _ hl⟩
 | .sl k rows,_,h=>by unfold C.frz;unfold Rep at h ⊢;exact h
 | .tight k rows,_,h=>by unfold C.frz;unfold Rep at h ⊢;exact h
 | .own id e k rows,_,h=>by unfold C.frz;unfold Rep at h ⊢;exact h.2
 | .ptr i off,_,h=>by unfold C.frz;unfold Rep;trivial
 | .bs i off k n c,_,h=>by unfold C.frz;unfold Rep;trivial
 | .mo i t ks vs,_,h=>by unfold C.frz;unfold Rep;trivial
 | .row cs,_,h=>by unfold C.frz;unfold Rep at h ⊢;exact h
 | .clo fn first cap,_,h=>by
  unfold C.frz;unfold Rep at h ⊢;obtain ⟨fs,cs,e,h1,h2⟩:=h;exact ⟨fs,cs,e,zy.frz L' first _ h1,zy.frz L' cap _ h2⟩
 | .any,_,_=>by unfold C.frz;unfold Rep;trivial
theorem zy.frz {R:Env} {L:Loc} (L':Loc):∀ (cs:List C) (vs:List Value),zy R L cs vs->zy R L' (C.frzL cs) vs
 | [],_,h=>by unfold C.frzL;rw[zo]at h ⊢;exact h
 | c :: r,_,h=>by
  unfold C.frzL;rw[zi]at h ⊢;obtain ⟨v,us,e,h1,h2⟩:=h;exact ⟨v,us,e,Rep.frz L' c v h1,zy.frz L' r us h2⟩
end
mutual
/-- one owner gone -/
def C.dg (id:Nat):C->C
 | .own i e k rows=>if i=id then .sl k rows else .own i e k rows
 | .ptr i off=>.ptr i off
 | .bs i off k n c=>.bs i off k n c
 | .mo i t ks vs=>if i=id then .any else .mo i t ks vs
 | .agg cs=>.agg (C.dgL id cs)
 | .tup cs=>.tup (C.dgL id cs)
 | .clo fn first cap=>.clo fn (C.dgL id first) (C.dgL id cap)
 | .sc v=>.sc v
 | .str l=>.str l
 | .sl k rows=>.sl k rows
 | .tight k rows=>.tight k rows
 | .row cs=>.row cs
 | .any=>.any
def C.dgL (id:Nat):List C->List C
 | []=>[]
 | c :: r=>c.dg id :: C.dgL id r
end
mutual
theorem Rep.dg {R:Env} {L L':Loc} {id:Nat} (hb:∀ (i b:Nat),L.β[i]?=some b->L'.β[i]?=some b) (hT:∀ i x,i≠id->L.T i=some x->L'.T i=some x):∀ (c:C) (v:Value),Rep R L c v->Rep R L' (c.dg id) v
 | .sc _,_,h=>by unfold C.dg;unfold Rep at h ⊢;exact h
 | .str _,_,h=>by unfold C.dg;unfold Rep at h ⊢;exact h
 | .agg cs,_,h=>by
  unfold C.dg;unfold Rep at h ⊢;obtain ⟨vs,e,hl⟩:=h;exact ⟨vs,e,zy.dg hb hT cs _ hl⟩
 | .tup cs,_,h=>by
  unfold C.dg;unfold Rep at h ⊢;obtain ⟨vs,e,hl⟩:=h;exact ⟨vs,e,zy.dg hb hT cs _ hl⟩
 | .sl k rows,_,h=>by unfold C.dg;unfold Rep at h ⊢;exact h
 | .tight k rows,_,h=>by unfold C.dg;unfold Rep at h ⊢;exact h
 | .own i e k rows,_,h=>by
  unfold C.dg;unfold Rep at h;split
  ·unfold Rep;exact h.2
  ·unfold Rep;exact ⟨hT _ _ (by assumption) h.1,h.2⟩
 | .ptr i off,_,h=>by
  unfold C.dg;unfold Rep at h ⊢;obtain ⟨b,e,h⟩:=h;exact ⟨b,hb _ _ e,h⟩
 | .bs i off k n c,_,h=>by
  unfold C.dg;unfold Rep at h ⊢;obtain ⟨b,e,h⟩:=h;exact ⟨b,hb _ _ e,h⟩
 | .mo i t ks vs,_,h=>by
  unfold C.dg;unfold Rep at h;split
  ·unfold Rep;trivial
  ·unfold Rep;obtain ⟨b,vvs,e,ht,hl⟩:=h;exact ⟨b,vvs,e,hT _ _ (by assumption) ht,hl⟩
 | .row cs,_,h=>by unfold C.dg;unfold Rep at h ⊢;exact h
 | .clo fn first cap,_,h=>by
  unfold C.dg;unfold Rep at h ⊢;obtain ⟨fs,cs,e,h1,h2⟩:=h;exact ⟨fs,cs,e,zy.dg hb hT first _ h1,zy.dg hb hT cap _ h2⟩
 | .any,_,_=>by unfold C.dg;unfold Rep;trivial
theorem zy.dg {R:Env} {L L':Loc} {id:Nat} (hb:∀ (i b:Nat),L.β[i]?=some b->L'.β[i]?=some b) (hT:∀ i x,i≠id->L.T i=some x->L'.T i=some x):∀ (cs:List C) (vs:List Value),zy R L cs vs->zy R L' (C.dgL id cs) vs
 | [],_,h=>by unfold C.dgL;rw[zo]at h ⊢;exact h
 | c :: r,_,h=>by
  unfold C.dgL;rw[zi]at h ⊢;obtain ⟨v,us,e,h1,h2⟩:=h;exact ⟨v,us,e,Rep.dg hb hT c v h1,zy.dg hb hT r us h2⟩
end
mutual
/-- owners, told anew from n on -/
def C.sh (n:Nat):C->C
 | .own i e k rows=>.own (n+i) e k rows
 | .ptr i off=>.ptr i off
 | .bs i off k m c=>.bs i off k m c
 | .mo i t ks vs=>.mo (n+i) t ks vs
 | .agg cs=>.agg (C.shL n cs)
 | .tup cs=>.tup (C.shL n cs)
 | .clo fn first cap=>.clo fn (C.shL n first) (C.shL n cap)
 | .sc v=>.sc v
 | .str l=>.str l
 | .sl k rows=>.sl k rows
 | .tight k rows=>.tight k rows
 | .row cs=>.row cs
 | .any=>.any
def C.shL (n:Nat):List C->List C
 | []=>[]
 | c :: r=>c.sh n :: C.shL n r
end
mutual
theorem Rep.sh {R:Env} {L L':Loc} (hb:∀ (i b:Nat),L.β[i]?=some b->L'.β[i]?=some b) (hT:∀ i x,L.T i=some x->L'.T (n+i)=some x):∀ (c:C) (v:Value),Rep R L c v->Rep R L' (c.sh n) v
 | .sc _,_,h=>by unfold C.sh;unfold Rep at h ⊢;exact h
 | .str _,_,h=>by unfold C.sh;unfold Rep at h ⊢;exact h
 | .agg cs,_,h=>by
  unfold C.sh;unfold Rep at h ⊢;obtain ⟨vs,e,hl⟩:=h;exact ⟨vs,e,zy.sh hb hT cs _ hl⟩
 | .tup cs,_,h=>by
  unfold C.sh;unfold Rep at h ⊢;obtain ⟨vs,e,hl⟩:=h;exact ⟨vs,e,zy.sh hb hT cs _ hl⟩
 | .sl k rows,_,h=>by unfold C.sh;unfold Rep at h ⊢;exact h
 | .tight k rows,_,h=>by unfold C.sh;unfold Rep at h ⊢;exact h
 | .own i e k rows,_,h=>by
  unfold C.sh;unfold Rep at h ⊢;exact ⟨hT _ _ h.1,h.2⟩
 | .ptr i off,_,h=>by
  unfold C.sh;unfold Rep at h ⊢;obtain ⟨b,e,h⟩:=h;exact ⟨b,hb _ _ e,h⟩
 | .bs i off k m c,_,h=>by
  unfold C.sh;unfold Rep at h ⊢;obtain ⟨b,e,h⟩:=h;exact ⟨b,hb _ _ e,h⟩
 | .mo i t ks vs,_,h=>by
  unfold C.sh;unfold Rep at h ⊢;obtain ⟨b,vvs,e,ht,hl⟩:=h;exact ⟨b,vvs,e,hT _ _ ht,hl⟩
 | .row cs,_,h=>by unfold C.sh;unfold Rep at h ⊢;exact h
 | .clo fn first cap,_,h=>by
  unfold C.sh;unfold Rep at h ⊢;obtain ⟨fs,cs,e,h1,h2⟩:=h;exact ⟨fs,cs,e,zy.sh hb hT first _ h1,zy.sh hb hT cap _ h2⟩
 | .any,_,_=>by unfold C.sh;unfold Rep;trivial
theorem zy.sh {R:Env} {L L':Loc} (hb:∀ (i b:Nat),L.β[i]?=some b->L'.β[i]?=some b) (hT:∀ i x,L.T i=some x->L'.T (n+i)=some x):∀ (cs:List C) (vs:List Value),zy R L cs vs->zy R L' (C.shL n cs) vs
 | [],_,h=>by unfold C.shL;rw[zo]at h ⊢;exact h
 | c :: r,_,h=>by
  unfold C.shL;rw[zi]at h ⊢;obtain ⟨v,us,e,h1,h2⟩:=h;exact ⟨v,us,e,Rep.sh hb hT c v h1,zy.sh hb hT r us h2⟩
end
mutual
/-- the content of one owned map, anew -/
def C.up (id:Nat) (ks':MK) (vs':List C):C->C
 | .mo i t ks vs=>if i=id then .mo i t ks' vs' else .mo i t ks vs
 | .own i e k rows=>if i=id then .any else .own i e k rows
 | .ptr i off=>.ptr i off
 | .bs i off k n c=>.bs i off k n c
 | .agg cs=>.agg (C.upL id ks' vs' cs)
 | .tup cs=>.tup (C.upL id ks' vs' cs)
 | .clo fn first cap=>.clo fn (C.upL id ks' vs' first) (C.upL id ks' vs' cap)
 | .sc v=>.sc v
 | .str l=>.str l
 | .sl k rows=>.sl k rows
 | .tight k rows=>.tight k rows
 | .row cs=>.row cs
 | .any=>.any
def C.upL (id:Nat) (ks':MK) (vs':List C):List C->List C
 | []=>[]
 | c :: r=>c.up id ks' vs' :: C.upL id ks' vs' r
end
theorem NL {b':Nat} {k v k' v':List Value} (h:HD b k v=HD b' k' v'):b=b'/\k=k'/\v=v':=by
 unfold HD at h;simp only[Value.iface.injEq,Value.tuple.injEq,Array.mk.injEq,List.cons.injEq,Value.agg.injEq,and_true]at h;obtain ⟨h1,h2,h3⟩:=h;exact ⟨h1,by simpa using h2,by simpa using h3⟩
mutual
theorem Rep.up {R:Env} {L L':Loc} {id:Nat} {ks':MK} {vs':List C} {t0:TypeId} {b0:Nat} {kvs vvs vvs':List Value} (hb:∀ (i b:Nat),L.β[i]?=some b->L'.β[i]?=some b) (hT:∀ i x,i≠id->L.T i=some x->L'.T i=some x)
  (h0:L.T id=some (t0,0,HD b0 kvs vvs)) (h1:L'.T id=some (t0,0,HD b0 ks'.vals vvs')) (hr:zy R zP vs' vvs'):∀ (c:C) (v:Value),Rep R L c v->Rep R L' (c.up id ks' vs') v
 | .sc _,_,h=>by unfold C.up;unfold Rep at h ⊢;exact h
 | .str _,_,h=>by unfold C.up;unfold Rep at h ⊢;exact h
 | .agg cs,_,h=>by
  unfold C.up;unfold Rep at h ⊢;obtain ⟨vs,e,hl⟩:=h;exact ⟨vs,e,zy.up hb hT h0 h1 hr cs _ hl⟩
 | .tup cs,_,h=>by
  unfold C.up;unfold Rep at h ⊢;obtain ⟨vs,e,hl⟩:=h;exact ⟨vs,e,zy.up hb hT h0 h1 hr cs _ hl⟩
 | .sl k rows,_,h=>by unfold C.up;unfold Rep at h ⊢;exact h
 | .tight k rows,_,h=>by unfold C.up;unfold Rep at h ⊢;exact h
 | .own i e k rows,_,h=>by
  unfold C.up;unfold Rep at h;split
  ·unfold Rep;trivial
  ·unfold Rep;exact ⟨hT _ _ (by assumption) h.1,h.2⟩
 | .mo i t ks vs,_,h=>by
  unfold C.up;unfold Rep at h;obtain ⟨b,us,e,ht,hl⟩:=h;split
  ·rename_i hi;subst hi;rw[h0]at ht;simp only[Option.some.injEq,Prod.mk.injEq]at ht;obtain ⟨rfl,_,hm⟩:=ht;obtain ⟨rfl,_,_⟩:=NL hm;unfold Rep;exact ⟨b0,vvs',e,h1,hr⟩
  ·unfold Rep;exact ⟨b,us,e,hT _ _ (by assumption) ht,hl⟩
 | .ptr i off,_,h=>by
  unfold C.up;unfold Rep at h ⊢;obtain ⟨b,e,h⟩:=h;exact ⟨b,hb _ _ e,h⟩
 | .bs i off k n c,_,h=>by
  unfold C.up;unfold Rep at h ⊢;obtain ⟨b,e,h⟩:=h;exact ⟨b,hb _ _ e,h⟩
 | .row cs,_,h=>by unfold C.up;unfold Rep at h ⊢;exact h
 | .clo fn first cap,_,h=>by
  unfold C.up;unfold Rep at h ⊢;obtain ⟨fs,cs,e,h2,h3⟩:=h;exact ⟨fs,cs,e,zy.up hb hT h0 h1 hr first _ h2,zy.up hb hT h0 h1 hr cap _ h3⟩
 | .any,_,_=>by unfold C.up;unfold Rep;trivial
theorem zy.up {R:Env} {L L':Loc} {id:Nat} {ks':MK} {vs':List C} {t0:TypeId} {b0:Nat} {kvs vvs vvs':List Value} (hb:∀ (i b:Nat),L.β[i]?=some b->L'.β[i]?=some b) (hT:∀ i x,i≠id->L.T i=some x->L'.T i=some x)
  (h0:L.T id=some (t0,0,HD b0 kvs vvs)) (h1:L'.T id=some (t0,0,HD b0 ks'.vals vvs')) (hr:zy R zP vs' vvs'):∀ (cs:List C) (vs:List Value),zy R L cs vs->zy R L' (C.upL id ks' vs' cs) vs
 | [],_,h=>by unfold C.upL;rw[zo]at h ⊢;exact h
 | c :: r,_,h=>by
  unfold C.upL;rw[zi]at h ⊢;obtain ⟨v,us,e,h2,h3⟩:=h;exact ⟨v,us,e,Rep.up hb hT h0 h1 hr c v h2,zy.up hb hT h0 h1 hr r us h3⟩
end
end
variable {R R':Env} {L L':Loc} {c:C}
section
open Go.RowKit
inductive LK where
 | int (k:IntKind)
 | bool
 | str
 | slice (e:TypeId)
 | struct (fs:List (Nat×Nat×Bool))
 | array (n:Nat) (e:TypeId)
 | other
def LK.agg:LK->Bool
 | .struct _ | .array _ _=>true
 | _=>false
structure Lay where
 kind:LK
 size:Nat
 bytes:Nat
 zero:Option (List Value)
def zgX (P:Program) (t:TypeId):Bool:=match P.underlying t with | some (.struct _) | some (.array _ _)=>true | _=>false
def Xe (P:Program):TypeDesc->LK
 | .int k=>.int k
 | .bool=>.bool
 | .string=>.str
 | .slice e=>.slice e
 | .struct fs=>if fs.toList.all (fun f=>(P.underlying f.type).isSome) then .struct (fs.toList.map fun f=>(f.offset,((P.info? f.type).map (·.size)).getD 0,zgX P f.type)) else .array 0 0
 | .array n e=>.array n e
 | _=>.other
def lay (P:Program) (t:TypeId):Option Lay:=
 match P.info? t,P.underlying t with
 | some i,some d=>some ⟨Xe P d,i.size,i.bytes,i.zero.map (·.cells.toList)⟩
 | _,_=>none
def Mr (P:Program):Nat->List Field->Option (List LK)
 | _,[]=>some []
 | j,f :: fs=>if f.name != "_"&&f.offset==j then match P.underlying f.type with
   | some .bool=>(Mr P (j+1) fs).map (LK.bool :: ·)
   | some (.int k)=>(Mr P (j+1) fs).map (LK.int k :: ·)
   | some .string=>(Mr P (j+1) fs).map (LK.str :: ·)
   | _=>none
  else none
def Ul (P:Program) (t:TypeId):Option (List LK):=
 match P.underlying t with
 | some (.struct fs)=>if P.stoodInHeld t||P.eqGuardType P.depth t then none else Mr P 0 fs.toList
 | _=>none
theorem qr {L:Lay} (h:lay P t=some L):∃ i d,P.info? t=some i/\P.underlying t=some d/\L.kind=Xe P d/\L.size=i.size/\L.bytes=i.bytes/\L.zero=i.zero.map (·.cells.toList):=by
 unfold lay at h;split at h
 ·rename_i i d hi hd;cases h;exact ⟨i,d,hi,hd,rfl,rfl,rfl,rfl⟩
 ·cases h
theorem qi {L:Lay} (h:lay P t=some L) (hk:L.kind = .slice e):P.underlying t=some (.slice e):=by
 obtain ⟨i,d,_,hd,h1,_⟩:=qr h;rw[hk]at h1;cases d<;>simp only[Xe]at h1<;>first | (cases h1;exact hd) | (cases h1;done) | (split at h1<;>cases h1)
theorem zeF {L:Lay} (h:lay P t=some L) (hk:L.kind = .array (n+1) e):P.underlying t=some (.array (n+1) e):=by
 obtain ⟨i,d,_,hd,h1,_⟩:=qr h;rw[hk]at h1;cases d<;>simp only[Xe]at h1<;>try cases h1
 ·exact hd
 ·split at h1<;>cases h1
theorem ZA {L:Lay} (h:lay P t=some L) (hk:L.kind = .str):P.underlying t=some .string:=by
 obtain ⟨i,d,_,hd,h1,_⟩:=qr h;rw[hk]at h1;cases d<;>simp only[Xe]at h1<;>first | (cases h1;exact hd) | (cases h1;done) | (split at h1<;>cases h1)
theorem zkQ {L:Lay} (h:lay P t=some L) (hk:L.kind = .bool):P.underlying t=some .bool:=by
 obtain ⟨i,d,_,hd,h1,_⟩:=qr h;rw[hk]at h1;cases d<;>simp only[Xe]at h1<;>first | (cases h1;exact hd) | (cases h1;done) | (split at h1<;>cases h1)
theorem zkt {L:Lay} (h:lay P t=some L):(P.underlying t).isSome=true:=by
 obtain ⟨i,d,_,hd,_⟩:=qr h;rw[hd];rfl
theorem VQ {k:IntKind} {L:Lay} (h:lay P t=some L) (hk:L.kind = .int k):P.underlying t=some (.int k):=by
 obtain ⟨i,d,_,hd,h1,_⟩:=qr h;rw[hk]at h1;cases d<;>simp only[Xe]at h1<;>first | (cases h1;exact hd) | (cases h1;done) | (split at h1<;>cases h1)
theorem VX {fs:List (Nat×Nat×Bool)} {L:Lay} (h:lay P t=some L) (hk:L.kind = .struct fs) :
  ∃ fields:Array Field,P.underlying t=some (.struct fields)/\(∀ f∈fields.toList,(P.underlying f.type).isSome=true)/\fs=fields.toList.map fun f=>(f.offset,((P.info? f.type).map (·.size)).getD 0,zgX P f.type):=by
 obtain ⟨i,d,_,hd,h1,_⟩:=qr h;rw[hk]at h1;cases d<;>simp only[Xe]at h1<;>try cases h1
 split at h1
 ·rename_i fs0 hall;cases h1;exact ⟨_,hd,fun f hf=>Wz.1 hall f hf,rfl⟩
 ·cases h1
theorem znb {L:Lay} (h:lay P t=some L) (w:World):(isAgg t).run P w = .ok L.kind.agg w:=by
 obtain ⟨i,d,_,hd,h1,_⟩:=qr h;unfold isAgg;rw[Wo,WE hd w,h1];cases d<;>first | rfl | (simp only[Xe];split<;>rfl)
theorem Nj {d:TypeDesc} (h:P.underlying t=some d) (w:World):(isAgg t).run P w = .ok (zgX P t) w:=by
 unfold isAgg zgX;rw[Wo,WE h w,h];cases d<;>rfl
theorem qO {L:Lay} (h:lay P t=some L) (w:World):(sizeOf t).run P w = .ok L.size w:=by
 obtain ⟨i,d,hi,hd,h1,h2,_⟩:=qr h;simp[sizeOf,typeInfo,hi,h2]
theorem zkb {L:Lay} (h:lay P t=some L):(P.info? t).map (·.size)=some L.size:=by
 obtain ⟨i,d,hi,hd,h1,h2,_⟩:=qr h;simp[hi,h2]
def inR (k:IntKind) (n:Int):Prop:=k.min<=n/\n<=k.max
theorem Q9 {k:IntKind} {n:Int} (h:inR k n):k.wrap n=n:=by
 unfold inR at h;cases k<;>simp[IntKind.min,IntKind.max,IntKind.bits,IntKind.signed,IntKind.wrap]at h ⊢<;>first | omega | (split<;>omega)
theorem zn3 (n:Int):inR .i64 n=(-9223372036854775808<=n/\n<=9223372036854775807):=by simp[inR,IntKind.min,IntKind.max,IntKind.bits,IntKind.signed]
theorem zp4 (n:Int):inR .u8 n=(0<=n/\n<=255):=by simp[inR,IntKind.min,IntKind.max,IntKind.bits,IntKind.signed]
theorem zoV (n:Int):inR .u16 n=(0<=n/\n<=65535):=by simp[inR,IntKind.min,IntKind.max,IntKind.bits,IntKind.signed]
theorem znL (n:Int):inR .i32 n=(-2147483648<=n/\n<=2147483647):=by simp[inR,IntKind.min,IntKind.max,IntKind.bits,IntKind.signed]
theorem zng (n:Int):inR .u64 n=(0<=n/\n<=18446744073709551615):=by simp[inR,IntKind.min,IntKind.max,IntKind.bits,IntKind.signed]
def C.rows? (k:Nat):C->Option (List (List C))
 | .sl k' rows=>if k'=k then some rows else none
 | .tight k' rows=>if k'=k then some rows else none
 | .own _ _ k' rows=>if k'=k then some rows else none
 | .sc (.slice none 0 0)=>some []
 | .sc (.slice _ 0 cap)=>if cap<=maxLen then some [] else none
 | _=>none
theorem Rep.rows {R:Env} {L:Loc} {c:C} {v:Value} {k:Nat} {rows:List (List C)} (h:Rep R L c v) (hc:c.rows? k=some rows) :
  ∃ a cap,v = .slice a rows.length cap/\rows.length<=cap/\cap<=maxLen/\(rows = []∨∃ b o,a=some ⟨b,o,none⟩/\zZ R rows k b o):=by
 unfold C.rows? at hc;split at hc
 ·split at hc
  ·cases hc;subst_vars;unfold Rep at h;exact h
  ·cases hc
 ·split at hc
  ·cases hc;subst_vars;unfold Rep at h;obtain ⟨a,e,h2,h3⟩:=h;exact ⟨a,_,e,Wc _,h2,h3⟩
  ·cases hc
 ·split at hc
  ·cases hc;subst_vars;unfold Rep at h;exact h.2
  ·cases hc
 ·cases hc;unfold Rep at h;exact ⟨none,0,h,Wc _,Wb _,.inl rfl⟩
 ·split at hc
  ·cases hc;unfold Rep at h;exact ⟨_,_,h,Wb _,by assumption,.inl rfl⟩
  ·cases hc
 ·cases hc
def Qv (B:Nat->Prop) (R:Env) (β:List Nat) (e:TypeId) (k:Nat) (v:Value):Prop:=
 v = .slice none 0 0∨(∃ g n cap cur ty,v = .slice (some ⟨g,0,none⟩) n cap/\B g/\R.w.heap[g]?=some (.cells cur ty (0,0))/\n<=cap/\cap<=maxLen/\cur.size=cap*k/\g∉β/\∀ o,n*k<=o->R.M g o) ∨
  ∃ g es kvs vvs,v=HD g kvs vvs/\B g/\R.w.heap[g]?=some (.map es es.size)/\g∉β/\es.toList.map (·.key)=kvs/\es.toList.map (·.val)=vvs/\∀ (i:Nat) (e:MapEntry),es[i]?=some e->e.born=i
structure ZY (B:Nat->Prop) (R:Env) (L:Loc):Prop where
 own:∀ id e k v,L.T id=some (e,k,v)->Qv B R L.β e k v
 apart:∀ id id' e k v e' k' v' b,L.T id=some (e,k,v)->L.T id'=some (e',k',v')->v.ownB=some b->v'.ownB=some b->id=id'
abbrev zpp (L:Loc) (a b:Nat):Prop:=∀ id,a<=id->id<b->L.T id=none
structure jV (R:Env) (L:Loc) (bx:List (List C)):Prop where
 len:L.β.length=bx.length
 nodup:L.β.Nodup
 box:∀ (i b:Nat) cs,L.β[i]?=some b->bx[i]?=some cs->∃ vs ty,R.w.heap[b]?=some (.cells vs ty (0,0))/\zy R L cs vs.toList/\(∀ v∈vs.toList,v.oneCell'=true)/\∀ o,R.M b o
abbrev zu:=Nat->Option (List C)
def X7 (G:zu) (R:Env):Prop:=∀ g cs,G g=some cs->zU R cs g 0/\(∃ vs ty fl,R.w.heap[g]?=some (.cells vs ty fl)/\vs.size=cs.length)/\∀ o,¬R.M g o
structure Fit (G:zu) (B:Nat->Prop) (bx:List (List C)) (R:Env) (L:Loc):Prop where
 glob:X7 G R
 boxes:jV R L bx
 owns:ZY B R L
 base:∀ g,R.w.heap.size<=g->B g
structure qH (nx nx':Nat) (R:Env) (L:Loc) (R':Env) (L':Loc):Prop where
 below:Below R.w.heap.size R.w R'.w
 fgn:R'.F=R.F
 box:L'.β=L.β
 mt:∀ b o,b<R.w.heap.size->(R'.M b o↔R.M b o)
 old:∀ id,id<nx∨nx'<=id->L'.T id=L.T id
 new:∀ id e k v,nx<=id->id<nx'->L'.T id=some (e,k,v)->Qv (fun g=>R.w.heap.size<=g) R' L.β e k v
 apart:∀ id id' e k v e' k' v' b,nx<=id->id<nx'->nx<=id'->id'<nx'->L'.T id=some (e,k,v)->L'.T id'=some (e',k',v')->v.ownB=some b->v'.ownB=some b->id=id'
theorem vX (h:w.cell? ⟨b,o,none⟩=some v):b<w.heap.size:=block_lt_of_cell h
theorem Ext.of_below (hb:Below R.w.heap.size R.w R'.w) (hm:∀ b o,b<R.w.heap.size->(R'.M b o↔R.M b o)):Ext R R':=
 ⟨fun b o v hc h=>⟨by rw[hb.cell (p:=⟨b,o,none⟩) (vX hc)];exact hc,fun h'=>h ((hm b o (vX hc)).1 h')⟩,fun b cs ty fl hc h=>⟨by rw[hb.block b (Aw.1 hc).1];exact hc,fun o h'=>h o ((hm b o (Aw.1 hc).1).1 h')⟩⟩
theorem qH.ext (h:qH nx nx' R L R' L'):Ext R R':=Ext.of_below h.below h.mt
theorem qH.le (h:qH nx nx' R L R' L') (hL:zpp L nx nx'):zS L L':=
 ⟨fun i b e=>by rw[h.box];exact e,fun id x e=>by
  rw[h.old id (by
   rcases Wr id nx with hi | hi
   ·exact .inl hi
   ·rcases Wr id nx' with hj | hj
    ·rw[hL id hi hj]at e;cases e
    ·exact .inr hj)]
  exact e⟩
theorem qH.refl (nx:Nat) (R:Env) (L:Loc):qH nx nx R L R L:=
 ⟨Oa _ _,rfl,rfl,fun _ _ _=>Iff.rfl,fun _ _=>rfl,fun id e k v h h'=>by omega,fun id id' e k v e' k' v' b h h'=>by omega⟩
theorem qk {o:Obj} (h:w.heap[b]?=some o):b<w.heap.size:=(Aw.1 h).1
theorem Qv.step {B:Nat->Prop} {nx nx':Nat} {R R':Env} {L L':Loc} (h:qH nx nx' R L R' L') {e:TypeId} {k:Nat} {v:Value} (ho:Qv B R L.β e k v):Qv B R' L'.β e k v:=by
 rcases ho with ho | ⟨g,n,cap,cur,_,e1,e2,e3,e4,e5,e6,e7,e8⟩ | ⟨g,es,kvs,vvs,e1,e2,e3,e4,e5⟩
 ·exact .inl ho
 ·exact .inr (.inl ⟨g,n,cap,cur,_,e1,e2,by rw[h.below.block g (qk e3)];exact e3,e4,e5,e6,by rw[h.box];exact e7,fun o ho=>(h.mt g o (qk e3)).2 (e8 o ho)⟩)
 ·exact .inr (.inr ⟨g,es,kvs,vvs,e1,e2,by rw[h.below.block g (qk e3)];exact e3,by rw[h.box];exact e4,e5⟩)
theorem Qv.move {B':Nat->Prop} {β':List Nat} (ho:Qv B R β e k v)
  (h:∀ g,v.ownB=some g->B g->g<R.w.heap.size->g∉β->B' g/\R'.w.heap[g]?=R.w.heap[g]?/\g∉β'/\∀ o,R.M g o->R'.M g o):Qv B' R' β' e k v:=by
 rcases ho with ho | ⟨g,n,cap,cur,_,e1,e2,e3,e4,e5,e6,e7,e8⟩ | ⟨g,es,kvs,vvs,e1,e2,e3,e4,e5⟩
 ·exact .inl ho
 ·obtain ⟨h1,h2,h3,h4⟩:=h g (by rw[e1];rfl) e2 (qk e3) e7;exact .inr (.inl ⟨g,n,cap,cur,_,e1,h1,h2.trans e3,e4,e5,e6,h3,fun o ho=>h4 o (e8 o ho)⟩)
 ·obtain ⟨h1,h2,h3,_⟩:=h g (by rw[e1];rfl) e2 (qk e3) e4;exact .inr (.inr ⟨g,es,kvs,vvs,e1,h1,h2.trans e3,h3,e5⟩)
theorem Qv.held (ho:Qv B R β e k v) {b:Nat} (hb:v.ownB=some b):(∃ cs t f,R.w.heap[b]?=some (.cells cs t f))∨∃ es cl,R.w.heap[b]?=some (.map es cl):=by
 rcases ho with ho | ⟨g,n,cap,cur,_,e1,e2,e3,_⟩ | ⟨g,es,kvs,vvs,e1,e2,e3,_⟩
 ·subst ho;cases hb
 ·subst e1;cases hb;exact .inl ⟨_,_,_,e3⟩
 ·subst e1;cases hb;exact .inr ⟨_,_,e3⟩
theorem Qv.block (ho:Qv B R β e k v) {b:Nat} (hb:v.ownB=some b):B b/\b<R.w.heap.size/\b∉β:=by
 rcases ho with ho | ⟨g,n,cap,cur,_,e1,e2,e3,e4,e5,e6,e7,e8⟩ | ⟨g,es,kvs,vvs,e1,e2,e3,e4,e5⟩
 ·subst ho;cases hb
 ·subst e1;cases hb;exact ⟨e2,qk e3,e7⟩
 ·subst e1;cases hb;exact ⟨e2,qk e3,e4⟩
theorem Qv.base {B':Nat->Prop} (ho:Qv B R β e k v) (hB:∀ g,B g->B' g):Qv B' R β e k v:=by
 rcases ho with ho | ⟨g,n,cap,cur,_,e1,e2,e3⟩ | ⟨g,es,kvs,vvs,e1,e2,e3⟩
 ·exact .inl ho
 ·exact .inr (.inl ⟨g,n,cap,cur,_,e1,hB _ e2,e3⟩)
 ·exact .inr (.inr ⟨g,es,kvs,vvs,e1,hB _ e2,e3⟩)
theorem jV.step {bx:List (List C)} {nx nx':Nat} {R R':Env} {L L':Loc} (h:qH nx nx' R L R' L') (hL:zpp L nx nx') (hb:jV R L bx):jV R' L' bx:=by
 refine ⟨by rw[h.box];exact hb.len,by rw[h.box];exact hb.nodup,fun i b cs hi hc=>?_⟩;rw[h.box]at hi;obtain ⟨vs,ty,e1,e2,e3,e4⟩:=hb.box i b cs hi hc;exact ⟨vs,ty,by rw[h.below.block b (qk e1)];exact e1,zy.ext h.ext (h.le hL) _ _ e2,e3,fun o=>(h.mt b o (qk e1)).2 (e4 o)⟩
theorem X7.ext {G:zu} (h:Ext R R') (hg:X7 G R):X7 G R':=fun g cs e=>by
 obtain ⟨h1,⟨vs,ty,fl,h2,h3⟩,h4⟩:=hg g cs e;obtain ⟨h5,h6⟩:=h.whole g vs ty fl h2 h4;exact ⟨zU.ext h cs g 0 h1,⟨vs,ty,fl,h5,h3⟩,h6⟩
theorem qH.cases (h:qH nx nx' R L R' L') {id:Nat} {x} (e:L'.T id=some x):L.T id=some x∨(nx<=id/\id<nx'):=by
 rcases Wr id nx with hi | hi
 ·rw[h.old id (.inl hi)]at e;exact .inl e
 ·rcases Wr id nx' with hj | hj
  ·exact .inr ⟨hi,hj⟩
  ·rw[h.old id (.inr hj)]at e;exact .inl e
theorem Fit.step {G:zu} {B:Nat->Prop} {nx nx':Nat} {bx:List (List C)} {R R':Env} {L L':Loc} (hL:zpp L nx nx') (h:qH nx nx' R L R' L') (hf:Fit G B bx R L):Fit G B bx R' L':=by
 have hnew:∀ id e k v b,nx<=id->id<nx'->L'.T id=some (e,k,v)->v.ownB=some b->R.w.heap.size<=b:=fun id e k v b hi hj ht hb=>((h.new id e k v hi hj ht).block hb).1;have hold:∀ id e k v b,L.T id=some (e,k,v)->v.ownB=some b->b<R.w.heap.size:=fun id e k v b ht hb=>((hf.owns.own id e k v ht).block hb).2.1;refine ⟨hf.glob.ext h.ext,hf.boxes.step h hL,⟨fun id e k v ht=>?_,fun id id' e k v e' k' v' b h1 h2 h3 h4=>?_⟩,fun g hg=>hf.base g (WJ h.below.size hg)⟩
 ·rcases h.cases ht with hi | ⟨hi,hj⟩
  ·exact (hf.owns.own id e k v hi).step h
  ·rw[h.box];exact (h.new id e k v hi hj ht).base hf.base
 ·rcases h.cases h1 with hi | ⟨hi,hj⟩<;>rcases h.cases h2 with hi' | ⟨hi',hj'⟩
  ·exact hf.owns.apart id id' e k v e' k' v' b hi hi' h3 h4
  ·have:=hnew id' e' k' v' b hi' hj' h2 h4;have:=hold id e k v b hi h3;omega
  ·have:=hnew id e k v b hi hj h1 h3;have:=hold id' e' k' v' b hi' h4;omega
  ·exact h.apart id id' e k v e' k' v' b hi hj hi' hj' h1 h2 h3 h4
theorem qH.trans {a c:Nat} {R1 R2:Env} {L1 L2:Loc} (hab:a<=b) (hbc:b<=c) (h:qH a b R L R1 L1) (k:qH b c R1 L1 R2 L2):qH a c R L R2 L2:=by
 have hsz:=h.below.size;refine ⟨h.below.trans (k.below.mono hsz),k.fgn.trans h.fgn,k.box.trans h.box,fun x o hx=>(k.mt x o (by omega)).trans (h.mt x o hx),fun id hi=>(k.old id (by omega)).trans (h.old id (by omega)),fun id e s v hi hj ht=>?_,fun id id' e s v e' s' v' q hi hi2 hj hj2 h1 h2 h3 h4=>?_⟩
 ·rcases Wr id b with hj' | hj'
  ·rw[k.old id (.inl hj')]at ht;have:=h.new id e s v hi hj' ht;have:=Qv.step k (L:=L1) (by rw[h.box];exact this);rw[k.box,h.box]at this;exact this
  ·have:=k.new id e s v hj' hj ht;rw[h.box]at this;exact this.base fun g hg=>WJ hsz hg
 ·have key:∀ id e s v q,a<=id->id<c->L2.T id=some (e,s,v)->v.ownB=some q->(id<b/\L1.T id=some (e,s,v)/\q<R1.w.heap.size)∨(b<=id/\R1.w.heap.size<=q):=fun id e s v q hi hj ht hq=>by
   rcases Wr id b with hj' | hj'
   ·rw[k.old id (.inl hj')]at ht;exact .inl ⟨hj',ht,((h.new id e s v hi hj' ht).block hq).2.1⟩
   ·exact .inr ⟨hj',((k.new id e s v hj' hj ht).block hq).1⟩
  rcases key id e s v q hi hi2 h1 h3 with ⟨x1,x2,x3⟩ | ⟨x1,x2⟩<;>rcases key id' e' s' v' q hj hj2 h2 h4 with ⟨y1,y2,y3⟩ | ⟨y1,y2⟩
  ·exact h.apart id id' e s v e' s' v' q hi x1 hj y1 x2 y2 h3 h4
  ·omega
  ·omega
  ·exact k.apart id id' e s v e' s' v' q x1 hi2 y1 hj2 h1 h2 h3 h4
def jo (P:Program) (o:Oper) (ρ:Operand->Value) (w:World) (post:Value->World->Prop):Prop:=
 match (execOp ρ o).run P w with
 | .ok (.value v) w'=>post v w'
 | .ok .skip w'=>post undef w'
 | .ok (.enter f args) w'=>Calls P f args w' fun e w''=>∃ v,e = .returned v/\post v w''
 | .ok (.round l f tmps assign body) w'=>RoundIn Fence.wide 0 P l f tmps assign body w' fun e w''=>∃ v,e = .returned v/\post v w''
 | _=>False
theorem jo.mono {o:Oper} {p q:Value->World->Prop} (h:jo P o ρ w p) (hpq:∀ v w',p v w'->q v w'):jo P o ρ w q:=by
 unfold jo at h ⊢;split at h
 ·exact hpq _ _ h
 ·exact hpq _ _ h
 ·exact h.mono fun e w' ⟨v,e1,e2⟩=>⟨v,e1,hpq _ _ e2⟩
 ·exact h.mono fun e w' ⟨v,e1,e2⟩=>⟨v,e1,hpq _ _ e2⟩
 ·exact h.elim
theorem jo.value {o:Oper} {p:Value->World->Prop} (h:(execOp ρ o).run P w = .ok (.value v) w') (hp:p v w'):jo P o ρ w p:=by
 unfold jo;rw[h];exact hp
def zG (P:Program) (G:zu) (bx:List (List C)) (ev:Operand->C) (nx:Nat) (o:Oper) (c:C) (nx':Nat):Prop:=
 nx<=nx'/\∀ (B:Nat->Prop) (R:Env) (L:Loc) (ρ:Operand->Value),Fit G B bx R L->zpp L nx nx'->(∀ x,Rep R L (ev x) (ρ x)) ->
  jo P o ρ R.w fun v w'=>∃ R' L',R'.w=w'/\qH nx nx' R L R' L'/\Rep R' L' c v
theorem zG.of_same {G:zu} {bx:List (List C)} {ev:Operand->C} {o:Oper}
  (h:∀ (B:Nat->Prop) (R:Env) (L:Loc) (ρ:Operand->Value),Fit G B bx R L->(∀ x,Rep R L (ev x) (ρ x))->∃ v,(execOp ρ o).run P R.w = .ok (.value v) R.w/\Rep R L c v):zG P G bx ev nx o c nx:=
 ⟨Wc _,fun B R L ρ hf _ hr=>by
  obtain ⟨v,h1,h2⟩:=h B R L ρ hf hr;exact jo.value h1 ⟨R,L,rfl,qH.refl _ _ _,h2⟩⟩
end
section
open Go.RowKit
section
variable {P:Program} {G:zu} {bx:List (List C)} {ev:Operand->C} {nx:Nat} {o:Oper}
def ABr (c:C) (X Y:Prop):Prop:=match c with | .sc (.bool b)=>(b=true->X)/\(b=false->Y) | _=>False
def zmn (c:C) (U X Y:Prop):Prop:=match c with | .sc (.bool b)=>(b=true->X)/\(b=false->Y) | .sc (.tuple _)=>U | _=>False
theorem zmn.out {U:Prop} (h:zmn c U X Y):(∃ b,c = .sc (.bool b)/\(b=true->X)/\(b=false->Y))∨((∃ vs,c = .sc (.tuple vs))/\U):=by
 unfold zmn at h;split at h
 ·exact .inl ⟨_,rfl,h⟩
 ·exact .inr ⟨⟨_,rfl⟩,h⟩
 ·exact h.elim
theorem zlu:ABr (.sc (.bool true)) X Y=X:=by simp[ABr]
theorem zf4:ABr (.sc (.bool false)) X Y=Y:=by simp[ABr]
theorem ABr.mk {b:Bool} (hx:b=true->X) (hy:b=false->Y):ABr (.sc (.bool b)) X Y:=⟨hx,hy⟩
theorem ABr.congr {c':C} (h:c=c'):ABr c X Y=ABr c' X Y:=by rw[h]
theorem ABr.out (h:ABr c X Y):∃ b,c = .sc (.bool b)/\(b=true->X)/\(b=false->Y):=by
 unfold ABr at h;split at h
 ·exact ⟨_,rfl,h⟩
 ·exact h.elim
theorem zt {u:Value}:Rep R L (.sc u) v↔v=u:=by
 constructor<;>intro h
 ·unfold Rep at h;exact h
 ·unfold Rep;exact h
theorem z7 {l:Lz}:Rep R L (.str l) v↔v = .string ⟨l.toArray⟩:=by
 constructor<;>intro h
 ·unfold Rep at h;exact h
 ·unfold Rep;exact h
theorem Ju {cs:List C}:Rep R L (.agg cs) v↔∃ vs,v = .agg vs/\zy R L cs vs.toList:=by
 constructor<;>intro h
 ·unfold Rep at h;exact h
 ·unfold Rep;exact h
theorem VF {cs:List C}:Rep R L (.tup cs) v↔∃ vs,v = .tuple vs/\zy R L cs vs.toList:=by
 constructor<;>intro h
 ·unfold Rep at h;exact h
 ·unfold Rep;exact h
theorem G4 {rows:List (List C)}:Rep R L (.sl k rows) v↔∃ a cap,v = .slice a rows.length cap/\rows.length<=cap/\cap<=maxLen/\(rows = []∨∃ b o,a=some ⟨b,o,none⟩/\zZ R rows k b o):=by
 constructor<;>intro h
 ·unfold Rep at h;exact h
 ·unfold Rep;exact h
theorem JK {rows:List (List C)}:Rep R L (.tight k rows) v↔∃ a,v = .slice a rows.length rows.length/\rows.length<=maxLen/\(rows = []∨∃ b o,a=some ⟨b,o,none⟩/\zZ R rows k b o):=by
 constructor<;>intro h
 ·unfold Rep at h;exact h
 ·unfold Rep;exact h
theorem Y5 {id e:Nat} {rows:List (List C)}:Rep R L (.own id e k rows) v↔L.T id=some (e,k,v)/\∃ a cap,v = .slice a rows.length cap/\rows.length<=cap/\cap<=maxLen/\(rows = []∨∃ b o,a=some ⟨b,o,none⟩/\zZ R rows k b o):=by
 constructor<;>intro h
 ·unfold Rep at h;exact h
 ·unfold Rep;exact h
theorem Jv {off:Nat}:Rep R L (.ptr i off) v↔∃ b,L.β[i]?=some b/\v = .pointer (some ⟨b,off,none⟩):=by
 constructor<;>intro h
 ·unfold Rep at h;exact h
 ·unfold Rep;exact h
theorem jv {off c:Nat}:Rep R L (.bs i off k n c) v↔∃ b,L.β[i]?=some b/\∃ ad,v = .slice (some ad) n c/\(n+c≠0->ad=⟨b,off,none⟩):=by
 constructor<;>intro h
 ·unfold Rep at h;exact h
 ·unfold Rep;exact h
theorem JA {cs:List C}:Rep R L (.row cs) v↔∃ b o,v = .pointer (some ⟨b,o,none⟩)/\zU R cs b o:=by
 constructor<;>intro h
 ·unfold Rep at h;exact h
 ·unfold Rep;exact h
theorem YM {fn:Fn} {first cap:List C}:Rep R L (.clo fn first cap) v↔∃ fs cs,v = .func fn fs cs/\zy R L first fs.toList/\zy R L cap cs.toList:=by
 constructor<;>intro h
 ·unfold Rep at h;exact h
 ·unfold Rep;exact h
theorem ziz (ho:o.op = .move x):zG P G bx ev nx o (ev x) nx:=
 .of_same fun B R L ρ hf hr=>⟨_,by unfold execOp;simp[ho],hr x⟩
theorem ub (ho:o.op = .assign x):zG P G bx ev nx o (ev x) nx:=
 .of_same fun B R L ρ hf hr=>⟨_,by unfold execOp;simp[ho],hr x⟩
theorem ziv {c a b:Operand} {t:Bool} (ho:o.op = .pick c a b) (hc:ev c = .sc (.bool t)):zG P G bx ev nx o (if t then ev a else ev b) nx:=
 .of_same fun B R L ρ hf hr=>⟨if t then ρ a else ρ b,by
  have h:=hr c;rw[hc,zt]at h;unfold execOp;cases t<;>simp[ho,h,asBool],by cases t<;>simp[hr a,hr b]⟩
def YH (L:Lay) (cs:List C) (K:C->Prop):Prop:=
 if L.kind.agg then L.size<=cs.length/\K (.agg (cs.take L.size)) else match cs with | c :: _=>K c | []=>False
def vk (P:Program) (t:TypeId) (c:C) (bx:List (List C)) (K:C->Prop):Prop:=
 match lay P t with
 | none=>False
 | some L=>match c with
  | .ptr i off=>match bx[i]? with
   | some cs=>YH L (cs.drop off) K
   | none=>False
  | .row cs=>YH L cs K
  | _=>False
theorem Addr.add_none (b o j:Nat):(⟨b,o,none⟩:Addr).add j=⟨b,o+j,none⟩:=by unfold Addr.add;split<;>simp_all
theorem Zj {L:Lay} (hl:lay P t=some L) (w:World) (b off:Nat) (cs:List C) {R:Env} {Lc:Loc} {vs:List Value} (hlen:cs.length<=vs.length)
  (hv:∀ (j:Nat) v,vs[j]?=some v->w.cell? ⟨b,off+j,none⟩=some v) (hrep:∀ (j:Nat) c v,cs[j]?=some c->vs[j]?=some v->Rep R Lc c v) (K:C->Prop) (hK:YH L cs K) :
  ∃ v c,(Instr.loadAt t (.pointer (some ⟨b,off,none⟩))).run P w = .ok v w/\Rep R Lc c v/\K c:=by
 unfold YH at hK;cases ha:L.kind.agg with
 | true =>
  rw[ha]at hK;simp only[if_true]at hK;obtain ⟨hs,hK⟩:=hK;refine ⟨.agg (vs.take L.size).toArray,_,?_,Ju.2 ⟨_,rfl,?_⟩,hK⟩
  ·obtain ⟨i,d,h1,h2,h3,h4,_⟩:=qr hl;refine run_loadAt_mid w b off t (vs.take L.size) d (fun j v hj=>?_) h2 ?_ ?_
   ·rw[WK]at hj;split at hj
    ·exact hv j v hj
    ·cases hj
   ·rw[h3]at ha;cases d<;>simp only[Xe,LK.agg]at ha<;>first | (cases ha;done) | rfl
   ·rw[zkb hl,W7];congr 1;omega
  ·refine Yx (by simp;omega) fun i c v hc hv'=>?_;simp only[WK]at hc hv';split at hc
   ·rw[if_pos (by assumption)]at hv';exact hrep i c v hc hv'
   ·cases hc
 | false =>
  rw[ha]at hK;simp only[WX,Oh]at hK;cases cs with
  | nil=>exact hK.elim
  | cons c r =>
   cases vs with
   | nil=>simp at hlen
   | cons v us =>
    refine ⟨v,c,?_,hrep 0 c v rfl rfl,hK⟩;have hc:=hv 0 v rfl;have hag:=znb hl w;rw[ha]at hag;simp only[Instr.loadAt,Instr.sureAddr,Wo,WD,Wi,loadVar,hag];rw[An]at hc;simp[load,Sem.run,hc]
theorem zf9 {c0:C} (K:C->Prop) (h:vk P t c0 bx K) :
  ∃ c,(∀ (R:Env) (Lc:Loc) (v0:Value),jV R Lc bx->Rep R Lc c0 v0->∃ v ad,v0 = .pointer (some ad)/\(Instr.loadAt t v0).run P R.w = .ok v R.w/\Rep R Lc c v)/\K c:=by
 unfold vk at h;cases hl:lay P t with
 | none=>simp[hl]at h
 | some L =>
  simp only[hl]at h;have hcase:∃ cs:List C,YH L cs K/\((∃ i off GV,c0 = .ptr i off/\bx[i]?=some GV/\cs=GV.drop off)∨c0 = .row cs):=by
   split at h
   ·rename_i i off;split at h
    ·rename_i GV hfull;exact ⟨_,h,.inl ⟨i,off,GV,rfl,hfull,rfl⟩⟩
    ·exact h.elim
   ·rename_i cs;exact ⟨cs,h,.inr rfl⟩
   ·exact h.elim
  obtain ⟨cs,hK,hcs⟩:=hcase;have htake:∃ c,K c/\YH L cs (fun x=>x=c):=by
   unfold YH at hK ⊢;split
   ·rename_i hg;rw[if_pos hg]at hK;exact ⟨_,hK.2,hK.1,rfl⟩
   ·rename_i hg;rw[if_neg hg]at hK;cases cs with
    | nil=>exact hK.elim
    | cons c r=>exact ⟨c,hK,rfl⟩
  obtain ⟨c,hKc,htk⟩:=htake;refine ⟨c,fun R Lc v0 hbx hra=>?_,hKc⟩;rcases hcs with ⟨i,off,GV,rfl,hfull,rfl⟩ | rfl
  ·rw[Jv]at hra;obtain ⟨b,hb,hv⟩:=hra;obtain ⟨vs,ty,hh,hL,h1,_⟩:=hbx.box i b GV hb hfull;obtain ⟨v,c',hrun,hrep,rfl⟩:=Zj hl R.w b off (GV.drop off) (R:=R) (Lc:=Lc) (vs:=vs.toList.drop off) (by
     have:=zx hL;simp at this ⊢;omega)
    (fun j v hj=>by
     rw[Ob]at hj;rw[Aj R.w b (off+j) vs ty _ hh];simpa using hj)
    (fun j c v hc hv=>by
     rw[Ob]at hc hv;obtain ⟨v',e1,e2⟩:=JB hL _ _ hc;rw[hv]at e1;cases e1;exact e2) _ htk
   exact ⟨v,_,hv,by rw[hv];exact hrun,hrep⟩
  ·rw[JA]at hra;obtain ⟨b,off,hv,hcells⟩:=hra;have hvs:∃ vs:List Value,vs.length=cs.length/\(∀ (j:Nat) v,vs[j]?=some v->R.w.cell? ⟨b,off+j,none⟩=some v)/\∀ (j:Nat) c v,cs[j]?=some c->vs[j]?=some v->Rep R Lc c v:=by
    clear htk hv hK h
    induction cs generalizing off with
    | nil=>exact ⟨[],rfl,fun j v h=>by simp at h,fun j c v h=>by simp at h⟩
    | cons x r ih =>
     obtain ⟨⟨v0,e1,e2,e3,e4⟩,h2⟩:=qu.1 hcells;obtain ⟨us,g1,g2,g3⟩:=ih (off+1) h2;refine ⟨v0 :: us,by simp[g1],fun j v hj=>?_,fun j c v hc hv=>?_⟩
     ·cases j with
      | zero=>simp at hj;subst hj;exact e1
      | succ j =>
       have:=g2 j v (by simpa using hj);rwa [show off+(j+1)=off+1+j by omega]
     ·cases j with
      | zero=>simp at hc hv;subst hc hv;exact Rep.ext (Ext.refl R) (zS.none Lc) _ _ e3
      | succ j=>exact g3 j c v (by simpa using hc) (by simpa using hv)
   obtain ⟨vs,g1,g2,g3⟩:=hvs;obtain ⟨v,c',hrun,hrep,rfl⟩:=Zj hl R.w b off cs (R:=R) (Lc:=Lc) (vs:=vs) (by omega) g2 g3 _ htk;exact ⟨v,_,hv,by rw[hv];exact hrun,hrep⟩
theorem zhj {a:Operand} (ho:o.op = .load t a) (K:C->Prop) (h:vk P t (ev a) bx K):∃ c,zG P G bx ev nx o c nx/\K c:=by
 obtain ⟨c,h1,h2⟩:=zf9 K h;refine ⟨c,.of_same fun B R Lc ρ hf hr=>?_,h2⟩;obtain ⟨v,ad,_,e2,e3⟩:=h1 R Lc (ρ a) hf.boxes (hr a);refine ⟨v,?_,e3⟩;unfold execOp;simp only[ho];rw[Wo,e2];rfl
end
end
section
open Go.RowKit
section
variable {P:Program} {G:zu} {bx:List (List C)} {ev:Operand->C} {nx:Nat} {o:Oper}
def zsz (op:BinOp) (k:IntKind) (a b:Int) (K:C->Prop):Prop:=
 match op with
 | .add=>inR k (a+b)/\K (.sc (.int k (a+b)))
 | .sub=>inR k (a-b)/\K (.sc (.int k (a-b)))
 | .mul=>inR k (a*b)/\K (.sc (.int k (a*b)))
 | .quo=>0<=a/\0<b/\inR k a/\K (.sc (.int k (a / b)))
 | .rem=>0<=a/\0<b/\K (.sc (.int k (a % b)))
 | .shr=>b=1/\K (.sc (.int k (a / 2)))
 | .eql=>K (.sc (.bool (decide (a=b))))
 | .neq=>K (.sc (.bool (!decide (a=b))))
 | .lss=>K (.sc (.bool (decide (a<b))))
 | .leq=>K (.sc (.bool (decide (a<=b))))
 | .gtr=>K (.sc (.bool (decide (b<a))))
 | .geq=>K (.sc (.bool (decide (b<=a))))
 | _=>False
def zsG (op:BinOp) (a b:Lz) (K:C->Prop):Prop:=
 match op with
 | .add=>((a.length+b.length:Nat):Int)<=9223372036854775807/\K (.str (a++b))
 | .eql=>K (.sc (.bool (decide (a=b))))
 | .neq=>K (.sc (.bool (!decide (a=b))))
 | .lss=>K (.sc (.bool (Op.bytesLess a b)))
 | .geq=>K (.sc (.bool (!Op.bytesLess a b)))
 | .leq=>K (.sc (.bool (Op.bytesLess a b||decide (a=b))))
 | .gtr=>K (.sc (.bool (!(Op.bytesLess a b||decide (a=b)))))
 | _=>False
def zrg (op:BinOp) (a b:Bool) (K:C->Prop):Prop:=
 match op with
 | .eql=>K (.sc (.bool (a==b)))
 | .neq=>K (.sc (.bool (!(a==b))))
 | _=>False
def aEq (n:Bool):List LK->List C->List C->Bool->(C->Prop)->Prop
 | [],[],[],e,K=>K (.sc (.bool (if n then !e else e)))
 | .int k :: ks,.sc (.int k1 a) :: r,.sc (.int k2 b) :: s,e,K=>k1=k/\k2=k/\aEq n ks r s (e&&decide (a=b)) K
 | .bool :: ks,.sc (.bool a) :: r,.sc (.bool b) :: s,e,K=>aEq n ks r s (e&&(a==b)) K
 | .str :: ks,.str a :: r,.str b :: s,e,K=>aEq n ks r s (e&&decide (a=b)) K
 | _,_,_,_,_=>False
def zs7 (op:BinOp) (ks:Option (List LK)) (aa0 bs:List C) (K:C->Prop):Prop:=
 match op,ks with
 | .eql,some ks=>aEq false ks aa0 bs true K
 | .neq,some ks=>aEq true ks aa0 bs true K
 | _,_=>False
def NA (op:BinOp) (b:Bool) (K:C->Prop):Prop:=
 match op with
 | .eql=>K (.sc (.bool b))
 | .neq=>K (.sc (.bool (!b)))
 | _=>False
def zmJ (l:Option Lay) (op:BinOp) (x:C) (K:C->Prop):Prop:=
 match l with
 | some ⟨.slice _,_,_,_⟩=>match x with
  | .sl _ rows=>rows≠[]/\NA op false K
  | .tight _ rows=>rows≠[]/\NA op false K
  | .own _ _ _ rows=>rows≠[]/\NA op false K
  | .bs _ _ _ _ _=>NA op false K
  | .sc (.slice a _ _)=>NA op a.isNone K
  | _=>False
 | _=>False
def zpz (P:Program) (t:TypeId) (op:BinOp) (x y:C) (K:C->Prop):Prop:=
 match x,y with
 | .sc (.int k a),.sc (.int k' b)=>k=k'/\zsz op k a b K
 | .str a,.str b=>zsG op a b K
 | .sc (.bool a),.sc (.bool b)=>match lay P t with | some ⟨.bool,_,_,_⟩=>zrg op a b K | _=>False
 | .agg aa0,.agg bs=>zs7 op (Ul P t) aa0 bs K
 | c,.sc (.slice none 0 0)=>zmJ (lay P t) op c K
 | _,_=>False
theorem zcL {P:Program} {j:Nat} {f:Field} {fs:List Field} {ks:List LK} (h:Mr P j (f :: fs)=some ks) :
  f.name ≠ "_"/\f.offset=j/\∃ ks',Mr P (j+1) fs=some ks'/\((P.underlying f.type=some .bool/\ks = .bool :: ks')∨(∃ k,P.underlying f.type=some (.int k)/\ks = .int k :: ks')∨(P.underlying f.type=some .string/\ks = .str :: ks')):=by
 unfold Mr at h;split at h
 ·rename_i hc;simp only[Wp,bne_iff_ne,ne_eq,OE]at hc;refine ⟨hc.1,hc.2,?_⟩;split at h
  ·rename_i hu;obtain ⟨ks',h1,rfl⟩:=Ax.1 h;exact ⟨ks',h1,.inl ⟨hu,rfl⟩⟩
  ·rename_i k hu;obtain ⟨ks',h1,rfl⟩:=Ax.1 h;exact ⟨ks',h1,.inr (.inl ⟨k,hu,rfl⟩)⟩
  ·rename_i hu;obtain ⟨ks',h1,rfl⟩:=Ax.1 h;exact ⟨ks',h1,.inr (.inr ⟨hu,rfl⟩)⟩
  ·cases h
 ·cases h
theorem Z8 {P:Program} {d:TypeDesc} (hu:P.underlying t=some d) (hd:zgX P t=false) {xs:Array Value} {j:Nat} {v:Value} {r:List Value} (hx:xs.toList.drop j=v :: r):(part t xs j).run P w = .ok v w:=by
 have h1:xs[j]?=some v:=by
  have:(xs.toList.drop j)[0]?=some v:=by rw[hx];rfl
  simpa using this
 unfold part;rw[Wo,Nj hu,hd];simp[h1]
theorem xa {xs:Array Value} {j:Nat} {r:List Value} (hx:xs.toList.drop j=v :: r):xs.toList.drop (j+1)=r:=by
 rw[←Ay,hx];rfl
def eqR:List C->List C->Bool
 | .sc (.int _ a) :: r,.sc (.int _ b) :: s=>decide (a=b)&&eqR r s
 | .sc (.bool a) :: r,.sc (.bool b) :: s=>(a==b)&&eqR r s
 | .str a :: r,.str b :: s=>decide (a=b)&&eqR r s
 | _,_=>true
def zdx:List LK->List C->List C->Prop
 | [],[],[]=>True
 | .int k :: ks,.sc (.int k1 _) :: r,.sc (.int k2 _) :: s=>k1=k/\k2=k/\zdx ks r s
 | .bool :: ks,.sc (.bool _) :: r,.sc (.bool _) :: s=>zdx ks r s
 | .str :: ks,.str _ :: r,.str _ :: s=>zdx ks r s
 | _,_,_=>False
theorem znu {n:Bool} {K:C->Prop} (ks:List LK) (aa0 bs:List C) (e:Bool) (h:aEq n ks aa0 bs e K):zdx ks aa0 bs/\K (.sc (.bool (if n then !(e&&eqR aa0 bs) else (e&&eqR aa0 bs)))):=by
 fun_induction aEq n ks aa0 bs e K with
 | case1 e K=>exact ⟨trivial,by simpa [eqR] using h⟩
 | case2 k ks k1 a r k2 b s e K ih =>
  obtain ⟨h1,h2,h3⟩:=h;obtain ⟨g1,g2⟩:=ih h3;exact ⟨⟨h1,h2,g1⟩,by simpa [eqR,BY] using g2⟩
 | case3 ks a r b s e K ih =>
  obtain ⟨g1,g2⟩:=ih h;exact ⟨g1,by simpa [eqR,BY] using g2⟩
 | case4 ks a r b s e K ih =>
  obtain ⟨g1,g2⟩:=ih h;exact ⟨g1,by simpa [eqR,BY] using g2⟩
 | case5=>exact h.elim
theorem zhR {P:Program} {w:World} {xs ys:Array Value} {R1 R2:Env} {L1 L2:Loc}:∀ (fs:List Field) (j:Nat) (ks:List LK) (aa0 bs:List C),Mr P j fs=some ks->zdx ks aa0 bs ->
  zy R1 L1 aa0 (xs.toList.drop j)->zy R2 L2 bs (ys.toList.drop j)->(Op.eqFields 9999 xs ys fs).run P w = .ok (eqR aa0 bs) w
 | [],j,ks,aa0,bs,hk,h,ha,hb=>by
  simp only[Mr,Option.some.injEq]at hk;subst hk
  match aa0,bs,h with
  | [],[],_=>simp[Op.eqFields,eqR]
 | f :: fs,j,ks,aa0,bs,hk,h,ha,hb=>by
  obtain ⟨hn,ho,ks',hk',hc⟩:=zcL hk;have step:∀ (c c':C) (r s:List C) (v u:Value) (q:Bool),zy R1 L1 (c :: r) (xs.toList.drop j)->zy R2 L2 (c' :: s) (ys.toList.drop j)->(∀ v,Rep R1 L1 c v->∀ u,Rep R2 L2 c' u->(Op.equalIn 9999 f.type v u).run P w = .ok q w)->zgX P f.type=false->(∃ d,P.underlying f.type=some d) ->
    zdx ks' r s->eqR (c :: r) (c' :: s)=(q&&eqR r s)->(Op.eqFields 9999 xs ys (f :: fs)).run P w = .ok (eqR (c :: r) (c' :: s)) w:=by
   intro c c' r s v u q ea eb hq hag ⟨d,hd⟩ hfit he;obtain ⟨v,rest,e1,hv,hr⟩:=zi.1 ea;obtain ⟨u,rest',e2,hu,hs⟩:=zi.1 eb;have p1:=Z8 (w:=w) hd hag (xs:=xs) (j:=f.offset) (by rw[ho];exact e1);have p2:=Z8 (w:=w) hd hag (xs:=ys) (j:=f.offset) (by rw[ho];exact e2);have ih:=zhR (w:=w) fs (j+1) ks' r s hk' hfit (by rw[xa e1];exact hr) (by rw[xa e2];exact hs);simp only[Op.eqFields,hn,ne_eq,not_false_eq_true,if_true,Wo,p1,p2,hq v hv u hu,Wi,he];cases q
   ·simp
   ·simpa using ih
  rcases hc with ⟨hu,rfl⟩ | ⟨k,hu,rfl⟩ | ⟨hu,rfl⟩
  ·match aa0,bs,h,ha,hb with
   | .sc (.bool a) :: r,.sc (.bool b) :: s,h,ha,hb =>
    exact step _ _ r s undef undef (a==b) ha hb (fun v hv u hu'=>by
     rw[zt]at hv hu';subst hv hu';exact run_equalIn_bool' w 9998 f.type a b hu) (by unfold zgX;rw[hu]) ⟨_,hu⟩ h (by simp[eqR])
  ·match aa0,bs,h,ha,hb with
   | .sc (.int k1 a) :: r,.sc (.int k2 b) :: s,h,ha,hb =>
    have h1:=h.1;have h2:=h.2.1;subst h1 h2;exact step _ _ r s undef undef (decide (a=b)) ha hb (fun v hv u hu'=>by
     rw[zt]at hv hu';subst hv hu';rw[run_equalIn_int w 9998 f.type _ _ a b hu];rfl) (by unfold zgX;rw[hu]) ⟨_,hu⟩ h.2.2 (by simp[eqR])
  ·match aa0,bs,h,ha,hb with
   | .str a :: r,.str b :: s,h,ha,hb =>
    exact step _ _ r s undef undef (decide (a=b)) ha hb (fun v hv u hu'=>by
     rw[z7]at hv hu';subst hv hu';rw[run_equalIn_string w 9998 f.type _ _ hu,ByteArray.toList_mk,ByteArray.toList_mk];by_cases hab:a=b<;>simp[hab]) (by unfold zgX;rw[hu]) ⟨_,hu⟩ h (by simp[eqR])
theorem Ny (a b:Lz):(a==b)=decide (a=b):=by by_cases h:a=b<;>simp[h]
theorem zlK {op:BinOp} {t':TypeId} {y:Operand} (ho:o.op = .binOp op t x y t') (K:C->Prop) (h:zpz P t op (ev x) (ev y) K):∃ c,zG P G bx ev nx o c nx/\K c:=by
 unfold zpz at h;split at h
 ·rename_i k a k' b hx hy;obtain ⟨rfl,h⟩:=h;have key:∀ (v:Value),K (.sc v)->(∀ w:World,(do eqGuard op t x y (.int k a) (.int k b);binOp op t (.int k a) (.int k b):Sem Value).run P w = .ok v w)->∃ c,zG P G bx ev nx o c nx/\K c:=fun v hK hrun =>
   ⟨_,.of_same fun B R L ρ hf hr=>⟨v,by
    have h1:=hr x;rw[hx,zt]at h1;have h2:=hr y;rw[hy,zt]at h2;unfold execOp;simp only[ho,h1,h2];rw[Wo,hrun R.w];rfl,zt.2 rfl⟩,hK⟩
  unfold zsz at h;split at h
  ·exact key _ h.2 fun w=>by simp[eqGuard,binOp,Op.intArith,Q9 h.1]
  ·exact key _ h.2 fun w=>by simp[eqGuard,binOp,Op.intArith,Q9 h.1]
  ·exact key _ h.2 fun w=>by simp[eqGuard,binOp,Op.intArith,Q9 h.1]
  ·obtain ⟨h0,h1,h2,hK⟩:=h;have hq:inR k (a / b):=by
    unfold inR at h2 ⊢;have e1:a / b<=a:=Int.ediv_le_self b h0;have e2:0<=a / b:=Int.ediv_nonneg h0 (by omega);have e3:k.min<=0:=by cases k<;>simp[IntKind.min,IntKind.bits,IntKind.signed]
    omega
   exact key _ hK fun w=>by simp[eqGuard,binOp,Op.intDiv,show b≠0 by omega,Int.tdiv_eq_ediv_of_nonneg h0,Q9 hq]
  ·obtain ⟨h0,h1,hK⟩:=h;exact key _ hK fun w=>by simp[eqGuard,binOp,Op.intDiv,show b≠0 by omega,Int.tmod_eq_emod_of_nonneg h0]
  ·obtain ⟨rfl,hK⟩:=h;have hs:Op.shift .shr k a k 1=pure (.int k (a / 2)):=shift_shr k k a 1 (by decide) (by cases k<;>decide);exact key _ hK fun w=>by simp[eqGuard,binOp,hs]
  ·exact key _ h fun w=>by
    simp only[eqGuard,binOp,Op.intCmp];simp[show (a==b)=decide (a=b) from rfl]
  ·exact key _ h fun w=>by
    simp only[eqGuard,binOp,Op.intCmp];simp[bne,show (a==b)=decide (a=b) from rfl]
  ·exact key _ h fun w=>by simp[eqGuard,binOp,Op.intCmp]
  ·exact key _ h fun w=>by simp[eqGuard,binOp,Op.intCmp]
  ·exact key _ h fun w=>by simp[eqGuard,binOp,Op.intCmp]
  ·exact key _ h fun w=>by simp[eqGuard,binOp,Op.intCmp]
  ·exact h.elim
 ·rename_i a b hx hy;have key:∀ (c:C) (v:Value),K c->(∀ (R:Env) (L:Loc),Rep R L c v)->(∀ w:World,(do eqGuard op t x y (.string ⟨a.toArray⟩) (.string ⟨b.toArray⟩);binOp op t (.string ⟨a.toArray⟩) (.string ⟨b.toArray⟩):Sem Value).run P w = .ok v w)->∃ c,zG P G bx ev nx o c nx/\K c:=fun c v hK hv hrun =>
   ⟨_,.of_same fun B R L ρ hf hr=>⟨v,by
    have h1:=hr x;rw[hx,z7]at h1;have h2:=hr y;rw[hy,z7]at h2;unfold execOp;simp only[ho,h1,h2];rw[Wo,hrun R.w];rfl,hv R L⟩,hK⟩
  have sb:∀ t,∀ (R:Env) (L:Loc),Rep R L (.sc (.bool t)) (.bool t):=fun t R L=>zt.2 rfl;unfold zsG at h;split at h
  ·refine key _ (.string (⟨a.toArray⟩++⟨b.toArray⟩)) h.2 (fun R L=>z7.2 (by rw[ByteArray.mk_append_mk])) fun w=>?_;have h1:=h.1;have hs:¬(((ByteArray.mk a.toArray).size+(ByteArray.mk b.toArray).size:Nat):Int)>IntKind.i64.max:=by
    rw[show IntKind.i64.max=9223372036854775807 from rfl];have e1:(ByteArray.mk a.toArray).size=a.length:=by simp[ByteArray.size]
    have e2:(ByteArray.mk b.toArray).size=b.length:=by simp[ByteArray.size]
    rw[e1,e2];omega
   simp only[eqGuard,binOp,Op.stringOp,if_neg hs];simp
  ·exact key _ _ h (sb _) fun w=>by simp[eqGuard,binOp,Op.stringOp,Ny]
  ·exact key _ _ h (sb _) fun w=>by simp[eqGuard,binOp,Op.stringOp,Ny]
  ·exact key _ _ h (sb _) fun w=>by simp[eqGuard,binOp,Op.stringOp]
  ·exact key _ _ h (sb _) fun w=>by simp[eqGuard,binOp,Op.stringOp]
  ·exact key _ _ h (sb _) fun w=>by simp[eqGuard,binOp,Op.stringOp,Ny]
  ·exact key _ _ h (sb _) fun w=>by simp[eqGuard,binOp,Op.stringOp,Ny]
  ·exact h.elim
 ·rename_i a b hx hy;split at h<;>try exact h.elim
  rename_i hlb;have hu:=zkQ hlb rfl;have key:∀ (v:Value),K (.sc v)->(∀ w:World,(do eqGuard op t x y (.bool a) (.bool b);binOp op t (.bool a) (.bool b):Sem Value).run P w = .ok v w)->∃ c,zG P G bx ev nx o c nx/\K c:=fun v hK hrun =>
   ⟨_,.of_same fun B R L ρ hf hr=>⟨v,by
    have h1:=hr x;rw[hx,zt]at h1;have h2:=hr y;rw[hy,zt]at h2;unfold execOp;simp only[ho,h1,h2];rw[Wo,hrun R.w];rfl,zt.2 rfl⟩,hK⟩
  have he:∀ w,(Op.equal t (.bool a) (.bool b)).run P w = .ok (a==b) w:=fun w=>by
   show (Op.equalIn (9999+1) t (.bool a) (.bool b)).run P w=_;rw[Op.equalIn,Wo,WE hu]
   rfl
  unfold zrg at h;split at h
  ·exact key _ h fun w=>by simp[eqGuard,binOp,he w]
  ·exact key _ h fun w=>by simp[eqGuard,binOp,he w]
  ·exact h.elim
 ·rename_i aa0 bs hx hy;have main:∀ (n:Bool) (ks:List LK),Ul P t=some ks->aEq n ks aa0 bs true K->op=(if n then .neq else .eql)->∃ c,zG P G bx ev nx o c nx/\K c:=fun n ks hk h hop=>by
   have hkl:=hk;unfold Ul at hk;split at hk
   ·rename_i fs hu;split at hk
    ·cases hk
    ·rename_i hno;simp only[OA,not_or,Bool.not_eq_true]at hno;have hfo:P.fieldsOf t=fs:=by simp[Program.fieldsOf,hu]
     obtain ⟨hfit,hK⟩:=znu ks aa0 bs true h;refine ⟨_,.of_same fun B R L ρ hf hr=>?_,hK⟩;have h1:=hr x;rw[hx,Ju]at h1;have h2:=hr y;rw[hy,Ju]at h2;obtain ⟨xs,e1,q1⟩:=h1;obtain ⟨ys,e2,q2⟩:=h2;refine ⟨.bool (if n then !(true&&eqR aa0 bs) else (true&&eqR aa0 bs)),?_,zt.2 rfl⟩;have he:(Op.equal t (.agg xs) (.agg ys)).run P R.w = .ok (eqR aa0 bs) R.w:=by
      show (Op.equalIn (9999+1) t (.agg xs) (.agg ys)).run P R.w=_;rw[run_equalIn_struct R.w 9999 t xs ys (by rw[hfo];exact hu) hno.1,hfo];exact zhR fs.toList 0 ks aa0 bs hk hfit q1 q2
     have hg:(eqGuard op t x y (.agg xs) (.agg ys)).run P R.w = .ok () R.w:=by
      unfold eqGuard;cases n<;>simp[hop,hno.2,run_program]
     unfold execOp;simp only[ho,e1,e2];rw[Wo,Wo,hg];cases n<;>simp[hop,binOp,he]
   ·cases hk
  unfold zs7 at h;split at h
  ·rename_i ks hk;exact main false ks hk h rfl
  ·rename_i ks hk;exact main true ks hk h rfl
  ·exact h.elim
 ·rename_i hy;unfold zmJ at h;split at h
  ·rename_i el k b z hl;have ht:=qi hl rfl;have key:∀ (b:Bool),NA op b K->(∀ (B:Nat->Prop) (R:Env) (L:Loc) (v:Value),Fit G B bx R L->Rep R L (ev x) v->∃ a l c,v = .slice a l c/\a.isNone=b)->∃ c,zG P G bx ev nx o c nx/\K c:=fun b hK hv=>by
    have run:∀ (n:Bool),op=(if n then .neq else .eql)->∃ c,zG P G bx ev nx o c nx/\c = .sc (.bool (if n then !b else b)):=fun n hop =>
     ⟨_,.of_same fun B R L ρ hf hr=>⟨.bool (if n then !b else b),by
      have h1:=hr x;have h2:=hr y;rw[hy,zt]at h2;obtain ⟨a,l,c,e,he⟩:=hv B R L _ hf h1;unfold execOp;simp only[ho,e,h2];subst he;cases n<;>simp[hop,eqGuard,binOp,run_equal_slice_nil R.w t el a l c ht],zt.2 rfl⟩,rfl⟩
    unfold NA at hK;split at hK
    ·obtain ⟨c,h1,rfl⟩:=run false rfl;exact ⟨_,h1,hK⟩
    ·obtain ⟨c,h1,rfl⟩:=run true rfl;exact ⟨_,h1,hK⟩
    ·exact hK.elim
   have rows:∀ (k:Nat) (rs:List (List C)),(ev x).rows? k=some rs->rs≠[]->NA op false K->∃ c,zG P G bx ev nx o c nx/\K c:=fun k rs hr hne hK =>
    key false hK fun B R L v hf hv=>by
     obtain ⟨a,cap,e,h1,h2,h3⟩:=hv.rows hr;rcases h3 with h3 | ⟨b,o,e2,_⟩
     ·exact absurd h3 hne
     ·exact ⟨a,_,cap,e,by rw[e2];rfl⟩
   split at h
   ·rename_i k rs hx;exact rows k rs (by rw[hx];simp[C.rows?]) h.1 h.2
   ·rename_i k rs hx;exact rows k rs (by rw[hx];simp[C.rows?]) h.1 h.2
   ·rename_i k rs hx;exact rows k rs (by rw[hx];simp[C.rows?]) h.1 h.2
   ·rename_i hx;exact key false h fun B R L v hf hv=>by
     rw[hx]at hv;unfold Rep at hv;obtain ⟨b,_,ad,e,_⟩:=hv;exact ⟨_,_,_,e,rfl⟩
   ·rename_i hx;exact key _ h fun B R L v hf hv=>by
     rw[hx,zt]at hv;exact ⟨_,_,_,hv,rfl⟩
   ·exact h.elim
  ·exact h.elim
 ·exact h.elim
def aUn (op:UnOp) (x:C) (K:C->Prop):Prop:=
 match op,x with
 | .not,.sc (.bool b)=>K (.sc (.bool (!b)))
 | .neg,.sc (.int k n)=>inR k (0-n)/\K (.sc (.int k (0-n)))
 | _,_=>False
theorem zoK {op:UnOp} (ho:o.op = .unOp op t x) (K:C->Prop) (h:aUn op (ev x) K):∃ c,zG P G bx ev nx o c nx/\K c:=by
 unfold aUn at h;split at h
 ·rename_i b hx;exact ⟨_,.of_same fun B R L ρ hf hr=>⟨.bool (!b),by
   have h1:=hr x;rw[hx,zt]at h1;unfold execOp;simp[ho,h1,Op.unary],zt.2 rfl⟩,h⟩
 ·rename_i k n hx;exact ⟨_,.of_same fun B R L ρ hf hr=>⟨.int k (0-n),by
   have h1:=hr x;rw[hx,zt]at h1;have:=Q9 h.1;unfold execOp;simp only[ho,h1,Op.unary,Op.intArith,this,Wo,WD,Wi],zt.2 rfl⟩,h.2⟩
 ·exact h.elim
def UW (c:C) (i:Nat) (K:C->Prop):Prop:=
 match c with
 | .tup cs=>match cs[i]? with
  | some c=>K c
  | none=>False
 | _=>False
theorem xW {t:Operand} (ho:o.op = .extract t i) (K:C->Prop) (h:UW (ev t) i K):∃ c,zG P G bx ev nx o c nx/\K c:=by
 unfold UW at h;split at h
 ·rename_i cs hev;split at h
  ·rename_i c hc;exact ⟨c,.of_same fun B R L ρ hf hr=>by
    have h1:=hr t;rw[hev,VF]at h1;obtain ⟨vs,e,hl⟩:=h1;obtain ⟨v,hv,hrep⟩:=JB hl i c hc;refine ⟨v,?_,hrep⟩;have hv':vs[i]?=some v:=by simpa using hv
    unfold execOp;simp[ho,e,Instr.extract,hv'],h⟩
  ·exact h.elim
 ·exact h.elim
theorem YZ {R:Env} {L:Loc} {ρ:Operand->Value} (hr:∀ x,Rep R L (ev x) (ρ x)):∀ l:List Operand,zy R L (l.map ev) (l.map ρ)
 | []=>zo.2 rfl
 | x :: r=>zi.2 ⟨_,_,rfl,hr x,YZ hr r⟩
theorem zhM {fn:Fn} {first captured:Array Operand} (ho:o.op = .makeFunc fn first captured):zG P G bx ev nx o (.clo fn (first.toList.map ev) (captured.toList.map ev)) nx:=
 .of_same fun B R L ρ hf hr=>⟨.func fn (first.map ρ) (captured.map ρ),by
  unfold execOp;simp[ho,Instr.makeFunc],YM.2 ⟨_,_,rfl,by rw[Ac];exact YZ hr _,by rw[Ac];exact YZ hr _⟩⟩
def zsC (c:C) (K:C->Prop):Prop:=
 match c with
 | .ptr i off=>K (.ptr i off)
 | .row cs=>K (.row cs)
 | .clo (.func f) first cap=>K (.clo (.func f) first cap)
 | .sc (.func (.yield l) fs cs)=>K (.sc (.func (.yield l) fs cs))
 | _=>False
theorem ziM (ho:o.op = .nilCheck x) (K:C->Prop) (h:zsC (ev x) K):∃ c,zG P G bx ev nx o c nx/\K c:=by
 unfold zsC at h;split at h
 ·rename_i i off hev;exact ⟨_,.of_same fun B R L ρ hf hr=>by
   have h1:=hr x;rw[hev]at h1;have h2:=Jv.1 h1;obtain ⟨b,_,e⟩:=h2;exact ⟨ρ x,by unfold execOp;simp[ho,e],h1⟩,h⟩
 ·rename_i cs hev;exact ⟨_,.of_same fun B R L ρ hf hr=>by
   have h1:=hr x;rw[hev]at h1;have h2:=JA.1 h1;obtain ⟨b,_,e,_⟩:=h2;exact ⟨ρ x,by unfold execOp;simp[ho,e],h1⟩,h⟩
 ·rename_i f first cap hev
  exact ⟨_,.of_same fun B R L ρ hf hr=>by
   have h1:=hr x;rw[hev]at h1;have h2:=YM.1 h1;obtain ⟨fs,cs,e,_⟩:=h2;exact ⟨ρ x,by unfold execOp;simp[ho,e],h1⟩,h⟩
 ·rename_i f fs cs hev;exact ⟨_,.of_same fun B R L ρ hf hr=>by
   have h1:=hr x;rw[hev]at h1;have h2:=zt.1 h1;exact ⟨ρ x,by unfold execOp;simp[ho,h2],h1⟩,h⟩
 ·exact h.elim
def za2 (P:Program) (t:TypeId) (c:C) (f:Nat) (K:C->Prop):Prop:=
 match lay P t with
 | some ⟨.struct fs,_,_,_⟩=>match fs[f]?,c with
  | some (off,size,agg),.agg cs =>
   if agg then off+size<=cs.length/\K (.agg ((cs.drop off).take size)) else match cs[off]? with
    | some c=>K c
    | none=>False
  | _,_=>False
 | _=>False
theorem NX {fields:Array Field} {fs:List (Nat×Nat×Bool)} (h:fs=fields.toList.map fun f=>(f.offset,((P.info? f.type).map (·.size)).getD 0,zgX P f.type)) {f:Nat} {off size:Nat} {agg:Bool} (hf:fs[f]?=some (off,size,agg)) :
  ∃ fd,fields[f]?=some fd/\fd.offset=off/\((P.info? fd.type).map (·.size)).getD 0=size/\zgX P fd.type=agg:=by
 subst h;rw[WA]at hf;cases hq:fields.toList[f]? with
 | none=>rw[hq]at hf;cases hf
 | some fd =>
  rw[hq]at hf;cases hf;exact ⟨fd,by simpa using hq,rfl,rfl,rfl⟩
theorem UA {size:Nat} (h:((P.info? t).map (·.size)).getD 0=size) (h0:size≠0):∃ i,P.info? t=some i/\i.size=size:=by
 cases hq:P.info? t with
 | none=>simp[hq]at h;omega
 | some i=>exact ⟨i,rfl,by simpa [hq] using h⟩
theorem zb7 {f:Nat} (ho:o.op = .field t x f) (K:C->Prop) (h:za2 P t (ev x) f K):∃ c,zG P G bx ev nx o c nx/\K c:=by
 unfold za2 at h;split at h
 ·rename_i fs s b z hl;obtain ⟨fields,hfu,hall,hfs⟩:=VX hl rfl;split at h
  ·rename_i off size agg cs hfi hev;obtain ⟨fd,hfd,h1,h2,h3⟩:=NX hfs hfi;obtain ⟨d,hd⟩:=AM.mp (hall fd (OO.2 (Ad hfd)));cases agg with
   | true =>
    simp only[if_true]at h;refine ⟨_,.of_same fun B R L ρ hf hr=>?_,h.2⟩;have hx:=hr x;rw[hev,Ju]at hx;obtain ⟨vs,e,hrl⟩:=hx;have hi:∃ i,P.info? fd.type=some i/\i.size=size:=by
     cases hq:P.info? fd.type with
     | none=>unfold Program.underlying at hd;simp[hq]at hd
     | some i=>exact ⟨i,rfl,by simpa [hq] using h2⟩
    obtain ⟨i,hi1,hi2⟩:=hi;refine ⟨.agg (vs.extract off (off+size)),?_,Ju.2 ⟨_,rfl,?_⟩⟩
    ·have hag:=Nj hd R.w;rw[h3]at hag;unfold execOp;simp[ho,e,Instr.field,WE hfu,hfd,part,asAgg,h1,hag,sizeOf,typeInfo,hi1,hi2]
    ·rw[Array.toList_extract];have:=qM size (qY off hrl);rw[List.extract_eq_take_drop,show off+size-off=size by omega];exact this
   | false =>
    simp only[WX,Oh]at h;split at h
    ·rename_i c hc;refine ⟨c,.of_same fun B R L ρ hf hr=>?_,h⟩;have hx:=hr x;rw[hev,Ju]at hx;obtain ⟨vs,e,hrl⟩:=hx;obtain ⟨v,hv,hrep⟩:=JB hrl off c hc;have hv':vs[off]?=some v:=by simpa using hv
     have hag:=Nj hd R.w;rw[h3]at hag;refine ⟨v,?_,hrep⟩;unfold execOp;simp[ho,e,Instr.field,WE hfu,hfd,part,asAgg,h1,hag,hv']
    ·exact h.elim
  ·exact h.elim
 ·exact h.elim
end
end
section
open Go.RowKit
section
variable {P:Program} {G:zu} {bx:List (List C)} {ev:Operand->C} {nx:Nat} {o:Oper}
def QZ (P:Program) (t:TypeId) (c:C) (f:Nat) (K:C->Prop):Prop:=
 match lay P t with
 | some ⟨.struct fs,_,_,_⟩=>match fs[f]?,c with
  | some (off,size,_),.ptr i o=>if size=0 then False else K (.ptr i (o+off))
  | some (off,size,_),.row cs=>if size=0 then False else K (.row (cs.drop off))
  | _,_=>False
 | _=>False
theorem H9 {f:Nat} (ho:o.op = .fieldAddr t x f) (K:C->Prop) (h:QZ P t (ev x) f K):∃ c,zG P G bx ev nx o c nx/\K c:=by
 unfold QZ at h;split at h
 ·rename_i fs s b z hl;obtain ⟨fields,hfu,hall,hfs⟩:=VX hl rfl;split at h
  ·rename_i off size agg i o' hfi hev;obtain ⟨fd,hfd,h1,h2,h3⟩:=NX hfs hfi;split at h
   ·exact h.elim
   ·rename_i h0;obtain ⟨i',hi1,hi2⟩:=UA h2 h0;refine ⟨_,.of_same fun B R L ρ hf hr=>?_,h⟩;have hx:=hr x;rw[hev,Jv]at hx;obtain ⟨bb,hb,e⟩:=hx;refine ⟨.pointer (some ⟨bb,o'+off,none⟩),?_,Jv.2 ⟨bb,hb,rfl⟩⟩;unfold execOp;simp[ho,e,Instr.fieldAt,WE hfu,hfd,Instr.sureAddr,fieldPlace,sizeOf,typeInfo,hi1,hi2,h0,h1,Addr.add_none]
  ·rename_i off size agg cs hfi hev;obtain ⟨fd,hfd,h1,h2,h3⟩:=NX hfs hfi;split at h
   ·exact h.elim
   ·rename_i h0;obtain ⟨i',hi1,hi2⟩:=UA h2 h0;refine ⟨_,.of_same fun B R L ρ hf hr=>?_,h⟩;have hx:=hr x;rw[hev,JA]at hx;obtain ⟨bb,o',e,hc⟩:=hx;refine ⟨.pointer (some ⟨bb,o'+off,none⟩),?_,JA.2 ⟨bb,_,rfl,XG off hc⟩⟩;unfold execOp;simp[ho,e,Instr.fieldAt,WE hfu,hfd,Instr.sureAddr,fieldPlace,sizeOf,typeInfo,hi1,hi2,h0,h1,Addr.add_none]
  ·exact h.elim
 ·exact h.elim
def QV (P:Program) (t:TypeId) (c:C) (i:C) (K:C->Prop):Prop:=
 match lay P t,i with
 | some ⟨.slice e,_,_,_⟩,.sc (.int _ n)=>match lay P e with
  | some L=>match c with
   | .bs j off k m _=>k=L.size/\0<=n/\n<(m:Int)/\K (.ptr j (off+n.toNat*L.size))
   | c=>match c.rows? L.size with
    | some rows=>match rows[n.toNat]? with
     | some r=>0<=n/\K (.row r)
     | none=>False
    | none=>False
  | none=>False
 | some ⟨.array (m+1) e,_,_,_⟩,.sc (.int _ n)=>match lay P e with
  | some L=>match c with
   | .ptr j off=>0<=n/\n<((m+1:Nat):Int)/\K (.ptr j (off+n.toNat*L.size))
   | .row cs=>0<=n/\n<((m+1:Nat):Int)/\K (.row (cs.drop (n.toNat*L.size)))
   | _=>False
  | none=>False
 | _,_=>False
theorem Ge {i:Operand} (ho:o.op = .indexAddr t x i) (K:C->Prop) (h:QV P t (ev x) (ev i) K):∃ c,zG P G bx ev nx o c nx/\K c:=by
 unfold QV at h;split at h
 ·rename_i e s b z kk n hl hi;have ht:=qi hl rfl;split at h
  ·rename_i L hLe;split at h
   ·rename_i j off k m cap hev;obtain ⟨rfl,h0,hm,hK⟩:=h;refine ⟨_,.of_same fun B R Lc ρ hf hr=>?_,hK⟩;have hx:=hr x;rw[hev,jv]at hx;have hy:=hr i;rw[hi,zt]at hy;obtain ⟨bb,hb,ad,e',had⟩:=hx;obtain rfl:=had (by omega);refine ⟨.pointer (some ⟨bb,off+n.toNat*L.size,none⟩),?_,Jv.2 ⟨bb,hb,rfl⟩⟩;have hin:0<=n/\n<(m:Int):=⟨h0,hm⟩;have hsz:=qO hLe R.w;unfold execOp;simp[ho,e',hy,Instr.indexAt,WE ht,asIntOf,hin,hsz,Addr.add_none]
   split at h
   ·rename_i rows hrows;split at h
    ·rename_i r hrow;refine ⟨_,.of_same fun B R Lc ρ hf hr=>?_,h.2⟩;have hx:=hr x;have hy:=hr i;rw[hi,zt]at hy;obtain ⟨a,cap,ev',h1,h2,h3⟩:=hx.rows hrows;rcases h3 with h3 | ⟨bb,off,ea,h3⟩
     ·subst h3;simp at hrow
     ·subst ea;obtain ⟨g1,g2⟩:=jA h3 _ r hrow;have hlt:n.toNat<rows.length:=(Wd.1 hrow).1;refine ⟨.pointer (some ⟨bb,off+n.toNat*L.size,none⟩),?_,JA.2 ⟨_,_,rfl,g2⟩⟩;have hin:0<=n/\n<(rows.length:Int):=⟨h.1,by omega⟩;have hsz:=qO hLe R.w;unfold execOp;simp[ho,ev',hy,Instr.indexAt,WE ht,asIntOf,hin,hsz,Addr.add_none]
    ·exact h.elim
   ·exact h.elim
  ·exact h.elim
 ·rename_i m e s b z kk n hl hi;have ht:=zeF hl rfl;split at h
  ·rename_i L hLe;split at h
   ·rename_i j off hev;refine ⟨_,.of_same fun B R Lc ρ hf hr=>?_,h.2.2⟩;have hx:=hr x;rw[hev,Jv]at hx;have hy:=hr i;rw[hi,zt]at hy;obtain ⟨bb,hb,e'⟩:=hx;refine ⟨.pointer (some ⟨bb,off+n.toNat*L.size,none⟩),?_,Jv.2 ⟨bb,hb,rfl⟩⟩;have hin:0<=n/\n<((m+1:Nat):Int):=⟨h.1,h.2.1⟩;have hsz:=qO hLe R.w;unfold execOp;simp only[ho,e',hy,Instr.indexAt,WE ht,asIntOf,Instr.sureAddr,Wo,WD,Wi,hsz,Addr.add_none,if_pos hin]
   ·rename_i cs hev;refine ⟨_,.of_same fun B R Lc ρ hf hr=>?_,h.2.2⟩;have hx:=hr x;rw[hev,JA]at hx;have hy:=hr i;rw[hi,zt]at hy;obtain ⟨bb,off,e',hc⟩:=hx;refine ⟨.pointer (some ⟨bb,off+n.toNat*L.size,none⟩),?_,JA.2 ⟨bb,_,rfl,XG _ hc⟩⟩;have hin:0<=n/\n<((m+1:Nat):Int):=⟨h.1,h.2.1⟩;have hsz:=qO hLe R.w;unfold execOp;simp only[ho,e',hy,Instr.indexAt,WE ht,asIntOf,Instr.sureAddr,Wo,WD,Wi,hsz,Addr.add_none,if_pos hin]
   ·exact h.elim
  ·exact h.elim
 ·exact h.elim
def zbq (P:Program) (t:TypeId) (c i:C) (K:C->Prop):Prop:=
 match lay P t,c,i with
 | some ⟨.str,_,_,_⟩,.str l,.sc (.int _ n)=>match l[n.toNat]? with
  | some b=>0<=n/\K (.sc (.int .u8 (b.toNat:Int)))
  | none=>False
 | _,_,_=>False
theorem zcb {i:Operand} (ho:o.op = .index t x i) (K:C->Prop) (h:zbq P t (ev x) (ev i) K):∃ c,zG P G bx ev nx o c nx/\K c:=by
 unfold zbq at h;split at h
 ·rename_i s b z l kk n hl hev hi;have ht:=ZA hl rfl;split at h
  ·rename_i bt hbt;refine ⟨_,.of_same fun B R Lc ρ hf hr=>?_,h.2⟩;have hx:=hr x;rw[hev,z7]at hx;have hy:=hr i;rw[hi,zt]at hy;have hlt:n.toNat<l.length:=(Wd.1 hbt).1;refine ⟨.int .u8 (bt.toNat:Int),?_,zt.2 rfl⟩;have hsz:(ByteArray.mk l.toArray).size=l.length:=by simp[ByteArray.size]
   have hr1:=run_index_string (P:=P) R.w t ⟨l.toArray⟩ kk n ht;rw[dif_pos ⟨h.1,by rw[hsz];omega⟩]at hr1;have hget:(ByteArray.mk l.toArray)[n.toNat]'(by rw[hsz];exact hlt)=bt:=by
    have:=(Wd.1 hbt).2;rw[←this];rfl
   rw[hget]at hr1;unfold execOp;simp only[ho,hx,hy];rw[Wo,hr1];rfl
  ·exact h.elim
 ·exact h.elim
def za7:Option C->Option (Option Int)
 | none=>some none
 | some (.sc (.int _ n))=>some (some n)
 | _=>none
def cut {α:Type} (l:List α) (lo hi:Option Int):List α:=
 match lo,hi with
 | none,none=>l
 | some a,none=>l.drop a.toNat
 | none,some b=>l.take b.toNat
 | some a,some b=>(l.take b.toNat).drop a.toNat
def Je (n:Nat) (lo hi:Option Int):Prop:=
 match lo,hi with
 | none,none=>True
 | some a,none=>0<=a/\a<=(n:Int)
 | none,some b=>0<=b/\b<=(n:Int)
 | some a,some b=>0<=a/\a<=b/\b<=(n:Int)
def znZ (sz i off k n cap:Nat) (lo hi mx:Option Int) (K:C->Prop):Prop:=
 match lo,hi,mx with
 | none,none,none=>n<=cap/\K (.bs i off k n cap)
 | none,some b,none=>n<=cap/\(0<=b/\b<=(cap:Int))/\K (.bs i off k b.toNat cap)
 | some a,none,none=>sz=k/\n<=cap/\(0<=a/\a<=(n:Int))/\K (.bs i (off+a.toNat*k) k (n-a.toNat) (cap-a.toNat))
 | some a,some b,none=>sz=k/\(0<=a/\a<=b/\b<=(cap:Int))/\K (.bs i (off+a.toNat*k) k (b.toNat-a.toNat) (cap-a.toNat))
 | none,some b,some m=>(0<=b/\b<=m/\m<=(cap:Int))/\K (.bs i off k b.toNat m.toNat)
 | some a,some b,some m=>sz=k/\(0<=a/\a<=b/\b<=m/\m<=(cap:Int))/\K (.bs i (off+a.toNat*k) k (b.toNat-a.toNat) (m.toNat-a.toNat))
 | _,none,some _=>False
theorem znZ.out {sz off cap:Nat} {lo hi mx:Option Int} {K:C->Prop} (h:znZ sz i off k n cap lo hi mx K) :
  (lo≠none->sz=k)/\(mx≠none->hi≠none)/\0<=lo.getD 0/\lo.getD 0<=hi.getD n/\hi.getD n<=mx.getD cap/\mx.getD cap<=(cap:Int) /\
   K (.bs i (off+(lo.getD 0).toNat*k) k ((hi.getD n).toNat-(lo.getD 0).toNat) ((mx.getD cap).toNat-(lo.getD 0).toNat)):=by
 unfold znZ at h;split at h
 ·exact ⟨by simp,by simp,by simp,by simp,by simp;omega,by simp,by simpa using h.2⟩
 ·exact ⟨by simp,by simp,by simp,by simp;omega,by simp;omega,by simp,by simpa using h.2.2⟩
 ·exact ⟨by simp;exact h.1,by simp,by simp;omega,by simp;omega,by simp;omega,by simp,by simpa using h.2.2.2⟩
 ·exact ⟨by simp;exact h.1,by simp,by simp;omega,by simp;omega,by simp;omega,by simp,by simpa using h.2.2⟩
 ·exact ⟨by simp,by simp,by simp,by simp;omega,by simp;omega,by simp;omega,by simpa using h.2⟩
 ·exact ⟨by simp;exact h.1,by simp,by simp;omega,by simp;omega,by simp;omega,by simp;omega,by simpa using h.2.2⟩
 ·exact h.elim
def zqd (k:Nat) (lo hi mx:Option Int) (K:C->Prop):Prop:=match mx,hi with
 | none,_=>Je 0 lo hi/\K (.sc (.slice none 0 0))
 | some m,some h=>m=h/\Je 0 lo (some h)/\K (.tight k (cut [] lo (some h)))
 | some _,none=>False
def zaG (P:Program) (t:TypeId) (c:C) (lo hi mx:Option C) (K:C->Prop):Prop:=
 match za7 lo,za7 hi,za7 mx with
 | some lo,some hi,some mx=>match lay P t with
  | some ⟨.str,_,_,_⟩=>match c,mx with
   | .str l,none=>Je l.length lo hi/\K (.str (cut l lo hi))
   | _,_=>False
  | some ⟨.slice e,_,_,_⟩=>match lay P e with
   | some L=>match c with
    | .bs i off k n cap=>znZ L.size i off k n cap lo hi mx K
    | .sc (.slice none 0 0)=>zqd L.size lo hi mx K
    | c=>match c.rows? L.size with
     | some rows=>match mx,hi with
      | none,_=>Je rows.length lo hi/\K (.sl L.size (cut rows lo hi))
      | some m,some h=>m=h/\Je rows.length lo hi/\K (.tight L.size (cut rows lo hi))
      | some _,none=>False
     | none=>False
   | none=>False
  | _=>False
 | _,_,_=>False
theorem Vq {x:Option C} (h:za7 x=some none):x=none:=by
 unfold za7 at h;split at h
 ·rfl
 ·cases h
 ·cases h
theorem zgG {x:Option C} {n:Int} (h:za7 x=some (some n)):∃ k,x=some (.sc (.int k n)):=by
 unfold za7 at h;split at h
 ·cases h
 ·cases h;exact ⟨_,rfl⟩
 ·cases h
theorem GF (l:List α) {lo hi:Option Int} (h:Je l.length lo hi):(cut l lo hi).length=((hi.map (·.toNat)).getD l.length)-((lo.map (·.toNat)).getD 0):=by
 cases lo<;>cases hi<;>simp[cut,Je]at h ⊢<;>omega
theorem Xs {isS:Bool} {cap:Nat} {lo hi mx:Option Value} {lo' hi' mx':Option Int} (hlo:lo=lo'.map (fun x=>Value.int .i64 x)∨∃ k,lo=lo'.map (fun x=>Value.int k x))
  (hhi:∃ k,hi=hi'.map (fun x=>Value.int k x)) (hmx:∃ k,mx=mx'.map (fun x=>Value.int k x)) (hok:Je n lo' hi') (hcap:n<=cap) (hm:mx'=none∨(mx'=hi'/\hi'≠none)) :
  (Instr.sliceBounds isS n cap lo hi mx).run P w = .ok ((lo'.map (·.toNat)).getD 0,(hi'.map (·.toNat)).getD n,(mx'.map (·.toNat)).getD cap) w:=by
 have hlo':∃ k,lo=lo'.map (fun x=>Value.int k x):=by rcases hlo with h | h;exact ⟨_,h⟩;exact h
 obtain ⟨k1,rfl⟩:=hlo';obtain ⟨k2,rfl⟩:=hhi;obtain ⟨k3,rfl⟩:=hmx;rcases hm with rfl | ⟨rfl,hne⟩
 ·cases lo' with
  | none=>cases hi' with
   | none=>simp[Instr.sliceBounds]
   | some b =>
    simp only[Je]at hok;have h1:0<=b/\b<=(cap:Int):=by omega
    simp[Instr.sliceBounds,Instr.sliceBound,asIntOf,h1]
  | some a=>cases hi' with
   | none =>
    simp only[Je]at hok;simp[Instr.sliceBounds,Instr.sliceBound,asIntOf,hok]
   | some b =>
    simp only[Je]at hok;have h1:0<=b/\b<=(cap:Int):=by omega
    have h2:0<=a/\a<=((b.toNat:Nat):Int):=by omega
    simp only[Instr.sliceBounds,Instr.sliceBound,asIntOf,WN,Ov,Wo,WD,Wi,if_pos h1,if_pos h2];simp
 ·cases mx' with
  | none=>exact absurd rfl hne
  | some b=>cases lo' with
   | none =>
    simp only[Je]at hok;have h1:0<=b/\b<=(cap:Int):=by omega
    have h2:0<=b/\b<=((b.toNat:Nat):Int):=by omega
    simp only[Instr.sliceBounds,Instr.sliceBound,asIntOf,WN,Ov,Wo,WD,Wi,if_pos h1,if_pos h2];simp
   | some a =>
    simp only[Je]at hok;have h1:0<=b/\b<=(cap:Int):=by omega
    have h2:0<=b/\b<=((b.toNat:Nat):Int):=by omega
    have h3:0<=a/\a<=((b.toNat:Nat):Int):=by omega
    simp only[Instr.sliceBounds,Instr.sliceBound,asIntOf,WN,Ov,Wo,WD,Wi,if_pos h1,if_pos h2,if_pos h3];simp
theorem zai {cap:Nat} {lo hi mx:Option Value} {lo' hi' mx':Option Int} (hlo:∃ k,lo=lo'.map (fun x=>Value.int k x)) (hhi:∃ k,hi=hi'.map (fun x=>Value.int k x)) (hmx:∃ k,mx=mx'.map (fun x=>Value.int k x))
  (h0:0<=lo'.getD 0) (h1:lo'.getD 0<=hi'.getD n) (h2:hi'.getD n<=mx'.getD cap) (h3:mx'.getD cap<=(cap:Int)) (hmh:mx'≠none->hi'≠none) :
  (Instr.sliceBounds true n cap lo hi mx).run P w = .ok ((lo'.getD 0).toNat,(hi'.getD n).toNat,(mx'.getD cap).toNat) w:=by
 obtain ⟨k1,rfl⟩:=hlo;obtain ⟨k2,rfl⟩:=hhi;obtain ⟨k3,rfl⟩:=hmx;have sb:∀ (k:IntKind) (a:Int) (y:Nat) (c:BoundsCode),0<=a->a<=(y:Int)->(Instr.sliceBound (.int k a) y c).run P w = .ok a.toNat w:=fun k a y c p q=>by
  simp[Instr.sliceBound,asIntOf,p,q]
 cases mx' with
 | none=>cases hi' with
  | none=>cases lo' with
   | none=>simp[Instr.sliceBounds]
   | some a =>
    simp only[WZ,Ot]at h0 h1 h2 h3;simp only[Instr.sliceBounds,WN,Ov,Wo,WD,Wi,sb k1 a n _ h0 h1];simp
  | some b=>cases lo' with
   | none =>
    simp only[WZ,Ot]at h0 h1 h2 h3;simp only[Instr.sliceBounds,WN,Ov,Wo,WD,Wi,sb k2 b cap _ h1 h2];simp
   | some a =>
    simp only[WZ,Ot]at h0 h1 h2 h3;simp only[Instr.sliceBounds,WN,Ov,Wo,WD,Wi,sb k2 b cap _ (by omega) h2,sb k1 a b.toNat _ h0 (by omega)];simp
 | some m=>cases hi' with
  | none=>exact absurd rfl (hmh (by simp))
  | some b=>cases lo' with
   | none =>
    simp only[WZ,Ot]at h0 h1 h2 h3;simp only[Instr.sliceBounds,WN,Ov,Wo,WD,Wi,sb k3 m cap _ (by omega) h3,sb k2 b m.toNat _ h1 (by omega)];simp
   | some a =>
    simp only[WZ,Ot]at h0 h1 h2 h3;simp only[Instr.sliceBounds,WN,Ov,Wo,WD,Wi,sb k3 m cap _ (by omega) h3,sb k2 b m.toNat _ (by omega) (by omega),sb k1 a b.toNat _ h0 (by omega)];simp
theorem Jl (hr:∀ x,Rep R L (ev x) (ρ x)) {x:Option Operand} {n:Option Int} (h:za7 (x.map ev)=some n):∃ k,x.map ρ=n.map (fun i=>Value.int k i):=by
 cases x with
 | none=>simp[za7]at h;subst h;exact ⟨.i64,rfl⟩
 | some x =>
  cases n with
  | none =>
   have:=Vq h;cases this
  | some n =>
   obtain ⟨k,hk⟩:=zgG h;simp at hk;have h1:=hr x;rw[hk,zt]at h1;exact ⟨k,by simp[h1]⟩
theorem uQ (l:Lz) {lo hi:Option Int} (h:Je l.length lo hi):(ByteArray.mk l.toArray).extract ((lo.map (·.toNat)).getD 0) ((hi.map (·.toNat)).getD l.length)=⟨(cut l lo hi).toArray⟩:=by
 rw[ByteArray.extract_mk];congr 2;cases lo<;>cases hi<;>simp only[cut,WN,Ov,WZ,Ot,AY,Nat.sub_zero]
 ·rw[Wf (Wc _)]
 ·rw[Wf (by simp)]
 ·rw[List.drop_take]
theorem zaI {o:Nat} {rows:List (List C)} (h:zZ R rows k b o) (lo hi:Option Int):zZ R (cut rows lo hi) k b (o+((lo.map (·.toNat)).getD 0)*k):=by
 cases lo<;>cases hi<;>simp only[cut,WN,Ov,WZ,Ot,Nat.zero_mul,An]
 ·exact h
 ·exact QL _ h
 ·exact QA _ h
 ·exact QA _ (QL _ h)
theorem zdT {lo hi mx:Option Operand} (ho:o.op = .slice t x lo hi mx) (K:C->Prop) (h:zaG P t (ev x) (lo.map ev) (hi.map ev) (mx.map ev) K):∃ c,zG P G bx ev nx o c nx/\K c:=by
 unfold zaG at h;split at h
 ·rename_i lo' hi' mx' hlo hhi hmx;split at h
  ·rename_i s b z hl;have ht:=ZA hl rfl;split at h
   ·rename_i l hev;refine ⟨_,.of_same fun B R Lc ρ hf hr=>?_,h.2⟩;have hx:=hr x;rw[hev,z7]at hx;have hmx0:mx=none:=by
     have:=Vq hmx;cases mx<;>simp_all
    subst hmx0;have hsz:(ByteArray.mk l.toArray).size=l.length:=by simp[ByteArray.size]
    have hb:=Xs (P:=P) (w:=R.w) (isS:=false) (n:=l.length) (cap:=l.length) (lo:=lo.map ρ) (hi:=hi.map ρ) (mx:=none) (mx':=none) (.inr (Jl hr hlo)) (Jl hr hhi) ⟨.i64,rfl⟩ h.1 (Wc _) (.inl rfl);refine ⟨.string ⟨(cut l lo' hi').toArray⟩,?_,z7.2 rfl⟩;unfold execOp;simp only[ho,hx,Instr.sliceAt,Wo,WE ht,Wi,Instr.slice,Ov,hsz,hb,Bz,WX,Oh,WD];simp only[Wo,WD,Wi,hb,uQ l h.1]
   ·exact h.elim
  ·rename_i e s b z hl;have ht:=qi hl rfl;split at h
   ·rename_i L hLe;split at h
    ·rename_i j off k n cap hev;obtain ⟨hz,hmh,h0,h1,h2,h3,hK⟩:=h.out;refine ⟨_,.of_same fun B R Lc ρ hf hr=>?_,hK⟩;have hx:=hr x;rw[hev,jv]at hx;obtain ⟨bb,hb0,ad,e',had⟩:=hx;have hb:=zai (P:=P) (w:=R.w) (n:=n) (cap:=cap) (Jl hr hlo) (Jl hr hhi) (Jl hr hmx) h0 h1 h2 h3 hmh;have hsz:=qO hLe R.w;refine ⟨.slice (some (if (mx'.getD cap).toNat=(lo'.getD 0).toNat then ad else ad.add ((lo'.getD 0).toNat*L.size))) ((hi'.getD n).toNat-(lo'.getD 0).toNat) ((mx'.getD cap).toNat-(lo'.getD 0).toNat),?_,jv.2 ⟨bb,hb0,_,rfl,fun hne=>?_⟩⟩
     ·unfold execOp;simp only[ho,e',Instr.sliceAt,Wo,WE ht,Wi,Instr.slice,hb,WD,hsz];split<;>simp
     ·rw[if_neg (by omega),had (by omega)];rw[Addr.add_none];cases lo' with
      | none=>simp
      | some a=>rw[hz (by simp)]
    ·-- of none
     unfold zqd at h;rename_i hev;split at h
     ·refine ⟨_,.of_same fun B R Lc ρ hf hr=>?_,h.2⟩;have hx:=hr x;rw[hev,zt]at hx;have hmx0:mx=none:=by
       have:=Vq hmx;cases mx<;>simp_all
      subst hmx0;have hb:=Xs (P:=P) (w:=R.w) (isS:=true) (n:=0) (cap:=0) (lo:=lo.map ρ) (hi:=hi.map ρ) (mx:=none) (mx':=none) (.inr (Jl hr hlo)) (Jl hr hhi) ⟨.i64,rfl⟩ h.1 (Wc _) (.inl rfl);have hsz:=qO hLe R.w;have hz0:(lo'.map (·.toNat)).getD 0=0/\(hi'.map (·.toNat)).getD 0=0:=by
       have h4:=h.1;cases lo'<;>cases hi'<;>simp[Je]at h4 ⊢<;>omega
      refine ⟨.slice none 0 0,?_,zt.2 rfl⟩;unfold execOp;simp only[ho,hx,Instr.sliceAt,Wo,WE ht,Wi,Instr.slice,Ov,hb,WD,hsz];simp[hz0.1,hz0.2]
     ·rename_i m hh;obtain ⟨rfl,h⟩:=h;refine ⟨_,.of_same fun B R Lc ρ hf hr=>?_,h.2⟩;have hx:=hr x;rw[hev,zt]at hx;have hb:=Xs (P:=P) (w:=R.w) (isS:=true) (n:=0) (cap:=0) (lo:=lo.map ρ) (hi:=hi.map ρ) (mx:=mx.map ρ) (.inr (Jl hr hlo)) (Jl hr hhi) (Jl hr hmx) h.1 (Wc _) (.inr ⟨rfl,by simp⟩);have hsz:=qO hLe R.w;have hz0:(lo'.map (·.toNat)).getD 0=0/\m.toNat=0:=by
       have h4:=h.1;cases lo'<;>simp[Je]at h4 ⊢<;>omega
      have hct:cut ([]:List (List C)) lo' (some m) = []:=by cases lo'<;>simp[cut]
      rw[hct];refine ⟨.slice none 0 0,?_,JK.2 ⟨none,rfl,by unfold maxLen;simp,.inl rfl⟩⟩;unfold execOp;simp only[ho,hx,Instr.sliceAt,Wo,WE ht,Wi,Instr.slice,hb,WD,hsz];simp[hz0.1,hz0.2]
     ·exact h.elim
    split at h
    ·rename_i rows hrows;split at h
     ·-- no max
      refine ⟨_,.of_same fun B R Lc ρ hf hr=>?_,h.2⟩;have hx:=hr x;obtain ⟨a,cap,ev',h1,h2,h3⟩:=hx.rows hrows;have hmx0:mx=none:=by
       have:=Vq hmx;cases mx<;>simp_all
      subst hmx0;have hb:=Xs (P:=P) (w:=R.w) (isS:=true) (n:=rows.length) (cap:=cap) (lo:=lo.map ρ) (hi:=hi.map ρ) (mx:=none) (mx':=none) (.inr (Jl hr hlo)) (Jl hr hhi) ⟨.i64,rfl⟩ h.1 h1 (.inl rfl);have hcl:=GF rows h.1;have hsz:=qO hLe R.w;refine ⟨.slice (if cap=(lo'.map (·.toNat)).getD 0 then a else a.map (·.add ((lo'.map (·.toNat)).getD 0*L.size))) ((hi'.map (·.toNat)).getD rows.length-(lo'.map (·.toNat)).getD 0) (cap-(lo'.map (·.toNat)).getD 0),?_,?_⟩
      ·unfold execOp;simp only[ho,ev',Instr.sliceAt,Wo,WE ht,Wi,Instr.slice,Ov,hb,WD,hsz];simp
      ·have hle:(hi'.map (·.toNat)).getD rows.length<=rows.length:=by
        have h4:=h.1;cases lo'<;>cases hi'<;>simp[Je]at h4 ⊢<;>omega
       refine G4.2 ⟨_,_,by rw[hcl],by rw[hcl];omega,by omega,?_⟩;by_cases hc0:cut rows lo' hi' = []
       ·exact .inl hc0
       ·right
        have hpos:0<(cut rows lo' hi').length:=WI.2 hc0;rcases h3 with h3 | ⟨bb,off,ea,h3⟩
        ·have h0:rows.length=0:=by rw[h3];rfl
         omega
        ·refine ⟨bb,off+(lo'.map (·.toNat)).getD 0*L.size,?_,zaI h3 lo' hi'⟩;rw[if_neg (by omega),ea];simp[Addr.add_none]
     ·-- with max
      rename_i m hh;obtain ⟨rfl,h⟩:=h;refine ⟨_,.of_same fun B R Lc ρ hf hr=>?_,h.2⟩;have hx:=hr x;obtain ⟨a,cap,ev',h1,h2,h3⟩:=hx.rows hrows;have hb:=Xs (P:=P) (w:=R.w) (isS:=true) (n:=rows.length) (cap:=cap) (lo:=lo.map ρ) (hi:=hi.map ρ) (mx:=mx.map ρ) (.inr (Jl hr hlo)) (Jl hr hhi) (Jl hr hmx) h.1 h1 (.inr ⟨rfl,by simp⟩);have hcl:=GF rows h.1;have hsz:=qO hLe R.w;refine ⟨.slice (if m.toNat=(lo'.map (·.toNat)).getD 0 then a else a.map (·.add ((lo'.map (·.toNat)).getD 0*L.size))) (m.toNat-(lo'.map (·.toNat)).getD 0) (m.toNat-(lo'.map (·.toNat)).getD 0),?_,?_⟩
      ·unfold execOp;simp only[ho,ev',Instr.sliceAt,Wo,WE ht,Wi,Instr.slice,hb,WD,hsz];simp
      ·have hle:m.toNat<=rows.length:=by
        have h4:=h.1;cases lo'<;>simp only[Je]at h4<;>omega
       simp only[WN,WZ]at hcl;refine JK.2 ⟨_,by rw[hcl],by rw[hcl];omega,?_⟩;by_cases hc0:cut rows lo' (some m) = []
       ·exact .inl hc0
       ·right
        have hpos:0<(cut rows lo' (some m)).length:=WI.2 hc0;rcases h3 with h3 | ⟨bb,off,ea,h3⟩
        ·have h0:rows.length=0:=by rw[h3];rfl
         omega
        ·refine ⟨bb,off+(lo'.map (·.toNat)).getD 0*L.size,?_,zaI h3 lo' (some m)⟩;rw[if_neg (by omega),ea];simp[Addr.add_none]
     ·exact h.elim
    ·exact h.elim
   ·exact h.elim
  ·exact h.elim
 ·exact h.elim
end
end
section
open Go.RowKit
section
variable {P:Program} {G:zu} {bx:List (List C)} {ev:Operand->C} {nx:Nat} {o:Oper}
theorem j0 {R:Env}:∀ {cs:List C} {b off:Nat},zU R cs b off->∃ vs:List Value,(∀ (j:Nat) v,vs[j]?=some v->R.w.cell? ⟨b,off+j,none⟩=some v)/\zy R zP cs vs/\∀ v∈vs,v.oneCell'=true
 | [],_,_,_=>⟨[],fun j v h=>by simp at h,zo.2 rfl,fun v h=>by cases h⟩
 | x :: r,b,off,h=>by
  obtain ⟨⟨v0,e1,e2,e3,e4⟩,h2⟩:=qu.1 h;obtain ⟨us,g1,g2,g3⟩:=j0 h2;refine ⟨v0 :: us,fun j v hj=>?_,zi.2 ⟨v0,us,rfl,e3,g2⟩,fun v hv=>?_⟩
  ·cases j with
   | zero=>simp at hj;subst hj;exact e1
   | succ j =>
    have:=g1 j v (by simpa using hj);rwa [show off+(j+1)=off+1+j by omega]
  ·rcases WF.1 hv with rfl | hv
   ·exact e4
   ·exact g3 v hv
theorem XJ {k:Nat}:∀ {rows:List (List C)},(∀ r∈rows,r.length=k)->∀ (i j:Nat) row,rows[i]?=some row->j<k->rows.flatten[i*k+j]?=row[j]?
 | [],_,i,j,row,h,_=>by simp at h
 | r :: rs,h,0,j,row,hr,hj=>by
  simp at hr;subst hr;rw[OX,Nat.zero_mul,Ox,Wv (by rw[h r Wk];exact hj)]
 | r :: rs,h,i+1,j,row,hr,hj=>by
  have h0:=h r Wk;rw[OX,WO (by rw[h0,Oq];omega)];have:=XJ (fun x hx=>h x (Wl _ hx)) i j row (by simpa using hr) hj;rw[←this];congr 1;rw[h0,Oq];omega
theorem own_new {g cap e nx:Nat} {cur:Array Value} {rows:List (List C)} (hβ:∀ b∈L.β,b<R.w.heap.size)
  (hb:Below R.w.heap.size R.w w') (hg:R.w.heap.size<=g) (hh:w'.heap[g]?=some (.cells cur e (0,0))) (hcur:cur.size=cap*k) (hk:∀ r∈rows,r.length=k)
  (hrep:zy R zP rows.flatten vs) (hone:∀ v∈vs,v.oneCell'=true) (htake:cur.toList.take (rows.length*k)=vs) (hcap:rows.length<=cap) (hm:cap<=maxLen) :
  ∃ R' L',R'.w=w'/\qH nx (nx+1) R L R' L'/\Rep R' L' (.own nx e k rows) (.slice (some ⟨g,0,none⟩) rows.length cap):=by
 have hext:Ext R ⟨w',fun b o=>(b<R.w.heap.size/\R.M b o)∨(b=g/\rows.length*k<=o),R.F⟩:=by
  refine Ext.of_below hb fun b o h=>⟨fun h'=>?_,fun h'=>.inl ⟨h,h'⟩⟩;rcases h' with h' | h'
  ·exact h'.2
  ·omega
 refine ⟨⟨w',fun b o=>(b<R.w.heap.size/\R.M b o)∨(b=g/\rows.length*k<=o),R.F⟩,⟨L.β,fun id=>if id=nx then some (e,k,.slice (some ⟨g,0,none⟩) rows.length cap) else L.T id⟩,rfl,⟨hb,rfl,rfl,fun b o h=>⟨fun h'=>?_,fun h'=>.inl ⟨h,h'⟩⟩,fun id hi=>if_neg (by omega),fun id e' k' v' hi hi2 h=>?_,fun id id' e1 k1 v1 e2 k2 v2 b hi hi2 hj hj2 h1 h2 h3 h4=>by omega⟩,Y5.2 ⟨if_pos rfl,_,_,rfl,hcap,hm,?_⟩⟩
 ·rcases h' with h' | h'
  ·exact h'.2
  ·omega
 ·simp only at h;rw[if_pos (by omega)]at h;cases h;exact .inr (.inl ⟨g,_,cap,cur,_,rfl,hg,hh,hcap,hm,hcur,fun hx=>by have:=hβ g hx;omega,fun o ho=>.inr ⟨rfl,ho⟩⟩)
 ·by_cases h0:rows = []
  ·exact .inl h0
  ·refine .inr ⟨g,0,rfl,jf fun i row hrow=>⟨hk row (Wg hrow),qm fun j c hc=>?_⟩⟩;have hkr:=hk row (Wg hrow);have hj:j<k:=by rw[←hkr];exact (Wd.1 hc).1
   have hi:i<rows.length:=(Wd.1 hrow).1;have hf:=XJ hk i j row hrow hj;rw[hc]at hf;obtain ⟨v,hv,hr⟩:=JB hrep _ _ hf;have hlt2:i*k+j<rows.length*k:=by
    have:(i+1)*k<=rows.length*k:=WT _ hi;rw[Oq]at this;omega
   refine ⟨v,?_,?_,Rep.ext hext (zS.refl _) _ _ hr,hone v (Wg hv)⟩
   ·rw[Aj w' g (0+i*k+j) cur e (0,0) hh];rw[←htake,WK]at hv;rw[Ox];rw[if_pos hlt2]at hv;simpa using hv
   ·rintro (hx | hx)
    ·omega
    ·omega
theorem zoL {e nx:Nat} :
  ∃ R' L',R'.w=R.w/\qH nx (nx+1) R L R' L'/\Rep R' L' (.own nx e k []) (.slice none 0 0):=by
 refine ⟨R,⟨L.β,fun id=>if id=nx then some (e,k,.slice none 0 0) else L.T id⟩,rfl,⟨Oa _ _,rfl,rfl,fun b o h=>Iff.rfl,fun id hi=>if_neg (by omega),fun id e' k' v' hi hi2 h=>?_,fun id id' e1 k1 v1 e2 k2 v2 b hi hi2 hj hj2 h1 h2 h3 h4=>by omega⟩,Y5.2 ⟨if_pos rfl,_,_,rfl,Wc _,Wb _,.inl rfl⟩⟩;simp only at h;rw[if_pos (by omega)]at h;cases h;exact .inl rfl
theorem Fit.β_lt (hf:Fit G B bx R L):∀ b∈L.β,b<R.w.heap.size:=fun b hb=>by
 obtain ⟨i,hi,rfl⟩:=Wt hb;have hl:=hf.boxes.len;obtain ⟨vs,ty,h,_⟩:=hf.boxes.box i L.β[i] (bx[i]'(by omega)) (Wa hi) (Wa (by omega));exact qk h
theorem qH.mem (hb:Below R.w.heap.size R.w w'):qH nx nx R L ⟨w',fun b o=>b<R.w.heap.size/\R.M b o,R.F⟩ L:=
 ⟨hb,rfl,rfl,fun b o h=>⟨fun h'=>h'.2,fun h'=>⟨h,h'⟩⟩,fun _ _=>rfl,fun id e k v h h'=>by omega,fun id id' e k v e' k' v' b h h'=>by omega⟩
def Xj (place:Nat->Option (Nat×Nat)) (cs:List C):List (Nat×C)->Option (List C)
 | []=>some cs
 | (i,c) :: rest =>
  match place i with
  | none=>none
  | some (off,size)=>if c.cells.length=size/\off+size<=cs.length then Xj place (cs.take off++c.cells++cs.drop (off+size)) rest else none
def C.partB:C->Bool
 | .agg _=>true
 | c=>c.cellB
theorem Qp (h:Rep R L c v) (hc:c.partB=true):zy R L c.cells v.cells.toList:=by
 cases c<;>simp only[C.partB]at hc
 case agg cs=>obtain ⟨vs,rfl,hl⟩:=Ju.1 h;exact hl
 all_goals
  have h1:=h.oneCell hc;have:v.cells = #[v]:=by cases v<;>simp_all [Value.oneCell',Value.cells]
  rw[this];exact zi.2 ⟨v,[],rfl,h,zo.2 rfl⟩
theorem kE:∀ (us:List Value) (k off:Nat) (cs:Array Value),off+k+us.length<=cs.size ->
  ((us.zipIdx k).foldl (fun (cs:Array Value) (p:Value×Nat)=>cs.setIfInBounds (off+p.2) p.1) cs).toList=cs.toList.take (off+k)++us++cs.toList.drop (off+k+us.length)
 | [],k,off,cs,h=>by simp
 | u :: us,k,off,cs,h=>by
  simp only[List.zipIdx_cons,Bv];rw[kE us (k+1) off _ (by simp at h ⊢;omega)];simp only[Wh]at h ⊢;apply O5;intro i;simp only[Az];rcases Af i (off+k) with hi | hi | hi
  ·rw[WH,WH,Wv (by simp at h ⊢;omega),Wv (by simp at h ⊢;omega)];rw[WK,WK,if_pos (by omega),if_pos hi,Ow (by omega)]
  ·subst hi;rw[WH,WH,Wv (by simp at h ⊢;omega),WO (by simp at h ⊢;omega)];rw[WK,if_pos (by omega),OD (by simpa using (by omega:off+k<cs.size))];simp[OJ (by omega:off+k<=cs.size)]
  ·have e1:(cs.toList.set (off+k) u).take (off+(k+1))=cs.toList.take (off+k)++[u]:=by
    apply O5;intro j;rcases Af j (off+k) with hj | hj | hj
    ·rw[Wv (by simp;omega),WK,WK,if_pos (by omega),if_pos hj,Ow (by omega)]
    ·subst hj;rw[WO (by simp;omega),WK,if_pos (by omega),OD (by simp;omega)];simp[OJ (by omega:off+k<=cs.size)]
    ·rw[WO (by simp;omega),WK,if_neg (by omega),W4 (by simp;omega)]
   have e2:(cs.toList.set (off+k) u).drop (off+(k+1)+us.length)=cs.toList.drop (off+k+(us.length+1)):=by
    rw[List.drop_set_of_lt (by omega)];congr 1;omega
   rw[e1,e2];simp
theorem UX {R:Env} {L:Loc} (place:Nat->Option (Nat×Nat)):∀ (parts:List (Nat×C)) (pv:List (Nat×Value)) (cs:List C) (vs:Array Value) (out:List C),
  zy R L cs vs.toList->pv.map (·.1)=parts.map (·.1)->zy R L (parts.map (·.2)) (pv.map (·.2))->(∀ p∈parts,p.2.partB=true)->Xj place cs parts=some out ->
  ∃ us:Array Value,Instr.fill place vs pv=some us/\zy R L out us.toList
 | [],pv,cs,vs,out,h,h1,h2,h3,h4=>by
  cases pv with
  | nil=>simp only[Xj]at h4;cases h4;exact ⟨vs,rfl,h⟩
  | cons p q=>simp at h1
 | (i,c) :: rest,pv,cs,vs,out,h,h1,h2,h3,h4=>by
  cases pv with
  | nil=>simp at h1
  | cons p q =>
   obtain ⟨i',v⟩:=p;simp only[Wq,List.cons.injEq]at h1;obtain ⟨rfl,h1⟩:=h1;simp only[Wq]at h2;obtain ⟨v',us,e,hv,h2⟩:=zi.1 h2;cases e;simp only[Xj]at h4;cases hp:place i' with
   | none=>simp[hp]at h4
   | some x =>
    obtain ⟨off,size⟩:=x;simp only[hp]at h4;split at h4
    ·rename_i hc;have hcells:=Qp hv (h3 (i',c) Wk);have hl1:=zx hcells;have hl2:=zx h;simp only[WY]at hl1 hl2;have hfold:=kE v.cells.toList 0 off vs (by simp;omega);obtain ⟨out',g1,g2⟩:=UX place rest q (cs.take off++c.cells++cs.drop (off+size)) (v.cells.zipIdx.foldl (fun cs (p:Value×Nat)=>cs.setIfInBounds (off+p.2) p.1) vs) out (by
      have:(v.cells.zipIdx.foldl (fun (cs:Array Value) (p:Value×Nat)=>cs.setIfInBounds (off+p.2) p.1) vs).toList=vs.toList.take off++v.cells.toList++vs.toList.drop (off+size):=by
       rw[←Array.foldl_toList,Array.toList_zipIdx];rw[hfold];simp only[An,WY];rw[hl1,hc.1]
      rw[this];exact zq (zq (qM off h) hcells) (qY (off+size) h)) h1 h2 (fun p hp=>h3 p (Wl _ hp)) h4
     refine ⟨out',?_,g2⟩;simp only[Instr.fill,hp];rw[if_neg (by simp;omega)];exact g1
    ·cases h4
end
end
section
open Go.RowKit
section
variable {P:Program} {G:zu} {bx:List (List C)} {ev:Operand->C} {nx:Nat} {o:Oper}
theorem Y3 {R:Env} {T:Loc}:∀ vs:List Value,zy R T (vs.map zE) vs
 | []=>zo.2 rfl
 | v :: r=>zi.2 ⟨v,_,rfl,jX R T v,Y3 r⟩
def za1 (P:Program) (t:TypeId) (parts:List (Nat×C)) (K:C->Prop):Prop:=
 match lay P t with
 | some ⟨.struct fs,_,_,some z⟩=>(parts.all fun p=>p.2.partB)=true/\match Xj (fun i=>(fs[i]?).map fun f=>(f.1,f.2.1)) (z.map zE) parts with
  | some cs=>K (.agg cs)
  | none=>False
 | _=>False
theorem ZX (h:(P.underlying t).isSome=true):∃ i,P.info? t=some i:=by
 cases hq:P.info? t with
 | none=>unfold Program.underlying at h;simp[hq]at h
 | some i=>exact ⟨i,rfl⟩
theorem HJ:∀ (fields:List Field),(∀ f∈fields,(P.underlying f.type).isSome=true) ->
  fields.mapM (fun f=>(P.info? f.type).map fun i=>(f.offset,i.size))=some (fields.map fun f=>(f.offset,((P.info? f.type).map (·.size)).getD 0))
 | [],_=>rfl
 | f :: r,h=>by
  obtain ⟨i,hi⟩:=ZX (h f Wk);simp[List.mapM_cons,hi,HJ r fun g hg=>h g (Wl _ hg)]
theorem QW {R:Env} {L:Loc} {ρ:Operand->Value} (hr:∀ x,Rep R L (ev x) (ρ x)):∀ l:List (Nat×Operand),zy R L ((l.map fun p=>(p.1,ev p.2)).map (·.2)) ((l.map fun p=>(p.1,ρ p.2)).map (·.2))
 | []=>zo.2 rfl
 | x :: r=>zi.2 ⟨_,_,rfl,hr x.2,QW hr r⟩
theorem zcI (ho:o.op = .build t parts) (K:C->Prop) (h:za1 P t (parts.toList.map fun p=>(p.1,ev p.2)) K):∃ c,zG P G bx ev nx o c nx/\K c:=by
 unfold za1 at h;split at h
 ·rename_i fs s b z hl;obtain ⟨hall,h⟩:=h;obtain ⟨fields,hfu,hfk,hfs⟩:=VX hl rfl;obtain ⟨i,d,hi,hd,_,_,_,hz⟩:=qr hl;split at h
  ·rename_i cs hfill;refine ⟨_,.of_same fun B R L ρ hf hr=>?_,h⟩;cases hiz:i.zero with
   | none=>simp[hiz]at hz
   | some zv =>
    simp only[hiz,WN,Option.some.injEq]at hz;subst hz;obtain ⟨us,g1,g2⟩:=UX (R:=R) (L:=L) (fun i=>(fs[i]?).map fun f=>(f.1,f.2.1)) (parts.toList.map fun p=>(p.1,ev p.2)) (parts.toList.map fun p=>(p.1,ρ p.2)) (zv.cells.toList.map zE) zv.cells cs
     (Y3 _) (by simp) (QW hr _) (fun p hp=>Wz.1 hall p hp) hfill
    have hb:P.built t (parts.map fun p=>(p.1,ρ p.2)).toList=some us:=by
     unfold Program.built;rw[hi,hfu];simp only[hiz];rw[HJ _ hfk];simp only;have hpl:(fun x:Nat=>(fields.toList.map fun f=>(f.offset,((P.info? f.type).map (·.size)).getD 0)).toArray[x]?)=fun i:Nat=>(fs[i]?).map fun f:Nat×Nat×Bool=>(f.1,f.2.1):=by
      funext x;rw[hfs];simp only[Aq,WA,Option.map_map]
      rfl
     rw[hpl,Ac];exact g1
    have hrun:=run_build (P:=P) R.w t (parts.map fun p=>(p.1,ρ p.2)) us hb;refine ⟨.agg us,?_,Ju.2 ⟨us,rfl,g2⟩⟩;unfold execOp;simp only[ho];rw[Wo,hrun];rfl
  ·exact h.elim
 ·exact h.elim
def Zf (k:Nat):Nat->List C->List (List C)
 | 0,_=>[]
 | n+1,cs=>cs.take k :: Zf k n (cs.drop k)
theorem UD (k:Nat):∀ (n:Nat) (cs:List C),(Zf k n cs).length=n
 | 0,_=>rfl
 | n+1,cs=>by simp[Zf,UD k n]
theorem xy (k:Nat):∀ (n:Nat) (cs:List C),n*k<=cs.length->∀ r∈Zf k n cs,r.length=k
 | 0,_,_,r,h=>by cases h
 | n+1,cs,hl,r,h=>by
  rw[Oq]at hl;rcases WF.1 h with rfl | h
  ·simp;omega
  ·exact xy k n _ (by simp;omega) r h
theorem Vp (k:Nat):∀ (n:Nat) (cs:List C),cs.length=n*k->(Zf k n cs).flatten=cs
 | 0,cs,h=>by simp at h;simp[Zf,h]
 | n+1,cs,h=>by
  rw[Oq]at h;simp only[Zf,OX];rw[Vp k n _ (by simp;omega),Od]
def YC (P:Program) (t:TypeId) (n:Nat) (parts:List (Nat×C)) (nx:Nat) (K:C->Nat->Prop):Prop:=
 match lay P t with
 | some ⟨.slice e,_,_,_⟩=>match lay P e with
  | some ⟨_,k,_,some z⟩=>z.length=k/\0<k/\n*k<=16777216/\(parts.all fun p=>p.2.frz.partB)=true/\match Xj (fun i=>some (i*k,k)) (List.replicate n (z.map zE)).flatten (parts.map fun p=>(p.1,p.2.frz)) with
   | some cs=>(cs.all C.cellB)=true/\cs.length=n*k/\K (.own nx e k (Zf k n cs)) (nx+1)
   | none=>False
  | _=>False
 | _=>False
theorem Yb {α:Type} (z:List α) (k:Nat) (hz:z.length=k):∀ (n p:Nat),p<n*k->(List.replicate n z).flatten[p]?=z[p % k]?
 | 0,p,h=>by simp at h
 | n+1,p,h=>by
  rw[AS,OX];rcases Wr p k with hp | hp
  ·rw[Wv (by omega),Nat.mod_eq_of_lt hp]
  ·rw[WO (by omega),Yb z k hz n (p-z.length) (by rw[Oq]at h;omega),hz];rw[←Nat.mod_eq_sub_mod hp]
theorem Xp (z:List α) (n:Nat):(List.replicate n z).flatten.length=n*z.length:=by
 induction n with
 | zero=>simp
 | succ n ih=>rw[AS,OX,Wn,ih,Oq];omega
theorem Qk (z:Array Value) (k n:Nat) (hz:z.size=k) (hk:0<k):zy R L (List.replicate n (z.toList.map zE)).flatten ((Array.range (n*k)).map (z[· % z.size]!)).toList:=by
 refine Yx ?_ fun p c v hc hv=>?_
 ·rw[Xp];simp[hz]
 ·have hp:p<n*k:=by
   have:=(Wd.1 hv).1;simpa using this
  rw[Yb _ k (by simpa using hz) n p hp]at hc;rw[WA]at hc;have hm:p % k<z.size:=by rw[hz];exact Nat.mod_lt _ hk
  have hv':v=z[p % z.size]!:=by
   simp[WA,Array.getElem?_range,hp]at hv;exact hv.symm
  rw[hz]at hv';rw[BT z (p % k) hm]at hv';have:z.toList[p % k]?=some z[p % k]:=by simp[hm]
  rw[this]at hc;simp at hc;subst hc hv';exact jX R L _
theorem kB {R:Env} {L:Loc} (L':Loc):∀ (l:List (Nat×C)) (vs:List Value),zy R L (l.map (·.2)) vs->zy R L' ((l.map fun p=>(p.1,p.2.frz)).map (·.2)) vs
 | [],_,h=>by simpa using zo.2 (zo.1 h)
 | p :: r,_,h=>by
  obtain ⟨v,us,rfl,h1,h2⟩:=zi.1 h;exact zi.2 ⟨v,us,rfl,h1.frz L',kB L' r us h2⟩
theorem XI {R:Env} {L:Loc}:∀ {cs:List C} {vs:List Value},zy R L cs vs->cs.all C.cellB=true->∀ v∈vs,v.oneCell'=true
 | [],_,h,_,v,hv=>by rw[zo.1 h]at hv;cases hv
 | c :: r,_,h,ha,v,hv=>by
  obtain ⟨v0,us,rfl,h1,h2⟩:=zi.1 h;simp only[A4,Wp]at ha;rcases WF.1 hv with rfl | hv
  ·exact h1.oneCell ha.1
  ·exact XI h2 ha.2 v hv
theorem Qi (ho:o.op = .buildSlice t n parts) (K:C->Nat->Prop) (h:YC P t n (parts.toList.map fun p=>(p.1,ev p.2)) nx K):∃ c nx',zG P G bx ev nx o c nx'/\K c nx':=by
 unfold YC at h;split at h
 ·rename_i e s b zz hl;have ht:=qi hl rfl;split at h
  ·rename_i kd k by' z hle;obtain ⟨hzk,hk0,hsz,hall,h⟩:=h;split at h
   ·rename_i cs hfill;obtain ⟨hcb,hlen,hK⟩:=h;refine ⟨_,_,⟨by omega,fun B R L ρ hf hfree hr=>?_⟩,hK⟩;obtain ⟨i,d,hi,hd,h1,h2,h3,h4⟩:=qr hle;cases hiz:i.zero with
    | none=>simp[hiz]at h4
    | some zv =>
     simp only[hiz,WN,Option.some.injEq]at h4;subst h4;have hzs:zv.cells.size=k:=by simpa using hzk
     obtain ⟨us,g1,g2⟩:=UX (R:=R) (L:=zP) (fun i=>some (i*k,k)) ((parts.toList.map fun p=>(p.1,ev p.2)).map fun p=>(p.1,p.2.frz)) (parts.toList.map fun p=>(p.1,ρ p.2)) _ ((Array.range (n*k)).map (zv.cells[· % zv.cells.size]!)) cs
      (Qk zv.cells k n hzs hk0) (by simp) (kB zP _ _ (QW hr _)) (fun p hp=>by
       obtain ⟨q,hq,rfl⟩:=WV.1 hp;exact Wz.1 hall q hq) hfill
     have husz:us.size=n*k:=by have:=zx g2;simp at this;omega
     have hrun:(execOp ρ o).run P R.w = .ok (.value (.slice (some ⟨R.w.heap.size,0,none⟩) n n)) (R.w.alloc (.cells us e)):=by
      have hss:(sizeOf e).run P R.w = .ok k R.w:=by simp[sizeOf,typeInfo,hi,←h2]
      have hzz:(zeroValue e).run P R.w = .ok zv R.w:=by simp[zeroValue,typeInfo,hi,hiz]
      unfold execOp;simp only[ho,Instr.buildSlice,Wo,WE ht,Wi,hss];rw[if_neg (show ¬n*k>2 ^ 24 by omega)];by_cases hn:n*k=0
      ·have hn0:n=0:=by
        rcases Nat.mul_eq_zero.1 hn with h | h
        ·exact h
        ·omega
       subst hn0;have hz0:(Array.map (fun x=>(#[]:Array Value)[x % (#[]:Array Value).size]!) (Array.range (0*k)))=(Array.range (0*k)).map (zv.cells[· % zv.cells.size]!):=by simp[Array.range_zero']
       simp only[if_pos hn,WD,Wo,Wi,hz0,Ac,g1];simp[newRow]
      ·simp only[if_neg hn,WD,Wo,Wi,hzz,Ac,g1];simp[newRow]
     have hrl:=UD k n cs;obtain ⟨R',L',w1,w2,w3⟩:=own_new (R:=R) (L:=L) (w':=R.w.alloc (.cells us e)) (g:=R.w.heap.size) (cap:=n) (e:=e) (k:=k) (nx:=nx) (cur:=us) (rows:=Zf k n cs) (vs:=us.toList) hf.β_lt
      ((Oa _ _).alloc (Wc _) _) (Wc _) (ON _ _) husz (xy k n cs (by omega)) (by rw[Vp k n cs hlen];exact g2) (XI g2 hcb)
      (by rw[hrl,Wf (by simp[husz])]) (by omega) (by
       have:n<=n*k:=Nat.le_mul_of_pos_right n hk0;unfold maxLen;omega)
     rw[hrl]at w3;exact jo.value hrun ⟨R',L',w1,w2,w3⟩
   ·exact h.elim
  ·exact h.elim
 ·exact h.elim
def yZ (P:Program) (t:TypeId) (nx:Nat) (K:C->Nat->Prop):Prop:=
 match lay P t with
 | some ⟨.slice e,_,_,_⟩=>match lay P e with
  | some ⟨_,k,_,some z⟩=>z.length=k/\0<k/\K (.tight k []) nx
  | _=>False
 | _=>False
def N1 (P:Program) (t:TypeId) (n:Nat) (parts:List (Nat×C)) (nx:Nat) (K:C->Nat->Prop):Prop:=
 match n,parts with
 | 0,[]=>yZ P t nx K
 | n,ps=>YC P t n ps nx K
theorem yT (ho:o.op = .buildSlice t 0 #[]) (K:C->Nat->Prop) (h:yZ P t nx K):∃ c nx',zG P G bx ev nx o c nx'/\K c nx':=by
 unfold yZ at h;split at h
 ·rename_i e s b zz hl;have ht:=qi hl rfl;split at h
  ·rename_i kd k by' z hle;obtain ⟨hzk,hk0,hK⟩:=h;refine ⟨_,_,⟨Wc _,fun B R L ρ hf hfree hr=>?_⟩,hK⟩;obtain ⟨i,d,hi,hd,h1,h2,h3,h4⟩:=qr hle;have hrun:(execOp ρ o).run P R.w = .ok (.value (.slice (some ⟨R.w.heap.size,0,none⟩) 0 0)) (R.w.alloc (.cells #[] e)):=by
    have hss:(sizeOf e).run P R.w = .ok k R.w:=by simp[sizeOf,typeInfo,hi,←h2]
    unfold execOp;simp only[ho,Instr.buildSlice,Wo,WE ht,Wi,hss];simp[newRow,Instr.fill,Array.range_zero']
   have hb:Below R.w.heap.size R.w (R.w.alloc (.cells #[] e)):=(Oa _ _).alloc (Wc _) _;exact jo.value hrun ⟨_,L,rfl,qH.mem hb,JK.2 ⟨_,rfl,Wb _,.inl rfl⟩⟩
  ·exact h.elim
 ·exact h.elim
theorem y8 (ho:o.op = .buildSlice t n parts) (K:C->Nat->Prop) (h:N1 P t n (parts.toList.map fun p=>(p.1,ev p.2)) nx K):∃ c nx',zG P G bx ev nx o c nx'/\K c nx':=by
 unfold N1 at h;split at h
 ·rename_i hp;have e:parts = #[]:=by
   have:=List.map_eq_nil_iff.1 hp;cases parts;simp at this;subst this;rfl
  subst e;exact yT ho K h
 ·exact Qi ho K h
def zev (P:Program) (t:TypeId) (l c:C) (nx:Nat) (K:C->Nat->Prop):Prop:=
 match lay P t,l,c with
 | some ⟨.slice e,_,_,_⟩,.sc (.int _ l),.sc (.int _ c)=>match lay P e with
  | some ⟨_,k,by',some z⟩=>z.length=k/\0<k/\(z.all Value.oneCell')=true/\0<=l/\l<=c/\(by':Int)*c<=281474976710656/\c<=9223372036854775807/\K (.own nx e k (List.replicate l.toNat (z.map zE))) (nx+1)
  | _=>False
 | _,_,_=>False
theorem zhS {l c:Operand} (ho:o.op = .makeSlice t l c) (K:C->Nat->Prop) (h:zev P t (ev l) (ev c) nx K):∃ c nx',zG P G bx ev nx o c nx'/\K c nx':=by
 unfold zev at h;split at h
 ·rename_i e s b zz k1 l' k2 c' hl hev1 hev2;have ht:=qi hl rfl;split at h
  ·rename_i kd k by' z hle;obtain ⟨hzk,hk0,hone,h0,hlc,hby,h63,hK⟩:=h;refine ⟨_,_,⟨by omega,fun B R L ρ hf hfree hr=>?_⟩,hK⟩;obtain ⟨i,d,hi,hd,h1,h2,h3,h4⟩:=qr hle;cases hiz:i.zero with
   | none=>simp[hiz]at h4
   | some zv =>
    simp only[hiz,WN,Option.some.injEq]at h4;subst h4;have hzs:zv.cells.size=k:=by simpa using hzk
    have hx:=hr l;rw[hev1,zt]at hx;have hy:=hr c;rw[hev2,zt]at hy;have hrun:=run_make (P:=P) R.w t e i zv ht hi hiz k1 k2 l' c' h0 hlc (by rw[←h3];exact hby) h63;have hrep:=Qk (R:=R) (L:=zP) zv.cells k l'.toNat hzs hk0;have hle2:l'.toNat<=c'.toNat:=by omega
    have hlk:l'.toNat*k<=c'.toNat*k:=WT _ hle2;have hks:i.size=k:=h2.symm;obtain ⟨R',L',w1,w2,w3⟩:=own_new (R:=R) (L:=L) (w':=R.w.alloc (.cells (madeCells zv.cells (c'.toNat*k)) e)) (g:=R.w.heap.size) (cap:=c'.toNat) (e:=e) (k:=k) (nx:=nx) (cur:=madeCells zv.cells (c'.toNat*k)) (rows:=List.replicate l'.toNat (zv.cells.toList.map zE))
     (vs:=((Array.range (l'.toNat*k)).map (zv.cells[· % zv.cells.size]!)).toList) hf.β_lt
     ((Oa _ _).alloc (Wc _) _) (Wc _) (ON _ _) (size_madeCells _ _) (fun r hr=>by rw[List.eq_of_mem_replicate hr];simpa using hzs) hrep
     (fun v hv=>by
      simp only[Ac,WV]at hv;obtain ⟨p,hp,rfl⟩:=hv;have hm:p % zv.cells.size<zv.cells.size:=Nat.mod_lt _ (by omega);rw[BT zv.cells _ hm];exact Wz.1 hone _ (by simp))
     (by
      simp only[madeCells,A0];apply O5;intro p;rw[WK];simp only[Ac,WA,Array.toList_range,BR];by_cases hp:p<l'.toNat*k
      ·rw[if_pos hp,BR (by omega),BR hp]
      ·rw[if_neg hp,W4 (by simp;omega)];rfl)
     (by simp;omega) (by unfold maxLen;omega)
    rw[A0]at w3;refine jo.value ?_ ⟨R',L',w1,w2,w3⟩;unfold execOp;simp only[ho,hx,hy];rw[Wo,hrun,hks];rfl
  ·exact h.elim
 ·exact h.elim
end
end
section
open Go.RowKit Go.MapKept
inductive MKd where
 | int (k:IntKind)
 | str
def MKd.nil:MKd->MK
 | .int k=>.int k []
 | .str=>.str []
def zdA:Value->C
 | .agg vs=>.agg (vs.toList.map zE)
 | v=>zE v
def zd8 (P:Program) (t:TypeId):Option (MKd×C):=
 match P.underlying t with
 | some (.map kt et)=>match P.underlying kt,(P.info? et).bind (·.zero) with
  | some (.int k),some z=>some (.int k,zdA z)
  | some .string,some z=>some (.str,zdA z)
  | _,_=>none
 | _=>none
theorem yh (R:Env) (L:Loc) (v:Value):Rep R L (zdA v) v:=by
 unfold zdA;split
 ·exact Ju.2 ⟨_,rfl,Y3 _⟩
 ·exact jX R L _
theorem Xx {kd:MKd} {z:C} (h:zd8 P t=some (kd,z)):∃ kt et i zv,P.underlying t=some (.map kt et)/\P.info? et=some i/\i.zero=some zv/\z=zdA zv /\
  ((∃ k,kd = .int k/\P.underlying kt=some (.int k))∨(kd = .str/\P.underlying kt=some .string)):=by
 unfold zd8 at h;split at h
 ·rename_i kt et ht;split at h
  ·rename_i k zv hk hz;cases h;cases hi:P.info? et with
   | none=>rw[hi]at hz;cases hz
   | some i=>rw[hi]at hz;exact ⟨kt,et,i,zv,ht,hi,hz,rfl,.inl ⟨k,rfl,hk⟩⟩
  ·rename_i zv hk hz;cases h;cases hi:P.info? et with
   | none=>rw[hi]at hz;cases hz
   | some i=>rw[hi]at hz;exact ⟨kt,et,i,zv,ht,hi,hz,rfl,.inr ⟨rfl,hk⟩⟩
  ·cases h
 ·cases h
def HF {α:Type} [DecidableEq α] (a:α):List α->Option Nat
 | []=>none
 | k :: ks=>if k=a then some 0 else (HF a ks).map (·+1)
def zjv {α:Type} [DecidableEq α] (a:α) (l:List α) (vs:List C):Option C:=match HF a l with
 | some j=>vs[j]?
 | none=>none
def H1 {α:Type} [DecidableEq α] (a:α) (c:C) (l:List α) (vs:List C):List α×List C:=match HF a l with
 | some j=>(l,vs.set j c)
 | none=>(l++[a],vs++[c])
theorem NI {α:Type} [DecidableEq α] {a:α}:∀ {l:List α} {j:Nat},HF a l=some j->l[j]?=some a
 | [],j,h=>by cases h
 | k :: ks,j,h=>by
  unfold HF at h;split at h
  ·cases h;subst_vars;rfl
  ·cases hq:HF a ks with
   | none=>rw[hq]at h;cases h
   | some i =>
    rw[hq]at h;cases h;simpa using NI hq
theorem Qy {α:Type} [DecidableEq α] {kd:TypeDesc} {kv:α->Value} (hk:∀ a b,Instr.sameNow kd (kv a) (kv b)=some (decide (a=b))) (a:α):∀ (es:List MapEntry) (l:List α) (i:Nat),es.map (·.key)=l.map kv ->
  Instr.findNow kd (kv a) es i=some ((HF a l).bind fun j=>(es[j]?).map fun e=>(i+j,e.val))
 | [],[],i,_=>rfl
 | [],_ :: _,i,h=>by cases h
 | _ :: _,[],i,h=>by cases h
 | e :: es,k :: ks,i,h=>by
  simp only[Wq,List.cons.injEq]at h;unfold Instr.findNow HF;rw[h.1,hk];by_cases hak:a=k
  ·subst hak;simp
  ·have hka:¬k=a:=fun e=>hak e.symm;simp only[hak,decide_false,hka,Oh];rw[Qy hk a es ks (i+1) h.2];cases HF a ks with
   | none=>rfl
   | some j=>simp[B5,Nat.add_comm 1 j]
theorem zbM {r:Bool} {p:Prop} [Decidable p] (h:r=true↔p):r=decide p:=by
 cases r with
 | true=>exact (Wm (h.1 rfl)).symm
 | false=>exact (Wj fun hp=>Bool.noConfusion (h.2 hp)).symm
theorem zbf (k:IntKind) (a b:Int):Instr.sameNow (.int k) (.int k a) (.int k b)=some (decide (a=b)):=by
 obtain ⟨r,h1,h2⟩:=sameNow_of_keys (d:=.int k) (a:=.int k a) (b:=.int k b) (by simp[IsKey]) (by simp[IsKey]);rw[h1,zbM (h2.trans ⟨fun h=>(Value.int.inj h).2,fun h=>by rw[h]⟩)]
theorem G8 (a b:Lz):Instr.sameNow .string (.string ⟨a.toArray⟩) (.string ⟨b.toArray⟩)=some (decide (a=b)):=by
 obtain ⟨r,h1,h2⟩:=sameNow_of_keys (d:=.string) (a:=.string ⟨a.toArray⟩) (b:=.string ⟨b.toArray⟩) (by simp[IsKey]) (by simp[IsKey]);rw[h1,zbM (h2.trans ⟨fun h=>by simpa using ByteArray.mk.inj (Value.string.inj h),fun h=>by rw[h]⟩)]
theorem GZ (P:Program) (o:Obj) (w:World):(newObj o).run P w = .ok w.heap.size (w.alloc o):=rfl
theorem VZ {r:Nat} {es:Array MapEntry} {cl:Nat} (hb:w.heap[r]?=some (.map es cl)):(getObj r).run P w = .ok (.map es cl) w:=by simp[getObj,Sem.run,hb]
theorem Gr {r:Nat} {es:Array MapEntry} {cl:Nat} (o:Obj) (hb:w.heap[r]?=some (.map es cl)):(setObj r o).run P w = .ok () (w.putObj r o):=by simp[setObj,Sem.run,hb,World.putObj]
section
variable {P:Program} {G:zu} {bx:List (List C)} {ev:Operand->C} {nx:Nat} {o:Oper}
def N4 (P:Program) (t:TypeId) (r:Option C) (nx:Nat) (K:C->Nat->Prop):Prop:=
 match zd8 P t with
 | some (kd,_)=>match r with
  | none=>K (.mo nx t kd.nil []) (nx+1)
  | some (.sc (.int _ _))=>K (.mo nx t kd.nil []) (nx+1)
  | _=>False
 | none=>False
theorem zln (kd:MKd):kd.nil.vals = []:=by cases kd<;>rfl
theorem znX (hβ:∀ b∈L.β,b<R.w.heap.size) (t:TypeId) (kd:MKd) :
  ∃ R' L',R'.w=R.w.alloc (.map #[] 0)/\qH nx (nx+1) R L R' L'/\Rep R' L' (.mo nx t kd.nil []) (.map (some R.w.heap.size)):=by
 have hb:Below R.w.heap.size R.w (R.w.alloc (.map #[] 0)):=(Oa _ _).alloc (Wc _) _;refine ⟨⟨R.w.alloc (.map #[] 0),R.M,R.F⟩,⟨L.β,fun id=>if id=nx then some (t,0,HD R.w.heap.size [] []) else L.T id⟩,rfl,⟨hb,rfl,rfl,fun b o h=>Iff.rfl,fun id hi=>if_neg (by omega),fun id e' k' v' hi hi2 h=>?_,fun id id' e1 k1 v1 e2 k2 v2 b h1 h2 h3 h4 _ _ _ _=>by omega⟩,?_⟩
 ·simp only at h;rw[if_pos (by omega)]at h;cases h;exact .inr (.inr ⟨R.w.heap.size,#[],[],[],rfl,Wc _,ON _ _,fun hx=>by have:=hβ _ hx;omega,rfl,rfl,fun i e hi=>by simp at hi⟩)
 ·unfold Rep;exact ⟨_,[],rfl,by rw[zln];exact if_pos rfl,zo.2 rfl⟩
theorem xG {r:Option Operand} (ho:o.op = .makeMap t r) (K:C->Nat->Prop) (h:N4 P t (r.map ev) nx K):∃ c nx',zG P G bx ev nx o c nx'/\K c nx':=by
 unfold N4 at h;split at h<;>try exact h.elim
 rename_i kd z hm;obtain ⟨kt,et,i,zv,ht,_⟩:=Xx hm;have key:(∀ (R:Env) (L:Loc) (ρ:Operand->Value),(∀ x,Rep R L (ev x) (ρ x))->(execOp ρ o).run P R.w = .ok (.value (.map (some R.w.heap.size))) (R.w.alloc (.map #[] 0)))->K (.mo nx t kd.nil []) (nx+1)->∃ c nx',zG P G bx ev nx o c nx'/\K c nx':=fun hrun hK =>
  ⟨_,_,⟨by omega,fun B R L ρ hf _ hr=>by
   obtain ⟨R',L',e1,e2,e3⟩:=znX (nx:=nx) hf.β_lt t kd;exact jo.value (hrun R L ρ hr) ⟨R',L',e1,e2,e3⟩⟩,hK⟩
 cases r with
 | none=>exact key (fun R L ρ hr=>by unfold execOp;simp[ho,Instr.makeMap,GZ]) h
 | some x =>
  simp only[WN]at h;split at h<;>try exact h.elim
  ·rename_i h0;cases h0
  ·rename_i q n h0;have h0:ev x = .sc (.int q n):=by simpa using h0
   exact key (fun R L ρ hr=>by
    have hx:=hr x;rw[h0,zt]at hx;unfold execOp;simp[ho,Instr.makeMap,GZ,WE ht,hx,asInt,asIntOf]) h
def GA (r:Option C) (z:C) (ok:Bool) (K:C->Prop):Prop:=match r,ok with
 | some c,true=>K (.tup [c,.sc (.bool true)])
 | some c,false=>K c
 | none,true=>K (.tup [z,.sc (.bool false)])
 | none,false=>K z
def zoT (P:Program) (t:TypeId) (m key:C) (ok:Bool) (K:C->Prop):Prop:=
 match zd8 P t with
 | some (.int k,z)=>match m,key with
  | .mo _ t' (.int k' l) vs,.sc (.int q n)=>t'=t/\k'=k/\q=k/\GA (zjv n l vs) z ok K
  | _,_=>False
 | some (.str,z)=>match m,key with
  | .mo _ t' (.str l) vs,.str s=>t'=t/\GA (zjv s l vs) z ok K
  | _,_=>False
 | none=>False
theorem Fit.map (hf:Fit G B bx R L) {id:Nat} {t:TypeId} {ks:MK} {vs:List C} {v:Value} (h:Rep R L (.mo id t ks vs) v) :
  ∃ b es,v = .map (some b)/\R.w.heap[b]?=some (.map es es.size)/\es.toList.map (·.key)=ks.vals/\zy R zP vs (es.toList.map (·.val)):=by
 unfold Rep at h;obtain ⟨b,vvs,e,ht,hl⟩:=h;rcases hf.owns.own id _ _ _ ht with g | ⟨g,n,cap,cur,ty,q1,_⟩ | ⟨g,es,kvs,vvs',q1,q2,q3,q4,q5,q6,q7⟩
 ·unfold HD at g;cases g
 ·unfold HD at q1;cases q1
 ·obtain ⟨rfl,rfl,rfl⟩:=NL q1;exact ⟨b,es,e,q3,q5,by rw[q6];exact hl⟩
theorem VA {i:TypeInfo} {zv:Value} (hi:P.info? t=some i) (hz:i.zero=some zv) (w:World):(zeroValue t).run P w = .ok zv w:=by simp[zeroValue,typeInfo,hi,hz]
theorem zav [DecidableEq α] {kd:TypeDesc} {kv:α->Value} (hk:∀ a b,Instr.sameNow kd (kv a) (kv b)=some (decide (a=b))) (hchk:∀ (e:Bool) (kt:TypeId) (a:α) (w:World),P.underlying kt=some kd->(Instr.checkKey e 10000 kt (kv a)).run P w = .ok () w)
  {t kt et:TypeId} {i:TypeInfo} {zv:Value} (ht:P.underlying t=some (.map kt et)) (hkt:P.underlying kt=some kd) (hi:P.info? et=some i) (hz:i.zero=some zv) {w:World} {b:Nat} {es:Array MapEntry} {cl:Nat} (hb:w.heap[b]?=some (.map es cl)) (a:α) (l:List α) (hl:es.toList.map (·.key)=l.map kv) (ok:Bool) :
  (Instr.lookup t (.map (some b)) (kv a) ok).run P w = .ok (match (HF a l).bind fun j=>es.toList[j]? with | some e=>if ok then .tuple #[e.val,.bool true] else e.val | none=>if ok then .tuple #[zv,.bool false] else zv) w:=by
 have hf:=Qy hk a es.toList l 0 hl;unfold Instr.lookup;simp only[Wo,WE ht,Wi,VZ hb,WD,hchk _ kt a w hkt,Instr.findKey,WE hkt,hf];cases hm:HF a l with
 | none =>
  simp only[Option.bind_none,WD,Wi,Wo,VA hi hz]
  first | done | (cases ok<;>rfl)
 | some j =>
  simp only[AI];cases he:es.toList[j]? with
  | none =>
   simp only[Ov,WD,Wi,Wo,VA hi hz]
   first | done | (cases ok<;>rfl)
  | some e =>
   simp only[WN,WD,Wi,Wo]
   first | done | (cases ok<;>rfl)
theorem yi {k:IntKind} (e:Bool) (kt:TypeId) (a:Int) (w:World) (h:P.underlying kt=some (.int k)):(Instr.checkKey e 10000 kt (.int k a)).run P w = .ok () w:=by
 unfold Instr.checkKey;simp only[Wo,WE h,Wi,WD]
theorem xC (e:Bool) (kt:TypeId) (a:Lz) (w:World) (h:P.underlying kt=some .string):(Instr.checkKey e 10000 kt (.string ⟨a.toArray⟩)).run P w = .ok () w:=by
 unfold Instr.checkKey;simp only[Wo,WE h,Wi,WD]
theorem zbn [DecidableEq α] {a:α} {l:List α} {vs:List C} {zv:Value} {ok:Bool} {K:C->Prop} (h:GA (zjv a l vs) (zdA zv) ok K) :
  ∃ c,K c/\∀ (R:Env) (L:Loc) (es:List MapEntry),l.length=es.length->zy R zP vs (es.map (·.val))->Rep R L c (match (HF a l).bind fun j=>es[j]? with | some e=>if ok then .tuple #[e.val,.bool true] else e.val | none=>if ok then .tuple #[zv,.bool false] else zv):=by
 have tup:∀ (R:Env) (L:Loc) (c:C) (v:Value) (q:Bool),Rep R L c v->Rep R L (.tup [c,.sc (.bool q)]) (.tuple #[v,.bool q]):=fun R L c v q hc=>VF.2 ⟨#[v,.bool q],rfl,zi.2 ⟨v,_,rfl,hc,zi.2 ⟨.bool q,[],rfl,zt.2 rfl,zo.2 rfl⟩⟩⟩;unfold zjv at h;cases hm:HF a l with
 | none =>
  rw[hm]at h;cases ok with
  | true=>exact ⟨_,h,fun R L es _ _=>tup _ _ _ _ _ (yh R L zv)⟩
  | false=>exact ⟨_,h,fun R L es _ _=>yh R L zv⟩
 | some j =>
  rw[hm]at h;simp only at h;have hj:j<l.length:=(Wd.1 (NI hm)).1;cases hv:vs[j]? with
  | none =>
   rw[hv]at h;have hno:∀ (R:Env) (es:List MapEntry),l.length=es.length->zy R zP vs (es.map (·.val))->False:=fun R es he hr=>by
    have hvl:=zx hr;rw[We]at hvl;rw[List.getElem?_eq_none_iff]at hv;omega
   cases ok with
   | true=>exact ⟨_,h,fun R L es he hr=>(hno R es he hr).elim⟩
   | false=>exact ⟨_,h,fun R L es he hr=>(hno R es he hr).elim⟩
  | some c =>
   rw[hv]at h;have hc:∀ (R:Env) (L:Loc) (es:List MapEntry),l.length=es.length->zy R zP vs (es.map (·.val))->∃ e,es[j]?=some e/\Rep R L c e.val:=fun R L es he hr=>by
    obtain ⟨v,e1,e2⟩:=JB hr j c hv;rw[WA]at e1;cases hq:es[j]? with
    | none=>rw[hq]at e1;cases e1
    | some e=>rw[hq]at e1;cases e1;exact ⟨e,rfl,Rep.ext (Ext.refl _) (zS.none _) _ _ e2⟩
   cases ok with
   | true=>exact ⟨_,h,fun R L es he hr=>by
     obtain ⟨e,e1,e2⟩:=hc R L es he hr;simp only[AI,e1];exact tup _ _ _ _ _ e2⟩
   | false=>exact ⟨_,h,fun R L es he hr=>by
     obtain ⟨e,e1,e2⟩:=hc R L es he hr;simp only[AI,e1];exact e2⟩
theorem ze1 {m k:Operand} {ok:Bool} (ho:o.op = .lookup t m k ok) (K:C->Prop) (h:zoT P t (ev m) (ev k) ok K):∃ c,zG P G bx ev nx o c nx/\K c:=by
 unfold zoT at h;split at h
 ·rename_i q z hm;obtain ⟨kt,et,i,zv,ht,hi,hz,rfl,hk⟩:=Xx hm;rcases hk with ⟨k0,hk0,hkt⟩ | ⟨hk0,_⟩
  ·cases hk0;split at h<;>try exact h.elim
   rename_i id t' k' l vs q' n hev hek;obtain ⟨rfl,rfl,rfl,h⟩:=h;obtain ⟨c,hK,hc⟩:=zbn h;refine ⟨c,.of_same fun B R L ρ hf hr=>?_,hK⟩;have hx:=hr m;rw[hev]at hx;have hy:=hr k;rw[hek,zt]at hy;obtain ⟨b,es,e1,e2,e3,e4⟩:=hf.map hx;refine ⟨_,?_,hc R L es.toList (by have:=Wu List.length e3;simpa [MK.vals] using this.symm) e4⟩;unfold execOp;simp only[ho,e1,hy];rw[Wo,zav (zbf _) yi ht hkt hi hz e2 n l e3 ok]
   rfl
  ·cases hk0
 ·rename_i z hm;obtain ⟨kt,et,i,zv,ht,hi,hz,rfl,hk⟩:=Xx hm;rcases hk with ⟨k0,hk0,_⟩ | ⟨_,hkt⟩
  ·cases hk0
  ·split at h<;>try exact h.elim
   rename_i id t' l vs s hev hek;obtain ⟨rfl,h⟩:=h;obtain ⟨c,hK,hc⟩:=zbn h;refine ⟨c,.of_same fun B R L ρ hf hr=>?_,hK⟩;have hx:=hr m;rw[hev]at hx;have hy:=hr k;rw[hek,z7]at hy;obtain ⟨b,es,e1,e2,e3,e4⟩:=hf.map hx;refine ⟨_,?_,hc R L es.toList (by have:=Wu List.length e3;simpa [MK.vals] using this.symm) e4⟩;unfold execOp;simp only[ho,e1,hy];rw[Wo,zav G8 xC ht hkt hi hz e2 s l e3 ok]
   rfl
 ·exact h.elim
def zpl (P:Program) (t t':TypeId) (vs:List C) (K:C->Prop):Prop:=
 match zd8 P t with
 | some _=>K (.sc (.int .i64 (vs.length:Int)))
 | none=>False
theorem zgR {t':TypeId} {id:Nat} {ks:MK} {vs:List C} (ho:o.op = .call { callee:=.builtin .len,args:=#[x],argTypes:=#[t] }) (hev:ev x = .mo id t' ks vs) (K:C->Prop) (h:zpl P t t' vs K):∃ c,zG P G bx ev nx o c nx/\K c:=by
 unfold zpl at h;split at h<;>try exact h.elim
 rename_i q hm;obtain ⟨kt,et,i,zv,ht,_⟩:=Xx (kd:=q.1) (z:=q.2) hm;refine ⟨_,.of_same fun B R L ρ hf hr=>?_,h⟩;have hx:=hr x;rw[hev]at hx;obtain ⟨b,es,e1,e2,e3,e4⟩:=hf.map hx;have hl:=zx e4;rw[We,WY]at hl;refine ⟨.int .i64 (vs.length:Int),?_,zt.2 rfl⟩;have hrun:(Builtin.len_ #[t] o.type #[.map (some b)]).run P R.w = .ok (goInt es.size) R.w:=by
  simp[Builtin.len_,WE ht,VZ e2]
 unfold execOp;simp only[ho,resolve,invoke,builtin,Wo,WD,Wi,OG,Wq,WL,e1,hrun,hl]
 rfl
end
end
section
open Go.RowKit
section
variable {P:Program} {G:zu} {bx:List (List C)} {ev:Operand->C} {nx:Nat} {o:Oper}
def J8 (l:Lz):List (List C):=l.map fun b=>[.sc (.int .u8 (b.toNat:Int))]
def zj1 (P:Program) (s d:TypeId) (c:C) (K:C->Prop):Prop:=
 match lay P d with
 | some ⟨.int k,_,_,_⟩=>match c with
  | .sc (.int _ n)=>match lay P s with | some _=>inR k n/\K (.sc (.int k n)) | none=>False
  | _=>False
 | some ⟨.str,_,_,_⟩=>match lay P s with
  | some ⟨.str,_,_,_⟩=>match c with
   | .str l=>K (.str l)
   | _=>False
  | some ⟨.slice e,_,_,_⟩=>match lay P e with
   | some ⟨.int .u8,_,_,_⟩=>match c.rows? 1 with
    | some rows=>∃ l,rows=J8 l/\K (.str l)
    | none=>False
   | _=>False
  | some ⟨.int _,_,_,_⟩=>match c with
   | .sc (.int _ n)=>K (.str (Utf8.encode n).data.toList)
   | _=>False
  | _=>False
 | some ⟨.slice e,_,_,_⟩=>match lay P s,lay P e with
  | some ⟨.str,_,_,_⟩,some ⟨.int .u8,_,_,_⟩=>match c with
   | .str l=>((l.length:Nat):Int)<=9223372036854775807/\K (.sl 1 (J8 l))
   | _=>False
  | _,_=>False
 | _=>False
def zhx (P:Program) (bx:List (List C)) (s d:TypeId) (i off n:Nat) (K:C->Prop):Prop:=
 match lay P d,lay P s with
 | some ⟨.str,_,_,_⟩,some ⟨.slice e,_,_,_⟩=>match lay P e with
  | some ⟨.int .u8,_,_,_⟩=>match bx[i]? with
   | some cs=>∃ l:Lz,l.length=n/\(cs.drop off).take n=l.map (fun b=>C.sc (.int .u8 (b.toNat:Int)))/\K (.str l)
   | none=>False
  | _=>False
 | _,_=>False
def zbF (P:Program) (bx:List (List C)) (s d:TypeId) (c:C) (K:C->Prop):Prop:=
 match c with
 | .bs i off _ n _=>zhx P bx s d i off n K
 | c=>zj1 P s d c K
theorem zkB {o:Nat}:∀ {l:Lz},zZ R (J8 l) 1 b o->∀ j (hj:j<l.length),R.w.cell? ((⟨b,o,none⟩:Addr).add j)=some (.int .u8 (l[j].toNat:Int)):=fun {l} h j hj=>by
 obtain ⟨_,h2⟩:=jA h j [.sc (.int .u8 (l[j].toNat:Int))] (by simp[J8,Wa hj]);obtain ⟨⟨v,h3,_,h4,_⟩,_⟩:=qu.1 h2;rw[zt]at h4;subst h4;rw[Addr.add_none];simpa using h3
theorem zgq {s d:TypeId} (ho:o.op = .convert s d x) (K:C->Prop) (h:zj1 P s d (ev x) K):∃ c,zG P G bx ev nx o c nx/\K c:=by
 unfold zj1 at h;split at h
 ·rename_i k s1 b1 z1 hd;have hu:=VQ hd rfl;split at h
  ·rename_i k0 n hev;split at h<;>try exact h.elim
   rename_i Ls hls;refine ⟨_,.of_same fun B R L ρ hf hr=>?_,h.2⟩;have hx:=hr x;rw[hev,zt]at hx;obtain ⟨ds,hds⟩:=AM.mp (zkt hls);refine ⟨.int k n,?_,zt.2 rfl⟩;unfold execOp;simp[ho,hx,convert,WE hds,WE hu,Conv.intToInt,Q9 h.1]
  ·exact h.elim
 ·rename_i s1 b1 z1 hd;have hu:=ZA hd rfl;split at h
  ·rename_i s2 b2 z2 hs;have hus:=ZA hs rfl;split at h
   ·rename_i l hev;refine ⟨_,.of_same fun B R L ρ hf hr=>?_,h⟩;have hx:=hr x;rw[hev,z7]at hx;refine ⟨.string ⟨l.toArray⟩,?_,z7.2 rfl⟩;unfold execOp;simp[ho,hx,convert,WE hus,WE hu]
   ·exact h.elim
  ·rename_i e s2 b2 z2 hs;have hus:=qi hs rfl;split at h
   ·rename_i s3 b3 z3 he;have hue:=VQ he rfl;split at h
    ·rename_i rows hrows;obtain ⟨l,rfl,hK⟩:=h;refine ⟨_,.of_same fun B R L ρ hf hr=>?_,hK⟩;obtain ⟨a,cap,e1,h1,h2,h3⟩:=(hr x).rows hrows;have hlen:(J8 l).length=l.length:=by simp[J8]
     refine ⟨.string ⟨l.toArray⟩,?_,z7.2 rfl⟩;have hrun:(convert s d (ρ x)).run P R.w = .ok (.string ⟨l.toArray⟩) R.w:=by
      rw[e1,hlen];cases a with
      | none =>
       have hl0:l = []:=by
        rcases h3 with h3 | ⟨b,o,h3,_⟩
        ·simpa [J8] using h3
        ·cases h3
       subst hl0;exact run_convert_bytes_nil R.w s e hus hue _ _ d hu
      | some ad =>
       refine run_convert_bytes_back R.w s d e ad cap l hus hue hu fun j hj=>?_;rcases h3 with h3 | ⟨b,o,h3,h4⟩
       ·have:l = []:=by simpa [J8] using h3
        subst this;simp at hj
       ·cases h3;exact zkB h4 j hj
     unfold execOp;simp only[ho];rw[Wo,hrun];rfl
    ·exact h.elim
   ·exact h.elim
  ·rename_i k2 s2 b2 z2 hs;have hus:=VQ hs rfl;split at h
   ·rename_i k0 n hev;refine ⟨_,.of_same fun B R L ρ hf hr=>?_,h⟩;have hx:=hr x;rw[hev,zt]at hx;refine ⟨.string (Utf8.encode n),?_,z7.2 (by simp)⟩;unfold execOp;simp[ho,hx,convert,WE hus,WE hu,Conv.intToString]
   ·exact h.elim
  ·exact h.elim
 ·rename_i e s1 b1 z1 hd;have hu:=qi hd rfl;split at h
  ·rename_i s2 b2 z2 s3 b3 z3 hs he;have hus:=ZA hs rfl;have hue:=VQ he rfl;split at h
   ·rename_i l hev;obtain ⟨hsz,hK⟩:=h;refine ⟨_,⟨Wc _,fun B R L ρ hf hfree hr=>?_⟩,hK⟩;have hx:=hr x;rw[hev,z7]at hx;have hls:(ByteArray.mk l.toArray).size=l.length:=by simp[ByteArray.size]
    have hrun:=run_bytes_of_string (P:=P) R.w s d e ⟨l.toArray⟩ hus hu hue;have hbelow:Below R.w.heap.size R.w (R.w.drew.alloc (.cells (bytesRow ⟨l.toArray⟩ (grownCap R.w (ByteArray.mk l.toArray).size 0 e)) e ((bytesRow ⟨l.toArray⟩ (grownCap R.w (ByteArray.mk l.toArray).size 0 e)).size,(bytesRow ⟨l.toArray⟩ (grownCap R.w (ByteArray.mk l.toArray).size 0 e)).size+1))):=
     ((Oa _ _).drew).alloc (Wc _) _
    have hge:=A1 R.w l.length 0 e;refine jo.value (w':=R.w.drew.alloc (.cells (bytesRow ⟨l.toArray⟩ (grownCap R.w (ByteArray.mk l.toArray).size 0 e)) e ((bytesRow ⟨l.toArray⟩ (grownCap R.w (ByteArray.mk l.toArray).size 0 e)).size,(bytesRow ⟨l.toArray⟩ (grownCap R.w (ByteArray.mk l.toArray).size 0 e)).size+1))) (v:=.slice (some ⟨R.w.heap.size,0,none⟩) (ByteArray.mk l.toArray).size (grownCap R.w (ByteArray.mk l.toArray).size 0 e)) ?_ ⟨_,L,rfl,qH.mem hbelow,?_⟩
    ·unfold execOp;simp only[ho,hx];rw[Wo,hrun];rfl
    ·rw[hls];refine G4.2 ⟨some ⟨R.w.heap.size,0,none⟩,grownCap R.w l.length 0 e,by simp[J8],by simpa [J8] using hge,O7 _ _ _ _ (by unfold maxLen;omega),?_⟩;by_cases h0:J8 l = []
     ·exact .inl h0
     ·refine .inr ⟨R.w.heap.size,0,rfl,jf fun i row hrow=>?_⟩;simp only[J8,WA]at hrow;cases hq:l[i]? with
      | none=>simp[hq]at hrow
      | some bt =>
       simp[hq]at hrow;subst hrow;refine ⟨rfl,qu.2 ⟨⟨.int .u8 (bt.toNat:Int),?_,fun hm=>by have:=hm.1;omega,zt.2 rfl,rfl⟩,Jn⟩⟩;have hh:=ON R.w.drew (.cells (bytesRow ⟨l.toArray⟩ (grownCap R.w l.length 0 e)) e ((bytesRow ⟨l.toArray⟩ (grownCap R.w l.length 0 e)).size,(bytesRow ⟨l.toArray⟩ (grownCap R.w l.length 0 e)).size+1));rw[Aj _ R.w.heap.size (0+i*1) _ _ _ hh];have hi:i<l.length:=(Wd.1 hq).1;unfold bytesRow;rw[Ox,Nat.mul_one,Array.getElem?_append_left (by simpa using hi)];simp[hq]
   ·exact h.elim
  ·exact h.elim
 ·exact h.elim
theorem zc6 {s d:TypeId} (ho:o.op = .convert s d x) (K:C->Prop) (h:zbF P bx s d (ev x) K):∃ c,zG P G bx ev nx o c nx/\K c:=by
 unfold zbF at h;split at h
 ·rename_i i off k n cap hev;unfold zhx at h;split at h<;>try exact h.elim
  rename_i s1 b1 z1 e s2 b2 z2 hd hs;have hu:=ZA hd rfl;have hus:=qi hs rfl;split at h<;>try exact h.elim
  rename_i s3 b3 z3 he;have hue:=VQ he rfl;split at h<;>try exact h.elim
  rename_i cs hcs;obtain ⟨l,rfl,hl,hK⟩:=h;refine ⟨_,.of_same fun B R L ρ hf hr=>?_,hK⟩;have hx:=hr x;rw[hev,jv]at hx;obtain ⟨b,hb,ad,e1,had⟩:=hx;obtain ⟨vs,ty,h1,h2,h3,_⟩:=hf.boxes.box i b cs hb hcs;refine ⟨.string ⟨l.toArray⟩,?_,z7.2 rfl⟩;have hrun:(convert s d (ρ x)).run P R.w = .ok (.string ⟨l.toArray⟩) R.w:=by
   rw[e1];refine run_convert_bytes_back R.w s d e ad cap l hus hue hu fun j hj=>?_;obtain rfl:=had (by omega);have hcj:cs[off+j]?=some (.sc (.int .u8 (l[j].toNat:Int))):=by
    have:=Wu (·[j]?) hl;simp only[WK,if_pos hj,Ob,WA,Wa hj]at this;exact this
   obtain ⟨v,hv,hrep⟩:=JB h2 _ _ hcj;rw[zt]at hrep;subst hrep;rw[Addr.add_none,Aj R.w b (off+j) vs ty (0,0) h1];simpa using hv
  unfold execOp;simp only[ho];rw[Wo,hrun];rfl
 ·exact zgq ho K h
def zcH (P:Program) (t:TypeId) (rows:List (List C)) (K:C->Prop):Prop:=
 match lay P t with
 | some ⟨.slice _,_,_,_⟩=>K (.sc (.int .i64 (rows.length:Int)))
 | _=>False
def zsv (P:Program) (t:TypeId) (c:C) (K:C->Prop):Prop:=
 match c with
 | .str l=>match lay P t with
  | some ⟨.str,_,_,_⟩=>K (.sc (.int .i64 (l.length:Int)))
  | _=>False
 | .sl _ rows=>zcH P t rows K
 | .tight _ rows=>zcH P t rows K
 | .own _ _ _ rows=>zcH P t rows K
 | .sc (.slice none 0 0)=>match lay P t with
  | some ⟨.slice _,_,_,_⟩=>K (.sc (.int .i64 0))
  | _=>False
 | .bs _ _ _ n _=>match lay P t with
  | some ⟨.slice _,_,_,_⟩=>K (.sc (.int .i64 (n:Int)))
  | _=>False
 | .mo _ t' _ vs=>zpl P t t' vs K
 | _=>False
theorem zcH.out {rows:List (List C)} {K:C->Prop} (h:zcH P t rows K):(∃ e,P.underlying t=some (.slice e))/\K (.sc (.int .i64 (rows.length:Int))):=by
 unfold zcH at h;split at h
 ·rename_i hl;exact ⟨⟨_,qi hl rfl⟩,h⟩
 ·exact h.elim
theorem zcm (h:P.underlying t=some (.slice e)) (w:World) (a:Option Addr) (n c:Nat):(Builtin.len_ #[t] ty #[.slice a n c]).run P w = .ok (goInt n) w:=by
 simp[Builtin.len_,WE h]
theorem zlw (ho:o.op = .call { callee:=.builtin .len,args:=#[x],argTypes:=#[t] }) (K:C->Prop) (h:zsv P t (ev x) K):∃ c,zG P G bx ev nx o c nx/\K c:=by
 have key:∀ (n:Nat),K (.sc (.int .i64 (n:Int)))->(∃ e,P.underlying t=some (.slice e))->(∀ (R:Env) (L:Loc) v,Rep R L (ev x) v->∃ a c,v = .slice a n c)->∃ c,zG P G bx ev nx o c nx/\K c:=fun n hK ⟨e,he⟩ hv =>
  ⟨_,.of_same fun B R L ρ hf hr=>by
   obtain ⟨a,c,e1⟩:=hv R L _ (hr x);refine ⟨.int .i64 (n:Int),?_,zt.2 rfl⟩;unfold execOp;simp only[ho,resolve,invoke,builtin,Wo,WD,Wi,OG,Wq,WL,e1,zcm he]
   rfl,hK⟩
 unfold zsv at h;split at h
 ·rename_i l hev;split at h<;>try exact h.elim
  rename_i hls;refine ⟨_,.of_same fun B R L ρ hf hr=>?_,h⟩;have hx:=hr x;rw[hev,z7]at hx;refine ⟨.int .i64 (l.length:Int),?_,zt.2 rfl⟩;have hsz:(ByteArray.mk l.toArray).size=l.length:=by simp[ByteArray.size]
  unfold execOp;simp only[ho,resolve,invoke,builtin,Wo,WD,Wi,OG,Wq,WL,hx,run_len_string R.w t _ _ (ZA hls rfl),hsz]
  rfl
 ·rename_i k rows hev;refine key rows.length h.out.2 h.out.1 fun R L v hv=>?_;rw[hev]at hv;obtain ⟨a,cap,e1,_⟩:=G4.1 hv;exact ⟨a,cap,e1⟩
 ·rename_i k rows hev;refine key rows.length h.out.2 h.out.1 fun R L v hv=>?_;rw[hev]at hv;obtain ⟨a,e1,_⟩:=JK.1 hv;exact ⟨a,_,e1⟩
 ·rename_i id e k rows hev;refine key rows.length h.out.2 h.out.1 fun R L v hv=>?_;rw[hev]at hv;obtain ⟨_,a,cap,e1,_⟩:=Y5.1 hv;exact ⟨a,_,e1⟩
 ·rename_i hev;split at h<;>try exact h.elim
  rename_i hls;refine key 0 h ⟨_,qi hls rfl⟩ fun R L v hv=>?_;rw[hev,zt]at hv;exact ⟨none,0,hv⟩
 ·rename_i i0 off0 k0 n0 c0 hev;split at h<;>try exact h.elim
  rename_i hls;refine key n0 h ⟨_,qi hls rfl⟩ fun R L v hv=>?_;rw[hev,jv]at hv;obtain ⟨b,_,ad,e1,_⟩:=hv;exact ⟨_,_,e1⟩
 ·rename_i id t' ks vs hev;exact zgR ho hev K h
 ·exact h.elim
def VN (P:Program) (t:TypeId) (s x:C) (nx:Nat) (K:C->Nat->Prop):Prop:=
 match lay P t with
 | some ⟨.slice e,_,_,_⟩=>match lay P e with
  | some ⟨_,k,by',some z⟩=>match x.rows? k with
   | some xs=>match s with
    | .sc (.slice none 0 0)=>z.length=k/\0<k/\xs.length<=9223372036854775807/\xs.length*by'<=140737488355328/\K (.own nx e k xs) (nx+1)
    | .tight k' rows=>k'=k/\z.length=k/\0<k/\rows.length+xs.length<=9223372036854775807/\(rows.length+xs.length)*by'<=140737488355328/\(xs = []->K (.tight k' rows) nx)/\(xs≠[]->K (.own nx e k (rows++xs)) (nx+1))
    | _=>False
   | none=>False
  | _=>False
 | _=>False
theorem jU {i:TypeInfo} (ht:P.underlying t=some (.slice e)) (hi:P.info? e=some i) (w:World) (a b:Option Addr) (n c c':Nat) (hc:n<=c) :
  (Builtin.append_ #[t,t] ty #[.slice a n c,.slice b 0 c']).run P w = .ok (.slice a n c) w:=by
 cases a<;>cases b<;>simp[Builtin.append_,WE ht,sizeOf,typeInfo,hi,Builtin.lenOf,Builtin.firstCells,loadCells,loadCellsFrom,hc,storeCells]
theorem X5 {i:TypeInfo} {z:Value} (ht:P.underlying t=some (.slice e)) (hi:P.info? e=some i) (hz:i.zero=some z) (w:World)
  (b:Option Addr) (n:Nat) (olds:List Value) (hlo:olds.length=n*i.size) (holds:n=0∨∃ ad,b=some ad/\∀ (j:Nat) v,olds[j]?=some v->w.cell? (ad.add j)=some v)
  (a:Addr) (m c:Nat) (news:List Value) (hl:news.length=m*i.size) (hnews:∀ (j:Nat) v,news[j]?=some v->w.cell? (a.add j)=some v)
  (hm:0<m) (h63:n+m<=9223372036854775807) (hby:(n+m)*i.bytes<=140737488355328) :
  (Builtin.append_ #[t,t] ty #[.slice b n n,.slice (some a) m c]).run P w =
   .ok (.slice (some ⟨w.heap.size,0,none⟩) (n+m) (grownCap w (n+m) n e)) (w.drew.alloc (.cells (olds.toArray++news.toArray++Builtin.zeroCells z.cells (grownCap w (n+m) n e-(n+m))) e)):=by
 have hfit:=Bh (need:=n+m) (old:=n) (bytes:=i.bytes) (by omega) hby;rcases b with _ | ad
 ·have hn0:n=0:=by
   rcases holds with h | ⟨ad,h,_⟩
   ·exact h
   ·cases h
  subst hn0;have ho:olds = []:=W6 (by simpa using hlo);subst ho;have:=BZ (P:=P) w t ty e i z ht hi hz a m c news hl hnews hm (by omega) (by rw[Ox]at hby;omega);simpa using this
 ·rcases holds with h | ⟨ad',h,hh⟩
  ·subst h;have ho:olds = []:=W6 (by simpa using hlo);subst ho;exact Bw (P:=P) w t ty e i z ht hi hz ad 0 0 [] (by simp) (fun j v h=>by simp at h) a m c news hl hnews (by omega) (by omega) hfit
  ·cases h;exact Bw (P:=P) w t ty e i z ht hi hz ad n n olds hlo hh a m c news hl hnews (by omega) (by omega) hfit
theorem uz {s:Operand} (ho:o.op = .call { callee:=.builtin .append,args:=#[s,x],argTypes:=#[t,t] }) (K:C->Nat->Prop) (h:VN P t (ev s) (ev x) nx K):∃ c nx',zG P G bx ev nx o c nx'/\K c nx':=by
 unfold VN at h;split at h
 ·rename_i e s1 b1 z1 hl;have ht:=qi hl rfl;split at h
  ·rename_i kd k by' z hle;obtain ⟨i,d,hi,hd,_,hsz,hbyt,hzz⟩:=qr hle;simp only at hsz hbyt hzz;split at h
   ·rename_i xs hxs;have key:∀ (rows:List (List C)),z.length=k->0<k->rows.length+xs.length<=9223372036854775807->(rows.length+xs.length)*by'<=140737488355328->xs≠[] ->
      (∀ (R:Env) (L:Loc) v,Rep R L (ev s) v->∃ a,v = .slice a rows.length rows.length/\(rows = []∨∃ b o,a=some ⟨b,o,none⟩/\zZ R rows k b o))->zG P G bx ev nx o (.own nx e k (rows++xs)) (nx+1):=by
     intro rows hzk hk0 h63 hby hne hsv;refine ⟨by omega,fun B R L ρ hf hfree hr=>?_⟩;obtain ⟨a,es,hrows⟩:=hsv R L _ (hr s);obtain ⟨ax,capx,ex,hx1,hx2,hx3⟩:=(hr x).rows hxs;rcases hx3 with hx3 | ⟨bb,off,rfl,hxr⟩
     ·exact absurd hx3 hne
     ·cases hiz:i.zero with
      | none=>simp[hiz]at hzz
      | some zv =>
       simp only[hiz,WN,Option.some.injEq]at hzz;obtain ⟨hxc,hxl⟩:=qW hxr;obtain ⟨news,n1,n2,n3⟩:=j0 hxc;have hnl:=zx n2;have hrs:∃ olds:List Value,zy R zP rows.flatten olds/\(∀ v∈olds,v.oneCell'=true)/\olds.length=rows.length*k/\(∀ r∈rows,r.length=k)/\(rows.length=0∨∃ ad,a=some ad/\∀ (j:Nat) v,olds[j]?=some v->R.w.cell? (ad.add j)=some v):=by
        rcases hrows with rfl | ⟨b,o',rfl,hrr⟩
        ·exact ⟨[],zo.2 rfl,fun v h=>by (cases h),by simp,fun r h=>by (cases h),.inl rfl⟩
        ·obtain ⟨h1,h2⟩:=qW hrr;obtain ⟨olds,o1,o2,o3⟩:=j0 h1;refine ⟨olds,o2,o3,by rw[zx o2,h2],fun r hr=>?_,.inr ⟨_,rfl,fun j v hj=>by rw[Addr.add_none];exact o1 j v hj⟩⟩;obtain ⟨i,hi,rfl⟩:=Wt hr;exact (jA hrr i _ (Wa hi)).1
       obtain ⟨olds,p1,p2,p3,p4,p5⟩:=hrs;have hrun:=X5 (P:=P) (ty:=o.type) ht hi hiz R.w a rows.length olds (by rw[p3,hsz]) p5 ⟨bb,off,none⟩ xs.length capx news (by rw[hnl,hxl,hsz]) (fun j v hj=>by rw[Addr.add_none];exact n1 j v hj)
        (WI.2 hne) h63 (by rw[←hbyt];exact hby)
       have hxk:∀ r∈xs,r.length=k:=fun r hr=>by
        obtain ⟨i,hi,rfl⟩:=Wt hr;exact (jA hxr i _ (Wa hi)).1
       have hall:∀ r∈rows++xs,r.length=k:=fun r hr=>by
        rcases WC.1 hr with hr | hr
        ·exact p4 r hr
        ·exact hxk r hr
       have hlen:(rows++xs).length=rows.length+xs.length:=Wn;have hge:=A1 R.w (rows.length+xs.length) rows.length e;have hzc:zv.cells.size=k:=by rw[←hzk,hzz];simp
       obtain ⟨R',L',w1,w2,w3⟩:=own_new (R:=R) (L:=L) (w':=R.w.drew.alloc (.cells (olds.toArray++news.toArray++Builtin.zeroCells zv.cells (grownCap R.w (rows.length+xs.length) rows.length e-(rows.length+xs.length))) e))
        (g:=R.w.heap.size) (cap:=grownCap R.w (rows.length+xs.length) rows.length e) (e:=e) (k:=k) (nx:=nx) (rows:=rows++xs) (vs:=olds++news) hf.β_lt
        (((Oa _ _).drew).alloc (Wc _) _) (Wc _) (ON _ _) (by
         simp only[Array.size_append,BE,AA,hzc,p3,hnl,hxl,←Oq];congr 1;omega) hall (by rw[A6];exact zq p1 n2) (fun v hv=>by
         rcases WC.1 hv with hv | hv
         ·exact p2 v hv
         ·exact n3 v hv) (by
         rw[hlen,Oq,←p3,←hxl,←hnl];simp only[Ol];rw[←Wn,OK];simp) (by rw[hlen];exact hge) (O7 _ _ _ _ (by unfold maxLen;omega))
       rw[hlen]at w3;refine jo.value ?_ ⟨R',L',w1,w2,w3⟩;unfold execOp;simp only[ho,resolve,invoke,builtin,Wo,WD,Wi,OG,Wq,WL,es,ex,hrun]
    split at h
    ·rename_i hev;obtain ⟨hzk,hk0,h63,hby,hK⟩:=h;refine ⟨_,_,?_,hK⟩;by_cases hne:xs = []
     ·subst hne;refine ⟨by omega,fun B R L ρ hf hfree hr=>?_⟩;have hs:=hr s;rw[hev,zt]at hs;obtain ⟨ax,capx,ex,_⟩:=(hr x).rows hxs;obtain ⟨R',L',w1,w2,w3⟩:=zoL (R:=R) (L:=L) (e:=e) (k:=k) (nx:=nx);refine jo.value (w':=R.w) (v:=.slice none 0 0) ?_ ⟨R',L',w1,w2,w3⟩;unfold execOp;simp only[ho,resolve,invoke,builtin,Wo,WD,Wi,OG,Wq,WL,hs,ex];simp only[WG,jU ht hi R.w none ax 0 0 capx (Wc _),Wi]
     ·have:=key [] hzk hk0 (by simpa using h63) (by simpa using hby) hne fun R L v hv=>⟨none,by rw[hev,zt]at hv;simpa using hv,.inl rfl⟩;simpa using this
    ·rename_i k' rows hev;obtain ⟨rfl,hzk,hk0,h63,hby,hK0,hK⟩:=h;by_cases hne:xs = []
     ·refine ⟨_,_,⟨by omega,fun B R L ρ hf hfree hr=>?_⟩,hK0 hne⟩;subst hne;have hs:=hr s;rw[hev]at hs;obtain ⟨a,e1,e0,e2⟩:=JK.1 hs;obtain ⟨ax,capx,ex,_⟩:=(hr x).rows hxs;refine jo.value (w':=R.w) (v:=.slice a rows.length rows.length) ?_ ⟨R,L,rfl,qH.refl _ _ _,JK.2 ⟨a,rfl,e0,e2⟩⟩;unfold execOp;simp only[ho,resolve,invoke,builtin,Wo,WD,Wi,OG,Wq,WL,e1,ex];simp only[WG,jU ht hi R.w a ax rows.length rows.length capx (Wc _),Wi]
     ·refine ⟨_,_,key rows hzk hk0 h63 hby hne fun R L v hv=>?_,hK hne⟩;rw[hev]at hv;obtain ⟨a,e1,_,e2⟩:=JK.1 hv;exact ⟨a,e1,e2⟩
    ·exact h.elim
   ·exact h.elim
  ·exact h.elim
 ·exact h.elim
end
end
section
open Go.RowKit
section
variable {P:Program} {G:zu} {bx:List (List C)} {ev:Operand->C} {nx:Nat} {o:Oper}
def Y9 (P:Program) (f:FuncId):Bool:=match P.funcs[f]? with | some fn=>!(fn.name == "runtime.NumGoroutine")&&fn.body.isSome | none=>false
def Fun (P:Program) (G:zu) (f:FuncId) (args:List C) (r:C) (n:Nat):Prop:=
 Y9 P f=true/\∀ (R:Env) (vs:List Value),X7 G R->zy R zP args vs ->
  Calls P f vs.toArray R.w fun e w'=>∃ v R' L',e = .returned v/\R'.w=w'/\qH 0 n R zP R' L'/\Rep R' L' r v
theorem Fun.bySlice {f:FuncId} {rows:List (List C)} {rest:List C} {r:C} (h1:rows≠[]->Fun P G f (.sl k rows :: rest) r n)
  (h2:rows = []->∀ a cap,(∀ k,C.rows? k (.sc (.slice a 0 cap))=some [])->Fun P G f (.sc (.slice a 0 cap) :: rest) r n):Fun P G f (.sl k rows :: rest) r n:=by
 by_cases h:rows = []
 ·have hn:=h2 h none 0 (fun k=>rfl);refine ⟨hn.1,fun R vs hg hv=>?_⟩;obtain ⟨v,us,rfl,hv,hus⟩:=zi.1 hv;unfold Rep at hv;obtain ⟨a,cap,e,_,hc,_⟩:=hv;rw[h]at e;refine (h2 h a cap (fun k=>?_)).2 R _ hg (zi.2 ⟨v,us,rfl,zt.2 e,hus⟩);cases a with
  | none=>cases cap with
   | zero=>rfl
   | succ c=>simp[C.rows?,hc]
  | some a=>simp[C.rows?,hc]
 ·exact h1 h
theorem ZO {f:FuncId} (h:Y9 P f=true) (args:Array Value) (w:World):(callFunc f args).run P w = .ok (.enter f args) w:=by
 unfold Y9 at h;split at h
 ·rename_i fn hf;simp only[Wp,OQ]at h;obtain ⟨c,hc⟩:=AM.mp h.2;have h1:fn.name ≠ "runtime.NumGoroutine":=by simpa using h.1
  simp[callFunc,hf,h1,hc]
 ·cases h
theorem qH.caller {nx:Nat} (hβ:∀ b∈L.β,b<R.w.heap.size) (h:qH 0 n R zP R' L') :
  qH nx (nx+n) R L R' ⟨L.β,fun id=>if nx<=id/\id<nx+n then L'.T (id-nx) else L.T id⟩:=by
 refine ⟨h.below,h.fgn,rfl,h.mt,fun id hi=>if_neg (by omega),fun id e k v hi hj ht=>?_,fun id id' e k v e' k' v' b hi hi2 hj hj2 h1 h2 h3 h4=>?_⟩
 ·simp only at ht;rw[if_pos ⟨hi,hj⟩]at ht;exact (h.new (id-nx) e k v (Wb _) (by omega) ht).move fun g _ e2 _ _=>⟨e2,rfl,fun hx=>by have:=hβ g hx;have e2:R.w.heap.size<=g:=e2;omega,fun _ h=>h⟩
 ·simp only at h1 h2;rw[if_pos ⟨by omega,by omega⟩]at h1 h2;have:=h.apart (id-nx) (id'-nx) e k v e' k' v' b (Wb _) (by omega) (Wb _) (by omega) h1 h2 h3 h4;omega
def yN (P:Program) (G:zu) (callee:C) (args:List C) (nx:Nat) (K:C->Nat->Prop):Prop:=
 match callee with
 | .clo (.func f) first cap=>∃ r n,Fun P G f (C.frzL (first++args++cap)) r n/\K (r.sh nx) (nx+n)
 | _=>False
theorem zct {c:Call} (ho:o.op = .call c) (hc:c.callee = .value f) (K:C->Nat->Prop) (h:yN P G (ev f) (c.args.toList.map ev) nx K):∃ r nx',zG P G bx ev nx o r nx'/\K r nx':=by
 unfold yN at h;split at h
 ·rename_i fid first cap hev
  obtain ⟨r,n,hfun,hK⟩:=h;refine ⟨_,_,⟨by omega,fun B R L ρ hf hfree hr=>?_⟩,hK⟩;have hx:=hr f;rw[hev,YM]at hx;obtain ⟨fs,cs,e1,h1,h2⟩:=hx;have hargs:zy R zP (C.frzL (first++c.args.toList.map ev++cap)) (fs.toList++c.args.toList.map ρ++cs.toList):=
   zy.frz zP _ _ (zq (zq h1 (YZ hr _)) h2)
  have hcall:=hfun.2 R _ hf.glob hargs;have hrun:(execOp ρ o).run P R.w = .ok (.enter fid (fs.toList++c.args.toList.map ρ++cs.toList).toArray) R.w:=by
   unfold execOp;simp only[ho,resolve,hc,e1];have e2:(Deferred.ofValue (.func (.func fid) fs cs) (c.args.map ρ)).run P R.w = .ok { target:=.fn (.func fid) cs,args:=fs++c.args.map ρ } R.w:=by
    simp[Deferred.ofValue]
   rw[Wo,e2];simp only[Wi,invoke];rw[ZO hfun.1];congr 2;apply BA;simp
  unfold jo;rw[hrun];refine hcall.mono fun e w'=>?_;rintro ⟨v,R',L',rfl,hw,hst,hrep⟩;have hst':=hst.caller (nx:=nx) hf.β_lt;refine ⟨v,rfl,R',_,hw,hst',?_⟩;refine Rep.sh (fun i b hb=>?_) (fun i x hi=>?_) _ _ hrep
  ·rw[hst.box]at hb;simp at hb
  ·show (if nx<=nx+i/\nx+i<nx+n then L'.T (nx+i-nx) else _)=some x;have hin:i<n:=by
    rcases Wr i n with h | h
    ·exact h
    ·rw[hst.old i (.inr h)]at hi;cases hi
   rw[if_pos ⟨by omega,by omega⟩,O3];exact hi
 ·exact h.elim
def zpH (x y:C) (K:C->Prop):Prop:=match x,y with
 | .sc (.int k n),.sc (.int _ m)=>K (.sc (.int k (if m>n then m else n)))
 | _,_=>False
theorem zi4 {t':TypeId} {y:Operand} (ho:o.op = .call { callee:=.builtin .max,args:=#[x,y],argTypes:=#[t,t'] }) (K:C->Prop) (h:zpH (ev x) (ev y) K):∃ c,zG P G bx ev nx o c nx/\K c:=by
 unfold zpH at h;split at h
 ·rename_i k n k' m hx hy;refine ⟨_,.of_same fun B R L ρ hf hr=>?_,h⟩;have h1:=hr x;have h2:=hr y;rw[hx,zt]at h1;rw[hy,zt]at h2;refine ⟨_,?_,zt.2 rfl⟩;unfold execOp;simp only[ho,resolve,invoke,builtin,Wo,WD,Wi,OG,Wq,WL,h1,h2,run_max_int2]
 ·exact h.elim
def Hs (P:Program) (b:Builtin) (ev:Operand->C) (args:List Operand) (tys:List TypeId) (nx:Nat) (K:C->Nat->Prop):Prop:=
 match b,args,tys with
 | .len,[x],[t]=>zsv P t (ev x) fun c=>K c nx
 | .append,[s,x],[t,t']=>t'=t/\VN P t (ev s) (ev x) nx K
 | .max,[x,y],[_,_]=>zpH (ev x) (ev y) fun c=>K c nx
 | _,_,_=>False
def xk (P:Program) (G:zu) (ev:Operand->C) (c:Call) (nx:Nat) (K:C->Nat->Prop):Prop:=
 match c.callee with
 | .value f=>yN P G (ev f) (c.args.toList.map ev) nx K
 | .builtin b=>Hs P b ev c.args.toList c.argTypes.toList nx K
 | _=>False
def UM:List C->List C->Prop
 | [],[]=>True
 | .sc u :: r,.sc v :: s=>u=v/\UM r s
 | .str a :: r,.str b :: s=>a=b/\UM r s
 | _,_=>False
theorem VY {R R':Env} {L L':Loc}:∀ {cs ds:List C} {vs us:List Value},UM cs ds->zy R L cs vs->zy R' L' ds us->vs=us
 | [],[],vs,us,_,h1,h2=>by rw[zo]at h1 h2;rw[h1,h2]
 | .sc u :: r,.sc v :: s,vs,us,h,h1,h2=>by
  obtain ⟨e,h⟩:=h;obtain ⟨v1,w1,rfl,a1,b1⟩:=zi.1 h1;obtain ⟨v2,w2,rfl,a2,b2⟩:=zi.1 h2;rw[zt]at a1 a2;rw[a1,a2,e,VY h b1 b2]
 | .str a :: r,.str b :: s,vs,us,h,h1,h2=>by
  obtain ⟨e,h⟩:=h;obtain ⟨v1,w1,rfl,a1,b1⟩:=zi.1 h1;obtain ⟨v2,w2,rfl,a2,b2⟩:=zi.1 h2;rw[z7]at a1 a2;rw[a1,a2,e,VY h b1 b2]
def zno (P:Program) (t:TypeId) (p c:C) (bx:List (List C)) (K:C->Prop):Prop:=
 match lay P t,p with
 | some L,.ptr i off=>match bx[i]? with
  | some cs=>c.partB=true/\(c.cells.all C.cellB)=true/\c.cells.length=L.size/\off+L.size<=cs.length/\UM ((cs.drop off).take L.size) c.cells/\K .any
  | none=>False
 | _,_=>False
theorem zil {p:Operand} (ho:o.op = .store t p x) (K:C->Prop) (h:zno P t (ev p) (ev x) bx K):∃ c,zG P G bx ev nx o c nx/\K c:=by
 unfold zno at h;split at h
 ·rename_i Ly i off hl hev;split at h
  ·rename_i cs hcs;obtain ⟨h1,h2,h3,h4,h5,hK⟩:=h;refine ⟨_,⟨Wc _,fun B R L ρ hf _ hr=>?_⟩,hK⟩;have hp:=hr p;rw[hev,Jv]at hp;obtain ⟨b,hb,hpv⟩:=hp;have hx:=Qp (hr x) h1;obtain ⟨vs,ty,e1,e2,e3,e4⟩:=hf.boxes.box i b cs hb hcs;have hxl:=zx hx;have hvl:=zx e2;simp only[WY]at hxl hvl;have hone:=XI hx h2;have hst:=AQ P b off ty (ρ x).cells.toList 0 vs R.w e1 (by simp;omega) hone;simp only[An]at hst;have hsame:=VY h5 (qM Ly.size (qY off e2)) hx;have hrow:(vs.toList.take off++(ρ x).cells.toList++vs.toList.drop (off+(ρ x).cells.toList.length))=vs.toList:=by
    have hlen:(ρ x).cells.toList.length=Ly.size:=by simp;omega
    rw[hlen,←hsame,WH,←Ay,Od,Od]
   rw[hrow]at hst;simp only[Array.toArray_toList]at hst;rw[setRow_self R.w b vs ty (0,0) e1]at hst;unfold jo;have hrun:(execOp ρ o).run P R.w = .ok .skip R.w:=by
    have hsz:=qO hl R.w;unfold execOp;simp only[ho,hpv,Instr.storeAt,Instr.sureAddr,storeVar,Wo,WD,Wi,hsz];rw[if_neg (by omega)];simp only[Wo,hst,Wi,WD]
   rw[hrun];exact ⟨R,L,rfl,qH.refl _ _ _,by unfold Rep;trivial⟩
  ·exact h.elim
 ·exact h.elim
def JN (P:Program) (G:zu) (bx:List (List C)) (ev:Operand->C) (op:Op) (nx:Nat) (K:C->Nat->Prop):Prop:=
 match op with
 | .move x=>K (ev x) nx
 | .assign x=>K (ev x) nx
 | .pick c a b=>ABr (ev c) (K (ev a) nx) (K (ev b) nx)
 | .build t parts=>za1 P t (parts.toList.map fun p=>(p.1,ev p.2)) fun c=>K c nx
 | .buildSlice t n parts=>N1 P t n (parts.toList.map fun p=>(p.1,ev p.2)) nx K
 | .load t a=>vk P t (ev a) bx fun c=>K c nx
 | .nilCheck x=>zsC (ev x) fun c=>K c nx
 | .binOp op t x y _=>zpz P t op (ev x) (ev y) fun c=>K c nx
 | .unOp op _ x=>aUn op (ev x) fun c=>K c nx
 | .convert s d x=>zbF P bx s d (ev x) fun c=>K c nx
 | .makeFunc fn first cap=>K (.clo fn (first.toList.map ev) (cap.toList.map ev)) nx
 | .makeSlice t l c=>zev P t (ev l) (ev c) nx K
 | .slice t x lo hi mx=>zaG P t (ev x) (lo.map ev) (hi.map ev) (mx.map ev) fun c=>K c nx
 | .fieldAddr t x f=>QZ P t (ev x) f fun c=>K c nx
 | .field t x f=>za2 P t (ev x) f fun c=>K c nx
 | .indexAddr t x i=>QV P t (ev x) (ev i) fun c=>K c nx
 | .index t x i=>zbq P t (ev x) (ev i) fun c=>K c nx
 | .extract t i=>UW (ev t) i fun c=>K c nx
 | .call c=>xk P G ev c nx K
 | .store t p x=>zno P t (ev p) (ev x) bx fun c=>K c nx
 | .makeMap t r=>N4 P t (r.map ev) nx K
 | .lookup t m k ok=>zoT P t (ev m) (ev k) ok fun c=>K c nx
 | _=>False
theorem Oper.ext {o:Oper} {op:Op} (h:o.op=op):o.op=op:=h
theorem Yu {α:Type} {a:Array α} {x:α} (h:a.toList = [x]):a = #[x]:=by apply BA;simpa using h
theorem qB {α:Type} {a:Array α} {x y:α} (h:a.toList = [x,y]):a = #[x,y]:=by apply BA;simpa using h
theorem one {K:C->Nat->Prop} (h:∃ c,zG P G bx ev nx o c nx/\K c nx):∃ c nx',zG P G bx ev nx o c nx'/\K c nx':=let ⟨c,h1,h2⟩:=h;⟨c,nx,h1,h2⟩
theorem HK (K:C->Nat->Prop) (h:JN P G bx ev o.op nx K):∃ c nx',zG P G bx ev nx o c nx'/\K c nx':=by
 cases ho:o.op<;>rw[ho]at h<;>simp only[JN]at h<;>try exact h.elim
 case move x=>exact ⟨_,_,ziz ho,h⟩
 case assign x=>exact ⟨_,_,ub ho,h⟩
 case pick c a b =>
  obtain ⟨t,ht,h1,h2⟩:=h.out;refine ⟨_,_,ziv ho ht,?_⟩;cases t
  ·exact h2 rfl
  ·exact h1 rfl
 case build t parts=>exact one (zcI ho (fun c=>K c nx) h)
 case buildSlice t n parts=>exact y8 ho K h
 case load t a=>exact one (zhj ho (fun c=>K c nx) h)
 case nilCheck x=>exact one (ziM ho (fun c=>K c nx) h)
 case store t p x=>exact one (zil ho (fun c=>K c nx) h)
 case binOp op t x y t'=>exact one (zlK ho (fun c=>K c nx) h)
 case unOp op t x=>exact one (zoK ho (fun c=>K c nx) h)
 case convert s d x=>exact one (zc6 ho (fun c=>K c nx) h)
 case makeFunc fn first cap=>exact ⟨_,_,zhM ho,h⟩
 case makeSlice t l c=>exact zhS ho K h
 case slice t x lo hi mx=>exact one (zdT ho (fun c=>K c nx) h)
 case fieldAddr t x f=>exact one (H9 ho (fun c=>K c nx) h)
 case field t x f=>exact one (zb7 ho (fun c=>K c nx) h)
 case indexAddr t x i=>exact one (Ge ho (fun c=>K c nx) h)
 case index t x i=>exact one (zcb ho (fun c=>K c nx) h)
 case extract t i=>exact one (xW ho (fun c=>K c nx) h)
 case makeMap t r=>exact xG ho K h
 case lookup t m k ok=>exact one (ze1 ho (fun c=>K c nx) h)
 case call c =>
  unfold xk at h;split at h
  ·rename_i f hc;exact zct ho hc K h
  ·rename_i b hc;unfold Hs at h;obtain ⟨callee,args,argTypes⟩:=c;simp only at hc h;subst hc;split at h
   ·rename_i x t h1 h2;rw[Yu h1,Yu h2]at ho;exact one (zlw ho (fun c=>K c nx) h)
   ·rename_i s x t t' h1 h2;obtain ⟨rfl,h⟩:=h;rw[qB h1,qB h2]at ho;exact uz ho K h
   ·rename_i x y t t' h1 h2;rw[qB h1,qB h2]at ho;exact one (zi4 ho (fun c=>K c nx) h)
   ·exact h.elim
  ·exact h.elim
end
end
section
open Go.RowKit
structure St where
 tm:List (Nat×C)
 bx:List (List C)
 nx:Nat
 lg:Nat
def jZ:List (Nat×C)->Nat->C
 | [],_=>.any
 | (t,c) :: r,u=>if u=t then c else jZ r u
def St.put (σ:St) (dst:Option Tmp) (c:C):St:=match dst with | some d=>⟨(d,c) :: σ.tm,σ.bx,σ.nx,σ.lg⟩ | none=>σ
def Qc (N:Nat) (dst:Option Tmp):Prop:=match dst with | some d=>d<N | none=>True
def zD (G:zu) (tm:List (Nat×C)):Operand->C
 | .tmp t=>jZ tm t
 | .const v=>zE v
 | .global g=>match G g with | some cs=>.row cs | none=>.any
 | .func f=>.clo (.func f) [] []
structure yG (w0:World) (ex:Nat->Prop) (R R':Env):Prop where
 os:R'.w.os=R.w.os
 tape:R'.w.tape=R.w.tape
 output:R'.w.output=R.w.output
 size:R.w.heap.size<=R'.w.heap.size
 fgn:R'.F=R.F
 ext:Ext R R'
 blk:∀ b,b<R.w.heap.size->(R'.w.heap[b]?=R.w.heap[b]?/\∀ o,(R'.M b o↔R.M b o))∨((w0.heap.size<=b∨ex b)/\¬R.F b/\((∃ cs t f,R.w.heap[b]?=some (.cells cs t f))∨∃ es cl,R.w.heap[b]?=some (.map es cl)))
theorem yG.refl (w0:World) (ex:Nat->Prop) (R:Env):yG w0 ex R R:=⟨rfl,rfl,rfl,Wc _,rfl,Ext.refl R,fun _ _=>.inl ⟨rfl,fun _=>Iff.rfl⟩⟩
structure zd9 (w0:World) (ex:Nat->Prop) (R R':Env):Prop where
 os:R'.w.os=R.w.os
 tape:R'.w.tape=R.w.tape
 output:R'.w.output=R.w.output
 size:R.w.heap.size<=R'.w.heap.size
 fgn:R'.F=R.F
 ext:Ext R R'
 blk:∀ b,b<R.w.heap.size->(R'.w.heap[b]?=R.w.heap[b]?/\∀ o,(R'.M b o↔R.M b o))∨((w0.heap.size<=b∨ex b)/\¬R.F b)
theorem yG.nigh {w0:World} {ex:Nat->Prop} (h:yG w0 ex R R'):zd9 w0 ex R R':=
 ⟨h.os,h.tape,h.output,h.size,h.fgn,h.ext,fun b hb=>(h.blk b hb).imp id fun g=>⟨g.1,g.2.1⟩⟩
structure Ctx where
 w0:World
 M0:Nat->Nat->Prop
 β0:List Nat
 ex:Nat->Prop
 N:Nat
 df:List Deferred
 F0:Nat->Prop
 bo:Nat->Prop
 bex:∀ b,bo b->ex b
 J:Nat->Env->Prop
 stab:∀ k R R',J k R->zd9 w0 ex R R'->J k R'
def Ctx.tu (E:Ctx) (b:Nat):Prop:=E.w0.heap.size<=b∨E.ex b
structure YQ (G:zu) (E:Ctx) (σ:St) (R:Env) (L:Loc):Prop where
 fit:Fit G E.tu σ.bx R L
 os:R.w.os=E.w0.os
 tape:R.w.tape=E.w0.tape
 output:R.w.output=E.w0.output
 size:E.w0.heap.size<=R.w.heap.size
 blk:∀ b,b<E.w0.heap.size->¬E.ex b->¬R.F b->R.w.heap[b]?=E.w0.heap[b]?/\∀ o,(R.M b o↔E.M0 b o)
 ext:Ext ⟨E.w0,E.M0,fun _=>False⟩ R
 box:∃ more,L.β=E.β0++more
 tub:∀ b∈L.β,E.w0.heap.size<=b∨E.bo b
 flt:∀ b,R.F b->b<R.w.heap.size
 fz:∀ b,b<E.w0.heap.size->(R.F b↔E.F0 b)
 fbx:∀ b∈L.β,¬R.F b
 fow:∀ id e k v b,L.T id=some (e,k,v)->v.ownB=some b->¬R.F b
 free:∀ id,σ.nx<=id->L.T id=none
 log:E.J σ.lg R
theorem YQ.tubx {G:zu} {E:Ctx} {σ:St} (h:YQ G E σ R L):∀ b∈L.β,E.tu b:=fun b hb=>(h.tub b hb).imp id (E.bex b)
abbrev Ym (d:Nat):Deferred:={ target:=.collected d,args:=#[] }
def Mt (E:Ctx) (ds:List Deferred) (R:Env):Prop:=∃ l:List Nat,ds=l.map Ym++E.df/\l.Nodup/\∀ d∈l,R.w.heap[d]?=some (.deferred (some []))/\E.w0.heap.size<=d/\¬R.F d
structure qN (G:zu) (E:Ctx) (σ:St) (a:Act) (R:Env) (L:Loc):Prop where
 good:YQ G E σ R L
 size:a.tmps.size=E.N
 df:Mt E a.defers R
 tm:∀ t,Rep R L (jZ σ.tm t) (a.tmps.getD t undef)
theorem Mt.near {E:Ctx} {ds:List Deferred} (h:Mt E ds R) (hn:yG E.w0 E.ex R R'):Mt E ds R':=by
 obtain ⟨l,e,hl,h⟩:=h;refine ⟨l,e,hl,fun d hd=>?_⟩;obtain ⟨h1,h2,h3⟩:=h d hd;refine ⟨?_,h2,by rw[hn.fgn];exact h3⟩;rcases hn.blk d (qk h1) with ⟨g,_⟩ | ⟨_,_,⟨cs,t,f,g⟩ | ⟨cs,t,g⟩⟩
 ·rw[g];exact h1
 ·rw[h1]at g;cases g
 ·rw[h1]at g;cases g
theorem YQ.move {G:zu} {E:Ctx} {σ:St} {tm':List (Nat×C)} {bx':List (List C)} (h:YQ G E σ R L) (hn:zd9 E.w0 E.ex R R') (hf:Fit G E.tu bx' R' L')
  (hbox:∃ more,L'.β=L.β++more/\∀ b∈more,R.w.heap.size<=b)
  (hown:∀ id e k v b,L'.T id=some (e,k,v)->v.ownB=some b->(∃ i e' k' v',L.T i=some (e',k',v')/\v'.ownB=some b)∨R.w.heap.size<=b)
  (hfree:∀ id,nx'<=id->L'.T id=none):YQ G E ⟨tm',bx',nx',σ.lg⟩ R' L':=by
 obtain ⟨more,hm1,hm2⟩:=hbox;obtain ⟨more0,hm0⟩:=h.box;refine ⟨hf,hn.os.trans h.os,hn.tape.trans h.tape,hn.output.trans h.output,WJ h.size hn.size,fun b hb hx hF=>?_,h.ext.trans hn.ext,⟨more0++more,by rw[hm1,hm0,WH]⟩,fun b hb=>?_,fun b hF=>?_,fun b hb=>by rw[hn.fgn];exact h.fz b hb,fun b hb hF=>?_,fun id e k v b ht hv hF=>?_,hfree,E.stab _ _ _ h.log hn⟩
 ·rw[hn.fgn]at hF;obtain ⟨g1,g2⟩:=h.blk b hb hx hF;rcases hn.blk b (WM hb h.size) with ⟨k1,k2⟩ | ⟨k1,_⟩
  ·exact ⟨k1.trans g1,fun o=>(k2 o).trans (g2 o)⟩
  ·rcases k1 with k1 | k1
   ·omega
   ·exact absurd k1 hx
 ·rw[hm1]at hb;rcases WC.1 hb with hb | hb
  ·exact h.tub b hb
  ·exact .inl (WJ h.size (hm2 b hb))
 ·rw[hn.fgn]at hF;exact WM (h.flt b hF) hn.size
 ·rw[hn.fgn]at hF;rw[hm1]at hb;rcases WC.1 hb with hb | hb
  ·exact h.fbx b hb hF
  ·have:=h.flt b hF;have:=hm2 b hb;omega
 ·rw[hn.fgn]at hF;rcases hown id e k v b ht hv with ⟨i,e',k',v',g1,g2⟩ | g
  ·exact h.fow i e' k' v' b g1 g2 hF
  ·have:=h.flt b hF;omega
theorem qH.near (h:qH nx nx' R L R' L') (w0:World) (ex:Nat->Prop):yG w0 ex R R':=
 ⟨h.below.os,h.below.tape,h.below.output,h.below.size,h.fgn,h.ext,fun b hb=>.inl ⟨h.below.block b hb,fun o=>h.mt b o hb⟩⟩
def Inv (G:zu) (E:Ctx) (σ:St) (a:Act) (w:World):Prop:=∃ R L,R.w=w/\qN G E σ a R L
section
variable {P:Program} {G:zu} {E:Ctx} {σ:St} {o:Oper} {a:Act}
theorem qN.ev (h:qN G E σ a R L) (x:Operand):Rep R L (zD G σ.tm x) (a.eval x):=by
 cases x with
 | tmp t=>exact h.tm t
 | const v=>exact jX R L v
 | global g =>
  simp only[zD];cases hg:G g with
  | none=>unfold Rep;trivial
  | some cs=>exact JA.2 ⟨g,0,rfl,(h.good.fit.glob g cs hg).1⟩
 | func f=>exact YM.2 ⟨#[],#[],rfl,zo.2 rfl,zo.2 rfl⟩
theorem qN.put (h:qN G E σ a R L) {dst:Option Tmp} {c:C} {v:Value} (hd:Qc E.N dst) (hr:Rep R L c v):qN G E (σ.put dst c) (a.put dst v) R L:=by
 cases dst with
 | none=>exact h
 | some d =>
  refine ⟨{ h.good with },by simpa [Act.put] using h.size,h.df,fun t=>?_⟩;have hlt:d<a.tmps.size:=by rw[h.size];exact hd
  show Rep R L (if t=d then c else jZ σ.tm t) ((a.tmps.setIfInBounds d v).getD t undef);split
  ·subst_vars
   simpa [Ws,hlt] using hr
  ·rename_i hnt;have:=h.tm t;have hne:d≠t:=fun e=>hnt e.symm;simpa [Ws,OZ hne] using this
theorem YQ.step {nx':Nat} {R R':Env} {L L':Loc} (hn:σ.nx<=nx') (h:YQ G E σ R L) (st:qH σ.nx nx' R L R' L'):YQ G E ⟨σ.tm,σ.bx,nx',σ.lg⟩ R' L':=by
 have hfree:zpp L σ.nx nx':=fun id h1 _=>h.free id h1;refine h.move (st.near _ _).nigh (h.fit.step hfree st) ⟨[],by rw[st.box,W2],fun b hb=>by cases hb⟩ (fun id e k v b ht hv=>?_) fun id hi=>?_
 ·rcases st.cases ht with hi | ⟨hi,hj⟩
  ·exact .inl ⟨id,e,k,v,hi,hv⟩
  ·exact .inr ((st.new id e k v hi hj ht).block hv).1
 ·rw[st.old id (.inr hi)];exact h.free id (WJ hn hi)
theorem qN.step {nx':Nat} {R R':Env} {L L':Loc} (hn:σ.nx<=nx') (h:qN G E σ a R L) (st:qH σ.nx nx' R L R' L'):qN G E ⟨σ.tm,σ.bx,nx',σ.lg⟩ a R' L':=
 ⟨h.good.step hn st,h.size,h.df.near (st.near _ _),fun t=>Rep.ext st.ext (st.le fun id h1 _=>h.good.free id h1) _ _ (h.tm t)⟩
abbrev YR (G:zu) (E:Ctx) (a:Act) (K:C->St->Prop) (v:Value) (w':World):Prop:=∃ c σ' R L,R.w=w'/\qN G E σ' a R L/\Rep R L c v/\K c σ'
theorem V8 {K:C->St->Prop} (hp:zG P G σ.bx (zD G σ.tm) σ.nx o c nx') (h:qN G E σ a R L) (hK:K c ⟨σ.tm,σ.bx,nx',σ.lg⟩):jo P o a.eval R.w (YR G E a K):=
 (hp.2 _ R L a.eval h.good.fit (fun id h1 _=>h.good.free id h1) h.ev).mono fun v w' ⟨R',L',hw,st,hr⟩=>⟨c,_,R',L',hw,h.step hp.1 st,hr,hK⟩
theorem qN.newBox (h:qN G E σ a R L) (cs:List C) (vs:Array Value) (ty:TypeId) (hr:zy R L cs vs.toList) (h1:∀ v∈vs.toList,v.oneCell'=true) :
  ∃ R' L',R'.w=R.w.alloc (.cells vs ty (0,0))/\qN G E ⟨σ.tm,σ.bx++[cs],σ.nx,σ.lg⟩ a R' L'/\Rep R' L' (.ptr σ.bx.length 0) (.pointer (some ⟨R.w.heap.size,0,none⟩)):=by
 have hb:Below R.w.heap.size R.w (R.w.alloc (.cells vs ty (0,0))):=(Oa _ _).alloc (Wc _) _;have hmt:∀ b o,b<R.w.heap.size->(((b<R.w.heap.size/\R.M b o)∨b=R.w.heap.size)↔R.M b o):=fun b o hlt=>⟨fun h'=>by rcases h' with h' | h';exact h'.2;omega,fun h'=>.inl ⟨hlt,h'⟩⟩;have hext:Ext R ⟨R.w.alloc (.cells vs ty (0,0)),fun b o=>(b<R.w.heap.size/\R.M b o)∨b=R.w.heap.size,R.F⟩:=Ext.of_below hb hmt;have hnear:yG E.w0 E.ex R ⟨R.w.alloc (.cells vs ty (0,0)),fun b o=>(b<R.w.heap.size/\R.M b o)∨b=R.w.heap.size,R.F⟩:=
  ⟨hb.os,hb.tape,hb.output,hb.size,rfl,hext,fun b hlt=>.inl ⟨hb.block b hlt,fun o=>hmt b o hlt⟩⟩
 have hlen:=h.good.fit.boxes.len;have hle:zS L ⟨L.β++[R.w.heap.size],L.T⟩:=⟨fun i b e=>by
  have hi:i<L.β.length:=(Wd.1 e).1;rw[Wv hi];exact e,fun _ _ e=>e⟩
 refine ⟨⟨R.w.alloc (.cells vs ty (0,0)),fun b o=>(b<R.w.heap.size/\R.M b o)∨b=R.w.heap.size,R.F⟩,⟨L.β++[R.w.heap.size],L.T⟩,rfl,
  ⟨h.good.move hnear.nigh ⟨h.good.fit.glob.ext hext,⟨by simp[hlen],?_,fun i b cs' hi hc=>?_⟩,⟨fun id e k v ht=>?_,fun id id' e k v e' k' v' b=>h.good.fit.owns.apart id id' e k v e' k' v' b⟩,fun g hg=>?_⟩
   ⟨[R.w.heap.size],rfl,fun b hb=>by simp at hb;omega⟩ (fun id e k v b ht hv=>.inl ⟨id,e,k,v,ht,hv⟩) h.good.free,h.size,h.df.near hnear,fun t=>Rep.ext hext hle _ _ (h.tm t)⟩,Jv.2 ⟨R.w.heap.size,?_,rfl⟩⟩
 ·rw[Ag];refine ⟨h.good.fit.boxes.nodup,by simp,fun x hx y hy e=>?_⟩;have:=h.good.fit.β_lt x hx;simp at hy;omega
 ·rcases Wr i L.β.length with hl | hl
  ·rw[Wv hl]at hi;rw[Wv (by omega)]at hc;obtain ⟨us,ty',e1,e2,e3,e4⟩:=h.good.fit.boxes.box i b cs' hi hc;exact ⟨us,ty',(Below.heap_alloc R.w _ b (qk e1)).trans e1,zy.ext hext hle _ _ e2,e3,fun o=>.inl ⟨qk e1,e4 o⟩⟩
  ·rw[WO hl]at hi;rw[WO (by omega)]at hc;have h0:i-L.β.length=0:=by
    have:=(Wd.1 hi).1;simp at this;omega
   rw[h0]at hi;rw[show i-σ.bx.length=0 by omega]at hc;simp at hi hc;subst hi hc;exact ⟨vs,ty,ON _ _,zy.ext hext hle _ _ hr,h1,fun o=>.inr rfl⟩
 ·refine (h.good.fit.owns.own id e k v ht).move fun g _ e2 hlt e7=>⟨e2,Below.heap_alloc R.w _ g hlt,fun hx=>?_,fun o ho=>.inl ⟨hlt,ho⟩⟩;rcases WC.1 hx with hx | hx
  ·exact e7 hx
  ·simp at hx;omega
 ·exact h.good.fit.base g (WJ hb.size hg)
 ·simp[hlen]
def zeH (P:Program) (t:TypeId) (σ:St) (K:C->St->Prop):Prop:=
 match lay P t with
 | some ⟨_,_,_,some z⟩=>(z.all Value.oneCell')=true/\K (.ptr σ.bx.length 0) ⟨σ.tm,σ.bx++[z.map zE],σ.nx,σ.lg⟩
 | _=>False
theorem uK (ho:o.op = .alloc t) {K:C->St->Prop} {R:Env} {L:Loc} (h:qN G E σ a R L) (hK:zeH P t σ K):jo P o a.eval R.w (YR G E a K):=by
 unfold zeH at hK;split at hK
 ·rename_i kd s b z hl;obtain ⟨i,d,hi,hd,_,_,_,hz⟩:=qr hl;cases hiz:i.zero with
  | none=>simp[hiz]at hz
  | some zv =>
   simp only[hiz,WN,Option.some.injEq]at hz;subst hz;obtain ⟨R',L',e1,e2,e3⟩:=h.newBox (zv.cells.toList.map zE) zv.cells t (Y3 _) (fun v hv=>Wz.1 hK.1 v hv);refine jo.value (w':=R.w.alloc (.cells zv.cells t (0,0))) (v:=.pointer (some ⟨R.w.heap.size,0,none⟩)) ?_ ⟨_,_,R',L',e1,e2,e3,hK.2⟩;have hzz:(zeroValue t).run P R.w = .ok zv R.w:=by simp[zeroValue,typeInfo,hi,hiz]
   unfold execOp;simp[ho,Instr.alloc,hzz,newVar,newRow]
 ·exact hK.elim
def ztM (c:C) (σ:St) (K:C->St->Prop):Prop:=
 c.partB=true/\(c.cells.all C.cellB)=true/\K (.ptr σ.bx.length 0) ⟨σ.tm,σ.bx++[c.cells],σ.nx,σ.lg⟩
theorem zfH (ho:o.op = .box t x) {K:C->St->Prop} {R:Env} {L:Loc} (h:qN G E σ a R L) (hK:ztM (zD G σ.tm x) σ K):jo P o a.eval R.w (YR G E a K):=by
 obtain ⟨h1,h2,hK⟩:=hK;have hc:=Qp (h.ev x) h1;obtain ⟨R',L',e1,e2,e3⟩:=h.newBox (zD G σ.tm x).cells (a.eval x).cells t hc (XI hc h2);refine jo.value (w':=R.w.alloc (.cells (a.eval x).cells t (0,0))) (v:=.pointer (some ⟨R.w.heap.size,0,none⟩)) ?_ ⟨_,_,R',L',e1,e2,e3,hK⟩;unfold execOp;simp[ho,Instr.box,newVar,newRow]
def ZM (P:Program) (t:TypeId) (p c:C) (σ:St) (K:C->St->Prop):Prop:=
 match lay P t,p with
 | some L,.ptr i off=>match σ.bx[i]? with
  | some cs=>c.partB=true/\(c.cells.all C.cellB)=true/\c.cells.length=L.size/\off+L.size<=cs.length/\K .any ⟨σ.tm,σ.bx.set i (cs.take off++c.cells++cs.drop (off+L.size)),σ.nx,σ.lg⟩
  | none=>False
 | _,_=>False
theorem j7 (w:World) (g:Nat) (cs:Array Value) (b o:Nat) (h:b≠g):(w.setRow g cs).cell? ⟨b,o,none⟩=w.cell? ⟨b,o,none⟩:=by
 simp[World.cell?,As w g b cs h]
theorem qN.setBox (h:qN G E σ a R L) {i b:Nat} {cs cs':List C} {vs us:Array Value} {ty:TypeId} (hi:L.β[i]?=some b) (hc:σ.bx[i]?=some cs) (hh:R.w.heap[b]?=some (.cells vs ty (0,0)))
  (hM:∀ o,R.M b o) (hr:zy R L cs' us.toList) (h1:∀ v∈us.toList,v.oneCell'=true):qN G E ⟨σ.tm,σ.bx.set i cs',σ.nx,σ.lg⟩ a ⟨R.w.setRow b us,R.M,R.F⟩ L:=by
 have hext:Ext R ⟨R.w.setRow b us,R.M,R.F⟩:=⟨fun b' o v hcell hm=>⟨by
  have hne:b'≠b:=fun e=>hm (e▸hM o);rw[j7 R.w b us b' o hne];exact hcell,hm⟩,fun c cs ty fl hc hm=>⟨by rw[As R.w b c us fun e=>hm 0 (e▸hM 0)];exact hc,hm⟩⟩
 have hbm:b∈L.β:=Wg hi;have hnear:yG E.w0 E.ex R ⟨R.w.setRow b us,R.M,R.F⟩:=⟨rfl,rfl,rfl,by rw[B4];exact Wc _,rfl,hext,fun k hk=>by
  by_cases hkb:k=b
  ·subst hkb;exact .inr ⟨h.good.tubx _ hbm,h.good.fbx _ hbm,.inl ⟨_,_,_,hh⟩⟩
  ·exact .inl ⟨As R.w b k us hkb,fun _=>Iff.rfl⟩⟩
 have hil:i<σ.bx.length:=(Wd.1 hc).1;refine ⟨h.good.move hnear.nigh ⟨h.good.fit.glob.ext hext,⟨by simp[h.good.fit.boxes.len],h.good.fit.boxes.nodup,fun j b' cs2 hj hc2=>?_⟩,⟨fun id e k v ht=>?_,h.good.fit.owns.apart⟩,fun g hg=>?_⟩
  ⟨[],by rw[W2],fun b hb=>by cases hb⟩ (fun id e k v b ht hv=>.inl ⟨id,e,k,v,ht,hv⟩) h.good.free,h.size,h.df.near hnear,fun t=>Rep.ext hext (zS.refl _) _ _ (h.tm t)⟩
 ·by_cases hij:j=i
  ·subst hij;rw[hi]at hj;cases hj;simp only[OD hil]at hc2;cases hc2;exact ⟨us,ty,setRow_heap R.w b vs us ty (0,0) hh,zy.ext hext (zS.refl _) _ _ hr,h1,hM⟩
  ·simp only[Ow (fun e=>hij e.symm)]at hc2;obtain ⟨us',ty',e1,e2,e3,e4⟩:=h.good.fit.boxes.box j b' cs2 hj hc2;have hne:b'≠b:=fun e=>by
    subst e;have hn:=h.good.fit.boxes.nodup;have hlj:j<L.β.length:=(Wd.1 hj).1;have hli:i<L.β.length:=(Wd.1 hi).1;exact hij ((Ah hlj hn).1 (hj.trans hi.symm))
   exact ⟨us',ty',by rw[As R.w b b' us hne];exact e1,zy.ext hext (zS.refl _) _ _ e2,e3,e4⟩
 ·exact (h.good.fit.owns.own id e k v ht).move fun g _ e2 hlt e7=>⟨e2,As R.w b g us fun e=>e7 (e▸hbm),e7,fun _ h=>h⟩
 ·rw[B4]at hg;exact h.good.fit.base g hg
theorem Uv {p:Operand} (ho:o.op = .store t p x) {K:C->St->Prop} {R:Env} {L:Loc} (h:qN G E σ a R L) (hK:ZM P t (zD G σ.tm p) (zD G σ.tm x) σ K):jo P o a.eval R.w fun v w'=>∃ c σ' R',R'.w=w'/\qN G E σ' a R' L/\Ext R R'/\Rep R' L c v/\K c σ':=by
 unfold ZM at hK;split at hK
 ·rename_i Ly i off hl hev;split at hK
  ·rename_i cs hcs;obtain ⟨h1,h2,h3,h4,hK⟩:=hK;have hp:=h.ev p;rw[hev,Jv]at hp;obtain ⟨b,hb,hpv⟩:=hp;have hx:=Qp (h.ev x) h1;obtain ⟨vs,ty,e1,e2,e3,e4⟩:=h.good.fit.boxes.box i b cs hb hcs;have hxl:=zx hx;have hvl:=zx e2;simp only[WY]at hxl hvl;have hone:=XI hx h2;have hst:=AQ P b off ty (a.eval x).cells.toList 0 vs R.w e1 (by simp;omega) hone;simp only[An]at hst;have hinv:=h.setBox (us:=(vs.toList.take off++(a.eval x).cells.toList++vs.toList.drop (off+(a.eval x).cells.toList.length)).toArray) (cs':=cs.take off++(zD G σ.tm x).cells++cs.drop (off+Ly.size)) hb hcs e1 e4 (by
     have:off+(a.eval x).cells.toList.length=off+Ly.size:=by simp;omega
     rw[this];exact zq (zq (qM off e2) hx) (qY _ e2)) (fun v hv=>by
     simp only[WC]at hv;rcases hv with (hv | hv) | hv
     ·exact e3 v (Wx hv)
     ·exact hone v hv
     ·exact e3 v (WU hv))
   unfold jo;have hrun:(execOp a.eval o).run P R.w = .ok .skip (R.w.setRow b (vs.toList.take off++(a.eval x).cells.toList++vs.toList.drop (off+(a.eval x).cells.toList.length)).toArray):=by
    have hsz:=qO hl R.w;unfold execOp;simp only[ho,hpv,Instr.storeAt,Instr.sureAddr,storeVar,Wo,WD,Wi,hsz];rw[if_neg (by omega)];simp only[Wo,hst,Wi,WD]
   rw[hrun];exact ⟨.any,_,_,rfl,hinv,⟨fun b' o v hcell hm=>⟨by
    have hne:b'≠b:=fun e=>hm (e▸e4 o);rw[j7 R.w b _ b' o hne];exact hcell,hm⟩,fun c cs ty fl hc hm=>⟨by rw[As R.w b c _ fun e=>hm 0 (e▸e4 0)];exact hc,hm⟩⟩,by unfold Rep;trivial,hK⟩
  ·exact hK.elim
 ·exact hK.elim
theorem vl {p:Operand} (ho:o.op = .store t p x) {K:C->St->Prop} {R:Env} {L:Loc} (h:qN G E σ a R L) (hK:ZM P t (zD G σ.tm p) (zD G σ.tm x) σ K):jo P o a.eval R.w (YR G E a K):=
 (Uv ho h hK).mono fun v w' ⟨c,σ',R',h1,h2,_,h3,h4⟩=>⟨c,σ',R',L,h1,h2,h3,h4⟩
end
end
section
open Go.RowKit
section
variable {P:Program} {G:zu} {E:Ctx} {σ:St} {o:Oper} {a:Act}
def zck (id:Nat):List (Nat×C)->List (Nat×C)
 | []=>[]
 | (t,c) :: r=>(t,c.dg id) :: zck id r
def yQ (id:Nat):List (List C)->List (List C)
 | []=>[]
 | cs :: r=>C.dgL id cs :: yQ id r
theorem zgI (id:Nat):∀ (tm:List (Nat×C)) (t:Nat),jZ (zck id tm) t=(jZ tm t).dg id
 | [],t=>by simp only[zck,jZ];unfold C.dg;rfl
 | (u,c) :: r,t=>by
  simp only[zck,jZ];split
  ·rfl
  ·exact zgI id r t
theorem Hm (id:Nat):∀ bx:List (List C),(yQ id bx).length=bx.length
 | []=>rfl
 | c :: r=>by simp[yQ,Hm id r]
theorem za4 (id:Nat):∀ (bx:List (List C)) (i:Nat),(yQ id bx)[i]?=(bx[i]?).map (C.dgL id)
 | [],i=>by simp[yQ]
 | c :: r,0=>by simp[yQ]
 | c :: r,i+1=>by simp[yQ,za4 id r i]
def uV (P:Program) (t:TypeId) (s x:C) (σ:St) (K:C->St->Prop):Prop:=
 match s with
 | .own id e k rows=>match lay P t with
  | some ⟨.slice e',_,_,_⟩=>match lay P e with
   | some ⟨_,k',by',some z⟩=>match x.rows? k with
    | some xs=>e'=e/\k'=k/\z.length=k/\0<k/\rows.length+xs.length<=9223372036854775807/\(rows.length+xs.length)*by'<=140737488355328/\K (.own id e k (rows++xs)) ⟨zck id σ.tm,yQ id σ.bx,σ.nx,σ.lg⟩
    | none=>False
   | _=>False
  | _=>False
 | _=>False
theorem qN.regrow (h:qN G E σ a R L) {id e k:Nat} {v0 v':Value} (hid:L.T id=some (e,k,v0)) {R':Env} (hext:Ext R R') (hos:R'.w.os=R.w.os) (htp:R'.w.tape=R.w.tape) (hout:R'.w.output=R.w.output) (hsz:R.w.heap.size<=R'.w.heap.size) (hfgn:R'.F=R.F)
  (hblk:∀ b,b<R.w.heap.size->v0.ownB≠some b->R'.w.heap[b]?=R.w.heap[b]?/\∀ o,R'.M b o↔R.M b o)
  (hown:Qv E.tu R' L.β e k v') (hnew:∀ b,v'.ownB=some b->v0.ownB=some b∨R.w.heap.size<=b) :
  qN G E ⟨zck id σ.tm,yQ id σ.bx,σ.nx,σ.lg⟩ a R' ⟨L.β,fun i=>if i=id then some (e,k,v') else L.T i⟩:=by
 have hdgb:∀ (i b:Nat),L.β[i]?=some b->(Loc.mk L.β (fun i=>if i=id then some (e,k,v') else L.T i)).β[i]?=some b:=fun i b hb=>hb;have hdgt:∀ i x,i≠id->L.T i=some x->(Loc.mk L.β (fun i=>if i=id then some (e,k,v') else L.T i)).T i=some x:=fun i x hne hi=>by
  show (if i=id then _ else L.T i)=some x;rw[if_neg hne];exact hi
 have hv0:=h.good.fit.owns.own id e k v0 hid;have hother:∀ i e1 k1 v1 b,i≠id->L.T i=some (e1,k1,v1)->v1.ownB=some b->v0.ownB≠some b:=fun i e1 k1 v1 b hne h1 h2 h3=>hne (h.good.fit.owns.apart i id e1 k1 v1 e k v0 b h1 hid h2 h3);have hbase:∀ b,v0.ownB=some b->E.tu b/\b<R.w.heap.size/\b∉L.β:=fun b hb=>hv0.block hb;have hcells:∀ b,v0.ownB=some b->(∃ cs t f,R.w.heap[b]?=some (.cells cs t f))∨∃ es cl,R.w.heap[b]?=some (.map es cl):=fun b hb=>hv0.held hb;have hnear:yG E.w0 E.ex R R':=⟨hos,htp,hout,hsz,hfgn,hext,fun b hb=>by
  by_cases hvb:v0.ownB=some b
  ·exact .inr ⟨(hbase b hvb).1,h.good.fow id e k v0 b hid hvb,hcells b hvb⟩
  ·exact .inl (hblk b hb hvb)⟩
 refine ⟨h.good.move hnear.nigh ⟨h.good.fit.glob.ext hext,⟨by rw[Hm];exact h.good.fit.boxes.len,h.good.fit.boxes.nodup,fun i b cs hi hc=>?_⟩,⟨fun i e1 k1 v1 ht=>?_,fun i j e1 k1 v1 e2 k2 v2 b h1 h2 h3 h4=>?_⟩,fun g hg=>h.good.fit.base g (WJ hsz hg)⟩
  ⟨[],by rw[W2],fun b hb=>by cases hb⟩ (fun i e1 k1 v1 b ht hv=>?_) (fun i hi=>?_),h.size,h.df.near hnear,fun t=>?_⟩
 ·simp only[za4]at hc;cases hq:σ.bx[i]? with
  | none=>simp[hq]at hc
  | some cs0 =>
   simp[hq]at hc;subst hc;obtain ⟨vs,ty,e1,e2,e3,e4⟩:=h.good.fit.boxes.box i b cs0 hi hq;have hne:v0.ownB≠some b:=fun e'=>(hbase b e').2.2 (Wg hi);obtain ⟨g1,g2⟩:=hblk b (qk e1) hne;exact ⟨vs,ty,by rw[g1];exact e1,zy.dg hdgb hdgt _ _ (zy.ext hext (zS.refl _) _ _ e2),e3,fun o=>(g2 o).2 (e4 o)⟩
 ·simp only at ht;split at ht
  ·cases ht;exact hown
  ·rename_i hne;refine (h.good.fit.owns.own i e1 k1 v1 ht).move fun g hv q2 hlt q7=>?_;obtain ⟨g1,g2⟩:=hblk g hlt (hother i e1 k1 v1 g hne ht hv);exact ⟨q2,g1,q7,fun o ho=>(g2 o).2 ho⟩
 ·simp only at h1 h2;split at h1<;>split at h2
  ·omega
  ·rename_i hi hj;cases h1;rcases hnew b h3 with g | g
   ·exact absurd g (hother j e2 k2 v2 b hj h2 h4)
   ·have:=((h.good.fit.owns.own j e2 k2 v2 h2).block h4).2.1;omega
  ·rename_i hi hj;cases h2;rcases hnew b h4 with g | g
   ·exact absurd g (hother i e1 k1 v1 b hi h1 h3)
   ·have:=((h.good.fit.owns.own i e1 k1 v1 h1).block h3).2.1;omega
  ·exact h.good.fit.owns.apart i j e1 k1 v1 e2 k2 v2 b h1 h2 h3 h4
 ·simp only at ht;split at ht
  ·cases ht;rcases hnew b hv with g | g
   ·exact .inl ⟨id,e,k,v0,hid,g⟩
   ·exact .inr g
  ·exact .inl ⟨i,e1,k1,v1,ht,hv⟩
 ·show (if i=id then _ else L.T i)=none;have hne:i≠id:=fun e'=>by
   subst e';rw[h.good.free i hi]at hid;cases hid
  rw[if_neg hne];exact h.good.free i hi
 ·simp only[zgI];exact Rep.dg hdgb hdgt _ _ (Rep.ext hext (zS.refl _) _ _ (h.tm t))
theorem XZ {i:TypeInfo} (ht:P.underlying t=some (.slice e)) (hi:P.info? e=some i) (w:World)
  (g sLen sCap:Nat) (cur:Array Value) (e':TypeId) (hg:w.heap[g]?=some (.cells cur e' (0,0)))
  (a:Addr) (m c:Nat) (news:List Value) (hl:news.length=m*i.size) (hnews:∀ (j:Nat) u,news[j]?=some u->w.cell? (a.add j)=some u) (h1:∀ u∈news,u.oneCell'=true)
  (hroom:sLen+m<=sCap) (hfit:sLen*i.size+news.length<=cur.size) :
  (Builtin.append_ #[t,t] ty #[.slice (some ⟨g,0,none⟩) sLen sCap,.slice (some a) m c]).run P w =
   .ok (.slice (some ⟨g,0,none⟩) (sLen+m) sCap) (w.setRow g (cur.toList.take (sLen*i.size)++news++cur.toList.drop (sLen*i.size+news.length)).toArray):=by
 have hf:=Bn (P:=P) w i.size m a m c news hl hnews;have hst:=AQ P g (sLen*i.size) e' news 0 cur w hg (by simpa using hfit) h1;simp only[An]at hst;simp[Builtin.append_,WE ht,sizeOf,typeInfo,hi,Builtin.lenOf,hroom,hf,Addr.add_lit,hst]
theorem UC {g:Nat} {rows:List (List C)} {cur:Array Value} (hext:Ext R R') (hh:R'.w.heap[g]?=some (.cells cur e (0,0))) (hk:∀ r∈rows,r.length=k)
  (hrep:zy R zP rows.flatten vs) (hone:∀ v∈vs,v.oneCell'=true) (htake:cur.toList.take (rows.length*k)=vs) (hM:∀ o,o<rows.length*k->¬R'.M g o):zZ R' rows k g 0:=by
 refine jf fun i row hrow=>⟨hk row (Wg hrow),qm fun j c hc=>?_⟩;have hkr:=hk row (Wg hrow);have hj:j<k:=by rw[←hkr];exact (Wd.1 hc).1
 have hi:i<rows.length:=(Wd.1 hrow).1;have hf:=XJ hk i j row hrow hj;rw[hc]at hf;obtain ⟨v,hv,hr⟩:=JB hrep _ _ hf;have hlt2:i*k+j<rows.length*k:=by
  have:(i+1)*k<=rows.length*k:=WT _ hi;rw[Oq]at this;omega
 refine ⟨v,?_,hM _ (by omega),Rep.ext hext (zS.refl _) _ _ hr,hone v (Wg hv)⟩;rw[Aj R'.w g (0+i*k+j) cur e (0,0) hh];rw[←htake,WK]at hv;rw[Ox];rw[if_pos hlt2]at hv;simpa using hv
theorem x4 {s:Operand} (ho:o.op = .call { callee:=.builtin .append,args:=#[s,x],argTypes:=#[t,t] }) {K:C->St->Prop} {R:Env} {L:Loc} (h:qN G E σ a R L) (hK:uV P t (zD G σ.tm s) (zD G σ.tm x) σ K):jo P o a.eval R.w (YR G E a K):=by
 unfold uV at hK;split at hK
 ·rename_i id e k rows hev;split at hK
  ·rename_i e' s1 b1 z1 hl;have ht:=qi hl rfl;split at hK
   ·rename_i kd k' by' z hle;obtain ⟨i,d,hi,hd,_,hsz,hbyt,hzz⟩:=qr hle;simp only at hsz hbyt hzz;split at hK
    ·rename_i xs hxs;obtain ⟨rfl,rfl,hzk,hk0,h63,hby,hK⟩:=hK;have hs:=h.ev s;rw[hev,Y5]at hs;obtain ⟨hid,aa,cap,ev1,hcap,hcm,hrows⟩:=hs;rw[ev1]at hid;obtain ⟨ax,capx,ex,hx1,hx2,hx3⟩:=(h.ev x).rows hxs;have hexec:∀ v' w',(Builtin.append_ #[t,t] o.type #[a.eval s,a.eval x]).run P R.w = .ok v' w'->(execOp a.eval o).run P R.w = .ok (.value v') w':=fun v' w' hrun=>by
      unfold execOp;simp only[ho,resolve,invoke,builtin,Wo,WD,Wi,OG,Wq,WL,hrun]
     by_cases hne:xs = []
     ·subst hne;have hrun:=hexec _ _ (by rw[ev1,ex];exact jU ht hi R.w aa ax rows.length cap capx hcap);have hinv:=h.regrow hid (Ext.refl R) rfl rfl rfl (Wc _) rfl (fun b hb hn=>⟨rfl,fun o=>Iff.rfl⟩) (h.good.fit.owns.own id e' k' _ hid) (fun b hb=>.inl hb);refine jo.value hrun ⟨_,_,R,_,rfl,hinv,Y5.2 ⟨if_pos rfl,aa,cap,?_,?_,hcm,?_⟩,hK⟩
      ·simp
      ·simpa using hcap
      ·simpa using hrows
     ·rcases hx3 with hx3 | ⟨bb,off,rfl,hxr⟩
      ·exact absurd hx3 hne
      ·cases hiz:i.zero with
       | none=>simp[hiz]at hzz
       | some zv =>
        simp only[hiz,WN,Option.some.injEq]at hzz;have hzc:zv.cells.size=k':=by rw[←hzk,hzz];simp
        obtain ⟨hxc,hxl⟩:=qW hxr;obtain ⟨news,n1,n2,n3⟩:=j0 hxc;have hnl:=zx n2;have hxk:∀ r∈xs,r.length=k':=fun r hr=>by
         obtain ⟨i,hi,rfl⟩:=Wt hr;exact (jA hxr i _ (Wa hi)).1
        have hlen:(rows++xs).length=rows.length+xs.length:=Wn;have hn1':∀ (j:Nat) v,news[j]?=some v->R.w.cell? ((⟨bb,off,none⟩:Addr).add j)=some v:=fun j v hj=>by rw[Addr.add_none];exact n1 j v hj
        have hmpos:0<xs.length:=WI.2 hne
        -- the new block, where it grows
        have grow:∀ (olds:List Value),zy R zP rows.flatten olds->(∀ v∈olds,v.oneCell'=true)->olds.length=rows.length*k'->(∀ r∈rows,r.length=k') ->
          (Builtin.append_ #[t,t] o.type #[a.eval s,a.eval x]).run P R.w = .ok (.slice (some ⟨R.w.heap.size,0,none⟩) (rows.length+xs.length) (grownCap R.w (rows.length+xs.length) cap e'))
           (R.w.drew.alloc (.cells (olds.toArray++news.toArray++Builtin.zeroCells zv.cells (grownCap R.w (rows.length+xs.length) cap e'-(rows.length+xs.length))) e'))->jo P o a.eval R.w (YR G E a K):=by
         intro olds p1 p2 p3 p4 hrun;have hall:∀ r∈rows++xs,r.length=k':=fun r hr=>by
          rcases WC.1 hr with hr | hr
          ·exact p4 r hr
          ·exact hxk r hr
         have hge:=A1 R.w (rows.length+xs.length) cap e';have hgm:grownCap R.w (rows.length+xs.length) cap e'<=maxLen:=O7 _ _ _ _ (by unfold maxLen;omega);generalize grownCap R.w (rows.length+xs.length) cap e'=nc at hrun hge hgm;have hcs:(olds.toArray++news.toArray++Builtin.zeroCells zv.cells (nc-(rows.length+xs.length))).size=nc*k':=by
          simp only[Array.size_append,BE,AA,hzc,p3,hnl,hxl,←Oq];congr 1;omega
         have htk:(olds.toArray++news.toArray++Builtin.zeroCells zv.cells (nc-(rows.length+xs.length))).toList.take ((rows++xs).length*k')=olds++news:=by
          rw[hlen,Oq,←p3,←hxl,←hnl];simp only[Ol];rw[←Wn,OK];simp
         generalize (olds.toArray++news.toArray++Builtin.zeroCells zv.cells (nc-(rows.length+xs.length)))=cur at hrun hcs htk;have hb:Below R.w.heap.size R.w (R.w.drew.alloc (.cells cur e')):=((Oa _ _).drew).alloc (Wc _) _;have hext:Ext R ⟨R.w.drew.alloc (.cells cur e'),fun b o=>(b<R.w.heap.size/\R.M b o)∨(b=R.w.heap.size/\(rows++xs).length*k'<=o),R.F⟩:=
          Ext.of_below hb fun b o hlt=>⟨fun h'=>by rcases h' with h' | h';exact h'.2;omega,fun h'=>.inl ⟨hlt,h'⟩⟩
         have hh:(R.w.drew.alloc (.cells cur e')).heap[R.w.heap.size]?=some (.cells cur e' (0,0)):=ON R.w.drew _;have hinv:=h.regrow hid (v':=.slice (some ⟨R.w.heap.size,0,none⟩) (rows.length+xs.length) nc) hext hb.os hb.tape hb.output hb.size rfl
          (fun b hlt _=>⟨hb.block b hlt,fun o=>⟨fun h'=>by rcases h' with h' | h';exact h'.2;omega,fun h'=>.inl ⟨hlt,h'⟩⟩⟩)
          (.inr (.inl ⟨_,_,nc,cur,_,rfl,h.good.fit.base _ (Wc _),hh,hge,hgm,hcs,fun hx=>by have:=h.good.fit.β_lt _ hx;omega,fun o ho=>.inr ⟨rfl,by rw[hlen];exact ho⟩⟩))
          (fun b hb'=>.inr (by cases hb';exact Wc _))
         refine jo.value (hexec _ _ hrun) ⟨_,_,_,_,rfl,hinv,Y5.2 ⟨if_pos rfl,_,nc,by rw[hlen],by rw[hlen];exact hge,hgm,.inr ⟨_,0,rfl,UC hext hh hall (by rw[A6];exact zq p1 n2) (fun v hv=>?_) htk fun o ho=>?_⟩⟩,hK⟩
         ·rcases WC.1 hv with hv | hv
          ·exact p2 v hv
          ·exact n3 v hv
         ·rintro (h' | h')
          ·omega
          ·omega
        rcases h.good.fit.owns.own id e' k' _ hid with hnil | ⟨g,n',cap',cur,tyq,q1,q2,q3,q4,q5,q6,q7,q8⟩ | ⟨_,_,_,_,hmap,_⟩
        ·obtain ⟨rfl,hr0,rfl⟩:=Value.slice.inj hnil;have hr0':rows = []:=W6 hr0;subst hr0';refine grow [] (zo.2 rfl) (fun v h=>by cases h) (by simp) (fun r h=>by cases h) ?_;have:=BZ (P:=P) R.w t o.type e' i zv ht hi hiz ⟨bb,off,none⟩ xs.length capx news (by rw[hnl,hxl,hsz]) hn1' hmpos (by omega) (by rw[←hbyt];simp only[WG,Ox]at hby;omega);rw[ev1,ex];simpa using this
        ·cases q1;have hrr:zZ R rows k' g 0∨rows = []:=by
          rcases hrows with h0 | ⟨b0,o0,hb0,h0⟩
          ·exact .inr h0
          ·cases hb0;exact .inl h0
         have hvals:∃ olds:List Value,zy R zP rows.flatten olds/\(∀ v∈olds,v.oneCell'=true)/\olds.length=rows.length*k'/\(∀ r∈rows,r.length=k')/\∀ (j:Nat) v,olds[j]?=some v->R.w.cell? ⟨g,j,none⟩=some v:=by
          rcases hrr with hrr | rfl
          ·obtain ⟨h1,h2⟩:=qW hrr;obtain ⟨olds,o1,o2,o3⟩:=j0 h1;refine ⟨olds,o2,o3,by rw[zx o2,h2],fun r hr=>?_,fun j v hj=>by simpa using o1 j v hj⟩;obtain ⟨i,hi,rfl⟩:=Wt hr;exact (jA hrr i _ (Wa hi)).1
          ·exact ⟨[],zo.2 rfl,fun v h=>by (cases h),by simp,fun r h=>by (cases h),fun j v h=>by simp at h⟩
         obtain ⟨olds,p1,p2,p3,p4,p5⟩:=hvals;by_cases hroom:rows.length+xs.length<=cap
         ·-- in place
          have hfit:rows.length*i.size+news.length<=cur.size:=by
           rw[←hsz,hnl,hxl,q6,←Oq];exact WT _ hroom
          have hrun:=XZ (P:=P) (ty:=o.type) ht hi R.w g rows.length cap cur tyq q3 ⟨bb,off,none⟩ xs.length capx news (by rw[hnl,hxl,hsz]) hn1' n3 hroom hfit;rw[←hsz]at hrun hfit;have htk0:cur.toList.take (rows.length*k')=olds:=by
           apply O5;intro j;rw[WK];by_cases hj:j<rows.length*k'
           ·rw[if_pos hj];have hjo:j<olds.length:=by omega
            have:=p5 j olds[j] (Wa hjo);rw[Aj R.w g j cur tyq (0,0) q3]at this;rw[Wa hjo];simpa using this
           ·rw[if_neg hj,W4 (by omega)]
          have hcs:(cur.toList.take (rows.length*k')++news++cur.toList.drop (rows.length*k'+news.length)).toArray.size=cap*k':=by
           simp only[BE,Wn,W7,W3,WY];omega
          have htk:(cur.toList.take (rows.length*k')++news++cur.toList.drop (rows.length*k'+news.length)).toArray.toList.take ((rows++xs).length*k')=olds++news:=by
           simp only[htk0];rw[hlen,Oq,←p3,←hxl,←hnl,←Wn];exact OK rfl
          have hold:∀ j,j<rows.length*k'->(cur.toList.take (rows.length*k')++news++cur.toList.drop (rows.length*k'+news.length)).toArray[j]?=cur[j]?:=fun j hj=>by
           simp only[Aq];rw[WH,Wv (by simp;omega),WK,if_pos hj];simp
          generalize (cur.toList.take (rows.length*k')++news++cur.toList.drop (rows.length*k'+news.length)).toArray=cur' at hrun hcs htk hold;have hh:=setRow_heap R.w g cur cur' tyq (0,0) q3;have hext:Ext R ⟨R.w.setRow g cur',fun b o=>R.M b o/\¬(b=g/\o<(rows++xs).length*k'),R.F⟩:=⟨fun b o v hc hm=>⟨by
           by_cases hbg:b=g
           ·subst hbg;have hlt:o<rows.length*k':=by
             rcases Wr o (rows.length*k') with h' | h'
             ·exact h'
             ·exact absurd (q8 o h') hm
            rw[Aj R.w b o cur tyq (0,0) q3]at hc;rw[Aj _ b o cur' tyq (0,0) hh,hold o hlt];exact hc
           ·rw[j7 R.w g cur' b o hbg];exact hc,fun h'=>hm h'.1⟩,fun c cs ty fl hc hm=>⟨by rw[As R.w g c cur' fun e=>hm _ (e▸q8 _ (Wc _))];exact hc,fun o h'=>hm o h'.1⟩⟩
          have hinv:=h.regrow hid (v':=.slice (some ⟨g,0,none⟩) (rows.length+xs.length) cap) (R':=⟨R.w.setRow g cur',fun b o=>R.M b o/\¬(b=g/\o<(rows++xs).length*k'),R.F⟩) hext rfl rfl rfl (by rw[B4];exact Wc _) rfl
           (fun b hlt hne'=>by
            have hbg:b≠g:=fun e1=>hne' (by rw[e1];rfl);exact ⟨As R.w g b cur' hbg,fun o=>⟨fun h'=>h'.1,fun h'=>⟨h',fun h2=>hbg h2.1⟩⟩⟩)
           (.inr (.inl ⟨g,_,cap,cur',_,rfl,q2,hh,hroom,hcm,hcs,q7,fun o ho=>⟨q8 o (WJ (WT _ (BK _ _)) ho),fun h2=>by rw[hlen]at h2;omega⟩⟩))
           (fun b hb'=>.inl (by cases hb';rfl))
          rw[←ev1,←ex]at hrun;have hall:∀ r∈rows++xs,r.length=k':=fun r hr=>by
           rcases WC.1 hr with hr | hr
           ·exact p4 r hr
           ·exact hxk r hr
          refine jo.value (hexec _ _ hrun) ⟨_,_,_,_,rfl,hinv,Y5.2 ⟨if_pos rfl,_,cap,by rw[hlen],by rw[hlen];exact hroom,hcm,.inr ⟨g,0,rfl,UC hext hh hall (by rw[A6];exact zq p1 n2) (fun v hv=>?_) htk fun o ho h'=>h'.2 ⟨rfl,ho⟩⟩⟩,hK⟩;rcases WC.1 hv with hv | hv
          ·exact p2 v hv
          ·exact n3 v hv
         ·refine grow olds p1 p2 p3 p4 ?_;rw[ev1,ex];exact Bw (P:=P) R.w t o.type e' i zv ht hi hiz ⟨g,0,none⟩ rows.length cap olds (by rw[p3,hsz]) (fun j v hj=>by rw[Addr.add_none];simpa using p5 j v hj) ⟨bb,off,none⟩ xs.length capx news (by rw[hnl,hxl,hsz]) hn1' (by omega) (by omega)
           (Bh (by omega) (by rw[←hbyt];exact hby))
        ·unfold HD at hmap;cases hmap
    ·exact hK.elim
   ·exact hK.elim
  ·exact hK.elim
 ·exact hK.elim
end
end
section
open Go.RowKit Go.MapKept
section
variable {P:Program} {G:zu} {E:Ctx} {σ:St} {o:Oper} {a:Act}
def ziD (id:Nat) (ks:MK) (vs:List C):List (Nat×C)->List (Nat×C)
 | []=>[]
 | (t,c) :: r=>(t,c.up id ks vs) :: ziD id ks vs r
def zey (id:Nat) (ks:MK) (vs:List C):List (List C)->List (List C)
 | []=>[]
 | cs :: r=>C.upL id ks vs cs :: zey id ks vs r
theorem zfI (id:Nat) (ks:MK) (vs:List C):∀ (tm:List (Nat×C)) (t:Nat),jZ (ziD id ks vs tm) t=(jZ tm t).up id ks vs
 | [],t=>by simp only[ziD,jZ];unfold C.up;rfl
 | (u,c) :: r,t=>by
  simp only[ziD,jZ];split
  ·rfl
  ·exact zfI id ks vs r t
theorem Hu (id:Nat) (ks:MK) (vs:List C):∀ bx:List (List C),(zey id ks vs bx).length=bx.length
 | []=>rfl
 | c :: r=>by simp[zey,Hu id ks vs r]
theorem zbE (id:Nat) (ks:MK) (vs:List C):∀ (bx:List (List C)) (i:Nat),(zey id ks vs bx)[i]?=(bx[i]?).map (C.upL id ks vs)
 | [],i=>by simp[zey]
 | c :: r,0=>by simp[zey]
 | c :: r,i+1=>by simp[zey,zbE id ks vs r i]
theorem zcK {es:Array MapEntry} {cl:Nat} (o:Obj) (hb:R.w.heap[b]?=some (.map es cl)):Ext R ⟨R.w.putObj b o,R.M,R.F⟩:=⟨fun c off v hcell hm=>⟨by
 by_cases hc:c=b
 ·subst hc
  exfalso
  unfold World.cell? at hcell;rw[hb]at hcell;simp at hcell
 ·unfold World.cell? at hcell ⊢;rw[W1 hc];exact hcell,hm⟩,fun c cs ty fl hc hm=>⟨by
 have hne:c≠b:=fun e=>by subst e;rw[hb]at hc;cases hc
 show (R.w.putObj b o).heap[c]?=_;rw[W1 hne];exact hc,hm⟩⟩
theorem qN.remap (h:qN G E σ a R L) {id b:Nat} {t:TypeId} {kvs vvs:List Value} (hid:L.T id=some (t,0,HD b kvs vvs)) {es es':Array MapEntry} {cl:Nat} (hb:R.w.heap[b]?=some (.map es cl))
  {ks':MK} {vs':List C} {vvs':List Value} (hk':es'.toList.map (·.key)=ks'.vals) (hv':es'.toList.map (·.val)=vvs') (hborn:∀ (i:Nat) (e:MapEntry),es'[i]?=some e->e.born=i) (hr:zy R zP vs' vvs') :
  qN G E ⟨ziD id ks' vs' σ.tm,zey id ks' vs' σ.bx,σ.nx,σ.lg⟩ a ⟨R.w.putObj b (.map es' es'.size),R.M,R.F⟩ ⟨L.β,fun i=>if i=id then some (t,0,HD b ks'.vals vvs') else L.T i⟩:=by
 have hext:Ext R ⟨R.w.putObj b (.map es' es'.size),R.M,R.F⟩:=zcK _ hb;have hupb:∀ (i b':Nat),L.β[i]?=some b'->(Loc.mk L.β (fun i=>if i=id then some (t,0,HD b ks'.vals vvs') else L.T i)).β[i]?=some b':=fun i b' hb=>hb;have hupt:∀ i x,i≠id->L.T i=some x->(Loc.mk L.β (fun i=>if i=id then some (t,0,HD b ks'.vals vvs') else L.T i)).T i=some x:=fun i x hne hi=>by
  show (if i=id then _ else L.T i)=some x;rw[if_neg hne];exact hi
 have hupi:(Loc.mk L.β (fun i=>if i=id then some (t,0,HD b ks'.vals vvs') else L.T i)).T id=some (t,0,HD b ks'.vals vvs'):=if_pos rfl;have hv0:=h.good.fit.owns.own id _ _ _ hid;obtain ⟨hbt,hblt,hbβ⟩:=hv0.block (b:=b) rfl;have hother:∀ i e1 k1 v1 c,i≠id->L.T i=some (e1,k1,v1)->v1.ownB=some c->c≠b:=fun i e1 k1 v1 c hne h1 h2 h3=>hne (h.good.fit.owns.apart i id e1 k1 v1 t 0 _ c h1 hid h2 (by rw[h3];rfl));have hnear:yG E.w0 E.ex R ⟨R.w.putObj b (.map es' es'.size),R.M,R.F⟩:=⟨rfl,rfl,rfl,by simp,rfl,hext,fun c hc=>by
  by_cases hcb:c=b
  ·subst hcb;exact .inr ⟨hbt,h.good.fow id _ _ _ c hid rfl,.inr ⟨_,_,hb⟩⟩
  ·exact .inl ⟨W1 hcb,fun _=>Iff.rfl⟩⟩
 have hrr:zy ⟨R.w.putObj b (.map es' es'.size),R.M,R.F⟩ zP vs' vvs':=zy.ext hext (zS.refl _) _ _ hr;refine ⟨h.good.move hnear.nigh ⟨h.good.fit.glob.ext hext,⟨by rw[Hu];exact h.good.fit.boxes.len,h.good.fit.boxes.nodup,fun i c cs hi hc=>?_⟩,⟨fun i e1 k1 v1 ht=>?_,fun i j e1 k1 v1 e2 k2 v2 c h1 h2 h3 h4=>?_⟩,fun g hg=>h.good.fit.base g (by simpa using hg)⟩
  ⟨[],by rw[W2],fun b hb=>by cases hb⟩ (fun i e1 k1 v1 c ht hv=>?_) (fun i hi=>?_),h.size,h.df.near hnear,fun u=>?_⟩
 ·simp only[zbE]at hc;cases hq:σ.bx[i]? with
  | none=>simp[hq]at hc
  | some cs0 =>
   simp[hq]at hc;subst hc;obtain ⟨vs,ty,e1,e2,e3,e4⟩:=h.good.fit.boxes.box i c cs0 hi hq;have hne:c≠b:=fun e'=>hbβ (e'▸Wg hi);exact ⟨vs,ty,(W1 hne).trans e1,zy.up hupb hupt hid hupi hrr _ _ (zy.ext hext (zS.refl _) _ _ e2),e3,e4⟩
 ·simp only at ht;split at ht
  ·cases ht;exact .inr (.inr ⟨b,es',_,_,rfl,hbt,Bb hblt,hbβ,hk',hv',hborn⟩)
  ·rename_i hne;refine (h.good.fit.owns.own i e1 k1 v1 ht).move fun g hv q2 hlt q7=>⟨q2,W1 (hother i e1 k1 v1 g hne ht hv),q7,fun _ h=>h⟩
 ·simp only at h1 h2;split at h1<;>split at h2
  ·omega
  ·rename_i hi hj;cases h1;cases h3;exact absurd rfl (hother j e2 k2 v2 b hj h2 h4)
  ·rename_i hi hj;cases h2;cases h4;exact absurd rfl (hother i e1 k1 v1 b hi h1 h3)
  ·exact h.good.fit.owns.apart i j e1 k1 v1 e2 k2 v2 c h1 h2 h3 h4
 ·simp only at ht;split at ht
  ·cases ht;cases hv;exact .inl ⟨id,t,0,_,hid,rfl⟩
  ·exact .inl ⟨i,e1,k1,v1,ht,hv⟩
 ·show (if i=id then _ else L.T i)=none;have hne:i≠id:=fun e'=>by
   subst e';rw[h.good.free i hi]at hid;cases hid
  rw[if_neg hne];exact h.good.free i hi
 ·simp only[zfI];exact Rep.up hupb hupt hid hupi hrr _ _ (Rep.ext hext (zS.refl _) _ _ (h.tm u))
def Nd (id:Nat) (ks:MK) (vs:List C) (σ:St) (K:C->St->Prop):Prop:=K .any ⟨ziD id ks vs σ.tm,zey id ks vs σ.bx,σ.nx,σ.lg⟩
def Me (P:Program) (t:TypeId) (m key x:C) (σ:St) (K:C->St->Prop):Prop:=
 match zd8 P t with
 | some (.int k,_)=>match m,key with
  | .mo id t' (.int k' l) vs,.sc (.int q n)=>t'=t/\k'=k/\q=k/\Nd id (.int k (H1 n x.frz l vs).1) (H1 n x.frz l vs).2 σ K
  | _,_=>False
 | some (.str,_)=>match m,key with
  | .mo id t' (.str l) vs,.str s=>t'=t/\Nd id (.str (H1 s x.frz l vs).1) (H1 s x.frz l vs).2 σ K
  | _,_=>False
 | none=>False
def zea (j:Option Nat) (key value:Value) (es:Array MapEntry):Array MapEntry:=match j with
 | some j=>es.modify j fun e=>{ e with key:=key,val:=value }
 | none=>es.push { key:=key,val:=value,born:=es.size }
theorem Gk [DecidableEq α] {kd:TypeDesc} {kv:α->Value} (hk:∀ a b,Instr.sameNow kd (kv a) (kv b)=some (decide (a=b))) (hchk:∀ (e:Bool) (kt:TypeId) (a:α) (w:World),P.underlying kt=some kd->(Instr.checkKey e 10000 kt (kv a)).run P w = .ok () w)
  (hsame:∀ a,Instr.sameBits 10000 (kv a) (kv a)=true)
  {t kt et:TypeId} (ht:P.underlying t=some (.map kt et)) (hkt:P.underlying kt=some kd) {w:World} {b:Nat} {es:Array MapEntry} (hb:w.heap[b]?=some (.map es es.size)) (a:α) (value:Value) (l:List α) (hl:es.toList.map (·.key)=l.map kv) :
  (Instr.mapUpdate t (.map (some b)) (kv a) value).run P w = .ok () (w.putObj b (.map (zea (HF a l) (kv a) value es) (zea (HF a l) (kv a) value es).size)):=by
 have hf:=Qy hk a es.toList l 0 hl;unfold Instr.mapUpdate;simp only[Wo,WE ht,Wi,VZ hb,WD,hchk _ kt a w hkt,Instr.findKey,WE hkt,hf];cases hm:HF a l with
 | none =>
  simp only[Option.bind_none,WD,Wi,Gr _ hb];simp[zea]
 | some j =>
  have hlj:=NI hm;have hj:j<l.length:=(Wd.1 hlj).1;have hes:l.length=es.size:=by have:=Wu List.length hl;simpa using this.symm
  have hje:j<es.size:=by omega
  have hkey:es[j].key=kv a:=by
   have h1:(es.toList.map (·.key))[j]?=some (kv a):=by rw[hl,WA,hlj];rfl
   simpa [hje] using h1
  have hg:es.toList[j]?=some es[j]:=by simp[hje]
  have hg2:es[j]?=some es[j]:=by simp[hje]
  simp only[AI,hg,WN,WD,Wi,Ox,hg2,WZ,hkey,Instr.keyThatStays,hsame a,if_true];simp only[zea,Array.size_modify];exact Gr _ hb
theorem Mn (a:Lz):Instr.sameBits 10000 (.string ⟨a.toArray⟩) (.string ⟨a.toArray⟩)=true:=by
 have h:=G8 a a;simpa [Instr.sameNow,Instr.sameBits] using h
theorem xo [DecidableEq α] {kv:α->Value} (a:α) (x:C) (value:Value) (l:List α) (vs:List C) (es:Array MapEntry) (hl:es.toList.map (·.key)=l.map kv):(zea (HF a l) (kv a) value es).toList.map (·.key)=(H1 a x l vs).1.map kv:=by
 unfold H1;cases hm:HF a l with
 | none=>simp[zea,hl]
 | some j =>
  have hlj:=NI hm;have hj:j<l.length:=(Wd.1 hlj).1;have hes:l.length=es.size:=by have:=Wu List.length hl;simpa using this.symm
  simp only[zea,←hl];refine O5 fun i=>?_;simp only[WA,AF,BJ];by_cases hij:j=i
  ·subst hij;have hje:j<es.size:=by omega
   have h1:(es.toList.map (·.key))[j]?=some (kv a):=by rw[hl,WA,hlj];rfl
   have h2:es[j].key=kv a:=by simpa [hje] using h1
   simp[hje,h2]
  ·simp[hij]
theorem M2 [DecidableEq α] {kv:α->Value} {R:Env} (a:α) (x:C) (value:Value) (l:List α) (vs:List C) (es:Array MapEntry) (hx:Rep R zP x value) (hl:es.toList.map (·.key)=l.map kv) (hv:zy R zP vs (es.toList.map (·.val))):zy R zP (H1 a x l vs).2 ((zea (HF a l) (kv a) value es).toList.map (·.val)):=by
 have hvl:=zx hv;rw[We,WY]at hvl;unfold H1;cases hm:HF a l with
 | none =>
  simp only[zea,Array.toList_push,WS,Wq,WL];exact zq hv (zi.2 ⟨value,[],rfl,hx,zo.2 rfl⟩)
 | some j =>
  simp only[zea];refine Yx (by simp;omega) fun i c v hc hv'=>?_;simp only[WA,AF,BJ]at hv';rw[List.getElem?_set]at hc;by_cases hij:j=i
  ·subst hij;rw[if_pos rfl]at hc;split at hc
   ·cases hc;rename_i hlt;have hje:j<es.size:=by omega
    simp[hje]at hv';subst hv';exact hx
   ·cases hc
  ·rw[if_neg hij]at hc;simp[hij]at hv';obtain ⟨u,e1,e2⟩:=JB hv i c hc;rw[WA,AF]at e1;obtain ⟨e,he,rfl⟩:=hv';rw[he]at e1;cases e1;exact e2
theorem xb {j:Option Nat} {key value:Value} {es:Array MapEntry} (h:∀ (i:Nat) (e:MapEntry),es[i]?=some e->e.born=i):∀ (i:Nat) (e:MapEntry),(zea j key value es)[i]?=some e->e.born=i:=by
 intro i e he;unfold zea at he;cases j with
 | none =>
  simp only[Array.getElem?_push]at he;split at he
  ·cases he;subst_vars;rfl
  ·exact h i e he
 | some j =>
  simp only[BJ]at he;by_cases hij:j=i
  ·rw[if_pos hij]at he;cases hq:es[i]? with
   | none=>rw[hq]at he;cases he
   | some e0=>rw[hq]at he;cases he;exact h i e0 hq
  ·rw[if_neg hij]at he;exact h i e he
theorem My (h:qN G E σ a R L) {id:Nat} {t:TypeId} {ks:MK} {vs:List C} {v:Value} (hr:Rep R L (.mo id t ks vs) v) :
  ∃ b es vvs,v = .map (some b)/\L.T id=some (t,0,HD b ks.vals vvs)/\R.w.heap[b]?=some (.map es es.size)/\es.toList.map (·.key)=ks.vals/\es.toList.map (·.val)=vvs/\(∀ (i:Nat) (e:MapEntry),es[i]?=some e->e.born=i)/\zy R zP vs vvs:=by
 unfold Rep at hr;obtain ⟨b,vvs,e,ht,hl⟩:=hr;rcases h.good.fit.owns.own id _ _ _ ht with g | ⟨g,n,cap,cur,ty,q1,_⟩ | ⟨g,es,kvs,vvs',q1,q2,q3,q4,q5,q6,q7⟩
 ·unfold HD at g;cases g
 ·unfold HD at q1;cases q1
 ·obtain ⟨rfl,rfl,rfl⟩:=NL q1;exact ⟨b,es,vvs,e,ht,q3,q5,q6,q7,hl⟩
theorem Uq {m k:Operand} (ho:o.op = .mapUpdate t m k x∨o.op = .insert t m k x) {K:C->St->Prop} {R:Env} {L:Loc} (h:qN G E σ a R L) (hK:Me P t (zD G σ.tm m) (zD G σ.tm k) (zD G σ.tm x) σ K):jo P o a.eval R.w (YR G E a K):=by
 have hfin:∀ (w':World),(Instr.mapUpdate t (a.eval m) (a.eval k) (a.eval x)).run P R.w = .ok () w'->(execOp a.eval o).run P R.w = .ok .skip w':=fun w' hw=>by
  unfold execOp;rcases ho with ho | ho<;>simp only[ho]<;>rw[Wo,hw]<;>rfl
 unfold Me at hK;split at hK
 ·rename_i q z hm;obtain ⟨kt,et,i,zv,ht,hi,hz,rfl,hk⟩:=Xx hm;rcases hk with ⟨k0,hk0,hkt⟩ | ⟨hk0,_⟩
  ·cases hk0;split at hK<;>try exact hK.elim
   rename_i id t' k' l vs q' n hev hek;obtain ⟨rfl,rfl,rfl,hK⟩:=hK;have hx:=h.ev m;rw[hev]at hx;have hy:=h.ev k;rw[hek,zt]at hy;obtain ⟨b,es,vvs,e1,e2,e3,e4,e5,e6,e7⟩:=My h hx;have hxr:Rep R zP (zD G σ.tm x).frz (a.eval x):=Rep.frz zP _ _ (h.ev x);have hrun:=Gk (zbf _) yi (fun a=>by simp[Instr.sameBits]) ht hkt e3 n (a.eval x) l e4;have hinv:=h.remap e2 e3 (ks':=.int _ (H1 n (zD G σ.tm x).frz l vs).1) (vs':=(H1 n (zD G σ.tm x).frz l vs).2) (xo n (zD G σ.tm x).frz (a.eval x) l vs es e4) rfl (xb (key:=.int _ n) e6) (M2 n _ _ l vs es hxr e4 (by rw[e5];exact e7));unfold jo;rw[hfin _ (by rw[e1,hy];exact hrun)];exact ⟨.any,_,_,_,rfl,hinv,by unfold Rep;trivial,hK⟩
  ·cases hk0
 ·rename_i z hm;obtain ⟨kt,et,i,zv,ht,hi,hz,rfl,hk⟩:=Xx hm;rcases hk with ⟨k0,hk0,_⟩ | ⟨_,hkt⟩
  ·cases hk0
  ·split at hK<;>try exact hK.elim
   rename_i id t' l vs s hev hek;obtain ⟨rfl,hK⟩:=hK;have hx:=h.ev m;rw[hev]at hx;have hy:=h.ev k;rw[hek,z7]at hy;obtain ⟨b,es,vvs,e1,e2,e3,e4,e5,e6,e7⟩:=My h hx;have hxr:Rep R zP (zD G σ.tm x).frz (a.eval x):=Rep.frz zP _ _ (h.ev x);have hrun:=Gk G8 xC Mn ht hkt e3 s (a.eval x) l e4;have hinv:=h.remap e2 e3 (ks':=.str (H1 s (zD G σ.tm x).frz l vs).1) (vs':=(H1 s (zD G σ.tm x).frz l vs).2) (xo (kv:=fun s:Lz=>Value.string ⟨s.toArray⟩) s (zD G σ.tm x).frz (a.eval x) l vs es e4) rfl (xb (key:=.string ⟨s.toArray⟩) e6) (M2 (kv:=fun s:Lz=>Value.string ⟨s.toArray⟩) s _ _ l vs es hxr e4 (by rw[e5];exact e7));unfold jo;rw[hfin _ (by rw[e1,hy];exact hrun)];exact ⟨.any,_,_,_,rfl,hinv,by unfold Rep;trivial,hK⟩
 ·exact hK.elim
end
end
section
open Go.RowKit
abbrev Src:=List (Nat ⊕ (TypeId×Nat))
def VE (src:Src) (T:Own):Own:=fun id=>match src[id]? with
 | some (.inl i)=>T i
 | some (.inr (e,k))=>some (e,k,.slice none 0 0)
 | none=>none
def V1:Src->List Nat
 | []=>[]
 | .inl i :: r=>i :: V1 r
 | .inr _ :: r=>V1 r
def Zc (src:Src):Bool:=decide (V1 src).Nodup
mutual
/-- says less than -/
def CLe (src:Src) (n:Nat):C->C->Prop
 | .own id e k rows,.own id' e' k' rows'=>src[id']?=some (.inl id)/\e=e'/\k=k'/\rows=rows'
 | .own _ _ k rows,.sl k' rows'=>k=k'/\rows=rows'
 | .tight k rows,.sl k' rows'=>k=k'/\rows=rows'
 | .tight k rows,.tight k' rows'=>k=k'/\rows=rows'
 | .sl k rows,.sl k' rows'=>k=k'/\rows=rows'
 | .sc v,.own id e k rows=>v = .slice none 0 0/\src[id]?=some (.inr (e,k))/\rows = []
 | .sc v,.sl _ rows=>v = .slice none 0 0/\rows = []
 | .sc v,.tight _ rows=>v = .slice none 0 0/\rows = []
 | .sc v,.sc u=>v=u
 | .str l,.str l'=>l=l'
 | .agg cs,.agg cs'=>zh src n cs cs'
 | .tup cs,.tup cs'=>zh src n cs cs'
 | .ptr i off,.ptr i' off'=>i=i'/\off=off'/\i<n
 | .bs i off k m c,.bs i' off' k' m' c'=>i=i'/\off=off'/\k=k'/\m=m'/\c=c'/\i<n
 | .row cs,.row cs'=>cs=cs'
 | .mo id t ks vs,.mo id' t' ks' vs'=>src[id']?=some (.inl id)/\t=t'/\ks=ks'/\vs=vs'
 | .clo fn first cap,.clo fn' first' cap'=>fn=fn'/\zh src n first first'/\zh src n cap cap'
 | _,.any=>True
 | _,_=>False
def zh (src:Src) (n:Nat):List C->List C->Prop
 | [],[]=>True
 | c :: r,c' :: r'=>CLe src n c c'/\zh src n r r'
 | _,_=>False
end
section
variable {R:Env} {L:Loc} {src:Src} {n:Nat}
abbrev JJ (src:Src) (n:Nat) (L:Loc):Loc:=⟨L.β.take n,VE src L.T⟩
theorem Uo:Rep R L' .any v:=by unfold Rep;trivial
mutual
theorem Rep.less:∀ (c c':C) (v:Value),CLe src n c c'->Rep R L c v->Rep R (JJ src n L) c' v
 | .own id e k rows,.own id' e' k' rows',v,h,hr=>by
  unfold CLe at h;obtain ⟨h1,rfl,rfl,rfl⟩:=h;unfold Rep at hr ⊢;refine ⟨?_,hr.2⟩;show VE src L.T id'=_;unfold VE;rw[h1];exact hr.1
 | .own _ _ k rows,.sl k' rows',v,h,hr=>by
  unfold CLe at h;obtain ⟨rfl,rfl⟩:=h;unfold Rep at hr ⊢;exact hr.2
 | .tight k rows,.sl k' rows',v,h,hr=>by
  unfold CLe at h;obtain ⟨rfl,rfl⟩:=h;unfold Rep at hr ⊢;obtain ⟨a,e,h2,h3⟩:=hr;exact ⟨a,_,e,Wc _,h2,h3⟩
 | .tight k rows,.tight k' rows',v,h,hr=>by
  unfold CLe at h;obtain ⟨rfl,rfl⟩:=h;unfold Rep at hr ⊢;exact hr
 | .sl k rows,.sl k' rows',v,h,hr=>by
  unfold CLe at h;obtain ⟨rfl,rfl⟩:=h;unfold Rep at hr ⊢;exact hr
 | .sc u,.tight k rows,v,h,hr=>by
  unfold CLe at h;obtain ⟨rfl,rfl⟩:=h;unfold Rep at hr ⊢;exact ⟨none,hr,Wb _,.inl rfl⟩
 | .sc u,.own id e k rows,v,h,hr=>by
  unfold CLe at h;obtain ⟨rfl,h1,rfl⟩:=h;unfold Rep at hr ⊢;refine ⟨?_,none,0,hr,Wc _,Wb _,.inl rfl⟩;show VE src L.T id=_;unfold VE;rw[h1,hr]
 | .sc u,.sl k rows,v,h,hr=>by
  unfold CLe at h;obtain ⟨rfl,rfl⟩:=h;unfold Rep at hr ⊢;exact ⟨none,0,hr,Wc _,Wb _,.inl rfl⟩
 | .sc u,.sc u',v,h,hr=>by
  unfold CLe at h;subst h;unfold Rep at hr ⊢;exact hr
 | .str l,.str l',v,h,hr=>by
  unfold CLe at h;subst h;unfold Rep at hr ⊢;exact hr
 | .agg cs,.agg cs',v,h,hr=>by
  unfold CLe at h;unfold Rep at hr ⊢;obtain ⟨vs,e,hl⟩:=hr;exact ⟨vs,e,zy.less cs cs' _ h hl⟩
 | .tup cs,.tup cs',v,h,hr=>by
  unfold CLe at h;unfold Rep at hr ⊢;obtain ⟨vs,e,hl⟩:=hr;exact ⟨vs,e,zy.less cs cs' _ h hl⟩
 | .ptr i off,.ptr i' off',v,h,hr=>by
  unfold CLe at h;obtain ⟨rfl,rfl,h⟩:=h;unfold Rep at hr ⊢;obtain ⟨b,hb,e⟩:=hr;exact ⟨b,by rw[WK,if_pos h];exact hb,e⟩
 | .bs i off k m c,.bs i' off' k' m' c',v,h,hr=>by
  unfold CLe at h;obtain ⟨rfl,rfl,rfl,rfl,rfl,h⟩:=h;unfold Rep at hr ⊢;obtain ⟨b,hb,e⟩:=hr;exact ⟨b,by rw[WK,if_pos h];exact hb,e⟩
 | .row cs,.row cs',v,h,hr=>by
  unfold CLe at h;subst h;unfold Rep at hr ⊢;exact hr
 | .mo id t ks vs,.mo id' t' ks' vs',v,h,hr=>by
  unfold CLe at h;obtain ⟨h1,rfl,rfl,rfl⟩:=h;unfold Rep at hr ⊢;obtain ⟨b,vvs,e,ht,hl⟩:=hr;refine ⟨b,vvs,e,?_,hl⟩;show VE src L.T id'=_;unfold VE;rw[h1];exact ht
 | .clo fn first cap,.clo fn' first' cap',v,h,hr=>by
  unfold CLe at h;obtain ⟨rfl,h1,h2⟩:=h;unfold Rep at hr ⊢;obtain ⟨fs,cs,e,h3,h4⟩:=hr;exact ⟨fs,cs,e,zy.less first first' _ h1 h3,zy.less cap cap' _ h2 h4⟩
 | c,.any,v,h,hr=>Uo
 | .any,.sc _,_,h,_ | .any,.str _,_,h,_ | .any,.agg _,_,h,_ | .any,.tup _,_,h,_ | .any,.sl _ _,_,h,_ | .any,.tight _ _,_,h,_ | .any,.own _ _ _ _,_,h,_ | .any,.ptr _ _,_,h,_ | .any,.row _,_,h,_ | .any,.clo _ _ _,_,h,_ | .any,.bs _ _ _ _ _,_,h,_ | .any,.mo _ _ _ _,_,h,_=>by unfold CLe at h;exact h.elim
 | .sc _,.str _,_,h,_ | .sc _,.agg _,_,h,_ | .sc _,.tup _,_,h,_ | .sc _,.ptr _ _,_,h,_ | .sc _,.row _,_,h,_ | .sc _,.clo _ _ _,_,h,_ | .sc _,.bs _ _ _ _ _,_,h,_ | .sc _,.mo _ _ _ _,_,h,_=>by unfold CLe at h;exact h.elim
 | .str _,.sc _,_,h,_ | .str _,.agg _,_,h,_ | .str _,.tup _,_,h,_ | .str _,.sl _ _,_,h,_ | .str _,.tight _ _,_,h,_ | .str _,.own _ _ _ _,_,h,_ | .str _,.ptr _ _,_,h,_ | .str _,.row _,_,h,_ | .str _,.clo _ _ _,_,h,_ | .str _,.bs _ _ _ _ _,_,h,_ | .str _,.mo _ _ _ _,_,h,_=>by unfold CLe at h;exact h.elim
 | .agg _,.sc _,_,h,_ | .agg _,.str _,_,h,_ | .agg _,.tup _,_,h,_ | .agg _,.sl _ _,_,h,_ | .agg _,.tight _ _,_,h,_ | .agg _,.own _ _ _ _,_,h,_ | .agg _,.ptr _ _,_,h,_ | .agg _,.row _,_,h,_ | .agg _,.clo _ _ _,_,h,_ | .agg _,.bs _ _ _ _ _,_,h,_ | .agg _,.mo _ _ _ _,_,h,_=>by unfold CLe at h;exact h.elim
 | .tup _,.sc _,_,h,_ | .tup _,.str _,_,h,_ | .tup _,.agg _,_,h,_ | .tup _,.sl _ _,_,h,_ | .tup _,.tight _ _,_,h,_ | .tup _,.own _ _ _ _,_,h,_ | .tup _,.ptr _ _,_,h,_ | .tup _,.row _,_,h,_ | .tup _,.clo _ _ _,_,h,_ | .tup _,.bs _ _ _ _ _,_,h,_ | .tup _,.mo _ _ _ _,_,h,_=>by unfold CLe at h;exact h.elim
 | .sl _ _,.sc _,_,h,_ | .sl _ _,.str _,_,h,_ | .sl _ _,.agg _,_,h,_ | .sl _ _,.tup _,_,h,_ | .sl _ _,.tight _ _,_,h,_ | .sl _ _,.own _ _ _ _,_,h,_ | .sl _ _,.ptr _ _,_,h,_ | .sl _ _,.row _,_,h,_ | .sl _ _,.clo _ _ _,_,h,_ | .sl _ _,.bs _ _ _ _ _,_,h,_ | .sl _ _,.mo _ _ _ _,_,h,_=>by unfold CLe at h;exact h.elim
 | .tight _ _,.sc _,_,h,_ | .tight _ _,.str _,_,h,_ | .tight _ _,.agg _,_,h,_ | .tight _ _,.tup _,_,h,_ | .tight _ _,.own _ _ _ _,_,h,_ | .tight _ _,.ptr _ _,_,h,_ | .tight _ _,.row _,_,h,_ | .tight _ _,.clo _ _ _,_,h,_ | .tight _ _,.bs _ _ _ _ _,_,h,_ | .tight _ _,.mo _ _ _ _,_,h,_=>by unfold CLe at h;exact h.elim
 | .own _ _ _ _,.sc _,_,h,_ | .own _ _ _ _,.str _,_,h,_ | .own _ _ _ _,.agg _,_,h,_ | .own _ _ _ _,.tup _,_,h,_ | .own _ _ _ _,.tight _ _,_,h,_ | .own _ _ _ _,.ptr _ _,_,h,_ | .own _ _ _ _,.row _,_,h,_ | .own _ _ _ _,.clo _ _ _,_,h,_ | .own _ _ _ _,.bs _ _ _ _ _,_,h,_ | .own _ _ _ _,.mo _ _ _ _,_,h,_=>by unfold CLe at h;exact h.elim
 | .ptr _ _,.sc _,_,h,_ | .ptr _ _,.str _,_,h,_ | .ptr _ _,.agg _,_,h,_ | .ptr _ _,.tup _,_,h,_ | .ptr _ _,.sl _ _,_,h,_ | .ptr _ _,.tight _ _,_,h,_ | .ptr _ _,.own _ _ _ _,_,h,_ | .ptr _ _,.row _,_,h,_ | .ptr _ _,.clo _ _ _,_,h,_ | .ptr _ _,.bs _ _ _ _ _,_,h,_ | .ptr _ _,.mo _ _ _ _,_,h,_=>by unfold CLe at h;exact h.elim
 | .row _,.sc _,_,h,_ | .row _,.str _,_,h,_ | .row _,.agg _,_,h,_ | .row _,.tup _,_,h,_ | .row _,.sl _ _,_,h,_ | .row _,.tight _ _,_,h,_ | .row _,.own _ _ _ _,_,h,_ | .row _,.ptr _ _,_,h,_ | .row _,.clo _ _ _,_,h,_ | .row _,.bs _ _ _ _ _,_,h,_ | .row _,.mo _ _ _ _,_,h,_=>by unfold CLe at h;exact h.elim
 | .clo _ _ _,.sc _,_,h,_ | .clo _ _ _,.str _,_,h,_ | .clo _ _ _,.agg _,_,h,_ | .clo _ _ _,.tup _,_,h,_ | .clo _ _ _,.sl _ _,_,h,_ | .clo _ _ _,.tight _ _,_,h,_ | .clo _ _ _,.own _ _ _ _,_,h,_ | .clo _ _ _,.ptr _ _,_,h,_ | .clo _ _ _,.row _,_,h,_ | .clo _ _ _,.bs _ _ _ _ _,_,h,_ | .clo _ _ _,.mo _ _ _ _,_,h,_=>by unfold CLe at h;exact h.elim
 | .bs _ _ _ _ _,.sc _,_,h,_ | .bs _ _ _ _ _,.str _,_,h,_ | .bs _ _ _ _ _,.agg _,_,h,_ | .bs _ _ _ _ _,.tup _,_,h,_ | .bs _ _ _ _ _,.sl _ _,_,h,_ | .bs _ _ _ _ _,.tight _ _,_,h,_ | .bs _ _ _ _ _,.own _ _ _ _,_,h,_ | .bs _ _ _ _ _,.ptr _ _,_,h,_ | .bs _ _ _ _ _,.row _,_,h,_ | .bs _ _ _ _ _,.clo _ _ _,_,h,_ | .bs _ _ _ _ _,.mo _ _ _ _,_,h,_=>by unfold CLe at h;exact h.elim
 | .mo _ _ _ _,.sc _,_,h,_ | .mo _ _ _ _,.str _,_,h,_ | .mo _ _ _ _,.agg _,_,h,_ | .mo _ _ _ _,.tup _,_,h,_ | .mo _ _ _ _,.sl _ _,_,h,_ | .mo _ _ _ _,.tight _ _,_,h,_ | .mo _ _ _ _,.own _ _ _ _,_,h,_ | .mo _ _ _ _,.ptr _ _,_,h,_ | .mo _ _ _ _,.row _,_,h,_ | .mo _ _ _ _,.clo _ _ _,_,h,_ | .mo _ _ _ _,.bs _ _ _ _ _,_,h,_=>by unfold CLe at h;exact h.elim
theorem zy.less:∀ (cs cs':List C) (vs:List Value),zh src n cs cs'->zy R L cs vs->zy R (JJ src n L) cs' vs
 | [],[],vs,h,hr=>by rw[zo]at hr ⊢;exact hr
 | c :: r,c' :: r',vs,h,hr=>by
  unfold zh at h;rw[zi]at hr ⊢;obtain ⟨v,us,e,h1,h2⟩:=hr;exact ⟨v,us,e,Rep.less c c' v h.1 h1,zy.less r r' us h.2 h2⟩
 | [],_ :: _,_,h,_=>by unfold zh at h;exact h.elim
 | _ :: _,[],_,h,_=>by unfold zh at h;exact h.elim
end
end
def ze (src:Src) (n:Nat) (tm:List (Nat×C)):List (Nat×C)->Prop
 | []=>True
 | (t,c) :: r=>CLe src n (jZ tm t) c/\ze src n tm r
def zd (src:Src) (n:Nat):List (List C)->List (List C)->Prop
 | _,[]=>True
 | cs :: r,cs' :: r'=>zh src n cs cs'/\zd src n r r'
 | [],_ :: _=>False
def JY (p:Nat) (σ σ':St):Prop:=∃ src:Src,Zc src=true/\src.length=σ'.nx/\p<=σ'.bx.length/\σ'.lg=σ.lg/\ze src σ'.bx.length σ.tm σ'.tm/\zd src σ'.bx.length σ.bx σ'.bx
theorem JY.mk {p:Nat} {σ σ':St} (src:Src) (h1:Zc src=true) (h2:src.length=σ'.nx) (h3:p<=σ'.bx.length) (h0:σ'.lg=σ.lg) (h4:ze src σ'.bx.length σ.tm σ'.tm) (h5:zd src σ'.bx.length σ.bx σ'.bx):JY p σ σ':=⟨src,h1,h2,h3,h0,h4,h5⟩
theorem GP {src:Src} {n:Nat} {tm:List (Nat×C)} {R:Env} {L:Loc} {f:Nat->Value} (h0:∀ t,Rep R L (jZ tm t) (f t)):∀ {tm':List (Nat×C)},ze src n tm tm'->∀ t,Rep R (JJ src n L) (jZ tm' t) (f t)
 | [],_,t=>Uo
 | (u,c) :: r,h,t=>by
  simp only[ze]at h;simp only[jZ];split
  ·subst_vars;exact Rep.less _ _ _ h.1 (h0 _)
  ·exact GP h0 h.2 t
theorem Xn {src:Src} {n:Nat}:∀ {bx bx':List (List C)},zd src n bx bx'->∀ (i:Nat) cs',bx'[i]?=some cs'->∃ cs,bx[i]?=some cs/\zh src n cs cs'
 | _,[],_,i,cs',h=>by simp at h
 | cs :: r,cs0 :: r',h,0,cs',hc=>by
  simp only[zd]at h;simp at hc;subst hc;exact ⟨cs,rfl,h.1⟩
 | cs :: r,cs0 :: r',h,i+1,cs',hc=>by
  simp only[zd]at h;obtain ⟨c,h1,h2⟩:=Xn h.2 i cs' (by simpa using hc);exact ⟨c,by simpa using h1,h2⟩
 | [],_ :: _,h,_,_,_=>by simp only[zd]at h
theorem ZQ:∀ {src:Src} {id i:Nat},src[id]?=some (.inl i)->i∈V1 src
 | [],_,_,h=>by simp at h
 | x :: r,0,i,h=>by
  simp at h;subst h;simp[V1]
 | .inl j :: r,id+1,i,h=>by
  simp only[V1];exact Wl _ (ZQ (by simpa using h))
 | .inr j :: r,id+1,i,h=>by
  simp only[V1];exact ZQ (src:=r) (id:=id) (by simpa using h)
theorem MF:∀ {src:Src},(V1 src).Nodup->∀ {id id' i:Nat},src[id]?=some (.inl i)->src[id']?=some (.inl i)->id=id'
 | [],_,_,_,_,h,_=>by simp at h
 | x :: r,hn,0,0,i,h,h'=>rfl
 | x :: r,hn,0,id'+1,i,h,h'=>by
  simp at h;subst h;simp only[V1,OV]at hn;exact absurd (ZQ (src:=r) (id:=id') (by simpa using h')) hn.1
 | x :: r,hn,id+1,0,i,h,h'=>by
  simp at h';subst h';simp only[V1,OV]at hn;exact absurd (ZQ (src:=r) (id:=id) (by simpa using h)) hn.1
 | x :: r,hn,id+1,id'+1,i,h,h'=>by
  have hn':(V1 r).Nodup:=by
   cases x with
   | inl j=>simp only[V1,OV]at hn;exact hn.2
   | inr j=>exact hn
  rw[MF hn' (id:=id) (id':=id') (i:=i) (by simpa using h) (by simpa using h')]
theorem UY {src:Src} {β':List Nat} (hs:Zc src=true) (hβ:∀ b∈β',b∈L.β) (h:ZY B R L):ZY B R ⟨β',VE src L.T⟩:=by
 have hn:(V1 src).Nodup:=WP hs;have key:∀ id e k v b,VE src L.T id=some (e,k,v)->v.ownB=some b->∃ i,src[id]?=some (.inl i)/\L.T i=some (e,k,v):=fun id e k v b ht hb=>by
  unfold VE at ht;split at ht
  ·rename_i i hi;exact ⟨i,hi,ht⟩
  ·cases ht;cases hb
  ·cases ht
 refine ⟨fun id e k v ht=>?_,fun id id' e k v e' k' v' b h1 h2 h3 h4=>?_⟩
 ·have ht':VE src L.T id=some (e,k,v):=ht;unfold VE at ht';split at ht'
  ·exact (h.own _ e k v ht').move fun g _ q2 _ q7=>⟨q2,rfl,fun hx=>q7 (hβ _ hx),fun _ h=>h⟩
  ·cases ht';exact .inl rfl
  ·cases ht'
 ·obtain ⟨i,hi1,hi2⟩:=key id e k v b h1 h3;obtain ⟨j,hj1,hj2⟩:=key id' e' k' v' b h2 h4;have:=h.apart i j e k v e' k' v' b hi2 hj2 h3 h4;subst this;exact MF hn hi1 hj1
section
variable {G:zu} {E:Ctx} {σ σ':St} {a:Act} {p:Nat}
theorem Xm {R:Env} {src:Src} {id e:Nat} (ht:VE src L.T id=some (e,k,v)) (hb:v.ownB=some b):∃ i,src[id]?=some (.inl i)/\L.T i=some (e,k,v):=by
 unfold VE at ht;split at ht
 ·rename_i i hi;exact ⟨i,hi,ht⟩
 ·cases ht;cases hb
 ·cases ht
theorem YQ.weak (hp:E.β0.length<=p) (hw:JY p σ σ') (h:YQ G E σ R L):∃ src:Src,ze src σ'.bx.length σ.tm σ'.tm/\YQ G E σ' R (JJ src σ'.bx.length L):=by
 obtain ⟨src,h1,h2,h3,h0,h4,h5⟩:=hw;have hl:=h.fit.boxes.len;have hlen:σ'.bx.length<=σ.bx.length:=by
  rcases Wr σ.bx.length σ'.bx.length with hx | hx
  ·obtain ⟨cs,hc,_⟩:=Xn h5 σ.bx.length (σ'.bx[σ.bx.length]) (Wa hx);simp at hc
  ·exact hx
 obtain ⟨more,hm1⟩:=h.box;have hg:=h;refine ⟨src,h4,⟨⟨h.fit.glob,⟨by simp;omega,h.fit.boxes.nodup.sublist (List.take_sublist _ _),fun i b cs' hi hc=>?_⟩,UY h1 (fun b hb=>Wx hb) h.fit.owns,h.fit.base⟩,hg.os,hg.tape,hg.output,hg.size,hg.blk,hg.ext,⟨more.take (σ'.bx.length-E.β0.length),?_⟩,fun b hb=>hg.tub b (Wx hb),hg.flt,hg.fz,fun b hb=>hg.fbx b (Wx hb),fun id e k v b ht hv=>?_,fun id hi=>?_,by rw[h0];exact hg.log⟩⟩
 ·obtain ⟨cs,hc1,hc2⟩:=Xn h5 i cs' hc;have hi':L.β[i]?=some b:=by
   have hi:(L.β.take σ'.bx.length)[i]?=some b:=hi;rw[WK]at hi;split at hi
   ·exact hi
   ·cases hi
  obtain ⟨vs,ty,e1,e2,e3,e4⟩:=h.fit.boxes.box i b cs hi' hc1;exact ⟨vs,ty,e1,zy.less _ _ _ hc2 e2,e3,e4⟩
 ·show L.β.take σ'.bx.length=_;rw[hm1,AJ,Wf (by omega)]
 ·obtain ⟨i,_,hi⟩:=Xm (R:=R) ht hv;exact hg.fow i e k v b hi hv
 ·show VE src L.T id=none;unfold VE;rw[W4 (by omega)]
theorem qN.weak (hp:E.β0.length<=p) (hw:JY p σ σ') (h:qN G E σ a R L):∃ L',qN G E σ' a R L':=by
 obtain ⟨src,h4,hg⟩:=h.good.weak hp hw;exact ⟨_,hg,h.size,h.df,GP h.tm h4⟩
theorem Inv.weak (hp:E.β0.length<=p) (hw:JY p σ σ') (h:Inv G E σ a w):Inv G E σ' a w:=by
 obtain ⟨R,L,e,h⟩:=h;obtain ⟨L',h'⟩:=h.weak hp hw;exact ⟨R,L',e,h'⟩
end
end
section
open Go.RowKit
def XE (L:Loc) (b:Nat):Prop:=b∈L.β∨∃ id e k v,L.T id=some (e,k,v)/\v.ownB=some b
mutual
/-- boxes and owners under other zp -/
def C.re (fp fo:Nat->Option Nat):C->C
 | .own id e k rows=>match fo id with
  | some j=>.own j e k rows
  | none=>.sl k rows
 | .ptr i off=>match fp i with
  | some j=>.ptr j off
  | none=>.any
 | .bs i off k n c=>match fp i with
  | some j=>.bs j off k n c
  | none=>.any
 | .mo id t ks vs=>match fo id with
  | some j=>.mo j t ks vs
  | none=>.any
 | .agg cs=>.agg (C.reL fp fo cs)
 | .tup cs=>.tup (C.reL fp fo cs)
 | .clo fn first cap=>.clo fn (C.reL fp fo first) (C.reL fp fo cap)
 | .sc v=>.sc v
 | .str l=>.str l
 | .sl k rows=>.sl k rows
 | .tight k rows=>.tight k rows
 | .row cs=>.row cs
 | .any=>.any
def C.reL (fp fo:Nat->Option Nat):List C->List C
 | []=>[]
 | c :: r=>c.re fp fo :: C.reL fp fo r
end
section
variable {fp fo:Nat->Option Nat} {R R':Env} {L L':Loc}
mutual
theorem Rep.re (he:Ext R R') (hb:∀ i j b,fp i=some j->L.β[i]?=some b->L'.β[j]?=some b) (ho:∀ i j x,fo i=some j->L.T i=some x->L'.T j=some x):∀ (c:C) (v:Value),Rep R L c v->Rep R' L' (c.re fp fo) v
 | .sc _,_,h=>by unfold C.re;unfold Rep at h ⊢;exact h
 | .str _,_,h=>by unfold C.re;unfold Rep at h ⊢;exact h
 | .agg cs,_,h=>by
  unfold C.re;unfold Rep at h ⊢;obtain ⟨vs,e,hl⟩:=h;exact ⟨vs,e,zy.re he hb ho cs _ hl⟩
 | .tup cs,_,h=>by
  unfold C.re;unfold Rep at h ⊢;obtain ⟨vs,e,hl⟩:=h;exact ⟨vs,e,zy.re he hb ho cs _ hl⟩
 | .sl k rows,v,h=>by
  unfold C.re;exact Rep.ext he (zS.none L') (.sl k rows) v (T:=zP) (by unfold Rep at h ⊢;exact h)
 | .tight k rows,v,h=>by
  unfold C.re;exact Rep.ext he (zS.none L') (.tight k rows) v (T:=zP) (by unfold Rep at h ⊢;exact h)
 | .own id e k rows,v,h=>by
  unfold C.re;have h2:=Rep.ext he (zS.none L') (.sl k rows) v (T:=zP) (by unfold Rep at h ⊢;exact h.2);split
  ·rename_i j hj;unfold Rep at h h2 ⊢;exact ⟨ho _ _ _ hj h.1,h2⟩
  ·exact h2
 | .ptr i off,_,h=>by
  unfold C.re;unfold Rep at h;split
  ·rename_i j hj;obtain ⟨b,e,h⟩:=h;unfold Rep;exact ⟨b,hb _ _ _ hj e,h⟩
  ·unfold Rep;trivial
 | .bs i off k n c,_,h=>by
  unfold C.re;unfold Rep at h;split
  ·rename_i j hj;obtain ⟨b,e,h⟩:=h;unfold Rep;exact ⟨b,hb _ _ _ hj e,h⟩
  ·unfold Rep;trivial
 | .mo id t ks vs,_,h=>by
  unfold C.re;unfold Rep at h;split
  ·rename_i j hj;obtain ⟨b,vvs,e,ht,hl⟩:=h;unfold Rep;exact ⟨b,vvs,e,ho _ _ _ hj ht,zy.ext he (zS.refl _) _ _ hl⟩
  ·unfold Rep;trivial
 | .row cs,v,h=>by
  unfold C.re;exact Rep.ext he (zS.none L') (.row cs) v (T:=zP) (by unfold Rep at h ⊢;exact h)
 | .clo fn first cap,_,h=>by
  unfold C.re;unfold Rep at h ⊢;obtain ⟨fs,cs,e,h1,h2⟩:=h;exact ⟨fs,cs,e,zy.re he hb ho first _ h1,zy.re he hb ho cap _ h2⟩
 | .any,_,_=>by unfold C.re;unfold Rep;trivial
theorem zy.re (he:Ext R R') (hb:∀ i j b,fp i=some j->L.β[i]?=some b->L'.β[j]?=some b) (ho:∀ i j x,fo i=some j->L.T i=some x->L'.T j=some x):∀ (cs:List C) (vs:List Value),zy R L cs vs->zy R' L' (C.reL fp fo cs) vs
 | [],_,h=>by unfold C.reL;rw[zo]at h ⊢;exact h
 | c :: r,_,h=>by
  unfold C.reL;rw[zi]at h ⊢;obtain ⟨v,us,e,h1,h2⟩:=h;exact ⟨v,us,e,Rep.re he hb ho c v h1,zy.re he hb ho r us h2⟩
end
end
def YX (P:Program) (G:zu) (f:FuncId) (args:List C) (bx:List (List C)) (q:Nat) (post:C->List (List C)->Nat->Prop):Prop:=
 Y9 P f=true/\∀ (R:Env) (L:Loc) (vs:List Value),X7 G R->jV R L bx->ZY (fun _=>True) R L->(∀ id,q<=id->L.T id=none)->(∀ b,R.F b->b<R.w.heap.size)->(∀ b,XE L b->¬R.F b)->zy R L args vs ->
  Calls P f vs.toArray R.w fun e w'=>∃ r bx' n,(post r bx' n/\bx.length<=bx'.length)/\∃ v R' L',e = .returned v/\R'.w=w'/\yG R.w (XE L) R R'/\jV R' L' bx'/\ZY (fun g=>R.w.heap.size<=g∨XE L g) R' L'/\(∃ more,L'.β=L.β++more/\∀ b∈more,R.w.heap.size<=b)/\(∀ id,n<=id->L'.T id=none)/\Rep R' L' r v
theorem YX.bySlice {G:zu} {f:FuncId} {rows:List (List C)} {rest:List C} {bx:List (List C)} {q:Nat} {post:C->List (List C)->Nat->Prop} (h1:rows≠[]->YX P G f (.sl k rows :: rest) bx q post)
  (h2:rows = []->∀ a cap,(∀ k,C.rows? k (.sc (.slice a 0 cap))=some [])->YX P G f (.sc (.slice a 0 cap) :: rest) bx q post):YX P G f (.sl k rows :: rest) bx q post:=by
 by_cases h:rows = []
 ·have hn:=h2 h none 0 (fun k=>rfl);refine ⟨hn.1,fun R L vs a1 a2 a3 a4 a5 a6 hv=>?_⟩;obtain ⟨v,us,rfl,hv,hus⟩:=zi.1 hv;unfold Rep at hv;obtain ⟨a,cap,e,_,hc,_⟩:=hv;rw[h]at e;refine (h2 h a cap (fun k=>?_)).2 R L _ a1 a2 a3 a4 a5 a6 (zi.2 ⟨v,us,rfl,zt.2 e,hus⟩);cases a with
  | none=>cases cap with
   | zero=>rfl
   | succ c=>simp[C.rows?,hc]
  | some a=>simp[C.rows?,hc]
 ·exact h1 h
def Mw (P:Program) (G:zu) (f:FuncId) (args:List C) (bx:List (List C)) (q:Nat) (r:C) (bx':List (List C)) (n:Nat):Prop:=
 YX P G f args bx q fun r' b' n'=>r'=r/\b'=bx'/\n'=n
def X2:List Nat->Nat->Option Nat
 | [],_=>none
 | x :: r,i=>if i=x then some 0 else (X2 r i).map (·+1)
theorem Vs:∀ (l:List Nat) (i j:Nat),X2 l i=some j->l[j]?=some i
 | [],i,j,h=>by simp[X2]at h
 | x :: r,i,j,h=>by
  unfold X2 at h;split at h
  ·cases h;subst_vars;rfl
  ·cases hq:X2 r i with
   | none=>rw[hq]at h;cases h
   | some k =>
    rw[hq]at h;cases h;simpa using Vs r i k hq
def upB (ι:List Nat) (m j:Nat):Option Nat:=match ι[j]? with | some i=>some i | none=>some (m+(j-ι.length))
def upO (nx j:Nat):Option Nat:=some (nx+j)
def Vf (κ:List Nat) (i:Nat):Option Nat:=if i∈κ then none else some i
def Gw (fp fo:Nat->Option Nat):List (Nat×C)->List (Nat×C)
 | []=>[]
 | (t,c) :: r=>(t,c.re fp fo) :: Gw fp fo r
theorem Nl (fp fo:Nat->Option Nat):∀ (tm:List (Nat×C)) (t:Nat),jZ (Gw fp fo tm) t=(jZ tm t).re fp fo
 | [],t=>by simp only[Gw,jZ];unfold C.re;rfl
 | (u,c) :: r,t=>by
  simp only[Gw,jZ];split
  ·rfl
  ·exact Nl fp fo r t
def Mv (fp fo:Nat->Option Nat):List (List C)->List (List C)
 | []=>[]
 | cs :: r=>C.reL fp fo cs :: Mv fp fo r
theorem QR (fp fo:Nat->Option Nat):∀ (bx:List (List C)) (i:Nat),(Mv fp fo bx)[i]?=(bx[i]?).map (C.reL fp fo)
 | [],i=>by simp[Mv]
 | c :: r,0=>by simp[Mv]
 | c :: r,i+1=>by simp[Mv,QR fp fo r i]
theorem je (fp fo:Nat->Option Nat):∀ bx:List (List C),(Mv fp fo bx).length=bx.length
 | []=>rfl
 | c :: r=>by simp[Mv,je fp fo r]
def Ui:List Nat->List (List C)->List (List C)->List (List C)
 | i :: ι,cs :: r,bx=>Ui ι r (bx.set i cs)
 | _,_,bx=>bx
theorem J7:∀ (ι:List Nat) (l bx:List (List C)),(Ui ι l bx).length=bx.length
 | [],_,_=>rfl
 | i :: ι,[],_=>rfl
 | i :: ι,c :: r,bx=>by simp[Ui,J7 ι r]
theorem ZG:∀ (ι:List Nat) (l bx:List (List C)) (i:Nat),i∉ι->(Ui ι l bx)[i]?=bx[i]?
 | [],_,_,i,_=>rfl
 | x :: ι,[],_,i,_=>rfl
 | x :: ι,c :: r,bx,i,h=>by
  simp only[Ui];rw[ZG ι r _ i (fun h'=>h (Wl _ h')),Ow (fun e:x=i=>h (by rw[e];exact Wk))]
theorem x6:∀ (ι:List Nat) (l bx:List (List C)) (i j:Nat) (cs:List C),ι.Nodup->ι[j]?=some i->l[j]?=some cs->i<bx.length->(Ui ι l bx)[i]?=some cs
 | [],_,_,i,j,cs,_,h,_,_=>by simp at h
 | x :: ι,[],_,i,j,cs,_,_,h,_=>by simp at h
 | x :: ι,c :: r,bx,i,0,cs,hn,h1,h2,h3=>by
  simp at h1 h2;subst h1 h2;simp only[Ui];rw[ZG ι r _ x (OV.1 hn).1,OD h3]
 | x :: ι,c :: r,bx,i,j+1,cs,hn,h1,h2,h3=>by
  simp only[Ui];exact x6 ι r _ i j cs (OV.1 hn).2 (by simpa using h1) (by simpa using h2) (by simpa using h3)
def ZS (ι κ:List Nat) (bx':List (List C)) (n:Nat) (σ:St):St:=
 ⟨Gw some (Vf κ) σ.tm,Ui ι (Mv (upB ι σ.bx.length) (upO σ.nx) bx') (Mv some (Vf κ) σ.bx)++Mv (upB ι σ.bx.length) (upO σ.nx) (bx'.drop ι.length),σ.nx+n,σ.lg⟩
def kX (P:Program) (G:zu) (f:FuncId) (args:List C) (σ:St) (K:C->St->Prop):Prop:=
 ∃ (ι κ:List Nat) (post:C->List (List C)->Nat->Prop),ι.Nodup/\κ.Nodup/\(∀ i∈ι,i<σ.bx.length) /\
  YX P G f (C.reL (X2 ι) (X2 κ) args) (ι.map fun i=>C.reL (X2 ι) (X2 κ) (σ.bx.getD i [])) κ.length post/\∀ r bx' n,post r bx' n->K (r.re (upB ι σ.bx.length) (upO σ.nx)) (ZS ι κ bx' n σ)
def yV (P:Program) (G:zu) (f:FuncId) (args:List C) (σ:St) (K:C->St->Prop):Prop:=
 ∃ (ι κ:List Nat) (r:C) (bx':List (List C)) (n:Nat),ι.Nodup/\κ.Nodup/\(∀ i∈ι,i<σ.bx.length) /\
  Mw P G f (C.reL (X2 ι) (X2 κ) args) (ι.map fun i=>C.reL (X2 ι) (X2 κ) (σ.bx.getD i [])) κ.length r bx' n/\K (r.re (upB ι σ.bx.length) (upO σ.nx)) (ZS ι κ bx' n σ)
section
variable {P:Program} {G:zu} {E:Ctx} {σ σ':St} {o:Oper} {a:Act} {R R':Env} {L L':Loc}
theorem YQ.turf (h:YQ G E σ R L) {b:Nat} (hb:XE L b):E.tu b/\¬R.F b/\b<R.w.heap.size/\((∃ cs t f,R.w.heap[b]?=some (.cells cs t f))∨∃ es cl,R.w.heap[b]?=some (.map es cl)):=by
 rcases hb with hb | ⟨id,e,k,v,ht,hv⟩
 ·obtain ⟨i,hi,rfl⟩:=Wt hb;have hl:=h.fit.boxes.len;obtain ⟨vs,ty,g,_⟩:=h.fit.boxes.box i L.β[i] (σ.bx[i]'(by omega)) (Wa hi) (Wa (by omega));exact ⟨h.tubx _ hb,h.fbx _ hb,qk g,.inl ⟨_,_,_,g⟩⟩
 ·have ho:=h.fit.owns.own id e k v ht;have hf:=h.fow id e k v b ht hv;exact ⟨(ho.block hv).1,hf,(ho.block hv).2.1,ho.held hv⟩
abbrev GQ (G:zu) (E:Ctx) (a:Act) (nx:Nat) (L:Loc) (K:C->St->Prop) (v:Value) (w':World):Prop:=∃ c σ' R' L',R'.w=w'/\qN G E σ' a R' L'/\Rep R' L' c v/\K c σ'/\∀ id,id<nx->L.T id=none->L'.T id=none
theorem GQ.after {L:Loc} {K:C->St->Prop} (h:GQ G E a nx L K v w'):YR G E a K v w':=by
 obtain ⟨c,σ',R',L',h1,h2,h3,h4,_⟩:=h;exact ⟨c,σ',R',L',h1,h2,h3,h4⟩
theorem Un {c:Call} (ho:o.op = .call c) (hc:c.callee = .value f) {fid:FuncId} {first cap:List C} (hev:zD G σ.tm f = .clo (.func fid) first cap) {K:C->St->Prop} (h:qN G E σ a R L)
  (hK:kX P G fid (first++c.args.toList.map (zD G σ.tm)++cap) σ K):jo P o a.eval R.w (GQ G E a σ.nx L K):=by
 obtain ⟨ι,κ,post,hι,hκ,hιb,⟨hent,hfun⟩,hK⟩:=hK;have hg:=h.good;have hbl:=hg.fit.boxes.len;have hnd:=hg.fit.boxes.nodup
 let g:Nat->Nat:=fun i=>L.β.getD i 0
 have hgv:∀ i,i<σ.bx.length->L.β[i]?=some (g i):=fun i hi=>by
  simp only[g,Oc];rw[Wa (by omega)];rfl
 have hginj:∀ i j,i<σ.bx.length->j<σ.bx.length->g i=g j->i=j:=fun i j hi hj e=>by
  have h1:=hgv i hi;have h2:=hgv j hj;rw[e,←h2]at h1;exact (Ah (by omega) hnd).1 h1
 let Lf:Loc:=⟨ι.map g,fun j=>(κ[j]?).bind L.T⟩
 have hfβ:∀ j b,(ι.map g)[j]?=some b->∃ i,ι[j]?=some i/\i<σ.bx.length/\L.β[i]?=some b:=fun j b hj=>by
  rw[WA]at hj;cases hq:ι[j]? with
  | none=>rw[hq]at hj;cases hj
  | some i =>
   rw[hq]at hj;cases hj;have hi:=hιb i (Wg hq);exact ⟨i,hq,hi,hgv i hi⟩
 have hre:∀ cs vs,zy R L cs vs->zy R Lf (C.reL (X2 ι) (X2 κ) cs) vs:=fun cs vs hr=>zy.re (Ext.refl R) (fun i j b hij hb=>by
   have:=Vs ι i j hij;show (ι.map g)[j]?=some b;rw[WA,this];have hi:=hιb i (Wg this);rw[←hb,hgv i hi];rfl) (fun i j x hij hx=>by
   have:=Vs κ i j hij;show (κ[j]?).bind L.T=some x;rw[this];exact hx) _ _ hr
 have hTf:∀ j x,Lf.T j=some x->∃ id,κ[j]?=some id/\L.T id=some x:=fun j x hj=>by
  have hj:(κ[j]?).bind L.T=some x:=hj;cases hq:κ[j]? with
  | none=>rw[hq]at hj;cases hj
  | some id=>rw[hq]at hj;exact ⟨id,rfl,hj⟩
 have hturf:∀ b,XE Lf b->XE L b:=fun b hb=>by
  rcases hb with hb | ⟨id,e,k,v,ht,hv⟩
  ·obtain ⟨j,hj,rfl⟩:=Wt hb;obtain ⟨i,_,_,hi⟩:=hfβ j _ (Wa hj);exact .inl (Wg hi)
  ·obtain ⟨id',_,ht'⟩:=hTf id _ ht;exact .inr ⟨id',e,k,v,ht',hv⟩
 have hownOld:∀ id e k v b,L.T id=some (e,k,v)->v.ownB=some b->E.tu b/\b<R.w.heap.size/\b∉L.β:=fun id e k v b ht hv=>(hg.fit.owns.own id e k v ht).block hv;have hf:=h.ev f;rw[hev,YM]at hf;obtain ⟨fs,cs,e1,h1,h2⟩:=hf;have hargs:=hre _ _ (zq (zq h1 (YZ h.ev c.args.toList)) h2);have hκinj:∀ (i j x:Nat),κ[i]?=some x->κ[j]?=some x->i=j:=fun i j x hi hj=>(Ah (Wd.1 hi).1 hκ).1 (hi.trans hj.symm);have hcall:=hfun R Lf _ hg.fit.glob ⟨by simp[Lf],by
   show (ι.map g).Nodup;rw[List.Nodup,List.pairwise_map];exact hι.imp_of_mem fun {i j} hi hj hne e=>hne (hginj i j (hιb i hi) (hιb j hj) e),fun j b cs' hj hc'=>by
   obtain ⟨i,hi,hib,hib'⟩:=hfβ j b hj;rw[WA,hi]at hc';have hbx:σ.bx[i]?=some (σ.bx.getD i []):=by rw[Oc,Wa hib];rfl
   cases hc';obtain ⟨vs,ty,q1,q2,q3,q4⟩:=hg.fit.boxes.box i b _ hib' hbx;exact ⟨vs,ty,q1,hre _ _ q2,q3,q4⟩⟩
  ⟨fun j e k v hj=>by
   obtain ⟨id,_,hid⟩:=hTf j _ hj
   ·refine (hg.fit.owns.own id e k v hid).move fun gg _ q2 _ q7=>⟨trivial,rfl,fun hx=>q7 ?_,fun _ h=>h⟩;have hx:gg∈ι.map g:=hx;obtain ⟨i,hi,rfl⟩:=WV.1 hx;exact Wg (hgv i (hιb i hi)),fun i j e k v e' k' v' b hi hj hv hv'=>by
   obtain ⟨x,hx,hx'⟩:=hTf i _ hi;obtain ⟨y,hy,hy'⟩:=hTf j _ hj;have:=hg.fit.owns.apart x y e k v e' k' v' b hx' hy' hv hv';subst this;exact hκinj i j x hx hy⟩ (fun id hid=>by
   show (κ[id]?).bind L.T=none;rw[W4 hid];rfl) hg.flt (fun b hb=>(hg.turf (hturf b hb)).2.1) hargs
 have hrun:(execOp a.eval o).run P R.w = .ok (.enter fid (fs.toList++c.args.toList.map a.eval++cs.toList).toArray) R.w:=by
  unfold execOp;simp only[ho,resolve,hc,e1];have e2:(Deferred.ofValue (.func (.func fid) fs cs) (c.args.map a.eval)).run P R.w = .ok { target:=.fn (.func fid) cs,args:=fs++c.args.map a.eval } R.w:=by
   simp[Deferred.ofValue]
  rw[Wo,e2];simp only[Wi,invoke];rw[ZO hent];congr 2;apply BA;simp
 unfold jo;rw[hrun];refine hcall.mono ?_;rintro e w' ⟨r,bx',n,⟨hpost,hlen⟩,v,R',L',rfl,rfl,hn,hbx',how',⟨more,hm1,hm2⟩,hfree',hrep⟩;have hK:=hK r bx' n hpost;have hm1:L'.β=ι.map g++more:=hm1;have hιl:(ι.map g).length=ι.length:=by simp
 have hmn:=hbx'.nodup;rw[hm1,Ag]at hmn;have hnear:yG E.w0 E.ex R R':=⟨hn.os,hn.tape,hn.output,hn.size,hn.fgn,hn.ext,fun b hb=>(hn.blk b hb).imp id fun ⟨q1,q2,q3⟩=>⟨by
  rcases q1 with q1 | q1
  ·omega
  ·exact (hg.turf (hturf b q1)).1,q2,q3⟩⟩
 have hsame:∀ b,b<R.w.heap.size->¬XE Lf b->R'.w.heap[b]?=R.w.heap[b]?/\∀ o,(R'.M b o↔R.M b o):=fun b hb hT=>by
  rcases hn.blk b hb with q | ⟨q,_⟩
  ·exact q
  ·rcases q with q | q
   ·omega
   ·exact absurd q hT
 let L2:Loc:=⟨L.β++more,fun id=>if σ.nx<=id/\id<σ.nx+n then L'.T (id-σ.nx) else if id∈κ then none else L.T id⟩
 have hnewT:∀ j x,L'.T j=some x->L2.T (σ.nx+j)=some x:=fun j x hj=>by
  have hjn:j<n:=by
   rcases Wr j n with q | q
   ·exact q
   ·rw[hfree' j q]at hj;cases hj
  show (if σ.nx<=σ.nx+j/\σ.nx+j<σ.nx+n then L'.T (σ.nx+j-σ.nx) else _)=some x;rw[if_pos ⟨by omega,by omega⟩,O3];exact hj
 have hup:∀ cs vs,zy R' L' cs vs->zy R' L2 (C.reL (upB ι σ.bx.length) (upO σ.nx) cs) vs:=fun cs vs hr=>zy.re (Ext.refl R') (fun j i b hji hb=>by
   rw[hm1]at hb;unfold upB at hji;show (L.β++more)[i]?=some b;split at hji
   ·rename_i i' hi';cases hji;have hjl:j<ι.length:=(Wd.1 hi').1;rw[Wv (by omega)]at hb;obtain ⟨i2,hi2,hi2b,hb2⟩:=hfβ j b hb;rw[hi']at hi2;cases hi2;rw[Wv (by omega)];exact hb2
   ·rename_i hno;cases hji;have hjl:ι.length<=j:=by
     rcases Wr j ι.length with q | q
     ·rw[Wa q]at hno;cases hno
     ·exact q
    rw[WO (by omega),hιl]at hb;rw[WO (by omega),hbl,O3];exact hb) (fun j i x hji hx=>by
   unfold upO at hji;cases hji;exact hnewT j x hx) _ _ hr
 have hupC:Rep R' L2 (r.re (upB ι σ.bx.length) (upO σ.nx)) v:=by
  have:=hup [r] [v] (zi.2 ⟨v,[],rfl,hrep,zo.2 rfl⟩);unfold C.reL at this;obtain ⟨v',us,q1,q2,_⟩:=zi.1 this;cases q1;exact q2
 have hkeep1:∀ (i j b:Nat),some i=some j->L.β[i]?=some b->L2.β[j]?=some b:=fun i j b hij hb=>by
  cases hij;show (L.β++more)[i]?=some b;rw[Wv (Wd.1 hb).1];exact hb
 have hkeep2:∀ i j x,Vf κ i=some j->L.T i=some x->L2.T j=some x:=fun i j x hij hx=>by
  unfold Vf at hij;split at hij
  ·cases hij
  ·rename_i hni;cases hij;have hlt:i<σ.nx:=by
    rcases Wr i σ.nx with q | q
    ·exact q
    ·rw[hg.free i q]at hx;cases hx
   show (if _ then _ else if i∈κ then none else L.T i)=some x;rw[if_neg (by omega),if_neg hni];exact hx
 have hL2:∀ id x,L2.T id=some x->(σ.nx<=id/\id<σ.nx+n/\L'.T (id-σ.nx)=some x)∨(id∉κ/\L.T id=some x):=fun id x hx=>by
  have hx:(if σ.nx<=id/\id<σ.nx+n then L'.T (id-σ.nx) else if id∈κ then none else L.T id)=some x:=hx;split at hx
  ·rename_i hq;exact .inl ⟨hq.1,hq.2,hx⟩
  ·split at hx
   ·cases hx
   ·rename_i hni;exact .inr ⟨hni,hx⟩
 have hnewB:∀ j e k v b,L'.T j=some (e,k,v)->v.ownB=some b->(R.w.heap.size<=b∨∃ i e' k' v',i∈κ/\L.T i=some (e',k',v')/\v'.ownB=some b)/\b∉L'.β:=fun j e k v b hj hv=>by
  have hbk:=(how'.own j e k v hj).block hv;refine ⟨?_,hbk.2.2⟩;rcases hbk.1 with q | q
  ·exact .inl q
  ·rcases q with q | ⟨i,e',k',v',ht,hv'⟩
   ·exact absurd (by rw[hm1];exact OP _ q) hbk.2.2
   ·obtain ⟨x,hx,hx'⟩:=hTf i _ ht;exact .inr ⟨x,e',k',v',Wg hx,hx',hv'⟩
 have hnewL:∀ j e k v b,L'.T j=some (e,k,v)->v.ownB=some b->b∉L.β++more:=fun j e k v b hj hv hb=>by
  obtain ⟨q1,q2⟩:=hnewB j e k v b hj hv;rcases WC.1 hb with hb | hb
  ·rcases q1 with q1 | ⟨i,e',k',v',_,ht,hv'⟩
   ·have:=hg.fit.β_lt b hb;omega
   ·exact (hownOld i e' k' v' b ht hv').2.2 hb
  ·exact q2 (by rw[hm1];exact List.mem_append_right _ hb)
 have hnotT:∀ i e k v b,i∉κ->L.T i=some (e,k,v)->v.ownB=some b->¬XE Lf b:=fun i e k v b hni ht hv hT=>by
  rcases hT with hT | ⟨j,e',k',v',ht',hv'⟩
  ·obtain ⟨x,hx,rfl⟩:=WV.1 hT;exact (hownOld i e k v _ ht hv).2.2 (Wg (hgv x (hιb x hx)))
  ·obtain ⟨x,hx,hx'⟩:=hTf j _ ht';have:=hg.fit.owns.apart i x e k v e' k' v' b ht hx' hv hv';subst this;exact hni (Wg hx)
 refine ⟨v,rfl,_,ZS ι κ bx' n σ,R',L2,rfl,⟨hg.move (tm':=Gw some (Vf κ) σ.tm) hnear.nigh ⟨hg.fit.glob.ext hn.ext,⟨?_,?_,fun i b cs' hi hc'=>?_⟩,⟨fun id e k v ht=>?_,fun id id' e k v e' k' v' b ht ht' hv hv'=>?_⟩,fun gg hgg=>hg.fit.base gg (WJ hn.size hgg)⟩ ⟨more,rfl,hm2⟩ (fun id e k v b ht hv=>?_) (fun id hid=>?_),h.size,h.df.near hnear,fun t=>?_⟩,hupC,hK,fun id hid hT=>?_⟩
 ·have:=hbx'.len;rw[hm1]at this;simp only[L2,Wn,J7,je,W3]at this ⊢;simp at this;omega
 ·show (L.β++more).Nodup;rw[Ag];refine ⟨hnd,hmn.2.1,fun x hx y hy e=>?_⟩;have:=hg.fit.β_lt x hx;have:=hm2 y hy;omega
 ·have hi:(L.β++more)[i]?=some b:=hi;rcases Wr i L.β.length with hlt | hge
  ·rw[Wv hlt]at hi;rw[Wv (by rw[J7,je];omega)]at hc';by_cases hmem:i∈ι
   ·obtain ⟨j,hj,hji⟩:=Wt hmem;have hji':ι[j]?=some i:=by rw[Wa hj,hji]
    have hj2:j<bx'.length:=by simp at hlen;omega
    rw[x6 ι _ _ i j (C.reL (upB ι σ.bx.length) (upO σ.nx) bx'[j]) hι hji' (by rw[QR,Wa hj2];rfl) (by rw[je];omega)]at hc';cases hc';have hLj:L'.β[j]?=some b:=by
     rw[hm1,Wv (by omega),WA,hji'];have hgi:=hgv i (by omega);rw[hi]at hgi;simpa using hgi.symm
    obtain ⟨vs,ty,q1,q2,q3,q4⟩:=hbx'.box j b _ hLj (Wa hj2);exact ⟨vs,ty,q1,hup _ _ q2,q3,q4⟩
   ·rw[ZG ι _ _ i hmem,QR]at hc';cases hq:σ.bx[i]? with
    | none=>rw[hq]at hc';cases hc'
    | some c0 =>
     rw[hq]at hc';cases hc';obtain ⟨vs,ty,q1,q2,q3,q4⟩:=hg.fit.boxes.box i b c0 hi hq;have hnT:¬XE Lf b:=fun hT=>by
      rcases hT with hT | ⟨j,e',k',v',ht',hv'⟩
      ·obtain ⟨x,hx,rfl⟩:=WV.1 hT;have h5:=hgv x (hιb x hx);have:=(Ah (by omega) hnd).1 (hi.trans h5.symm);subst this;exact hmem hx
      ·obtain ⟨x,hx,hx'⟩:=hTf j _ ht';exact (hownOld x e' k' v' b hx' hv').2.2 (Wg hi)
     obtain ⟨k1,k2⟩:=hsame b (qk q1) hnT;exact ⟨vs,ty,k1.trans q1,zy.re hn.ext hkeep1 hkeep2 _ _ q2,q3,fun o=>(k2 o).2 (q4 o)⟩
  ·rw[WO hge]at hi;rw[WO (by rw[J7,je];omega),J7,je,QR,Ob]at hc';have hLj:L'.β[ι.length+(i-σ.bx.length)]?=some b:=by
    rw[hm1,WO (by omega),hιl,O3,←hbl];exact hi
   cases hq:bx'[ι.length+(i-σ.bx.length)]? with
   | none=>rw[hq]at hc';cases hc'
   | some c0 =>
    rw[hq]at hc';cases hc';obtain ⟨vs,ty,q1,q2,q3,q4⟩:=hbx'.box _ b c0 hLj hq;exact ⟨vs,ty,q1,hup _ _ q2,q3,q4⟩
 ·rcases hL2 id _ ht with ⟨_,_,hj⟩ | ⟨hni,hj⟩
  ··refine (how'.own _ e k v hj).move fun gg hv q2 _ q7=>⟨?_,rfl,hnewL _ e k v gg hj hv,fun _ h=>h⟩;rcases q2 with q2 | q2
    ·exact hg.fit.base gg q2
    ·exact (hg.turf (hturf gg q2)).1
  ··refine (hg.fit.owns.own id e k v hj).move fun gg hv q2 hlt q7=>?_;obtain ⟨k1,k2⟩:=hsame gg hlt (hnotT id e k v gg hni hj hv);refine ⟨q2,k1,fun hx=>?_,fun o ho=>(k2 o).2 ho⟩;rcases WC.1 hx with hx | hx
    ·exact q7 hx
    ·have:=hm2 gg hx;omega
 ·rcases hL2 id _ ht with ⟨p1,p2,hj⟩ | ⟨hni,hj⟩<;>rcases hL2 id' _ ht' with ⟨p1',p2',hj'⟩ | ⟨hni',hj'⟩
  ·have:=how'.apart _ _ e k v e' k' v' b hj hj' hv hv';omega
  ·exfalso
   rcases (hnewB _ e k v b hj hv).1 with q | ⟨i,e2,k2,v2,hik,hti,hvi⟩
   ·have:=(hownOld id' e' k' v' b hj' hv').2.1;omega
   ·have:=hg.fit.owns.apart i id' e2 k2 v2 e' k' v' b hti hj' hvi hv';subst this;exact hni' hik
  ·exfalso
   rcases (hnewB _ e' k' v' b hj' hv').1 with q | ⟨i,e2,k2,v2,hik,hti,hvi⟩
   ·have:=(hownOld id e k v b hj hv).2.1;omega
   ·have:=hg.fit.owns.apart i id e2 k2 v2 e k v b hti hj hvi hv;subst this;exact hni hik
  ·exact hg.fit.owns.apart id id' e k v e' k' v' b hj hj' hv hv'
 ·rcases hL2 id _ ht with ⟨_,_,hj⟩ | ⟨hni,hj⟩
  ·rcases (hnewB _ e k v b hj hv).1 with q | ⟨i,e2,k2,v2,hik,hti,hvi⟩
   ·exact .inr q
   ·exact .inl ⟨i,e2,k2,v2,hti,hvi⟩
  ·exact .inl ⟨id,e,k,v,hj,hv⟩
 ·show (if σ.nx<=id/\id<σ.nx+n then _ else if id∈κ then none else L.T id)=none;rw[if_neg (by omega)];split
  ·rfl
  ·exact hg.free id (by omega)
 ·show Rep R' L2 (jZ (Gw some (Vf κ) σ.tm) t) _;rw[Nl];exact Rep.re hn.ext hkeep1 hkeep2 _ _ (h.tm t)
 ·show (if σ.nx<=id/\id<σ.nx+n then _ else if id∈κ then none else L.T id)=none;rw[if_neg (by omega),hT];split<;>rfl
theorem kH {c:Call} (ho:o.op = .call c) (hc:c.callee = .value f) {fid:FuncId} {first cap:List C} (hev:zD G σ.tm f = .clo (.func fid) first cap) {K:C->St->Prop} (h:qN G E σ a R L)
  (hK:kX P G fid (first++c.args.toList.map (zD G σ.tm)++cap) σ K):jo P o a.eval R.w (YR G E a K):=(Un ho hc hev h hK).mono fun _ _ h=>h.after
theorem ut {c:Call} (ho:o.op = .call c) (hc:c.callee = .value f) {fid:FuncId} {first cap:List C} (hev:zD G σ.tm f = .clo (.func fid) first cap) {K:C->St->Prop} (h:qN G E σ a R L)
  (hK:yV P G fid (first++c.args.toList.map (zD G σ.tm)++cap) σ K):jo P o a.eval R.w (YR G E a K):=by
 obtain ⟨ι,κ,r,bx',n,hι,hκ,hιb,hf,hK⟩:=hK;exact kH ho hc hev h ⟨ι,κ,_,hι,hκ,hιb,hf,by rintro r' b' n' ⟨rfl,rfl,rfl⟩;exact hK⟩
def ztP (P:Program) (f:FuncId) (args:List C) (bx:List (List C)) (r:C):Prop:=
 ∀ (B:Nat->Prop) (R:Env) (L:Loc) (vs:List Value),jV R L bx->ZY B R L->zy R L args vs->∃ v,(callFunc f vs.toArray).run P R.w = .ok (.value v) R.w/\Rep R L r v
def zgr (P:Program) (f:FuncId) (args:List C) (σ:St) (K:C->St->Prop):Prop:=∃ r,ztP P f args σ.bx r/\K r σ
theorem vQ {c:Call} (ho:o.op = .call c) (hc:c.callee = .value f) {fid:FuncId} {first cap:List C} (hev:zD G σ.tm f = .clo (.func fid) first cap) {K:C->St->Prop} (h:qN G E σ a R L)
  (hK:zgr P fid (first++c.args.toList.map (zD G σ.tm)++cap) σ K):jo P o a.eval R.w (YR G E a K):=by
 obtain ⟨r,hr,hK⟩:=hK;have hf:=h.ev f;rw[hev,YM]at hf;obtain ⟨fs,cs,e1,h1,h2⟩:=hf;obtain ⟨v,hv,hrep⟩:=hr _ R L _ h.good.fit.boxes h.good.fit.owns (zq (zq h1 (YZ h.ev c.args.toList)) h2);refine jo.value (w':=R.w) (v:=v) ?_ ⟨_,_,R,L,rfl,h,hrep,hK⟩;unfold execOp;simp only[ho,resolve,hc,e1];have e2:(Deferred.ofValue (.func (.func fid) fs cs) (c.args.map a.eval)).run P R.w = .ok { target:=.fn (.func fid) cs,args:=fs++c.args.map a.eval } R.w:=by
  simp[Deferred.ofValue]
 rw[Wo,e2];simp only[Wi,invoke];rw[←hv];congr 2;apply BA;simp
end
end
section
open Go.RowKit
section
variable {P:Program} {G:zu} {E:Ctx} {σ:St} {o:Oper} {a:Act}
theorem qN.newBoxT (h:qN G E σ a R L) {w':World} (hb:Below R.w.heap.size R.w w') {g:Nat} (hg:R.w.heap.size<=g) (cs:List C) (vs:Array Value) (ty:TypeId) (hh:w'.heap[g]?=some (.cells vs ty (0,0)))
  (hr:∀ M',(∀ b o,b<R.w.heap.size->(M' b o↔R.M b o))->(∀ o,M' g o)->(∀ b o,R.w.heap.size<=b->b≠g->¬M' b o)->zy ⟨w',M',R.F⟩ L cs vs.toList) (h1:∀ v∈vs.toList,v.oneCell'=true) :
  ∃ R' L',R'.w=w'/\qN G E ⟨σ.tm,σ.bx++[cs],σ.nx,σ.lg⟩ a R' L'/\L'.β[σ.bx.length]?=some g/\L'.T=L.T:=by
 have hmt:∀ b o,b<R.w.heap.size->(((b<R.w.heap.size/\R.M b o)∨b=g)↔R.M b o):=fun b o hlt=>⟨fun h'=>by rcases h' with h' | h';exact h'.2;omega,fun h'=>.inl ⟨hlt,h'⟩⟩;have hext:Ext R ⟨w',fun b o=>(b<R.w.heap.size/\R.M b o)∨b=g,R.F⟩:=Ext.of_below hb hmt;have hnear:yG E.w0 E.ex R ⟨w',fun b o=>(b<R.w.heap.size/\R.M b o)∨b=g,R.F⟩:=
  ⟨hb.os,hb.tape,hb.output,hb.size,rfl,hext,fun b hlt=>.inl ⟨hb.block b hlt,fun o=>hmt b o hlt⟩⟩
 have hlen:=h.good.fit.boxes.len;have hle:zS L ⟨L.β++[g],L.T⟩:=⟨fun i b e=>by
  have hi:i<L.β.length:=(Wd.1 e).1;rw[Wv hi];exact e,fun _ _ e=>e⟩
 have hrr:=hr (fun b o=>(b<R.w.heap.size/\R.M b o)∨b=g) hmt (fun o=>.inr rfl) (fun b o hb' hne hx=>by rcases hx with hx | hx;omega;exact hne hx);refine ⟨⟨w',fun b o=>(b<R.w.heap.size/\R.M b o)∨b=g,R.F⟩,⟨L.β++[g],L.T⟩,rfl,
  ⟨h.good.move hnear.nigh ⟨h.good.fit.glob.ext hext,⟨by simp[hlen],?_,fun i b cs' hi hc=>?_⟩,⟨fun id e k v ht=>?_,fun id id' e k v e' k' v' b=>h.good.fit.owns.apart id id' e k v e' k' v' b⟩,fun g hg=>?_⟩
   ⟨[g],rfl,fun b hb=>by simp at hb;omega⟩ (fun id e k v b ht hv=>.inl ⟨id,e,k,v,ht,hv⟩) h.good.free,h.size,h.df.near hnear,fun t=>Rep.ext hext hle _ _ (h.tm t)⟩,?_,rfl⟩
 ·rw[Ag];refine ⟨h.good.fit.boxes.nodup,by simp,fun x hx y hy e=>?_⟩;have:=h.good.fit.β_lt x hx;simp at hy;omega
 ·rcases Wr i L.β.length with hl | hl
  ·rw[Wv hl]at hi;rw[Wv (by omega)]at hc;obtain ⟨us,ty',e1,e2,e3,e4⟩:=h.good.fit.boxes.box i b cs' hi hc;exact ⟨us,ty',(hb.block b (qk e1)).trans e1,zy.ext hext hle _ _ e2,e3,fun o=>.inl ⟨qk e1,e4 o⟩⟩
  ·rw[WO hl]at hi;rw[WO (by omega)]at hc;have h0:i-L.β.length=0:=by
    have:=(Wd.1 hi).1;simp at this;omega
   rw[h0]at hi;rw[show i-σ.bx.length=0 by omega]at hc;simp at hi hc;subst hi hc;exact ⟨vs,ty,hh,zy.ext (Ext.refl _) hle _ _ hrr,h1,fun o=>.inr rfl⟩
 ·refine (h.good.fit.owns.own id e k v ht).move fun g' _ e2 hlt e7=>⟨e2,hb.block g' hlt,fun hx=>?_,fun o ho=>.inl ⟨hlt,ho⟩⟩;rcases WC.1 hx with hx | hx
  ·exact e7 hx
  ·simp at hx;omega
 ·exact h.good.fit.base g (WJ hb.size hg)
 ·simp[hlen]
theorem qN.newBoxW (h:qN G E σ a R L) {w':World} (hb:Below R.w.heap.size R.w w') {g:Nat} (hg:R.w.heap.size<=g) (cs:List C) (vs:Array Value) (ty:TypeId) (hh:w'.heap[g]?=some (.cells vs ty (0,0)))
  (hr:∀ M',(∀ b o,b<R.w.heap.size->(M' b o↔R.M b o))->(∀ o,M' g o)->(∀ b o,R.w.heap.size<=b->b≠g->¬M' b o)->zy ⟨w',M',R.F⟩ L cs vs.toList) (h1:∀ v∈vs.toList,v.oneCell'=true) :
  ∃ R' L',R'.w=w'/\qN G E ⟨σ.tm,σ.bx++[cs],σ.nx,σ.lg⟩ a R' L'/\L'.β[σ.bx.length]?=some g:=by
 obtain ⟨R',L',h1,h2,h3,_⟩:=h.newBoxT hb hg cs vs ty hh hr h1;exact ⟨R',L',h1,h2,h3⟩
def Z4 (P:Program) (t:TypeId) (n:Nat) (parts:List (Nat×C)) (σ:St) (K:C->St->Prop):Prop:=
 match lay P t with
 | some ⟨.slice e,_,_,_⟩=>match lay P e with
  | some ⟨_,k,_,some z⟩=>z.length=k/\0<k/\n*k<=16777216/\(parts.all fun p=>p.2.frz.partB)=true/\match Xj (fun i=>some (i*k,k)) (List.replicate n (z.map zE)).flatten (parts.map fun p=>(p.1,p.2.frz)) with
   | some cs=>(cs.all C.cellB)=true/\cs.length=n*k/\K (.bs σ.bx.length 0 k n n) ⟨σ.tm,σ.bx++[cs],σ.nx,σ.lg⟩
   | none=>False
  | _=>False
 | _=>False
theorem H4 (ho:o.op = .buildSlice t n parts) {K:C->St->Prop} {R:Env} {L:Loc} (hI:qN G E σ a R L) (h:Z4 P t n (parts.toList.map fun p=>(p.1,zD G σ.tm p.2)) σ K):jo P o a.eval R.w (YR G E a K):=by
 unfold Z4 at h;split at h
 ·rename_i e s b zz hl;have ht:=qi hl rfl;split at h
  ·rename_i kd k by' z hle;obtain ⟨hzk,hk0,hsz,hall,h⟩:=h;split at h
   ·rename_i cs hfill;obtain ⟨hcb,hlen,hK⟩:=h;obtain ⟨i,d,hi,hd,h1,h2,h3,h4⟩:=qr hle;cases hiz:i.zero with
    | none=>simp[hiz]at h4
    | some zv =>
     simp only[hiz,WN,Option.some.injEq]at h4;subst h4;have hzs:zv.cells.size=k:=by simpa using hzk
     obtain ⟨us,g1,g2⟩:=UX (R:=R) (L:=zP) (fun i=>some (i*k,k)) ((parts.toList.map fun p=>(p.1,zD G σ.tm p.2)).map fun p=>(p.1,p.2.frz)) (parts.toList.map fun p=>(p.1,a.eval p.2)) _ ((Array.range (n*k)).map (zv.cells[· % zv.cells.size]!)) cs
      (Qk zv.cells k n hzs hk0) (by simp) (kB zP _ _ (QW hI.ev _)) (fun p hp=>by
       obtain ⟨q,hq,rfl⟩:=WV.1 hp;exact Wz.1 hall q hq) hfill
     have husz:us.size=n*k:=by have:=zx g2;simp at this;omega
     have hrun:(execOp a.eval o).run P R.w = .ok (.value (.slice (some ⟨R.w.heap.size,0,none⟩) n n)) (R.w.alloc (.cells us e)):=by
      have hss:(sizeOf e).run P R.w = .ok k R.w:=by simp[sizeOf,typeInfo,hi,←h2]
      have hzz:(zeroValue e).run P R.w = .ok zv R.w:=by simp[zeroValue,typeInfo,hi,hiz]
      unfold execOp;simp only[ho,Instr.buildSlice,Wo,WE ht,Wi,hss];rw[if_neg (show ¬n*k>2 ^ 24 by omega)];by_cases hn:n*k=0
      ·have hn0:n=0:=by
        rcases Nat.mul_eq_zero.1 hn with h | h
        ·exact h
        ·omega
       subst hn0;have hz0:(Array.map (fun x=>(#[]:Array Value)[x % (#[]:Array Value).size]!) (Array.range (0*k)))=(Array.range (0*k)).map (zv.cells[· % zv.cells.size]!):=by simp[Array.range_zero']
       simp only[if_pos hn,WD,Wo,Wi,hz0,Ac,g1];simp[newRow]
      ·simp only[if_neg hn,WD,Wo,Wi,hzz,Ac,g1];simp[newRow]
     have hbel:Below R.w.heap.size R.w (R.w.alloc (.cells us e)):=(Oa _ _).alloc (Wc _) _;obtain ⟨R',L',e1,e2,e3⟩:=hI.newBoxW hbel (Wc _) cs us e (ON _ _) (fun M' hM _ _=>zy.ext (R:=R) (Ext.of_below hbel hM) (zS.none L) _ _ g2) (XI g2 hcb);exact jo.value hrun ⟨_,_,R',L',e1,e2,jv.2 ⟨_,e3,_,rfl,fun _=>rfl⟩,hK⟩
   ·exact h.elim
  ·exact h.elim
 ·exact h.elim
def U6 (P:Program) (t:TypeId) (l c:C) (σ:St) (K:C->St->Prop):Prop:=
 match lay P t,l,c with
 | some ⟨.slice e,_,_,_⟩,.sc (.int _ l),.sc (.int _ c)=>match lay P e with
  | some ⟨_,k,by',some z⟩=>z.length=k/\0<k/\(z.all Value.oneCell')=true/\0<=l/\l<=c/\(by':Int)*c<=281474976710656/\c<=9223372036854775807/\K (.bs σ.bx.length 0 k l.toNat c.toNat) ⟨σ.tm,σ.bx++[(List.replicate c.toNat (z.map zE)).flatten],σ.nx,σ.lg⟩
  | _=>False
 | _,_,_=>False
theorem NU {l c:Operand} (ho:o.op = .makeSlice t l c) {K:C->St->Prop} {R:Env} {L:Loc} (hI:qN G E σ a R L) (h:U6 P t (zD G σ.tm l) (zD G σ.tm c) σ K):jo P o a.eval R.w (YR G E a K):=by
 unfold U6 at h;split at h
 ·rename_i e s b zz k1 l' k2 c' hl hev1 hev2;have ht:=qi hl rfl;split at h
  ·rename_i kd k by' z hle;obtain ⟨hzk,hk0,hone,h0,hlc,hby,h63,hK⟩:=h;obtain ⟨i,d,hi,hd,h1,h2,h3,h4⟩:=qr hle;cases hiz:i.zero with
   | none=>simp[hiz]at h4
   | some zv =>
    simp only[hiz,WN,Option.some.injEq]at h4;subst h4;have hzs:zv.cells.size=k:=by simpa using hzk
    have hx:=hI.ev l;rw[hev1,zt]at hx;have hy:=hI.ev c;rw[hev2,zt]at hy;have hrun:=run_make (P:=P) R.w t e i zv ht hi hiz k1 k2 l' c' h0 hlc (by rw[←h3];exact hby) h63;have hrep:=Qk (R:=R) (L:=zP) zv.cells k c'.toNat hzs hk0;have hks:i.size=k:=h2.symm;have hbel:Below R.w.heap.size R.w (R.w.alloc (.cells (madeCells zv.cells (c'.toNat*k)) e)):=(Oa _ _).alloc (Wc _) _;obtain ⟨R',L',e1,e2,e3⟩:=hI.newBoxW hbel (Wc _) ((List.replicate c'.toNat (zv.cells.toList.map zE)).flatten) (madeCells zv.cells (c'.toNat*k)) e (ON _ _) (fun M' hM _ _=>zy.ext (R:=R) (Ext.of_below hbel hM) (zS.none L) _ _ hrep)
     (fun v hv=>by
      simp only[madeCells,Ac,WV]at hv;obtain ⟨p,hp,rfl⟩:=hv;have hm:p % zv.cells.size<zv.cells.size:=Nat.mod_lt _ (by omega);rw[BT zv.cells _ hm];exact Wz.1 hone _ (by simp))
    refine jo.value ?_ ⟨_,_,R',L',e1,e2,jv.2 ⟨_,e3,_,rfl,fun _=>rfl⟩,hK⟩;unfold execOp;simp only[ho,hx,hy];rw[Wo,hrun,hks];rfl
  ·exact h.elim
 ·exact h.elim
theorem YQ.moveB {tm':List (Nat×C)} {bx':List (List C)} (h:YQ G E σ R L) (hn:zd9 E.w0 E.ex R R') (hf:Fit G E.tu bx' R' L')
  (hbox:∃ more,L'.β=E.β0++more) (htub:∀ b∈L'.β,b∈L.β∨R.w.heap.size<=b)
  (hown:∀ id e k v b,L'.T id=some (e,k,v)->v.ownB=some b->(∃ i e' k' v',L.T i=some (e',k',v')/\v'.ownB=some b)∨R.w.heap.size<=b)
  (hfree:∀ id,nx'<=id->L'.T id=none):YQ G E ⟨tm',bx',nx',σ.lg⟩ R' L':=by
 refine ⟨hf,hn.os.trans h.os,hn.tape.trans h.tape,hn.output.trans h.output,WJ h.size hn.size,fun b hb hx hF=>?_,h.ext.trans hn.ext,hbox,fun b hb=>?_,fun b hF=>?_,fun b hb=>by rw[hn.fgn];exact h.fz b hb,fun b hb hF=>?_,fun id e k v b ht hv hF=>?_,hfree,E.stab _ _ _ h.log hn⟩
 ·rw[hn.fgn]at hF;obtain ⟨g1,g2⟩:=h.blk b hb hx hF;rcases hn.blk b (WM hb h.size) with ⟨k1,k2⟩ | ⟨k1,_⟩
  ·exact ⟨k1.trans g1,fun o=>(k2 o).trans (g2 o)⟩
  ·rcases k1 with k1 | k1
   ·omega
   ·exact absurd k1 hx
 ·rcases htub b hb with hb | hb
  ·exact h.tub b hb
  ·exact .inl (WJ h.size hb)
 ·rw[hn.fgn]at hF;exact WM (h.flt b hF) hn.size
 ·rw[hn.fgn]at hF;rcases htub b hb with hb | hb
  ·exact h.fbx b hb hF
  ·have:=h.flt b hF;omega
 ·rw[hn.fgn]at hF;rcases hown id e k v b ht hv with ⟨i,e',k',v',g1,g2⟩ | g
  ·exact h.fow i e' k' v' b g1 g2 hF
  ·have:=h.flt b hF;omega
def Yp (i j:Nat):Option Nat:=if j=i then none else some j
def Vt (i:Nat) (cs:List C) (bx:List (List C)):List (List C):=(Mv (Yp i) some bx).set i cs
theorem qN.reBox (h:qN G E σ a R L) {i:Nat} (hi0:E.β0.length<=i) (hil:i<σ.bx.length) {w':World} (hb:Below R.w.heap.size R.w w') {g:Nat} (hg:R.w.heap.size<=g) (cs:List C) (vs:Array Value) (ty:TypeId) (hh:w'.heap[g]?=some (.cells vs ty (0,0)))
  (hr:∀ M',(∀ b o,b<R.w.heap.size->(M' b o↔R.M b o))->zy ⟨w',M',R.F⟩ ⟨L.β.set i g,L.T⟩ cs vs.toList) (h1:∀ v∈vs.toList,v.oneCell'=true) :
  ∃ R' L',R'.w=w'/\qN G E ⟨Gw (Yp i) some σ.tm,Vt i cs σ.bx,σ.nx,σ.lg⟩ a R' L'/\L'.β[i]?=some g:=by
 have hmt:∀ b o,b<R.w.heap.size->(((b<R.w.heap.size/\R.M b o)∨b=g)↔R.M b o):=fun b o hlt=>⟨fun h'=>by rcases h' with h' | h';exact h'.2;omega,fun h'=>.inl ⟨hlt,h'⟩⟩;have hext:Ext R ⟨w',fun b o=>(b<R.w.heap.size/\R.M b o)∨b=g,R.F⟩:=Ext.of_below hb hmt;have hnear:yG E.w0 E.ex R ⟨w',fun b o=>(b<R.w.heap.size/\R.M b o)∨b=g,R.F⟩:=
  ⟨hb.os,hb.tape,hb.output,hb.size,rfl,hext,fun b hlt=>.inl ⟨hb.block b hlt,fun o=>hmt b o hlt⟩⟩
 have hlen:=h.good.fit.boxes.len;have hrr:=hr (fun b o=>(b<R.w.heap.size/\R.M b o)∨b=g) hmt;have hβ:∀ j q b,Yp i j=some q->L.β[j]?=some b->(Loc.mk (L.β.set i g) L.T).β[q]?=some b:=fun j q b hq hb=>by
  unfold Yp at hq;split at hq
  ·cases hq
  ·rename_i hne;cases hq;show (L.β.set i g)[j]?=some b;rw[Ow (fun e=>hne e.symm)];exact hb
 have hT:∀ j q x,(some j:Option Nat)=some q->L.T j=some x->(Loc.mk (L.β.set i g) L.T).T q=some x:=fun j q x hq hx=>by cases hq;exact hx
 have hget:(L.β.set i g)[i]?=some g:=OD (by omega);refine ⟨⟨w',fun b o=>(b<R.w.heap.size/\R.M b o)∨b=g,R.F⟩,⟨L.β.set i g,L.T⟩,rfl,
  ⟨h.good.moveB hnear.nigh ⟨h.good.fit.glob.ext hext,⟨by simp[Vt,je,hlen],?_,fun j b cs' hj hc=>?_⟩,⟨fun id e k v ht=>?_,fun id id' e k v e' k' v' b=>h.good.fit.owns.apart id id' e k v e' k' v' b⟩,fun g hg=>?_⟩ ?_ (fun b hb=>?_) (fun id e k v b ht hv=>.inl ⟨id,e,k,v,ht,hv⟩) h.good.free,h.size,h.df.near hnear,fun t=>?_⟩,hget⟩
 ·show (L.β.set i g).Nodup;have hnd:=h.good.fit.boxes.nodup;rw[List.Nodup,WR]at hnd ⊢;intro x y hx hy hxy;rw[Bx]at hx hy;have hxl:=h.good.fit.β_lt _ (Ww hx);have hyl:=h.good.fit.β_lt _ (Ww hy);rw[List.getElem_set,List.getElem_set];split<;>split
  ·omega
  ·omega
  ·omega
  ·exact hnd x y hx hy hxy
 ·have hj:(L.β.set i g)[j]?=some b:=hj;by_cases hji:i=j
  ·subst hji;rw[hget]at hj;cases hj;rw[Vt,OD (by rw[je];exact hil)]at hc;cases hc;exact ⟨vs,ty,hh,hrr,h1,fun o=>.inr rfl⟩
  ·rw[Ow hji]at hj;rw[Vt,Ow hji,QR]at hc;cases hq:σ.bx[j]? with
   | none=>rw[hq]at hc;cases hc
   | some c0 =>
    rw[hq]at hc;cases hc;obtain ⟨us,ty',e1,e2,e3,e4⟩:=h.good.fit.boxes.box j b c0 hj hq;exact ⟨us,ty',(hb.block b (qk e1)).trans e1,zy.re hext hβ hT _ _ e2,e3,fun o=>.inl ⟨qk e1,e4 o⟩⟩
 ·refine (h.good.fit.owns.own id e k v ht).move fun g' _ e2 hlt e7=>⟨e2,hb.block g' hlt,fun hx=>?_,fun o ho=>.inl ⟨hlt,ho⟩⟩;have hx:g'∈L.β.set i g:=hx;rcases List.mem_or_eq_of_mem_set hx with hx | hx
  ·exact e7 hx
  ·omega
 ·exact h.good.fit.base g (WJ hb.size hg)
 ·obtain ⟨more,hm⟩:=h.good.box;refine ⟨more.set (i-E.β0.length) g,?_⟩;show L.β.set i g=_;rw[hm,List.set_append_right _ _ hi0]
 ·have hb':b∈L.β.set i g:=hb;rcases List.mem_or_eq_of_mem_set hb' with hx | hx
  ·exact .inl hx
  ·exact .inr (by omega)
 ·rw[Nl];exact Rep.re hext hβ hT _ _ (h.tm t)
theorem zfN {g:Nat}:∀ (j q b:Nat),Yp i j=some q->L.β[j]?=some b->(Loc.mk (L.β.set i g) L.T).β[q]?=some b:=fun j q b hq hb=>by
 unfold Yp at hq;split at hq
 ·cases hq
 ·rename_i hne;cases hq;show (L.β.set i g)[j]?=some b;rw[Ow (fun e=>hne e.symm)];exact hb
theorem Ue:∀ (j q b:Nat),Yp i j=some q->L.β[j]?=some b->L.β[q]?=some b:=fun j q b hq hb=>by
 unfold Yp at hq;split at hq
 ·cases hq
 ·cases hq;exact hb
theorem U4 (h:∀ i,L'.T i=L.T i):∀ (i j:Nat) x,(some i:Option Nat)=some j->L.T i=some x->L'.T j=some x:=fun i j x hij hx=>by cases hij;rw[h];exact hx
theorem qN.lessB (h:qN G E σ a R L) (tm':List (Nat×C)) (bx':List (List C)) (hl:bx'.length=σ.bx.length) (ht:∀ t v,Rep R L (jZ σ.tm t) v->Rep R L (jZ tm' t) v)
  (hb:∀ (i:Nat) cs cs' vs,σ.bx[i]?=some cs->bx'[i]?=some cs'->zy R L cs vs->zy R L cs' vs):qN G E ⟨tm',bx',σ.nx,σ.lg⟩ a R L:=by
 have g:=h.good;refine ⟨⟨⟨g.fit.glob,⟨by rw[hl];exact g.fit.boxes.len,g.fit.boxes.nodup,fun i b cs' hi hc=>?_⟩,g.fit.owns,g.fit.base⟩,g.os,g.tape,g.output,g.size,g.blk,g.ext,g.box,g.tub,g.flt,g.fz,g.fbx,g.fow,g.free,g.log⟩,h.size,h.df,fun t=>ht t _ (h.tm t)⟩;have hi':i<σ.bx.length:=by rw[←hl];exact (Wd.1 hc).1
 obtain ⟨vs,ty,e1,e2,e3,e4⟩:=g.fit.boxes.box i b _ hi (Wa hi');exact ⟨vs,ty,e1,hb i _ _ _ (Wa hi') hc e2,e3,e4⟩
theorem Yr {R:Env} {L:Loc}:∀ vs:List Value,zy R L (List.replicate vs.length .any) vs
 | []=>zo.2 rfl
 | v :: r=>zi.2 ⟨v,r,rfl,by unfold Rep;trivial,Yr r⟩
def C.xs? (k:Nat) (bx:List (List C)):C->Option (Nat×List C)
 | .bs i off k' n _=>if k'=k then (bx[i]?).bind fun cs=>if off+n*k<=cs.length then some (n,(cs.drop off).take (n*k)) else none else none
 | c=>(c.rows? k).map fun rows=>(rows.length,rows.flatten)
theorem yX {bx:List (List C)} {m:Nat} {xs:List C} (hf:Fit G B bx R L) (h:Rep R L c v) (hx:c.xs? k bx=some (m,xs)) :
    ∃ ad cap,v = .slice ad m cap/\(0<m->∃ b off news,ad=some ⟨b,off,none⟩/\news.length=m*k/\(∀ (j:Nat) u,news[j]?=some u->R.w.cell? ((⟨b,off,none⟩:Addr).add j)=some u)/\zy R L xs news/\∀ u∈news,u.oneCell'=true):=by
  have hrows:∀ rows,c.rows? k=some rows->(rows.length,rows.flatten)=(m,xs)->∃ ad cap,v = .slice ad m cap/\(0<m->∃ b off news,ad=some ⟨b,off,none⟩/\news.length=m*k/\(∀ (j:Nat) u,news[j]?=some u->R.w.cell? ((⟨b,off,none⟩:Addr).add j)=some u)/\zy R L xs news/\∀ u∈news,u.oneCell'=true):=fun rows hr he=>by
    cases he;obtain ⟨ad,cap,e,h1,h2,h3⟩:=h.rows hr;refine ⟨ad,cap,e,fun hm=>?_⟩;rcases h3 with h3 | ⟨b,o,e,h3⟩
    · subst h3;cases hm
    · obtain ⟨g1,g2⟩:=qW h3;obtain ⟨news,n1,n2,n3⟩:=j0 g1;exact ⟨b,o,news,e,by rw[zx n2,g2],fun j u hj=>by rw[Addr.add_none];exact n1 j u hj,zy.ext (Ext.refl R) (zS.none L) _ _ n2,n3⟩
  cases c with
  | bs i off k' n c' =>
    simp only[C.xs?]at hx;split at hx
    · subst_vars
      cases hq:bx[i]? with
      | none=>rw[hq]at hx;cases hx
      | some cs =>
        rw[hq]at hx;simp only[AI]at hx;split at hx
        · rename_i hle;cases hx;obtain ⟨b,hb,ad,rfl,had⟩:=jv.1 h;obtain ⟨vs,ty,e1,e2,e3,e4⟩:=hf.boxes.box i b cs hb hq;have hvl:=zx e2;refine ⟨_,_,rfl,fun hm=>⟨b,off,(vs.toList.drop off).take (m*k'),Wu some (had (by omega)),by simp at hvl ⊢;omega,fun j u hj=>?_,qM _ (qY _ e2),fun u hu=>e3 u (WU (Wx hu))⟩⟩;rw[Addr.add_none,Aj R.w b (off+j) vs ty (0,0) e1];rw[WK]at hj;split at hj
          · rw[Ob]at hj;simpa using hj
          · cases hj
        · cases hx
    · cases hx
  | _ =>
    simp only[C.xs?]at hx
    first
    | (cases hq:C.rows? k _ with
       | none=>rw[hq]at hx;cases hx
       | some rows=>rw[hq]at hx;exact hrows rows hq (by simpa using hx))
def Hg (P:Program) (p:Nat) (t:TypeId) (s x:C) (σ:St) (K:C->St->Prop):Prop:=
 match lay P t with
 | some ⟨.slice e,_,_,_⟩=>match lay P e with
  | some ⟨_,k,by',some z⟩=>match x.xs? k σ.bx with
   | some (m,xs)=>z.length=k/\0<k/\(z.all Value.oneCell')=true/\0<m/\match s with
    | .sc (.slice none 0 0)=>m<=9223372036854775807/\m*by'<=140737488355328/\∀ c,m<=c->c<=maxLen->K (.bs σ.bx.length 0 k m c) ⟨σ.tm,σ.bx++[xs++List.replicate ((c-m)*k) .any],σ.nx,σ.lg⟩
    | .bs i 0 k' n c=>match σ.bx[i]? with
     | some cs=>k'=k/\p<=i/\cs.length=c*k/\n<=c/\c<=9223372036854775807/\n+m<=9223372036854775807/\(n+m)*by'<=140737488355328 /\
       ∀ c',n+m<=c'->c'<=maxLen->K (.bs i 0 k (n+m) c') ⟨Gw (Yp i) some σ.tm,Vt i (C.reL (Yp i) some (cs.take (n*k)++xs)++List.replicate ((c'-(n+m))*k) .any) σ.bx,σ.nx,σ.lg⟩
     | none=>False
    | _=>False
   | none=>False
  | _=>False
 | _=>False
theorem j9 {zc:Array Value} (hz:(zc.toList.all Value.oneCell')=true) (n:Nat):∀ v∈(Builtin.zeroCells zc n).toList,v.oneCell'=true:=by
 intro v hv;simp only[Builtin.zeroCells,Ac,WV]at hv;obtain ⟨i,hi,rfl⟩:=hv;have hi':i<n*zc.size:=by simpa using hi
 have hpos:0<zc.size:=by
  rcases O8 zc.size with h | h
  ·rw[h]at hi';omega
  ·exact h
 have hlt:=Nat.mod_lt i hpos;rw[BT zc _ hlt];exact Wz.1 hz _ (by simp)
theorem yf {p:Nat} (hp:E.β0.length<=p) {t:TypeId} {s x:Operand} (ho:o.op = .call { callee:=.builtin .append,args:=#[s,x],argTypes:=#[t,t] }) {K:C->St->Prop} {R:Env} {L:Loc} (h:qN G E σ a R L) (hK:Hg P p t (zD G σ.tm s) (zD G σ.tm x) σ K):jo P o a.eval R.w (YR G E a K):=by
 unfold Hg at hK;split at hK
 ·rename_i e s1 b1 z1 hl;have ht:=qi hl rfl;split at hK
  ·rename_i kd k by' z hle;obtain ⟨i,d,hi,hd,_,hsz,hbyt,hzz⟩:=qr hle;simp only at hsz hbyt hzz;split at hK
   ·rename_i m xs hxs;obtain ⟨hzk,hk0,hz1,hm,hK⟩:=hK;have hexec:∀ v' w',(Builtin.append_ #[t,t] o.type #[a.eval s,a.eval x]).run P R.w = .ok v' w'->(execOp a.eval o).run P R.w = .ok (.value v') w':=fun v' w' hrun=>by
     unfold execOp;simp only[ho,resolve,invoke,builtin,Wo,WD,Wi,OG,Wq,WL,hrun]
    cases hiz:i.zero with
    | none=>simp[hiz]at hzz
    | some zv =>
     simp only[hiz,WN,Option.some.injEq]at hzz;have hzc:zv.cells.size=k:=by rw[←hzk,hzz];simp
     obtain ⟨ad,capx,ex,hx⟩:=yX h.good.fit (h.ev x) hxs;obtain ⟨bb,off,news,rfl,n1,n2,n3,n4⟩:=hx hm;have hxl:=zx n3;have hzone:∀ n,∀ v∈(Builtin.zeroCells zv.cells n).toList,v.oneCell'=true:=j9 (by rw[←hzz];exact hz1);split at hK
     ·rename_i hev;obtain ⟨h63,hby,hK⟩:=hK;have hs:=h.ev s;rw[hev,zt]at hs;have hrun:=BZ (P:=P) R.w t o.type e i zv ht hi hiz ⟨bb,off,none⟩ m capx news (by rw[n1,hsz]) n2 hm (by omega) (by rw[←hbyt];omega);rw[←hs,←ex]at hrun;have hge:=A1 R.w m 0 e;have hgm:grownCap R.w m 0 e<=maxLen:=O7 _ _ _ _ (by unfold maxLen;omega);generalize grownCap R.w m 0 e=nc at hrun hge hgm;have hb:Below R.w.heap.size R.w (R.w.drew.alloc (.cells (news.toArray++Builtin.zeroCells zv.cells (nc-m)) e)):=((Oa _ _).drew).alloc (Wc _) _;have hzl:(Builtin.zeroCells zv.cells (nc-m)).toList.length=(nc-m)*k:=by rw[WY,AA,hzc]
      obtain ⟨R',L',e1,e2,e3⟩:=h.newBoxW hb (Wc _) (xs++List.replicate ((nc-m)*k) .any) (news.toArray++Builtin.zeroCells zv.cells (nc-m)) e (ON R.w.drew _) (fun M' hM _ _=>by
       simp only[Ol];refine zq (zy.ext (R:=R) (Ext.of_below hb hM) (zS.refl L) _ _ n3) ?_;rw[←hzl];exact Yr _) (fun v hv=>by
       simp only[Ol]at hv;rcases WC.1 hv with hv | hv
       ·exact n4 v hv
       ·exact hzone _ v hv)
      exact jo.value (hexec _ _ hrun) ⟨_,_,R',L',e1,e2,jv.2 ⟨_,e3,_,rfl,fun _=>rfl⟩,hK nc hge hgm⟩
     ·rename_i bi k' n c hev;split at hK
      ·rename_i cs hcs;obtain ⟨rfl,hpi,hcl,hnc,hcm,h63,hby,hK⟩:=hK;have hs:=h.ev s;rw[hev,jv]at hs;obtain ⟨b,hb,ad0,es,had0⟩:=hs;obtain ⟨vs,ty,e1,e2,e3,e4⟩:=h.good.fit.boxes.box bi b cs hb hcs;have hvl:=zx e2;have hvs:vs.size=c*k':=by simpa [hcl] using hvl
       have hbil:bi<σ.bx.length:=(Wd.1 hcs).1;have hnk:n*k'<=c*k':=WT _ hnc;have hadd:(n+m)*k'=n*k'+m*k':=Oq _ _ _;by_cases hroom:n+m<=c
       ·have hck:(n+m)*k'<=c*k':=WT _ hroom;obtain rfl:=had0 (by omega);have hrun:=XZ (P:=P) (ty:=o.type) ht hi R.w b n c vs ty e1 ⟨bb,off,none⟩ m capx news (by rw[n1,hsz]) n2 n4 hroom (by rw[←hsz];omega);rw[←hsz,←es,←ex]at hrun;have hA:(cs.take (n*k')++xs).length=n*k'+m*k':=by simp;omega
        have hinv:=h.setBox hb hcs e1 e4 (cs':=cs.take (n*k')++xs++cs.drop (n*k'+news.length)) (us:=(vs.toList.take (n*k')++news++vs.toList.drop (n*k'+news.length)).toArray) (zq (zq (qM _ e2) n3) (qY _ e2)) (fun v hv=>by
         simp only[WC]at hv;rcases hv with (hv | hv) | hv
         ·exact e3 v (Wx hv)
         ·exact n4 v hv
         ·exact e3 v (WU hv))
        have hinv2:=hinv.lessB (Gw (Yp bi) some σ.tm) (Vt bi (C.reL (Yp bi) some (cs.take (n*k')++xs)++List.replicate ((c-(n+m))*k') .any) σ.bx) (by simp[Vt,je]) (fun t v hv=>by
          rw[Nl];exact Rep.re (Ext.refl _) Ue (U4 fun _=>rfl) _ _ hv) (fun j c1 c2 us hc1 hc2 hr=>by
         by_cases hji:bi=j
         ·subst hji;rw[OD hbil]at hc1;rw[Vt,OD (by rw[je];exact hbil)]at hc2;cases hc1;cases hc2;have hul:=zx hr;simp only[Wn]at hul hA;have h1:=qM (n*k'+m*k') hr;rw[OK (by simp only[Wn];exact hA)]at h1;have h2:=Yr (R:=⟨R.w.setRow b (vs.toList.take (n*k')++news++vs.toList.drop (n*k'+news.length)).toArray,R.M,R.F⟩) (L:=L) (us.drop (n*k'+m*k'));have hdl:(us.drop (n*k'+m*k')).length=(c-(n+m))*k':=by
           rw[W3,hul,W3,hcl,n1,Nat.sub_mul,hadd];omega
          rw[hdl]at h2;have h3:=zq (zy.re (fp:=Yp bi) (fo:=some) (L':=L) (Ext.refl _) Ue (U4 fun _=>rfl) _ _ h1) h2;rwa [Od]at h3
         ·rw[Ow hji]at hc1;rw[Vt,Ow hji,QR,hc1]at hc2;cases hc2;exact zy.re (Ext.refl _) Ue (U4 fun _=>rfl) _ _ hr)
        exact jo.value (hexec _ _ hrun) ⟨_,_,_,L,rfl,hinv2,jv.2 ⟨_,hb,_,rfl,fun _=>rfl⟩,hK c hroom (by unfold maxLen;omega)⟩
       ·have hol:(vs.toList.take (n*k')).length=n*k':=by simp;omega
        have hrun:=Bw (P:=P) R.w t o.type e i zv ht hi hiz ad0 n c (vs.toList.take (n*k')) (by rw[hol,hsz]) (fun j v hj=>by
          obtain rfl:=had0 (by
           rcases O8 n with h0 | h0
           ·subst h0;simp at hj
           ·omega)
          rw[Addr.add_none,Ox,Aj R.w b j vs ty (0,0) e1];rw[WK]at hj;split at hj
          ·simpa using hj
          ·cases hj) ⟨bb,off,none⟩ m capx news (by rw[n1,hsz]) n2 (by omega) (by omega) (Bh (by omega) (by rw[←hbyt];exact hby))
        rw[←es,←ex]at hrun;have hge:=A1 R.w (n+m) c e;have hgm:grownCap R.w (n+m) c e<=maxLen:=O7 _ _ _ _ (by unfold maxLen;omega);generalize grownCap R.w (n+m) c e=nc at hrun hge hgm;have hbel:Below R.w.heap.size R.w (R.w.drew.alloc (.cells ((vs.toList.take (n*k')).toArray++news.toArray++Builtin.zeroCells zv.cells (nc-(n+m))) e)):=((Oa _ _).drew).alloc (Wc _) _;have hzl:(Builtin.zeroCells zv.cells (nc-(n+m))).toList.length=(nc-(n+m))*k':=by rw[WY,AA,hzc]
        obtain ⟨R',L',f1,f2,f3⟩:=h.reBox (WJ hp hpi) hbil hbel (Wc _) (C.reL (Yp bi) some (cs.take (n*k')++xs)++List.replicate ((nc-(n+m))*k') .any) ((vs.toList.take (n*k')).toArray++news.toArray++Builtin.zeroCells zv.cells (nc-(n+m))) e (ON R.w.drew _) (fun M' hM=>by
         simp only[Ol];refine zq (zy.re (R:=R) (L:=L) (Ext.of_below hbel hM) zfN (U4 fun _=>rfl) _ _ (zq (qM _ e2) n3)) ?_;rw[←hzl];exact Yr _) (fun v hv=>by
         simp only[Ol,WC]at hv;rcases hv with (hv | hv) | hv
         ·exact e3 v (Wx hv)
         ·exact n4 v hv
         ·exact hzone _ v hv)
        exact jo.value (hexec _ _ hrun) ⟨_,_,R',L',f1,f2,jv.2 ⟨_,f3,_,rfl,fun _=>rfl⟩,hK nc hge hgm⟩
      ·exact hK.elim
     ·exact hK.elim
   ·exact hK.elim
  ·exact hK.elim
 ·exact hK.elim
end
end
end Go.Proofs.YtnpdbhbmakdklaaGreatDoor.Vcg
