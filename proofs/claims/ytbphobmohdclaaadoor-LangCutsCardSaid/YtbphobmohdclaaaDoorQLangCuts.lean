/- The statement of LangCuts is proved: for every input the law answers true, and each argument reads behind the call as it read before. Condition: none but what the row itself prints. -/
import Derived.Test.YtbphobmohdclaaaDoorLangCutsKe
import Derived.Deep.QuietTactic
import Derived.BigQuiet
import Derived.Test.YtbphobmohdclaaaDoorRows
import Derived.Test.YtbphobmohdclaaaDoorCards
import Derived.Test.YtbphobmohdclaaaDoorTie
import Derived.WalkKit
import Derived.ProofKit
import Derived.OpenShut
import Derived.ShutString
import Derived.ChangeOld
import Derived.Below
import Derived.LaidMore
import Derived.Lay
import Derived.SevenTiedAt
import Derived.Stop.Joined
section
set_option linter.unusedVariables false
set_option maxRecDepth 100000
set_option linter.unusedSimpArgs false
namespace Go.Proofs.YtbphobmohdclaaaDoor.Vcg
open Go.RowKit
open QuotePlain (Bs quoteL plainL blanks okw unq splitW numB valV most okTo isDig)
def gotL (x : Option (List OpV) × Nat) : List OpV := x.1.getD []
def gotE (x : Option (List OpV) × Nat) : Int := if x.1.isSome then 0 else 12
def gotC (x : Option (List OpV) × Nat) : C := .tup [.sl 5 (opsC (gotL x)), .agg [.sc (.int .i64 x.2), .sc (.int .i64 (gotE x))]]
def gsSt (g : GS) : List (List C) := [[.sc (.slice none 0 0)], [.sc (.int .i64 0), .sc (.int .i64 0)], [.tight 5 (opsC g.out)], [.sc (.int .i64 g.want)], [.sc (.int .i64 g.pos)], [.sc (.bool g.first)]]
set_option maxHeartbeats 4000000 in
theorem get_fun (s : Bs) (hs : LinesOk s) : Fun Tryd.prog GL 7 [.str s] (gotC (getV (readV mayB) okL s)) 0 := by
 have hit := splitA1_iter 10 s hs.size
 refine Fun.of (fun i => if i = 13 then floatB 1 [true] else if i = 18 then floatB 1 [true] else []) (by kernel_rfl) Tryd.func7 rfl rfl (Nat.le_of_ble_eq_true rfl) (by kernel_rfl) ?_; dsimp only [Tryd.f7, List.append_eq, List.cons_append, List.nil_append]
 simp -dsimp only [push_cast, seval]
 refine callB [] [] ((SplitASeq_fun 10 s).glob0) rfl (by simp) (by simp) (fun i hi => by cases hi) (by simp -dsimp only [push_cast, seval]) rfl ?_
 simp -dsimp only [push_cast, seval]
 refine range (strs (splA 10 s)) (fun k => (gs s k).stop) 6 (fun k => ⟨[], gsSt (gs s k), 0, 0⟩) hit.glob0 (by simp -dsimp only [push_cast, seval]) (by simp -dsimp only [push_cast, seval]) (by simp -dsimp only [push_cast, seval]) (Nat.le_of_ble_eq_true rfl) (by simp -dsimp only [push_cast, seval]) (fun it h => ?_) (fun j _ => rfl) ?_ (fun k it hk hsf => ?_) (fun hsf => ?_)
 ·obtain ⟨x, _, rfl⟩ := List.mem_map.1 h; rfl
 ·exact Weak.mk [] rfl rfl (Nat.le_of_ble_eq_true rfl) rfl (by simp -dsimp only [WeakTm, WeakBx, CLe, CLeL, push_cast, seval]) (by simp -dsimp only [WeakTm, WeakBx, CLe, CLeL, push_cast, seval, gsSt, gs])
 ·obtain ⟨x, hx, rfl⟩ := strs_get hk
  have hok := gs_ok s hs k hsf
  have hxt := hok.item hx
  subst hxt
  have hlen := hok.len
  have hnx : gs s (k + 1) = (gs s k).next := rfl
  have hsfx := (gs s k).suffix
  have hes : (gs s k).stop = true → _ := fun h => GS.end_stop h fun hf => (hok.zero hf).1
  have hen := hok.ends
  have hmany := hok.many
  obtain ⟨hcnt, hmem⟩ := hok.cnt
  have htxl := hs.line _ hmem
  have hcn2 := hs.many
  have hsz := hs.size
  clear hmem
  have hshort := hok.short
  have hfz := hok.zero
  rw [hnx]
  clear hx hsf hnx hok hk
  generalize gs s k = g at *
  have hcs := (cutsuf_fun g.text [10] (by omega)).glob0 (G' := GL)
  rw [hsfx.1, hsfx.2] at hcs
  have hll : g.line.length ≤ 100000 := by have h9 := GS.line_text g; omega
  unfold gsSt
  by_cases hf : g.first = true
  ·have hfull : g.full = false := by unfold GS.full; rw [hf]; rfl
   have hbad : g.bad = !(g.ended && (headG g.line).isSome) := by unfold GS.bad; rw [if_pos hf]
   have hst : g.stop = !(g.ended && (headG g.line).isSome) := by unfold GS.stop; rw [hfull, hbad, Bool.false_or]
   have hh := head_fun g.line (by omega)
   cases he : g.ended with
   | false =>
    rw [he] at hcs hst
    have hs1 : g.stop = true := hst
    simp -dsimp only [push_cast, seval, hf]
    (first | refine call (hcs) ?_ | refine callP (hcs) ?_); simp -dsimp only [push_cast, seval]
    (first | refine call (hh) ?_ | refine callP (hh) ?_); simp -dsimp only [push_cast, seval]
    have hr : getV (readV mayB) okL s = (none, g.pos) := by rw [← hen, hes hs1]; simp [hfull]
    refine ⟨hs1, ⟨[], [[.sc (.slice none 0 0)], [.sc (.int .i64 g.pos), .sc (.int .i64 12)], [.any], [.any], [.any], [.any]], 0, 0⟩, rfl, Weak.mk [] rfl rfl (Nat.le_of_ble_eq_true rfl) rfl (by simp -dsimp only [WeakTm, WeakBx, CLe, CLeL, push_cast, seval]) (by simp -dsimp only [WeakTm, WeakBx, CLe, CLeL, push_cast, seval]), ?_⟩
    simp -dsimp only [push_cast, seval]
    exact ⟨[], rfl, rfl, by simp -dsimp only [WeakTm, WeakBx, CLe, CLeL, push_cast, seval, hr, gotC, gotL, gotE, Option.getD_none, Option.isSome_none]⟩
   | true =>
    rw [he] at hcs hst
    cases hhd : headG g.line with
    | none =>
     rw [hhd] at hh hst
     simp only [Option.isSome_none] at hh
     have hs1 : g.stop = true := hst
     simp -dsimp only [push_cast, seval, hf]
     (first | refine call (hcs) ?_ | refine callP (hcs) ?_); simp -dsimp only [push_cast, seval]
     (first | refine call (hh) ?_ | refine callP (hh) ?_); simp -dsimp only [push_cast, seval]
     have hr : getV (readV mayB) okL s = (none, g.pos) := by rw [← hen, hes hs1]; simp [hfull]
     refine ⟨hs1, ⟨[], [[.sc (.slice none 0 0)], [.sc (.int .i64 g.pos), .sc (.int .i64 12)], [.any], [.any], [.any], [.any]], 0, 0⟩, rfl, Weak.mk [] rfl rfl (Nat.le_of_ble_eq_true rfl) rfl (by simp -dsimp only [WeakTm, WeakBx, CLe, CLeL, push_cast, seval]) (by simp -dsimp only [WeakTm, WeakBx, CLe, CLeL, push_cast, seval]), ?_⟩
     simp -dsimp only [push_cast, seval]
     exact ⟨[], rfl, rfl, by simp -dsimp only [WeakTm, WeakBx, CLe, CLeL, push_cast, seval, hr, gotC, gotL, gotE, Option.getD_none, Option.isSome_none]⟩
    | some n =>
     have hnum := headG_num hhd
     rw [hnum, hhd] at hh
     rw [hhd] at hst
     simp only [Option.isSome_some] at hh
     have hs1 : g.stop = false := hst
     have htl := GS.text_le g
     have ho0 := (hfz hf).2
     have hnx : g.next = ⟨false, n, g.pos + g.text.length, [], g.next.rest⟩ := by
      show (⟨_, _, _, _, _⟩ : GS) = _
      rw [hhd, if_pos hf, if_pos hf]; rfl
     rw [hnx]
     simp -dsimp only [push_cast, seval, hf]
     (first | refine call (hcs) ?_ | refine callP (hcs) ?_); simp -dsimp only [push_cast, seval]
     (first | refine call (hh) ?_ | refine callP (hh) ?_); simp -dsimp only [push_cast, seval]
     refine ⟨⟨by omega, by omega⟩, hs1, Weak.mk [] rfl rfl (Nat.le_of_ble_eq_true rfl) rfl (by simp -dsimp only [WeakTm, WeakBx, CLe, CLeL, push_cast, seval]) (by simp -dsimp only [WeakTm, WeakBx, CLe, CLeL, push_cast, seval, ho0])⟩
  ·have hf0 : g.first = false := by simpa using hf
   have hfl : g.full = decide (g.out.length = g.want) := by unfold GS.full; rw [hf0]; rfl
   have hol : (opsC g.out).length = g.out.length := opsC_length g.out
   by_cases hw : g.out.length = g.want
   ·have hfull : g.full = true := by rw [hfl]; exact decide_eq_true hw
    have hs1 : g.stop = true := by unfold GS.stop; rw [hfull]; rfl
    have hw2 := eq_true hw
    by_cases htx : g.text = []
    ·have hrs := GS.text_nil.1 htx
     have hr : getV (readV mayB) okL s = (some g.out, 0) := by rw [← hen, hes hs1, hfull, hrs]; simp
     have htx2 := eq_true htx
     simp -dsimp only [push_cast, seval, hf0]
     (first | refine call (hcs) ?_ | refine callP (hcs) ?_); simp -dsimp only [push_cast, seval]
     simp -dsimp only [push_cast, seval, hol, hw2, htx2]
     refine ⟨hs1, ⟨[], [[.tight 5 (opsC g.out)], [.sc (.int .i64 0), .sc (.int .i64 0)], [.any], [.any], [.any], [.any]], 0, 0⟩, rfl, Weak.mk [] rfl rfl (Nat.le_of_ble_eq_true rfl) rfl (by simp -dsimp only [WeakTm, WeakBx, CLe, CLeL, push_cast, seval]) (by simp -dsimp only [WeakTm, WeakBx, CLe, CLeL, push_cast, seval]), ?_⟩
     simp -dsimp only [push_cast, seval]
     exact ⟨[], rfl, rfl, by simp -dsimp only [WeakTm, WeakBx, CLe, CLeL, push_cast, seval, hr, gotC, gotL, gotE, Option.getD_some, Option.isSome_some]⟩
    ·have hrs : g.rest ≠ [] := fun h => htx (GS.text_nil.2 h)
     have htx2 := eq_false htx
     simp -dsimp only [push_cast, seval, hf0]
     (first | refine call (hcs) ?_ | refine callP (hcs) ?_); simp -dsimp only [push_cast, seval]
     simp -dsimp only [push_cast, seval, hol, hw2, htx2]
     have hr : getV (readV mayB) okL s = (none, g.pos) := by rw [← hen, hes hs1]; simp [hrs]
     refine ⟨hs1, ⟨[], [[.sc (.slice none 0 0)], [.sc (.int .i64 g.pos), .sc (.int .i64 12)], [.any], [.any], [.any], [.any]], 0, 0⟩, rfl, Weak.mk [] rfl rfl (Nat.le_of_ble_eq_true rfl) rfl (by simp -dsimp only [WeakTm, WeakBx, CLe, CLeL, push_cast, seval]) (by simp -dsimp only [WeakTm, WeakBx, CLe, CLeL, push_cast, seval]), ?_⟩
     simp -dsimp only [push_cast, seval]
     exact ⟨[], rfl, rfl, by simp -dsimp only [WeakTm, WeakBx, CLe, CLeL, push_cast, seval, hr, gotC, gotL, gotE, Option.getD_none, Option.isSome_none]⟩
   ·have hfull : g.full = false := by rw [hfl]; exact decide_eq_false hw
    have hw2 := eq_false hw
    have hst : g.stop = !(g.ended && takeB g.out g.line) := by
     unfold GS.stop GS.bad
     rw [hfull, if_neg hf, Bool.false_or]
    have htk := taken_fun g.out g.line hll (by omega) hshort
    have hcl := (clip_fun (opsC (takeV g.out g.line))).glob0 (G' := GL)
    have hbd := GS.text_le g
    cases he : g.ended with
    | false =>
     rw [he] at hcs hst
     have hs1 : g.stop = true := hst
     simp -dsimp only [push_cast, seval, hf0]
     (first | refine call (hcs) ?_ | refine callP (hcs) ?_); simp -dsimp only [push_cast, seval]
     simp -dsimp only [push_cast, seval, hol, hw2]
     (first | refine call (htk) ?_ | refine callP (htk) ?_); simp -dsimp only [push_cast, seval]
     (first | refine call (hcl) ?_ | refine callP (hcl) ?_); simp -dsimp only [push_cast, seval]
     have hr : getV (readV mayB) okL s = (none, g.pos) := by rw [← hen, hes hs1]; simp [hfull]
     refine ⟨hs1, ⟨[], [[.sc (.slice none 0 0)], [.sc (.int .i64 g.pos), .sc (.int .i64 12)], [.any], [.any], [.any], [.any]], 0, 0⟩, rfl, Weak.mk [] rfl rfl (Nat.le_of_ble_eq_true rfl) rfl (by simp -dsimp only [WeakTm, WeakBx, CLe, CLeL, push_cast, seval]) (by simp -dsimp only [WeakTm, WeakBx, CLe, CLeL, push_cast, seval]), ?_⟩
     simp -dsimp only [push_cast, seval]
     exact ⟨[], rfl, rfl, by simp -dsimp only [WeakTm, WeakBx, CLe, CLeL, push_cast, seval, hr, gotC, gotL, gotE, Option.getD_none, Option.isSome_none]⟩
    | true =>
     rw [he] at hcs hst
     cases htb : takeB g.out g.line with
     | false =>
      rw [htb] at htk hst
      have hs1 : g.stop = true := hst
      simp -dsimp only [push_cast, seval, hf0]
      (first | refine call (hcs) ?_ | refine callP (hcs) ?_); simp -dsimp only [push_cast, seval]
      simp -dsimp only [push_cast, seval, hol, hw2]
      (first | refine call (htk) ?_ | refine callP (htk) ?_); simp -dsimp only [push_cast, seval]
      (first | refine call (hcl) ?_ | refine callP (hcl) ?_); simp -dsimp only [push_cast, seval]
      have hr : getV (readV mayB) okL s = (none, g.pos) := by rw [← hen, hes hs1]; simp [hfull]
      refine ⟨hs1, ⟨[], [[.sc (.slice none 0 0)], [.sc (.int .i64 g.pos), .sc (.int .i64 12)], [.any], [.any], [.any], [.any]], 0, 0⟩, rfl, Weak.mk [] rfl rfl (Nat.le_of_ble_eq_true rfl) rfl (by simp -dsimp only [WeakTm, WeakBx, CLe, CLeL, push_cast, seval]) (by simp -dsimp only [WeakTm, WeakBx, CLe, CLeL, push_cast, seval]), ?_⟩
      simp -dsimp only [push_cast, seval]
      exact ⟨[], rfl, rfl, by simp -dsimp only [WeakTm, WeakBx, CLe, CLeL, push_cast, seval, hr, gotC, gotL, gotE, Option.getD_none, Option.isSome_none]⟩
     | true =>
      rw [htb] at htk hst
      have hs1 : g.stop = false := hst
      have hnx : g.next = ⟨false, g.want, g.pos + g.text.length, takeV g.out g.line, g.next.rest⟩ := by
       show (⟨_, _, _, _, _⟩ : GS) = _
       rw [if_neg hf, if_neg hf]; rfl
      rw [hnx]
      simp -dsimp only [push_cast, seval, hf0]
      (first | refine call (hcs) ?_ | refine callP (hcs) ?_); simp -dsimp only [push_cast, seval]
      simp -dsimp only [push_cast, seval, hol, hw2]
      (first | refine call (htk) ?_ | refine callP (htk) ?_); simp -dsimp only [push_cast, seval]
      (first | refine call (hcl) ?_ | refine callP (hcl) ?_); simp -dsimp only [push_cast, seval]
      refine ⟨⟨by omega, by omega⟩, hs1, Weak.mk [] rfl rfl (Nat.le_of_ble_eq_true rfl) rfl (by simp -dsimp only [WeakTm, WeakBx, CLe, CLeL, push_cast, seval]) (by simp -dsimp only [WeakTm, WeakBx, CLe, CLeL, push_cast, seval])⟩
 ·exact (GsOk.none (gs_ok s hs _ fun j hj => hsf j (by simpa using hj)) (by simp)).elim
end Go.Proofs.YtbphobmohdclaaaDoor.Vcg
end
section
set_option linter.unusedVariables false
set_option maxRecDepth 100000
set_option linter.unusedSimpArgs false
namespace Go.Proofs.YtbphobmohdclaaaDoor.Vcg
open Go.RowKit
open QuotePlain (Bs quoteL plainL blanks okw unq splitW numB valV most okTo isDig)
end Go.Proofs.YtbphobmohdclaaaDoor.Vcg
end
section
set_option linter.unusedVariables false
set_option maxRecDepth 100000
set_option linter.unusedSimpArgs false
namespace Go.Proofs.YtbphobmohdclaaaDoor.Vcg
open Go.RowKit
open QuotePlain (Bs quoteL plainL blanks okw unq splitW numB valV most okTo isDig)
end Go.Proofs.YtbphobmohdclaaaDoor.Vcg
end
section
set_option linter.unusedVariables false
set_option maxRecDepth 100000
set_option linter.unusedSimpArgs false
namespace Go.Proofs.YtbphobmohdclaaaDoor.Vcg
open Go.RowKit
open Kit QuoteWalk
open QuotePlain (Bs quoteL plainL blanks okw unq splitW numB valV most okTo isDig)
theorem ext_below {R : Env} {w : World} (hb : Below R.w.heap.size R.w w) : Ext R ⟨w, R.M, R.F⟩ where
 cell b o v hc hm := by
  have hlt : b < R.w.heap.size := by
   rcases Nat.lt_or_ge b R.w.heap.size with h | h
   ·exact h
   ·simp [World.cell?, Array.getElem?_eq_none h] at hc
  exact ⟨by rw [hb.cell (p := ⟨b, o, none⟩) hlt]; exact hc, hm⟩
 whole b cs ty fl hc hm := by
  have hlt : b < R.w.heap.size := (Array.getElem?_eq_some_iff.1 hc).1
  exact ⟨by rw [hb.block b hlt]; exact hc, hm⟩
theorem Fun.said {P : Program} {G : Globs} {f : FuncId} {args : List C} {r : C} {n : Nat} (h : Fun P G f args r n) {u : Value} (hr : ∀ R L v, Rep R L r v → v = u) {R : Env} {w : World} {vs : List Value} (hg : GlobOk G R) (hb : Below R.w.heap.size R.w w) (ha : RepL R noLoc args vs) :
  Calls P f vs.toArray w fun e w' => e = .returned u ∧ Below w.heap.size w w' := by
 have he := ext_below hb
 refine (h.2 ⟨w, R.M, R.F⟩ vs (hg.ext he) (RepL.ext he (LocLe.refl _) _ _ ha)).mono ?_
 rintro e w' ⟨v, R', L', rfl, rfl, st, hv⟩
 exact ⟨by rw [hr _ _ _ hv], st.below⟩
theorem said_str {R : Env} {L : Loc} {l : Bs} {v : Value} (h : Rep R L (.str l) v) : v = .string (ofL l) := rep_str.1 h
theorem said_sc {R : Env} {L : Loc} {u v : Value} (h : Rep R L (.sc u) v) : v = u := rep_sc.1 h
theorem Bld.below {B : Nat} {l : Bs} {w w' : World} (h : Bld B l w) (hb : Below w.heap.size w w') : Bld B l w' := by
 obtain ⟨h1, v, h2, h3, h4⟩ := h
 exact ⟨h1, v, by rw [hb.block _ (Array.getElem?_eq_some_iff.1 h2).1]; exact h2, ownsRow_below h3 hb (Nat.le_refl _), h4⟩
def Bld0 (B : Nat) (w : World) : Prop := Lib.BuilderAt 43 5 B B (.pointer none) [] w
theorem Bld0.below {B : Nat} {w w' : World} (h : Bld0 B w) (hb : Below w.heap.size w w') : Bld0 B w' := by
 obtain ⟨h1, v, h2, h3, h4⟩ := h
 exact ⟨h1, v, by rw [hb.block _ (Array.getElem?_eq_some_iff.1 h2).1]; exact h2, ownsRow_below h3 hb (Nat.le_refl _), h4⟩
theorem bld0_alloc (w : World) : Bld0 w.heap.size (w.alloc (.cells #[.pointer none, .slice none 0 0] 43 (0, 0))) := by
 rcases Lib.fresh_isBuilder 43 5 w with h | h
 ·exact h
 ·obtain ⟨_, v, hb, _⟩ := h
  rw [heap_alloc_new] at hb
  simp at hb
theorem writeString0 (B : Nat) (w : World) (x : ByteArray) (h : Bld0 B w) (hl : x.size ≤ 140737488355328) (hB : B ≤ w.heap.size) :
  Calls Tryd.prog 13 #[.pointer (some ⟨B, 0, none⟩), .string x] w fun e w' => e = .returned (.tuple #[.int .i64 x.size, .nilIface]) ∧ Bld B (toL x) w' ∧ Below B w w' :=
 Tryd.zBuilder_WriteString B B [] x w (.inl h) (by simpa using hl) hB
theorem row_cells {R : Env} {l : List OpV} {v : Value} (h : Rep R noLoc (.sl 5 (opsC l)) v) (k : Nat) (hk : k < l.length) : ∃ b o cap, v = .slice (some ⟨b, o, none⟩) l.length cap ∧ b < R.w.heap.size ∧ l.length ≤ cap ∧ cap ≤ maxLen ∧
  R.w.cell? ⟨b, o + k * 5, none⟩ = some (.int .i64 l[k].kind) ∧ R.w.cell? ⟨b, o + k * 5 + 1, none⟩ = some (.int .i64 l[k].slot) ∧ R.w.cell? ⟨b, o + k * 5 + 2, none⟩ = some (.string (ofL l[k].a)) ∧ R.w.cell? ⟨b, o + k * 5 + 3, none⟩ = some (.string (ofL l[k].b)) ∧ R.w.cell? ⟨b, o + k * 5 + 4, none⟩ = some (.string (ofL l[k].d)) := by
 unfold Rep at h
 obtain ⟨a, cap, e, h1, h2, h3⟩ := h
 rcases h3 with h3 | ⟨b, o, rfl, h3⟩
 ·have : l.length = 0 := by rw [← opsC_length, h3]; rfl
  omega
 ·rw [opsC_length] at e h1
  have key : ∀ (l : List OpV) (o k : Nat) (hk : k < l.length), RepRows R (opsC l) 5 b o → R.w.cell? ⟨b, o + k * 5, none⟩ = some (.int .i64 l[k].kind) ∧ R.w.cell? ⟨b, o + k * 5 + 1, none⟩ = some (.int .i64 l[k].slot) ∧ R.w.cell? ⟨b, o + k * 5 + 2, none⟩ = some (.string (ofL l[k].a)) ∧ R.w.cell? ⟨b, o + k * 5 + 3, none⟩ = some (.string (ofL l[k].b)) ∧ R.w.cell? ⟨b, o + k * 5 + 4, none⟩ = some (.string (ofL l[k].d)) := by
   intro l
   induction l with
   | nil => intro o k hk; simp at hk
   | cons x r ih =>
    intro o k hk h
    have h : RepRows R (opL x :: opsC r) 5 b o := h
    unfold RepRows at h
    obtain ⟨_, h4, h5⟩ := h
    cases k with
    | zero =>
     unfold opL at h4
     simp only [RepCells] at h4
     obtain ⟨⟨v1, c1, _, r1, _⟩, ⟨v2, c2, _, r2, _⟩, ⟨v3, c3, _, r3, _⟩, ⟨v4, c4, _, r4, _⟩, ⟨v5, c5, _, r5, _⟩, _⟩ := h4
     rw [rep_sc] at r1 r2
     rw [rep_str] at r3 r4 r5
     subst r1 r2 r3 r4 r5
     simp only [Nat.zero_mul, Nat.add_zero, List.getElem_cons_zero]
     exact ⟨c1, c2, c3, c4, c5⟩
    | succ k =>
     have := ih (o + 5) k (by simpa using hk) h5
     rw [show o + (k + 1) * 5 = o + 5 + k * 5 by omega]
     simpa using this
  have h9 := key l o k hk h3
  refine ⟨b, o, cap, e, ?_, h1, h2, h9⟩
  rcases Nat.lt_or_ge b R.w.heap.size with h | h
  ·exact h
  ·have := h9.1
   simp [World.cell?, Array.getElem?_eq_none h] at this
def PutPost (l : List OpV) (w : World) (e : Ending) (w' : World) : Prop := e = .returned (.tuple #[.string (ofL (putTxt l)), .int .i64 (putE l)]) ∧ Below w.heap.size w w'
theorem put_none (l : List OpV) (hok : okL l = false) (hx : l.length ≤ 10000) (hl : shortL l) (R : Env) (v : Value) (hg : GlobOk GL R) (hv : Rep R noLoc (.sl 5 (opsC l)) v) : Calls Tryd.prog 6 #[v] R.w (PutPost l R.w) := by
 have h1 : planB l = false := by
  cases h : planB l with
  | false => rfl
  | true => unfold okL at hok; rw [h] at hok; cases hok
 have h2 : undoB l = false := by
  cases h : undoB l with
  | false => rfl
  | true => unfold okL at hok; rw [h, Bool.or_true] at hok; cases hok
 have hp := (plan19_fun l (by omega) hl).glob1
 have hu := (undo19_fun l (by omega) hl).glob1
 rw [h1] at hp
 rw [h2] at hu
 have hvl := repL_cons.2 ⟨v, [], rfl, hv, repL_nil.2 rfl⟩
 have cp := Lib.hid (hp.said (fun _ _ _ => said_sc) hg (Below.refl _ _) hvl)
 have cu := Lib.hid (fun w hb => hu.said (w := w) (fun _ _ _ => said_sc) hg hb hvl)
 have e1 := Lib.hid (show putTxt l = [] by unfold putTxt; rw [hok]; rfl)
 have e2 := Lib.hid (show putE l = 12 by unfold putE; rw [hok]; rfl)
 clear hp hu hvl hv h1 h2 hok
 go_enter Tryd.func6, Tryd.ntmps6
 go_wp2_with fail
 refine cp.out.mono ?_
 rintro e w1 ⟨rfl, hB1⟩
 go_wp2_with fail
 refine (cu.out _ hB1).mono ?_
 rintro e w2 ⟨rfl, hB2⟩
 go_wp2_with fail
 go_ret2
 exact ⟨by rw [e1.out, e2.out]; rfl, hB1.trans (hB2.mono hB1.size)⟩
set_option maxHeartbeats 4000000 in
theorem put_plan (l : List OpV) (hok : okL l = true) (h1 : planB l = true) (hx : l.length ≤ 10000) (hl : shortL l) (R : Env) (v : Value) (hg : GlobOk GL R) (hv : Rep R noLoc (.sl 5 (opsC l)) v) : Calls Tryd.prog 6 #[v] R.w (PutPost l R.w) := by
 have hp := (plan19_fun l (by omega) hl).glob1
 have hu := (undo19_fun l (by omega) hl).glob1
 have hmay := ok_may hok
 have hev : ∀ o ∈ l, LineOk o ∧ short o := fun o ho => ⟨may_ok (hmay o ho), hl o ho⟩
 have hkey : ∀ k, k ≤ l.length → (headV l.length ++ [10] ++ bodyV (l.take k)).length ≤ 100 + 2000001 * 10000 := fun k hk => by
  have hdl := QuotePlain.dec_len 19 l.length (by decide) (Nat.lt_of_le_of_lt hx (by decide))
  have := body_bound (l.take k) fun o ho => hev o (List.mem_of_mem_take ho)
  have h3 : (l.take k).length ≤ 10000 := by simp; omega
  have h4 : (bodyV (l.take k)).length ≤ 2000001 * 10000 := Nat.le_trans this (Nat.mul_le_mul_left _ h3)
  simp only [List.length_append, headV, List.length_cons, List.length_nil]
  omega
 have hvl := repL_cons.2 ⟨v, [], rfl, hv, repL_nil.2 rfl⟩
 have cp := Lib.hid (fun w hb => hp.said (w := w) (fun _ _ _ => said_sc) hg hb hvl)
 have cu := Lib.hid (fun w hb => hu.said (w := w) (fun _ _ _ => said_sc) hg hb hvl)
 have ci := Lib.hid (fun w hb => (itoa_fun l.length (by omega)).said (w := w) (vs := [.int .i64 (l.length : Int)]) (fun _ _ _ => said_str) hg hb (repL_cons.2 ⟨_, [], rfl, rep_sc.2 rfl, repL_nil.2 rfl⟩))
 have cl := Lib.hid (fun (k : Nat) (hk : k < l.length) w hb => (line_fun l[k] (hev _ (List.getElem_mem hk)).1 (hev _ (List.getElem_mem hk)).2 (may_b (hmay _ (List.getElem_mem hk)))).said (w := w) (vs := [.agg #[.int .i64 l[k].kind, .int .i64 l[k].slot, .string (ofL l[k].a), .string (ofL l[k].b), .string (ofL l[k].d)]]) (fun _ _ _ => said_str) hg hb (repL_cons.2 ⟨_, [], rfl, rep_agg.2 ⟨_, rfl, repL_cons.2 ⟨_, _, rfl, rep_sc.2 rfl, repL_cons.2 ⟨_, _, rfl, rep_sc.2 rfl, repL_cons.2 ⟨_, _, rfl, rep_str.2 rfl, repL_cons.2 ⟨_, _, rfl, rep_str.2 rfl, repL_cons.2 ⟨_, _, rfl, rep_str.2 rfl, repL_nil.2 rfl⟩⟩⟩⟩⟩⟩, repL_nil.2 rfl⟩))
 have e1 := Lib.hid (show putTxt l = headV l.length ++ 10 :: bodyV l by unfold putTxt; rw [hok, if_pos rfl]; simp [textV])
 have e2 := Lib.hid (show putE l = 0 by unfold putE; rw [hok]; rfl)
 have hrow := Lib.hid (row_cells hv)
 obtain ⟨av, cap, hve, hvc, hvm⟩ : ∃ a cap, v = .slice a l.length cap ∧ l.length ≤ cap ∧ cap ≤ maxLen := by
  unfold Rep at hv
  obtain ⟨a, cap, e, h1, h2, _⟩ := hv
  rw [opsC_length] at e h1
  exact ⟨a, cap, e, h1, h2⟩
 have hvm2 : (cap : Int) ≤ 9223372036854775807 := by unfold maxLen at hvm; omega
 have hkey' := Lib.hid hkey
 obtain ⟨D, hD⟩ : ∃ D, ofL (Lib.decDigits l.length) = D := ⟨_, rfl⟩
 have hDs : D.size ≤ 19 := by
  have hdl := QuotePlain.dec_len 19 l.length (by decide) (Nat.lt_of_le_of_lt hx (by decide))
  rw [← hD, size_ofL]; exact hdl
 have hD' := Lib.hid hD
 have h1h := Lib.hid h1
 clear hp hu hvl hv hok hmay hev hkey hvm hl h1
 subst hve
 go_enter Tryd.func6, Tryd.ntmps6
 go_wp2_with fail
 refine (cp.out _ (Below.refl _ _)).mono ?_
 rw [h1h.out]
 rintro e w1 ⟨rfl, hB1⟩
 go_wp2_with fail
 have hB0 := hB1
 have hBS : R.w.heap.size ≤ w1.heap.size := hB1.size
 have hb0 := bld0_alloc w1
 have hba := (Below.refl w1.heap.size w1).alloc (Nat.le_refl _) (.cells #[.pointer none, .slice none 0 0] 43 (0, 0))
 refine (ci.out _ (hB0.trans (hba.mono hB0.size))).mono ?_
 rintro e w3 ⟨rfl, hB3⟩
 have hb3 := hb0.below hB3
 have hB13 : Below w1.heap.size w1 w3 := hba.trans (hB3.mono hba.size)
 have hB03 := hB0.trans (hB13.mono hB0.size)
 rw [hD'.out]
 clear hB3 hba hb0 hB0 hD
 go_wp2_with fail
 have hX : toL ((⟨#[112, 108, 97, 110, 32]⟩ : ByteArray) ++ D ++ ⟨#[10]⟩) = headV l.length ++ [10] := by
  rw [← hD'.out, toL_append, toL_append, toL_ofL]; rfl
 have hXs : ((⟨#[112, 108, 97, 110, 32]⟩ : ByteArray) ++ D ++ ⟨#[10]⟩).size ≤ 140737488355328 := by
  have := hkey'.out 0 (Nat.zero_le _)
  rw [← size_toL, hX]
  simp only [List.length_append, List.length_cons, List.length_nil] at this ⊢
  omega
 refine (writeString0 w1.heap.size w3 _ hb3 hXs hB13.size).mono ?_
 rintro e w4 ⟨rfl, hI4, hB4⟩
 rw [hX] at hI4
 have hB04 := hB03.trans (hB4.mono hB1.size)
 have hs4 : w1.heap.size ≤ w4.heap.size := Nat.le_trans hB13.size hB4.size
 clear hb3 hX hXs hB4 hB13 hB03
 go_wp2_with fail
 go_loopw [23] (fun i wr => ∃ k : Nat, k ≤ l.length ∧ i = .int .i64 k ∧ Bld w1.heap.size (headV l.length ++ [10] ++ bodyV (l.take k)) wr ∧ Below R.w.heap.size R.w wr ∧ w1.heap.size ≤ wr.heap.size) (fun i _ => l.length - (intOf i).toNat)
 case atStart => exact ⟨0, by omega, rfl, by simpa [bodyV] using hI4, hB04, hs4⟩
 case round =>
  obtain ⟨k, hk, rfl, hI, hB, hsz⟩ := hrel
  by_cases hlt : k < l.length
  ·obtain ⟨b, o, cap2, hv2, hbs, _, _, c0, c1, c2, c3, c4⟩ := hrow.out k hlt
   have hav : av = some ⟨b, o, none⟩ := by injection hv2
   subst hav
   have hbw := fun p : Addr => fun hp : p.block < R.w.heap.size => hB.cell (p := p) hp
   rw [← hbw ⟨b, _, none⟩ hbs] at c0 c1 c2 c3 c4
   have hcl := Lib.hid (cl.out k hlt)
   obtain ⟨x, hx2⟩ : ∃ x, l[k] = x := ⟨_, rfl⟩
   have hx2' := Lib.hid hx2
   rw [hx2] at c0 c1 c2 c3 c4 hcl
   clear hbw hx2
   obtain ⟨T, hT⟩ : ∃ T, ofL (lineV x) = T := ⟨_, rfl⟩
   have hbt := body_take l k hlt
   rw [hx2'.out] at hbt
   have hTl : (bodyV (l.take (k + 1))).length = (bodyV (l.take k)).length + (lineV x).length + 1 := by rw [hbt]; simp; omega
   have hk1 := hkey'.out (k + 1) hlt
   have hk0 := hkey'.out k (by omega)
   simp only [List.length_append, List.length_cons, List.length_nil] at hk1 hk0
   have hTs : T.size = (lineV x).length := by rw [← hT, size_ofL]
   have hbound : (headV l.length).length + 1 + (bodyV (l.take k)).length + T.size + 1 ≤ 100 + 2000001 * 10000 := by omega
   have hT2 : T.size ≤ 30000000000 := by omega
   have hTt : toL (T ++ ⟨#[10]⟩) = lineV x ++ [10] := by rw [toL_append, ← hT, toL_ofL]; rfl
   have hTt' := Lib.hid hTt
   have hsz9 : (headV l.length ++ [10] ++ bodyV (l.take k)).length + (T ++ (⟨#[10]⟩ : ByteArray)).size ≤ 140737488355328 := by
    have h9 : (T ++ (⟨#[10]⟩ : ByteArray)).size = T.size + 1 := by simp; rfl
    rw [h9]
    simp only [List.length_append, List.length_cons, List.length_nil]
    omega
   have hbt' := Lib.hid hbt
   rw [hT] at hcl
   have hcl' := Lib.hid hcl.out
   clear hcl hk1 hk0 hTl hTs hTt hbt hT
   go_wp2_with fail
   refine (hcl'.out _ (hB.alloc hB.size _)).mono ?_
   rintro e w5 ⟨rfl, hB5⟩
   have hI5 := Bld.below (hI.alloc (.cells #[.int .i64 x.kind, .int .i64 x.slot, .string (ofL x.a), .string (ofL x.b), .string (ofL x.d)] 35 (0, 0))) hB5
   have hB05 := (hB.alloc hB.size (.cells #[.int .i64 x.kind, .int .i64 x.slot, .string (ofL x.a), .string (ofL x.b), .string (ofL x.d)] 35 (0, 0))).trans (hB5.mono (hB.alloc hB.size _).size)
   have hs5 : w1.heap.size ≤ w5.heap.size := by have := hB5.size; simp at this; omega
   clear hB5 hI
   go_wp2_with fail
   have hws := writeString w1.heap.size (headV l.length ++ [10] ++ bodyV (l.take k)) (T ++ (⟨#[10]⟩ : ByteArray)) w5 hI5 hsz9 hs5
   refine hws.mono ?_
   rintro e w6 ⟨rfl, hI6, hB6⟩
   rw [hTt'.out] at hI6
   go_wp2
   go_roundw
   case rel => exact ⟨k + 1, by omega, by go_num, by rw [hbt'.out, ← List.append_assoc]; exact hI6, hB05.trans (hB6.mono hBS), by have := hB6.size; omega⟩
   case measure => simp [intOf]; omega
  ·obtain rfl : k = l.length := by omega
   rw [List.take_length] at hI
   go_wp2_with fail
   refine (bldString w1.heap.size _ wr hI hsz).mono ?_
   rintro e w5 ⟨rfl, hB5⟩
   go_wp2
   go_ret2
   exact ⟨by rw [e1.out, e2.out]; rfl, hB.trans (hB5.mono hBS)⟩
set_option maxHeartbeats 4000000 in
theorem put_undo (l : List OpV) (hok : okL l = true) (h1 : planB l = false ∧ undoB l = true) (hx : l.length ≤ 10000) (hl : shortL l) (R : Env) (v : Value) (hg : GlobOk GL R) (hv : Rep R noLoc (.sl 5 (opsC l)) v) : Calls Tryd.prog 6 #[v] R.w (PutPost l R.w) := by
 have hp := (plan19_fun l (by omega) hl).glob1
 have hu := (undo19_fun l (by omega) hl).glob1
 have hmay := ok_may hok
 have hev : ∀ o ∈ l, LineOk o ∧ short o := fun o ho => ⟨may_ok (hmay o ho), hl o ho⟩
 have hkey : ∀ k, k ≤ l.length → (headV l.length ++ [10] ++ bodyV (l.take k)).length ≤ 100 + 2000001 * 10000 := fun k hk => by
  have hdl := QuotePlain.dec_len 19 l.length (by decide) (Nat.lt_of_le_of_lt hx (by decide))
  have := body_bound (l.take k) fun o ho => hev o (List.mem_of_mem_take ho)
  have h3 : (l.take k).length ≤ 10000 := by simp; omega
  have h4 : (bodyV (l.take k)).length ≤ 2000001 * 10000 := Nat.le_trans this (Nat.mul_le_mul_left _ h3)
  simp only [List.length_append, headV, List.length_cons, List.length_nil]
  omega
 have hvl := repL_cons.2 ⟨v, [], rfl, hv, repL_nil.2 rfl⟩
 have cp := Lib.hid (fun w hb => hp.said (w := w) (fun _ _ _ => said_sc) hg hb hvl)
 have cu := Lib.hid (fun w hb => hu.said (w := w) (fun _ _ _ => said_sc) hg hb hvl)
 have ci := Lib.hid (fun w hb => (itoa_fun l.length (by omega)).said (w := w) (vs := [.int .i64 (l.length : Int)]) (fun _ _ _ => said_str) hg hb (repL_cons.2 ⟨_, [], rfl, rep_sc.2 rfl, repL_nil.2 rfl⟩))
 have cl := Lib.hid (fun (k : Nat) (hk : k < l.length) w hb => (line_fun l[k] (hev _ (List.getElem_mem hk)).1 (hev _ (List.getElem_mem hk)).2 (may_b (hmay _ (List.getElem_mem hk)))).said (w := w) (vs := [.agg #[.int .i64 l[k].kind, .int .i64 l[k].slot, .string (ofL l[k].a), .string (ofL l[k].b), .string (ofL l[k].d)]]) (fun _ _ _ => said_str) hg hb (repL_cons.2 ⟨_, [], rfl, rep_agg.2 ⟨_, rfl, repL_cons.2 ⟨_, _, rfl, rep_sc.2 rfl, repL_cons.2 ⟨_, _, rfl, rep_sc.2 rfl, repL_cons.2 ⟨_, _, rfl, rep_str.2 rfl, repL_cons.2 ⟨_, _, rfl, rep_str.2 rfl, repL_cons.2 ⟨_, _, rfl, rep_str.2 rfl, repL_nil.2 rfl⟩⟩⟩⟩⟩⟩, repL_nil.2 rfl⟩))
 have e1 := Lib.hid (show putTxt l = headV l.length ++ 10 :: bodyV l by unfold putTxt; rw [hok, if_pos rfl]; simp [textV])
 have e2 := Lib.hid (show putE l = 0 by unfold putE; rw [hok]; rfl)
 have hrow := Lib.hid (row_cells hv)
 obtain ⟨av, cap, hve, hvc, hvm⟩ : ∃ a cap, v = .slice a l.length cap ∧ l.length ≤ cap ∧ cap ≤ maxLen := by
  unfold Rep at hv
  obtain ⟨a, cap, e, h1, h2, _⟩ := hv
  rw [opsC_length] at e h1
  exact ⟨a, cap, e, h1, h2⟩
 have hvm2 : (cap : Int) ≤ 9223372036854775807 := by unfold maxLen at hvm; omega
 have hkey' := Lib.hid hkey
 obtain ⟨D, hD⟩ : ∃ D, ofL (Lib.decDigits l.length) = D := ⟨_, rfl⟩
 have hDs : D.size ≤ 19 := by
  have hdl := QuotePlain.dec_len 19 l.length (by decide) (Nat.lt_of_le_of_lt hx (by decide))
  rw [← hD, size_ofL]; exact hdl
 have hD' := Lib.hid hD
 have h1h := Lib.hid h1
 clear hp hu hvl hv hok hmay hev hkey hvm hl h1
 subst hve
 go_enter Tryd.func6, Tryd.ntmps6
 go_wp2_with fail
 refine (cp.out _ (Below.refl _ _)).mono ?_
 rw [h1h.out.1]
 rintro e w0 ⟨rfl, hB9⟩
 go_wp2_with fail
 refine (cu.out _ hB9).mono ?_
 rw [h1h.out.2]
 rintro e w1 ⟨rfl, hBb⟩
 have hB1 := hB9.trans (hBb.mono hB9.size)
 clear hB9 hBb
 go_wp2_with fail
 have hB0 := hB1
 have hBS : R.w.heap.size ≤ w1.heap.size := hB1.size
 have hb0 := bld0_alloc w1
 have hba := (Below.refl w1.heap.size w1).alloc (Nat.le_refl _) (.cells #[.pointer none, .slice none 0 0] 43 (0, 0))
 refine (ci.out _ (hB0.trans (hba.mono hB0.size))).mono ?_
 rintro e w3 ⟨rfl, hB3⟩
 have hb3 := hb0.below hB3
 have hB13 : Below w1.heap.size w1 w3 := hba.trans (hB3.mono hba.size)
 have hB03 := hB0.trans (hB13.mono hB0.size)
 rw [hD'.out]
 clear hB3 hba hb0 hB0 hD
 go_wp2_with fail
 have hX : toL ((⟨#[112, 108, 97, 110, 32]⟩ : ByteArray) ++ D ++ ⟨#[10]⟩) = headV l.length ++ [10] := by
  rw [← hD'.out, toL_append, toL_append, toL_ofL]; rfl
 have hXs : ((⟨#[112, 108, 97, 110, 32]⟩ : ByteArray) ++ D ++ ⟨#[10]⟩).size ≤ 140737488355328 := by
  have := hkey'.out 0 (Nat.zero_le _)
  rw [← size_toL, hX]
  simp only [List.length_append, List.length_cons, List.length_nil] at this ⊢
  omega
 refine (writeString0 w1.heap.size w3 _ hb3 hXs hB13.size).mono ?_
 rintro e w4 ⟨rfl, hI4, hB4⟩
 rw [hX] at hI4
 have hB04 := hB03.trans (hB4.mono hB1.size)
 have hs4 : w1.heap.size ≤ w4.heap.size := Nat.le_trans hB13.size hB4.size
 clear hb3 hX hXs hB4 hB13 hB03
 go_wp2_with fail
 go_loopw [23] (fun i wr => ∃ k : Nat, k ≤ l.length ∧ i = .int .i64 k ∧ Bld w1.heap.size (headV l.length ++ [10] ++ bodyV (l.take k)) wr ∧ Below R.w.heap.size R.w wr ∧ w1.heap.size ≤ wr.heap.size) (fun i _ => l.length - (intOf i).toNat)
 case atStart => exact ⟨0, by omega, rfl, by simpa [bodyV] using hI4, hB04, hs4⟩
 case round =>
  obtain ⟨k, hk, rfl, hI, hB, hsz⟩ := hrel
  by_cases hlt : k < l.length
  ·obtain ⟨b, o, cap2, hv2, hbs, _, _, c0, c1, c2, c3, c4⟩ := hrow.out k hlt
   have hav : av = some ⟨b, o, none⟩ := by injection hv2
   subst hav
   have hbw := fun p : Addr => fun hp : p.block < R.w.heap.size => hB.cell (p := p) hp
   rw [← hbw ⟨b, _, none⟩ hbs] at c0 c1 c2 c3 c4
   have hcl := Lib.hid (cl.out k hlt)
   obtain ⟨x, hx2⟩ : ∃ x, l[k] = x := ⟨_, rfl⟩
   have hx2' := Lib.hid hx2
   rw [hx2] at c0 c1 c2 c3 c4 hcl
   clear hbw hx2
   obtain ⟨T, hT⟩ : ∃ T, ofL (lineV x) = T := ⟨_, rfl⟩
   have hbt := body_take l k hlt
   rw [hx2'.out] at hbt
   have hTl : (bodyV (l.take (k + 1))).length = (bodyV (l.take k)).length + (lineV x).length + 1 := by rw [hbt]; simp; omega
   have hk1 := hkey'.out (k + 1) hlt
   have hk0 := hkey'.out k (by omega)
   simp only [List.length_append, List.length_cons, List.length_nil] at hk1 hk0
   have hTs : T.size = (lineV x).length := by rw [← hT, size_ofL]
   have hbound : (headV l.length).length + 1 + (bodyV (l.take k)).length + T.size + 1 ≤ 100 + 2000001 * 10000 := by omega
   have hT2 : T.size ≤ 30000000000 := by omega
   have hTt : toL (T ++ ⟨#[10]⟩) = lineV x ++ [10] := by rw [toL_append, ← hT, toL_ofL]; rfl
   have hTt' := Lib.hid hTt
   have hsz9 : (headV l.length ++ [10] ++ bodyV (l.take k)).length + (T ++ (⟨#[10]⟩ : ByteArray)).size ≤ 140737488355328 := by
    have h9 : (T ++ (⟨#[10]⟩ : ByteArray)).size = T.size + 1 := by simp; rfl
    rw [h9]
    simp only [List.length_append, List.length_cons, List.length_nil]
    omega
   have hbt' := Lib.hid hbt
   rw [hT] at hcl
   have hcl' := Lib.hid hcl.out
   clear hcl hk1 hk0 hTl hTs hTt hbt hT
   go_wp2_with fail
   refine (hcl'.out _ (hB.alloc hB.size _)).mono ?_
   rintro e w5 ⟨rfl, hB5⟩
   have hI5 := Bld.below (hI.alloc (.cells #[.int .i64 x.kind, .int .i64 x.slot, .string (ofL x.a), .string (ofL x.b), .string (ofL x.d)] 35 (0, 0))) hB5
   have hB05 := (hB.alloc hB.size (.cells #[.int .i64 x.kind, .int .i64 x.slot, .string (ofL x.a), .string (ofL x.b), .string (ofL x.d)] 35 (0, 0))).trans (hB5.mono (hB.alloc hB.size _).size)
   have hs5 : w1.heap.size ≤ w5.heap.size := by have := hB5.size; simp at this; omega
   clear hB5 hI
   go_wp2_with fail
   have hws := writeString w1.heap.size (headV l.length ++ [10] ++ bodyV (l.take k)) (T ++ (⟨#[10]⟩ : ByteArray)) w5 hI5 hsz9 hs5
   refine hws.mono ?_
   rintro e w6 ⟨rfl, hI6, hB6⟩
   rw [hTt'.out] at hI6
   go_wp2
   go_roundw
   case rel => exact ⟨k + 1, by omega, by go_num, by rw [hbt'.out, ← List.append_assoc]; exact hI6, hB05.trans (hB6.mono hBS), by have := hB6.size; omega⟩
   case measure => simp [intOf]; omega
  ·obtain rfl : k = l.length := by omega
   rw [List.take_length] at hI
   go_wp2_with fail
   refine (bldString w1.heap.size _ wr hI hsz).mono ?_
   rintro e w5 ⟨rfl, hB5⟩
   go_wp2
   go_ret2
   exact ⟨by rw [e1.out, e2.out]; rfl, hB.trans (hB5.mono hBS)⟩
theorem put_fun (l : List OpV) (hx : l.length ≤ 10000) (hl : shortL l) : Fun Tryd.prog GL 6 [.sl 5 (opsC l)] (.tup [.str (putTxt l), .sc (.int .i64 (putE l))]) 0 := by
 refine Fun.wrapG (by kernel_rfl) fun R vs hg h => ?_
 obtain ⟨v, us, rfl, hv, h⟩ := repL_cons.1 h
 rw [repL_nil] at h
 subst h
 have key : Calls Tryd.prog 6 #[v] R.w (PutPost l R.w) := by
  cases hok : okL l with
  | false => exact put_none l hok hx hl R v hg hv
  | true =>
   cases hp : planB l with
   | true => exact put_plan l hok hp hx hl R v hg hv
   | false => exact put_undo l hok ⟨hp, by unfold okL at hok; rw [hp, Bool.false_or] at hok; exact hok⟩ hx hl R v hg hv
 refine key.mono ?_
 rintro e w' ⟨rfl, hb⟩
 exact ⟨_, rfl, hb, fun R' _ => rep_tup.2 ⟨_, rfl, repL_cons.2 ⟨_, _, rfl, rep_str.2 rfl, repL_cons.2 ⟨_, _, rfl, rep_sc.2 rfl, repL_nil.2 rfl⟩⟩⟩⟩
end Go.Proofs.YtbphobmohdclaaaDoor.Vcg
end
section
set_option linter.unusedVariables false
set_option maxRecDepth 100000
set_option linter.unusedSimpArgs false
namespace Go.Proofs.YtbphobmohdclaaaDoor.Vcg
open Go.RowKit
open QuotePlain (Bs quoteL plainL blanks okw unq splitW numB valV most okTo isDig)
theorem okL_prefix (l r : List OpV) (h : okL (l ++ r) = true) : okL l = true := by
 unfold okL at h ⊢
 simp only [Bool.or_eq_true] at h ⊢
 have e : (l ++ r).take l.length = l := by simp
 rcases h with h | h
 ·have := planB_take l.length h; rw [e] at this; exact .inl this
 ·have := undoB_take l.length h; rw [e] at this; exact .inr this
def op1 : OpV := ⟨1, 0, [47, 97], [], []⟩
def op7 : OpV := ⟨7, 3, [47, 97, 32, 98], [], []⟩
theorem w_ok1 : okL [op1] = true := by decide +kernel
theorem w_ok0 : okL [] = true := by decide +kernel
theorem w_okz : okL [zeroOp] = false := by decide +kernel
theorem w_txt1 : textV [op1] = [112, 108, 97, 110, 32, 49] ++ 10 :: [109, 107, 100, 105, 114, 32, 34, 47, 97, 34] ++ [10] := by decide +kernel
theorem w_get0 : getV (readV mayB) okL ([112, 108, 97, 110, 32, 48] ++ [10]) = (some [], 0) := by
 have := get_put (may := mayB) (ok := okL) (fun o => may_ok) okL_prefix (fun l h => ok_may h) [] w_ok0 (by decide) []
 rw [if_pos rfl, show textV [] ++ [] = [112, 108, 97, 110, 32, 48] ++ [10] by decide +kernel] at this
 exact this
theorem w_get1 : getV (readV mayB) okL ([112, 108, 97, 110, 32, 49] ++ [10]) = (none, 7) := by decide +kernel
theorem w_read7 : readV mayB ([115, 116, 97, 115, 104, 32, 51, 32, 34, 47, 97, 32, 98, 34]) = some op7 := (read_iff (fun o => may_ok) _ _).2 ⟨by decide +kernel, by decide +kernel⟩
theorem w_read3 : readV mayB ([115, 116, 97, 115, 104, 32, 48, 51, 32, 34, 47, 97, 34]) = none := by decide +kernel
theorem w_get1t : getV (readV mayB) okL (textV [op1]) = (some [op1], 0) := by
 have := get_put (may := mayB) (ok := okL) (fun o => may_ok) okL_prefix (fun l h => ok_may h) [op1] w_ok1 (by decide) []
 rw [if_pos rfl, List.append_nil] at this
 exact this
set_option maxHeartbeats 4000000 in
theorem awake20 : Fun Tryd.prog GL 4 [] (.sc (.bool true)) 0 := by
  have sh1 : shortL [op1] := by intro o ho; have : o = op1 := by simpa using ho
                                rw [this]; exact ⟨by decide, by decide, by decide⟩
  have shz : shortL [zeroOp] := by intro o ho; have : o = zeroOp := by simpa using ho
                                   rw [this]; exact ⟨by decide, by decide, by decide⟩
  have p1 := put_fun [op1] (by decide) sh1
  have pz := put_fun [zeroOp] (by decide) shz
  rw [show putTxt [op1] = textV [op1] by unfold putTxt; rw [w_ok1]; rfl, show putE [op1] = 0 by unfold putE; rw [w_ok1]; rfl, w_txt1] at p1
  rw [show putTxt [zeroOp] = [] by unfold putTxt; rw [w_okz]; rfl, show putE [zeroOp] = 12 by unfold putE; rw [w_okz]; rfl] at pz
  have g1 := get_fun (textV [op1]) (linesOk_short (by rw [w_txt1]; decide))
  rw [w_get1t, w_txt1] at g1
  have g0 := get_fun ([112, 108, 97, 110, 32, 48] ++ [10]) (linesOk_short (by decide))
  rw [w_get0] at g0
  have g2 := get_fun ([112, 108, 97, 110, 32, 49] ++ [10]) (linesOk_short (by decide))
  rw [w_get1] at g2
  have r7 := read_fun ([115, 116, 97, 115, 104, 32, 51, 32, 34, 47, 97, 32, 98, 34]) (by decide)
  rw [w_read7] at r7
  have r3 := read_fun ([115, 116, 97, 115, 104, 32, 48, 51, 32, 34, 47, 97, 34]) (by decide)
  rw [w_read3] at r3
  have sm := (rSame_fun [op1] [op1] (by decide)).glob0 (G' := GL)
  rw [sameOps_refl] at sm
  have ln7 := line_fun op7 (may_ok (by decide +kernel)) ⟨by decide, by decide, by decide⟩ (by decide)
  rw [show lineV op7 = [115, 116, 97, 115, 104, 32, 51, 32, 34, 47, 97, 32, 98, 34] by decide +kernel] at ln7
  simp only [gotC, gotL, gotE, Option.getD_some, Option.getD_none, Option.isSome_some, Option.isSome_none, if_true, if_false, List.map_cons, List.map_nil, op1, zeroOp, op7, opL, List.cons_append, List.nil_append, Bool.false_eq_true] at p1 pz g1 g0 g2 r7 r3 sm ln7
  refine Fun.of (fun _ => []) (by kernel_rfl) Tryd.func4 rfl rfl (Nat.le_of_ble_eq_true rfl) (by kernel_rfl) ?_; dsimp only [Tryd.f4, List.append_eq, List.cons_append, List.nil_append]
  simp -dsimp only [push_cast, seval]
  (first | refine call (p1) ?_ | refine callP (p1) ?_); simp -dsimp only [push_cast, seval]
  (first | refine call (g1) ?_ | refine callP (g1) ?_); simp -dsimp only [push_cast, seval]
  (first | refine call (g0) ?_ | refine callP (g0) ?_); simp -dsimp only [push_cast, seval]
  (first | refine call (g2) ?_ | refine callP (g2) ?_); simp -dsimp only [push_cast, seval]
  (first | refine call (pz) ?_ | refine callP (pz) ?_); simp -dsimp only [push_cast, seval]
  (first | refine call (r7) ?_ | refine callP (r7) ?_); simp -dsimp only [push_cast, seval]
  (first | refine call (r3) ?_ | refine callP (r3) ?_); simp -dsimp only [push_cast, seval]
  (first | refine call (sm) ?_ | refine callP (sm) ?_); simp -dsimp only [push_cast, seval]
  (first | refine call (ln7) ?_ | refine callP (ln7) ?_); simp -dsimp only [push_cast, seval]
  exact ⟨[], rfl, rfl, by simp -dsimp only [WeakTm, WeakBx, CLe, CLeL, push_cast, seval]⟩
theorem got_text {s : Bs} {x : List OpV} {k : Nat} (h : getV (readV mayB) okL s = (some x, k)) : s = textV x ∧ okL x = true ∧ x.length ≤ s.length := by
 obtain ⟨h1, h2, _⟩ := get_some (may := mayB) (ok := okL) (fun o => may_ok) w_ok0 (s := s) (x := x) (by rw [h])
 refine ⟨h1, h2, ?_⟩
 have := body_len x
 rw [h1]
 unfold textV
 simp only [List.length_append]
 omega
end Go.Proofs.YtbphobmohdclaaaDoor.Vcg
end
section
set_option linter.unusedVariables false
set_option maxRecDepth 100000
set_option linter.unusedSimpArgs false
namespace Go.Proofs.YtbphobmohdclaaaDoor.Vcg
open Go.RowKit
open QuotePlain (Bs quoteL plainL blanks okw unq splitW numB valV most okTo isDig)
theorem line_len2 {o : OpV} (h : LineOk o) (hs : okO o = true) : (lineV o).length ≤ 60000 := by
 have h1 := blanks_len (wordsV o)
 have h2 := quote_len o.a
 have h3 := quote_len o.b
 have h4 := quote_len o.d
 unfold okO at hs
 simp only [Bool.and_eq_true, decide_eq_true_eq] at hs
 obtain ⟨⟨g1, g2⟩, g3⟩ := hs
 have h5 := QuotePlain.dec_len 19 o.slot.toNat (by decide)
 have h6 : (nameW o.kind).length ≤ 7 := by
  have a := h.lo; have b := h.hi
  rcases kind_cases a b with e | e | e | e | e | e | e | e | e | e <;> rw [e] <;> decide
 have h7 : (Lib.decDigits o.slot.toNat).length ≤ 19 := by
  refine h5 ?_
  cases hk : slotted o.kind with
  | true =>
   have := (h.slot hk).2
   have : o.slot.toNat < 1073741825 := by omega
   exact Nat.lt_trans this (by decide)
  | false => rw [h.none hk]; decide
 refine Nat.le_trans h1 ?_
 unfold wordsV
 simp only [List.map_append, List.sum_append, List.map_cons, List.map_nil, List.sum_cons, List.sum_nil]
 split <;> split <;> split <;> simp only [List.map_append, List.sum_append, List.map_cons, List.map_nil, List.sum_cons, List.sum_nil] <;> omega
theorem splA_line (a r : Bs) (h : (10 : UInt8) ∉ a) : splA 10 (a ++ 10 :: r) = (a ++ [10]) :: splA 10 r := splA_lnS (ln_app a r h)
theorem body_lines (more : Bs) (hm : more.length ≤ 1000) : ∀ l : List OpV, (∀ o ∈ l, LineOk o ∧ okO o = true) → (bodyV l ++ more).length ≤ 60001 * l.length + 1000 ∧ (splA 10 (bodyV l ++ more)).length ≤ l.length + 1001 ∧ ∀ x ∈ splA 10 (bodyV l ++ more), x.length ≤ 100000
 | [], _ => by
  have e : bodyV [] ++ more = more := rfl
  rw [e]
  refine ⟨by simp; exact hm, by have := splA_length 10 more; simp; omega, fun x hx => by have := splA_mem more x hx; omega⟩
 | o :: l, h => by
  obtain ⟨h1, h2⟩ := h o List.mem_cons_self
  obtain ⟨i1, i2, i3⟩ := body_lines more hm l fun x hx => h x (List.mem_cons_of_mem _ hx)
  have hl := line_len2 h1 h2
  have e : bodyV (o :: l) ++ more = lineV o ++ 10 :: (bodyV l ++ more) := by rw [body_cons]; simp
  rw [e, splA_line _ _ (line_no10 h1)]
  refine ⟨by simp only [List.length_append, List.length_cons] at i1 ⊢; omega, by simp only [List.length_cons]; omega, fun x hx => ?_⟩
  rcases List.mem_cons.1 hx with rfl | hx
  ·simp; omega
  ·exact i3 x hx
theorem text_lines {l : List OpV} (hf : fewO l = true) (hok : okL l = true) (more : Bs) (hm : more.length ≤ 1000) : LinesOk (textV l ++ more) := by
 have hmay := ok_may hok
 obtain ⟨hlen, hsh⟩ := fewO_short hf
 have hall : ∀ o ∈ l, LineOk o ∧ okO o = true := fun o ho => ⟨may_ok (hmay o ho), by
  simp only [fewO, Bool.and_eq_true, decide_eq_true_eq] at hf
  rw [List.take_of_length_le (by omega)] at hf
  exact List.all_eq_true.1 hf.1 o ho⟩
 obtain ⟨i1, i2, i3⟩ := body_lines more hm l hall
 have hdl := QuotePlain.dec_len 19 l.length (by decide) (Nat.lt_of_le_of_lt hlen (by decide))
 have hhl : (headV l.length).length ≤ 24 := by unfold headV; simp; omega
 have e : textV l ++ more = headV l.length ++ 10 :: (bodyV l ++ more) := by unfold textV; simp
 have e2 := splA_line (headV l.length) (bodyV l ++ more) (head_no10 _)
 rw [e]
 refine ⟨?_, ?_, fun x hx => ?_⟩
 ·simp only [List.length_append, List.length_cons] at i1 ⊢; omega
 ·rw [e2]; simp only [List.length_cons]; omega
 ·rw [e2] at hx
  rcases List.mem_cons.1 hx with rfl | hx
  ·simp; omega
  ·exact i3 x hx
theorem splA_ne (c : UInt8) : ∀ s : Bs, ∃ x r, splA c s = x :: r
 | [] => ⟨[], [], rfl⟩
 | b :: s => by
  unfold splA
  split
  ·exact ⟨_, _, rfl⟩
  ·split
   ·exact ⟨_, _, rfl⟩
   ·exact ⟨_, _, rfl⟩
theorem splA_pre (b : Bs) : ∀ a : Bs, ∀ x r y q, splA 10 a = x :: r → splA 10 (a ++ b) = y :: q → x.length ≤ y.length ∧ r.length ≤ q.length ∧ ∀ u ∈ r, ∃ w ∈ q, u.length ≤ w.length
 | [], x, r, y, q, h1, h2 => by
  unfold splA at h1
  cases h1
  exact ⟨Nat.zero_le _, Nat.zero_le _, fun u hu => by cases hu⟩
 | c :: a, x, r, y, q, h1, h2 => by
  obtain ⟨x', r', e1⟩ := splA_ne 10 a
  obtain ⟨y', q', e2⟩ := splA_ne 10 (a ++ b)
  obtain ⟨i1, i2, i3⟩ := splA_pre b a x' r' y' q' e1 e2
  rw [List.cons_append] at h2
  unfold splA at h1 h2
  rw [e1] at h1
  rw [e2] at h2
  by_cases hc : c = 10
  ·rw [if_pos hc] at h1 h2
   cases h1; cases h2
   refine ⟨Nat.le_refl _, by simp; omega, fun u hu => ?_⟩
   rcases List.mem_cons.1 hu with rfl | hu
   ·exact ⟨y', List.mem_cons_self, i1⟩
   ·obtain ⟨w, hw, hl⟩ := i3 u hu
    exact ⟨w, List.mem_cons_of_mem _ hw, hl⟩
  ·rw [if_neg hc] at h1 h2
   cases h1; cases h2
   exact ⟨by simp; omega, i2, i3⟩
theorem LinesOk.pre {a b : Bs} (h : LinesOk (a ++ b)) : LinesOk a := by
 obtain ⟨x, r, e1⟩ := splA_ne 10 a
 obtain ⟨y, q, e2⟩ := splA_ne 10 (a ++ b)
 obtain ⟨i1, i2, i3⟩ := splA_pre b a x r y q e1 e2
 have h1 := h.size
 have h2 := h.many
 have h3 := h.line
 rw [e2] at h2 h3
 refine ⟨by simp at h1; omega, by rw [e1]; simp at h2 ⊢; omega, fun u hu => ?_⟩
 rw [e1] at hu
 rcases List.mem_cons.1 hu with rfl | hu
 ·have := h3 y List.mem_cons_self; omega
 ·obtain ⟨w, hw, hl⟩ := i3 u hu
  have := h3 w (List.mem_cons_of_mem _ hw); omega
theorem get_of_put {l : List OpV} (hl : okL l = true) (hn : l.length ≤ most) (more : Bs) : getV (readV mayB) okL (textV l ++ more) = if more = [] then (some l, 0) else (none, (textV l).length) :=
 get_put (may := mayB) (ok := okL) (fun o => may_ok) okL_prefix (fun l h => ok_may h) l hl hn more
theorem get_le2 (s : Bs) : (getV (readV mayB) okL s).2 ≤ s.length := get_le s
theorem get_cut {l : List OpV} (hl : okL l = true) (hn : l.length ≤ most) {c : Nat} (hc : c < (textV l).length) : (getV (readV mayB) okL ((textV l).take c)).1 = none := by
 cases h : getV (readV mayB) okL ((textV l).take c) with
 | mk a k =>
  cases a with
  | none => rfl
  | some x =>
   obtain ⟨h1, h2, _⟩ := got_text h
   have h3 := (get_some (may := mayB) (ok := okL) (fun o => may_ok) w_ok0 (s := (textV l).take c) (x := x) (by rw [h])).2.2
   have e : textV l = textV x ++ (textV l).drop c := by rw [← h1, List.take_append_drop]
   have g1 := get_of_put hl hn []
   rw [if_pos rfl, List.append_nil, e, get_of_put h2 h3, if_neg] at g1
   ·cases g1
   ·intro hd
    have := congrArg List.length hd
    simp at this
    omega
end Go.Proofs.YtbphobmohdclaaaDoor.Vcg
end
section
set_option linter.unusedVariables false
set_option maxRecDepth 100000
set_option linter.unusedSimpArgs false
namespace Go.Proofs.YtbphobmohdclaaaDoor.Vcg
open Go.RowKit
open QuotePlain (Bs quoteL plainL blanks okw unq splitW numB valV most okTo isDig)
set_option maxHeartbeats 8000000 in
theorem langCuts_fun (l : List OpV) (c : Nat) (hc : c ≤ 65535) (more : Bs) : Fun Tryd.prog GL 3 [.sl 5 (opsC l), .sc (.int .u16 c), .str more] (.sc (.bool true)) 0 := by
 have hf := (fewO_fun l).glob0 (G' := GL)
 cases hfw : fewO l with
 | false =>
  rw [hfw] at hf
  refine Fun.of (fun _ => []) (by kernel_rfl) Tryd.func3 rfl rfl (Nat.le_of_ble_eq_true rfl) (by kernel_rfl) ?_; dsimp only [Tryd.f3, List.append_eq, List.cons_append, List.nil_append]
  simp -dsimp only [push_cast, seval]
  (first | refine call (awake20) ?_ | refine callP (awake20) ?_); simp -dsimp only [push_cast, seval]
  (first | refine call (hf) ?_ | refine callP (hf) ?_); simp -dsimp only [push_cast, seval]
  (first | refine call (awake20) ?_ | refine callP (awake20) ?_); simp -dsimp only [push_cast, seval]
  exact ⟨[], rfl, rfl, by simp -dsimp only [WeakTm, WeakBx, CLe, CLeL, push_cast, seval]⟩
 | true =>
  rw [hfw] at hf
  obtain ⟨h1, h2⟩ := fewO_short hfw
  by_cases hs : 1000 < more.length
  ·have hs' : ((1000 : Int) < (more.length : Int)) = True := eq_true (by omega)
   refine Fun.of (fun _ => []) (by kernel_rfl) Tryd.func3 rfl rfl (Nat.le_of_ble_eq_true rfl) (by kernel_rfl) ?_; dsimp only [Tryd.f3, List.append_eq, List.cons_append, List.nil_append]
   simp -dsimp only [push_cast, seval]
   (first | refine call (awake20) ?_ | refine callP (awake20) ?_); simp -dsimp only [push_cast, seval]
   (first | refine call (hf) ?_ | refine callP (hf) ?_); simp -dsimp only [push_cast, seval]
   simp -dsimp only [push_cast, seval, hs']
   (first | refine call (awake20) ?_ | refine callP (awake20) ?_); simp -dsimp only [push_cast, seval]
   exact ⟨[], rfl, rfl, by simp -dsimp only [WeakTm, WeakBx, CLe, CLeL, push_cast, seval]⟩
  have hs' : ((1000 : Int) < (more.length : Int)) = False := eq_false (by omega)
  have p1 := put_fun l (by omega) h2
  cases hol : okL l with
  | false =>
   rw [show putTxt l = [] by unfold putTxt; rw [hol]; rfl, show putE l = 12 by unfold putE; rw [hol]; rfl] at p1
   refine Fun.of (fun _ => []) (by kernel_rfl) Tryd.func3 rfl rfl (Nat.le_of_ble_eq_true rfl) (by kernel_rfl) ?_; dsimp only [Tryd.f3, List.append_eq, List.cons_append, List.nil_append]
   simp -dsimp only [push_cast, seval]
   (first | refine call (awake20) ?_ | refine callP (awake20) ?_); simp -dsimp only [push_cast, seval]
   (first | refine call (hf) ?_ | refine callP (hf) ?_); simp -dsimp only [push_cast, seval]
   simp -dsimp only [push_cast, seval, hs']
   (first | refine call (p1) ?_ | refine callP (p1) ?_); simp -dsimp only [push_cast, seval]
   exact ⟨[], rfl, rfl, by simp -dsimp only [WeakTm, WeakBx, CLe, CLeL, push_cast, seval]⟩
  | true =>
   rw [show putTxt l = textV l by unfold putTxt; rw [hol]; rfl, show putE l = 0 by unfold putE; rw [hol]; rfl] at p1
   have hne : textV l ≠ [] := by unfold textV headV; simp
   have hmost : l.length ≤ most := Nat.le_trans h1 (by decide)
   have hlo := text_lines hfw hol more (by omega)
   have hgp := get_of_put hol hmost more
   have hlo0 := text_lines hfw hol [] (by simp)
   have hcu := fun c hc => get_cut (c := c) hol hmost hc
   generalize textV l = T at hne hlo hgp hlo0 hcu p1
   have hT0 : 0 < T.length := List.length_pos_iff.2 hne
   have hmod : c % T.length < T.length := Nat.mod_lt _ hT0
   rw [List.append_nil] at hlo0
   have hlo1 : LinesOk (T.take (c % T.length)) := LinesOk.pre (b := T.drop (c % T.length)) (by rw [List.take_append_drop]; exact hlo0)
   have g1 := get_fun (T.take (c % T.length)) hlo1
   have hc1 := hcu _ hmod
   have hc2 := get_le2 (T.take (c % T.length))
   have g2 := get_fun (T ++ more) hlo
   rw [hgp] at g2
   have hsz := hlo.size
   have hsz2 := hlo0.size
   simp only [List.length_append] at hsz
   have hne2 := eq_false hne
   have hT1 : ((T.length : Int) = 0) = False := eq_false (by omega)
   unfold gotC gotL gotE at g1 g2
   obtain ⟨q, hq⟩ : ∃ q, c % T.length = q := ⟨_, rfl⟩
   rw [hq] at hmod hc1 hc2 g1
   have hrem : (c : Int) % (T.length : Int) = (q : Int) := by rw [← hq]; simp
   cases hg : getV (readV mayB) okL (T.take q) with
   | mk a k =>
    rw [hg] at g1 hc1 hc2
    have hc1 : a = none := hc1
    subst hc1
    have hk : ((k : Int) ≤ (q : Int)) = True := eq_true (by simp only [List.length_take] at hc2; omega)
    by_cases hm : more = []
    ·subst hm
     rw [if_pos rfl] at g2
     simp only [Option.getD_some, Option.getD_none, Option.isSome_some, Option.isSome_none, if_true, if_false, Bool.false_eq_true, List.map_nil, List.append_nil] at g1 g2
     refine Fun.of (fun _ => []) (by kernel_rfl) Tryd.func3 rfl rfl (Nat.le_of_ble_eq_true rfl) (by kernel_rfl) ?_; dsimp only [Tryd.f3, List.append_eq, List.cons_append, List.nil_append]
     simp -dsimp only [push_cast, seval]
     (first | refine call (awake20) ?_ | refine callP (awake20) ?_); simp -dsimp only [push_cast, seval]
     (first | refine call (hf) ?_ | refine callP (hf) ?_); simp -dsimp only [push_cast, seval, hs']
     (first | refine call (p1) ?_ | refine callP (p1) ?_); simp -dsimp only [push_cast, seval, hne2, hrem, hT1]
     refine ⟨⟨by omega, by omega⟩, by omega, by omega, ⟨by omega, by omega⟩, ?_⟩
     (first | refine call (g1) ?_ | refine callP (g1) ?_); simp -dsimp only [push_cast, seval]
     refine ⟨by omega, ?_⟩
     (first | refine call (g2) ?_ | refine callP (g2) ?_); simp -dsimp only [push_cast, seval, hrem, hk]
     refine ⟨⟨by omega, by omega⟩, by omega, by omega, ?_⟩
     exact ⟨[], rfl, rfl, by simp -dsimp only [WeakTm, WeakBx, CLe, CLeL, push_cast, seval]⟩
    ·rw [if_neg hm] at g2
     simp only [Option.getD_some, Option.getD_none, Option.isSome_some, Option.isSome_none, if_true, if_false, Bool.false_eq_true, List.map_nil] at g1 g2
     have hm2 := eq_false hm
     refine Fun.of (fun _ => []) (by kernel_rfl) Tryd.func3 rfl rfl (Nat.le_of_ble_eq_true rfl) (by kernel_rfl) ?_; dsimp only [Tryd.f3, List.append_eq, List.cons_append, List.nil_append]
     simp -dsimp only [push_cast, seval]
     (first | refine call (awake20) ?_ | refine callP (awake20) ?_); simp -dsimp only [push_cast, seval]
     (first | refine call (hf) ?_ | refine callP (hf) ?_); simp -dsimp only [push_cast, seval, hs']
     (first | refine call (p1) ?_ | refine callP (p1) ?_); simp -dsimp only [push_cast, seval, hne2, hrem, hT1]
     refine ⟨⟨by omega, by omega⟩, by omega, by omega, ⟨by omega, by omega⟩, ?_⟩
     (first | refine call (g1) ?_ | refine callP (g1) ?_); simp -dsimp only [push_cast, seval]
     refine ⟨by omega, ?_⟩
     (first | refine call (g2) ?_ | refine callP (g2) ?_); simp -dsimp only [push_cast, seval, hrem, hk, hm2]
     refine ⟨⟨by omega, by omega⟩, by omega, by omega, ?_⟩
     exact ⟨[], rfl, rfl, by simp -dsimp only [WeakTm, WeakBx, CLe, CLeL, push_cast, seval]⟩
end Go.Proofs.YtbphobmohdclaaaDoor.Vcg
end
section
set_option linter.unusedVariables false
namespace Go.Proofs.YtbphobmohdclaaaDoor.Vcg
open Go.RowKit Go.ChangeMaps Go.ChangeShapes Go.WideShapes Go.Deep Go.Joins
section
variable {H : Type} {enc : TypeId × Value → H} {W : World}
theorem opn_op : OpnRow enc Tryd.prog W 35 5 fun row => ∃ o : OpV, row = opL o ∧ True := fun fuel cs x hx => by
 obtain ⟨row, ⟨hl, hq⟩, h1, h2, h3⟩ := OpnRow.struct (W := W) (enc := enc) (Qs := fun j c => match j with | 0 => ∃ n, c = .sc (.int .i64 n) ∧ (Lit.int .i64 n).wf = true | 1 => ∃ n, c = .sc (.int .i64 n) ∧ (Lit.int .i64 n).wf = true | 2 => ∃ l : List UInt8, c = .str l ∧ l.length ≤ maxLen | 3 => ∃ l : List UInt8, c = .str l ∧ l.length ≤ maxLen | 4 => ∃ l : List UInt8, c = .str l ∧ l.length ≤ maxLen | _ => True) Tryd.underlying35 (by kernel_rfl) (by kernel_rfl) (fun j f hj => by
  match j, hj with
  | 0, hj => cases hj; exact Opn.int Tryd.underlying3
  | 1, hj => cases hj; exact Opn.int Tryd.underlying3
  | 2, hj => cases hj; exact Opn.str Tryd.underlying9
  | 3, hj => cases hj; exact Opn.str Tryd.underlying9
  | 4, hj => cases hj; exact Opn.str Tryd.underlying9
  | j + 5, hj => simp at hj) fuel cs x hx
 match row, h1, hq, h3 with
 | [c0, c1, c2, c3, c4], _, hq, h3 =>
  obtain ⟨k, rfl, _⟩ := hq 0 c0 rfl
  obtain ⟨s, rfl, _⟩ := hq 1 c1 rfl
  obtain ⟨a, rfl, _⟩ := hq 2 c2 rfl
  obtain ⟨b, rfl, _⟩ := hq 3 c3 rfl
  obtain ⟨d, rfl, _⟩ := hq 4 c4 rfl
  exact ⟨_, ⟨⟨k, s, a, b, d⟩, rfl, trivial⟩, rfl, h2, h3⟩
theorem ops_of_rows : ∀ {rows : List (List C)}, (∀ r ∈ rows, ∃ o : OpV, r = opL o ∧ True) → ∃ xs : List OpV, rows = opsC xs
 | [], _ => ⟨[], rfl⟩
 | r :: rows, h => by
  obtain ⟨xs, rfl⟩ := ops_of_rows fun r' hr => h r' (List.mem_cons_of_mem _ hr)
  obtain ⟨o, rfl, _⟩ := h r List.mem_cons_self
  exact ⟨o :: xs, rfl⟩
theorem opn_ops : Opn enc Tryd.prog W 22 fun c => ∃ xs : List OpV, c = .sl 5 (opsC xs) ∧ True := fun fuel cs x hx => by
 obtain ⟨v, c, rfl, ⟨rows, rfl, hl, hr⟩, h1, h2⟩ := Opn.slice (W := W) (enc := enc) Tryd.underlying22 (show Tryd.prog.cellsOf 35 = 5 by kernel_rfl) (by decide) opn_op fuel cs x hx
 obtain ⟨xs, rfl⟩ := ops_of_rows hr
 exact ⟨v, _, rfl, ⟨xs, rfl, trivial⟩, h1, h2⟩
end
theorem langCuts_any (l : List OpV) {n : Int} (hw : (Lit.int .u16 n).wf = true) (more : List UInt8) : Fun Tryd.prog GL 3 [.sl 5 (opsC l), .sc (.int .u16 n), .str more] (boolC true) 0 := by
 have h : 0 ≤ n ∧ n ≤ 65535 := by simpa [Lit.wf, IntKind.min, IntKind.max, IntKind.signed, IntKind.bits] using hw
 obtain ⟨k, rfl⟩ : ∃ k : Nat, n = (k : Int) := ⟨n.toNat, by omega⟩
 exact langCuts_fun l k (by omega) more
theorem globL {W : World} {l : List (String × DataW Unit)} (h : laidMetH Tryd.prog l W) (hp : (l.filter fun x => x.2.handleName?.isSome) = []) (hm1 : ("drayman/op.has", Rows.laid_drayman_op_has) ∈ l) (hm2 : ("drayman/lang.names", Rows.laid_drayman_lang_names) ∈ l) (hm3 : ("internal/strconv.uint64pow10", Rows.laid_internal_strconv_uint64pow10) ∈ l) : GlobOk GL (env0 W) := fun g cs hc => by
 unfold GL at hc
 split at hc
 ·rename_i hg
  subst hg
  cases hc
  exact globCells_laid (t := 83) h hp hm1 (by kernel_rfl) (by kernel_rfl) (m := 4) (by kernel_rfl) (by kernel_rfl) (by kernel_rfl)
 ·split at hc
  ·rename_i hg
   subst hg
   cases hc
   exact globCells_laid (t := 67) h hp hm2 (by kernel_rfl) (by kernel_rfl) (m := 4) (vs := namesL.map fun l => Value.string ⟨l.toArray⟩) (by kernel_rfl) (by kernel_rfl) (by kernel_rfl)
  ·split at hc
   ·rename_i hg
    subst hg
    cases hc
    exact globCells_laid (t := 114) h hp hm3 (by kernel_rfl) (by kernel_rfl) (m := 4) (vs := powV) (by kernel_rfl) (by kernel_rfl) (by kernel_rfl)
   ·cases hc
end Go.Proofs.YtbphobmohdclaaaDoor.Vcg
end
section
set_option linter.unusedVariables false
namespace Go.Proofs.YtbphobmohdclaaaDoor.PLangCuts
open Go.ChangeShapes Go.WideShapes Go.ChangeAt Go.RowKit Vcg
theorem own : ownKnob Tryd.prog.godebug = none := by kernel_rfl
theorem laidOut : laidOutB Tryd.prog = true := by kernel_rfl
set_option maxRecDepth 100000 in
theorem contract (H : Type) (enc : TypeId × Value → H) (W : World) (base : Nat) (args : Array Value) (ds gs : List (DataW H)) (before : List MemPlace)
  (hval : ∀ (j : Nat) t v, Tryd.f3.params[j]? = some t → args[j]? = some v → Value.okWide Tryd.prog W .any base t v)
  (hW : DataW.Whole enc Tryd.prog Tryd.f3.params.toList Rows.langCutsSpec.vars false W args.toList ds gs before) (hL : laidMetH Tryd.prog Rows.langCutsRow.laid W) :
  Calls Tryd.prog 3 args W fun e W' => ∃ v, e = .returned v ∧ Rows.langCutsSpec.post enc Tryd.prog Tryd.f3 false true false false W args v W' := by
 have hW' := hW
 obtain ⟨p, q, hA0, hV, rfl, hfz, hnd⟩ := hW
 have hA : DataW.TrodAll enc Tryd.prog W 0 (fun _ => true) true Tryd.f3.params.toList args.toList ds p := hA0
 rw [Tryd.params3] at hA hval
 obtain ⟨v0, vs0, d0, ds0, p0, q0, hargs, rfl, rfl, h0, r0⟩ := trodAll_cons hA
 obtain ⟨v1, vs1, d1, ds1, p1, q1, rfl, rfl, rfl, h1, r1⟩ := trodAll_cons r0
 obtain ⟨v2, vs2, d2, ds2, p2, q2, rfl, rfl, rfl, h2, r2⟩ := trodAll_cons r1
 obtain ⟨rfl, rfl, rfl⟩ := trodAll_nil r2
 obtain rfl : args = #[v0, v1, v2] := by cases args; simp_all
 obtain ⟨rfl, rfl⟩ := trodVars_none hV
 have lt0 : ∀ x ∈ p0, x.block < W.heap.size := by obtain ⟨m, hm⟩ := h0; exact DataW.trod_lt m _ _ _ hm
 have lt1 : ∀ x ∈ p1, x.block < W.heap.size := by obtain ⟨m, hm⟩ := h1; exact DataW.trod_lt m _ _ _ hm
 have lt2 : ∀ x ∈ p2, x.block < W.heap.size := by obtain ⟨m, hm⟩ := h2; exact DataW.trod_lt m _ _ _ hm
 obtain ⟨n0, m0, c0, hn0⟩ := okWide_slice Tryd.underlying22 (hval 0 22 v0 rfl rfl)
 obtain ⟨_, ⟨a0, rfl, w0⟩, rep0⟩ := Opn.arg (r := .any) (b0 := base) opn_ops (by rw [hn0]; rfl) h0
 obtain ⟨n1, hn1⟩ := okWide_int Tryd.underlying23 (hval 1 23 v1 rfl rfl)
 obtain ⟨_, ⟨a1, rfl, w1⟩, rep1⟩ := Opn.arg (r := .any) (b0 := base) (Opn.int Tryd.underlying23) (by rw [hn1]; rfl) h1
 obtain ⟨n2, hn2⟩ := okWide_string Tryd.underlying9 (hval 2 9 v2 rfl rfl)
 obtain ⟨_, ⟨a2, rfl, w2⟩, rep2⟩ := Opn.arg (r := .any) (b0 := base) (Opn.str Tryd.underlying9) (by rw [hn2]; rfl) h2
 clear hA0
 refine (Fun.answers (langCuts_any a0 w1 a2) (globL hL (by kernel_rfl) (by repeat (first | exact List.mem_cons_self | refine List.mem_cons_of_mem _ ?_)) (by repeat (first | exact List.mem_cons_self | refine List.mem_cons_of_mem _ ?_)) (by repeat (first | exact List.mem_cons_self | refine List.mem_cons_of_mem _ ?_))) (repL_cons.2 ⟨_, _, rfl, rep0, repL_cons.2 ⟨_, _, rfl, rep1, repL_cons.2 ⟨_, _, rfl, rep2, repL_nil.2 rfl⟩⟩⟩)).mono fun e W' ⟨he, bel⟩ => ?_
 subst he
 exact ⟨_, rfl, _, _, _, [], _, [], hW', trodAll_mk1 (shut_bool Tryd.underlying4 _), (trodAll_cons_mk (Below.trod laidOut (by kernel_rfl) (of_decide_eq_true (by kernel_rfl)) h0 bel lt0) (trodAll_cons_mk (Below.trod laidOut (by kernel_rfl) (of_decide_eq_true (by kernel_rfl)) h1 bel lt1) (trodAll_cons_mk (Below.trod laidOut (by kernel_rfl) (of_decide_eq_true (by kernel_rfl)) h2 bel lt2) trodAll_mk0))), rfl, bel.frame _, fun h => by cases h⟩
set_option maxRecDepth 100000 in
theorem lifted (os : Os) (started : os.Started) (H : Type) (enc : TypeId × Value → H) :
  ReturnsInHanded {} Tryd.checked os 3 .any (fun w args => (Rows.langCutsSpec.pre enc Tryd.prog Tryd.f3 Rows.langCutsRow.domain false w args ∧ laidMetH Tryd.prog Rows.langCutsRow.laid w) ∧ sizedMet enc Tryd.prog Tryd.f3 (OpenSpec.ofChange Rows.langCutsSpec) false w args)
   (Rows.langCutsSpec.post enc Tryd.prog Tryd.f3 false true false false) := by
 refine returnsInHanded_of_change_and (C := Tryd.checked) (X := fun w _ => laidMetH Tryd.prog Rows.langCutsRow.laid w) (fun _ _ _ hh h => h.of_heap hh) own started (by kernel_rfl) Tryd.func3
  (ChangeSpec.witness_shaped (enc := enc) (C := Tryd.checked) (os := os) (X := fun w _ => laidMetH Tryd.prog Rows.langCutsRow.laid w) false (World.laidAll Tryd.prog os Rows.langCutsRow.laid) #[.slice none 0 0, .int .u16 0, .string ⟨#[]⟩] 8 (World.laidAll_os _ _ _)
   (World.shaped_of_ZipB (by kernel_rfl) (by kernel_rfl)) (by kernel_rfl) (by kernel_rfl) (by kernel_rfl)
   (by rw [MakeChecks.laidMetH_plain _ _ _ (by kernel_rfl)]; exact laidMet_laidAll _ (by kernel_rfl) (by kernel_rfl))) ?_
 intro W base args ds gs before hval hW _ _ hL _
 exact contract H enc W base args ds gs before hval hW hL
theorem said : Rows.LangCutsSaid :=
 OpenClaim.holds_of_wide 3 Tryd.f3 rfl rfl rfl rfl rfl rfl rfl ⟨rfl, rfl, rfl, rfl, rfl⟩ rfl rfl rfl rfl rfl (by kernel_rfl) Tryd.func3 (by kernel_rfl)
  (of_decide_eq_true (by kernel_rfl)) (by unfold Func.isWrapper; first | (rw [if_pos (by decide +kernel)]; kernel_rfl) | (rw [if_neg (by decide +kernel)]; exact ⟨rfl, rfl⟩))
  (fun os started H enc _ => lifted os started H enc)
theorem plain (f : FuncId) (fn : Func) (hf : Tryd.pinned.checked.prog.funcNamed "drayman/draymanlaw20.LangCuts" = some f) (hfn : Tryd.pinned.checked.prog.funcs[f]? = some fn) :
  false = Tryd.pinned.checked.prog.looks [] ∧ ∀ (j : Nat) t, fn.params[j]? = some t → Tryd.pinned.checked.prog.wantsStandIn t = false := by
 obtain rfl : f = 3 := Option.some.inj ((show Tryd.prog.funcNamed "drayman/draymanlaw20.LangCuts" = some 3 by kernel_rfl).symm.trans hf) |>.symm
 obtain rfl : fn = Tryd.f3 := (Option.some.inj (Tryd.func3.symm.trans hfn)).symm
 exact ⟨by kernel_rfl, fun j t ht => by
  rw [Tryd.params3] at ht
  have hm : t ∈ [22, 23, 9] := by simpa using Array.mem_of_getElem? ht
  have hall : ([22, 23, 9].all fun u => !Tryd.prog.wantsStandIn u) = true := by kernel_rfl
  exact (show Tryd.prog.wantsStandIn t = false by simpa using List.all_eq_true.1 hall t hm)⟩
theorem card : Rows.LangCutsCardSaid :=
 Claim7.holds_tied_plain_at .later [] _ _ _ _ said (fun _ h => by cases h) (by kernel_rfl) (fun _ h => by cases h) langCuts_row_tie rfl ⟨rfl, rfl⟩ (by kernel_rfl) rfl plain (by kernel_rfl)
theorem proved : Rows.LangCutsCardSaid := card
end Go.Proofs.YtbphobmohdclaaaDoor.PLangCuts
end
