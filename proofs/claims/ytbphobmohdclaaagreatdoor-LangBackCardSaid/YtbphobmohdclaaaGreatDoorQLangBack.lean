/- The statement of LangBack is proved: for every input the law answers true, and each argument reads behind the call as it read before. Condition: none but what the row itself prints. -/
import Derived.Test.YtbphobmohdclaaaGreatDoorLangBackKe
import Derived.Deep.QuietTactic
import Derived.BigQuiet
import Derived.Test.YtbphobmohdclaaaGreatDoorRows
import Derived.Test.YtbphobmohdclaaaGreatDoorCards
import Derived.Test.YtbphobmohdclaaaGreatDoorTie
import Derived.WalkKit
import Derived.ProofKit
import Derived.OpenShut
import Derived.ShutString
import Derived.ChangeOld
import Derived.Below
import Derived.LaidMore
import Derived.Lay
import Derived.SevenTiedAt
import Derived.Stop.Joined
section
set_option linter.unusedVariables false
set_option maxRecDepth 100000
set_option linter.unusedSimpArgs false
namespace Go.Proofs.YtbphobmohdclaaaGreatDoor.Vcg
open Go.RowKit
open QuotePlain (Bs quoteL plainL blanks okw unq splitW numB valV most okTo isDig)
theorem rtexts_none : ∀ (ws : List Bs) (i : Nat) (h : i < ws.length), unq ws[i] = none → textsV ws = none
 | w :: r, 0, h, e => by unfold textsV; have e : unq w = none := e; rw [e]
 | w :: r, i + 1, h, e => by
  unfold textsV
  have := rtexts_none r i (by simpa using h) e
  rw [this]
  cases unq w <;> rfl
theorem rtexts_some : ∀ (ws : List Bs), (∀ i (h : i < ws.length), (unq ws[i]).isSome = true) → textsV ws = some (ws.map txt)
 | [], _ => rfl
 | w :: r, h => by
  unfold textsV
  have h0 := h 0 (by simp)
  have h0 : (unq w).isSome = true := h0
  rw [rtexts_some r fun i hi => h (i + 1) (by simpa using hi)]
  cases hq : unq w with
  | none => rw [hq] at h0; cases h0
  | some t => simp [txt, hq]
set_option maxHeartbeats 4000000 in
theorem read_fun (s : Bs) (hs : s.length ≤ 100000) : Fun Tryz.prog GL 9 [.str s] (.tup [.agg (opL ((readV mayB s).getD zeroOp)), .sc (.bool (readV mayB s).isSome)]) 0 := by
 have hq := (split_fun s (by omega)).glob0 (G' := GL)
 have hk := kinds_fun
 cases hsp : splitW s with
 | none =>
  have hr : readV mayB s = none := by unfold readV parseV; rw [hsp]
  rw [hsp] at hq
  simp only [Option.getD_none, Option.isSome_none] at hq
  refine Fun.of (fun _ => []) (by kernel_rfl) Tryz.func9 rfl rfl (Nat.le_of_ble_eq_true rfl) (by kernel_rfl) ?_; dsimp only [Tryz.f9, List.append_eq, List.cons_append, List.nil_append]
  simp -dsimp only [push_cast, seval]
  (first | refine call (hq) ?_ | refine callP (hq) ?_); simp -dsimp only [push_cast, seval]
  exact ⟨[], rfl, rfl, by simp -dsimp only [WeakTm, WeakBx, CLe, CLeL, push_cast, seval, hr, Option.getD_none, Option.isSome_none, opL, zeroOp]⟩
 | some ws =>
  obtain ⟨hb, hwl⟩ := QuotePlain.splitW_back s ws hsp
  rw [hsp] at hq
  simp only [Option.getD_some, Option.isSome_some] at hq
  match ws, hsp, hb, hwl, hq with
  | [], hsp, hb, hwl, hq =>
   have hr : readV mayB s = none := by unfold readV parseV; rw [hsp]
   refine Fun.of (fun _ => []) (by kernel_rfl) Tryz.func9 rfl rfl (Nat.le_of_ble_eq_true rfl) (by kernel_rfl) ?_; dsimp only [Tryz.f9, List.append_eq, List.cons_append, List.nil_append]
   simp -dsimp only [push_cast, seval]
   (first | refine call (hq) ?_ | refine callP (hq) ?_); simp -dsimp only [push_cast, seval]
   exact ⟨[], rfl, rfl, by simp -dsimp only [WeakTm, WeakBx, CLe, CLeL, push_cast, seval, hr, Option.getD_none, Option.isSome_none, opL, zeroOp]⟩
  | [w], hsp, hb, hwl, hq =>
   have hr : readV mayB s = none := by unfold readV parseV; rw [hsp]
   refine Fun.of (fun _ => []) (by kernel_rfl) Tryz.func9 rfl rfl (Nat.le_of_ble_eq_true rfl) (by kernel_rfl) ?_; dsimp only [Tryz.f9, List.append_eq, List.cons_append, List.nil_append]
   simp -dsimp only [push_cast, seval]
   (first | refine call (hq) ?_ | refine callP (hq) ?_); simp -dsimp only [push_cast, seval]
   exact ⟨[], rfl, rfl, by simp -dsimp only [WeakTm, WeakBx, CLe, CLeL, push_cast, seval, hr, Option.getD_none, Option.isSome_none, opL, zeroOp]⟩
  | w0 :: w1 :: r, hsp, hb, hwl, hq =>
   have hw0 := word_len _ w0 (show w0 ∈ w0 :: w1 :: r by simp)
   have hw1 := word_len _ w1 (show w1 ∈ w0 :: w1 :: r by simp)
   rw [hb] at hw0 hw1
   have hlen : ((r.length : Int) + 1 + 1 < 2) = False := eq_false (by omega)
   have hnw := number_fun w1 (by omega)
   refine Fun.of (fun i => if i = 4 then lateB 6 7 else if i = 20 then floatB 7 [false, true] else if i = 22 then floatB 7 [false, true] else []) (by kernel_rfl) Tryz.func9 rfl rfl (Nat.le_of_ble_eq_true rfl) (by kernel_rfl) ?_; dsimp only [Tryz.f9, List.append_eq, List.cons_append, List.nil_append]
   simp -dsimp only [push_cast, seval]
   (first | refine call (hq) ?_ | refine callP (hq) ?_); simp -dsimp only [push_cast, seval]
   simp -dsimp only [push_cast, seval, hlen]
   (first | refine call (hk) ?_ | refine callP (hk) ?_); simp -dsimp only [push_cast, seval]
   refine kind_look w0 ?_
   simp -dsimp only [push_cast, seval]
   (try simp only [List.length_append, List.length_cons, List.length_nil, List.length_map, List.length_take, List.length_drop]); repeat (refine And.intro (by omega) ?_)
   (first | refine call (hnw) ?_ | refine callP (hnw) ?_); simp -dsimp only [push_cast, seval]
   -- branches
   have hwd := word_len (w0 :: w1 :: r)
   rw [hb] at hwd
   have hrl : r.length ≤ 100001 := by simp only [List.length_cons] at hwl; omega
   cases hnb : numB w1 with
   | true =>
    have hnv : (numV w1 : Int) = (valV w1 : Int) := by unfold numV; rw [if_pos (QuotePlain.num_ok hnb).1]
    simp -dsimp only [push_cast, seval, hnb, hnv]
    (try simp only [List.length_append, List.length_cons, List.length_nil, List.length_map, List.length_take, List.length_drop]); repeat (refine And.intro (by omega) ?_)
    refine loop (fun i : Nat => ⟨[(0, .str s), (2, .ptr 0 0), (3, .sc (.bool false)), (6, .ptr 1 0), (10, .own 0 9 1 (strs ((r.take i).map txt))), (48, .sl 1 (strs r)), (49, .sc (.int .i64 (r.length : Nat))), (50, .sc (.int .i64 i))], [[.sc (.int .i64 0), .sc (.int .i64 0), .str [], .str [], .str []], [.sc (.int .i64 (kindOf w0)), .sc (.int .i64 (valV w1 : Int)), .str [], .str [], .str []]], 1, 0⟩) (fun i => i ≤ r.length ∧ ∀ j (h : j < r.length), j < i → (unq r[j]).isSome = true) (fun i => r.length - i) 0 ⟨Nat.zero_le _, fun j h hj => absurd hj (Nat.not_lt_zero j)⟩ ?_ ?_
    ·exact Weak.mk [.inr (9, 1)] rfl rfl (Nat.zero_le _) rfl (by simp -dsimp only [WeakTm, WeakBx, CLe, CLeL, push_cast, seval]) (by simp -dsimp only [WeakTm, WeakBx, CLe, CLeL, push_cast, seval])
    rintro i ⟨hi, hdone⟩
    by_cases hlt : i < (r).length
    ·have hwi := hwd (r)[i] (by first | exact List.mem_cons_of_mem _ (List.getElem_mem hlt) | exact List.mem_cons_of_mem _ (List.mem_cons_of_mem _ (List.getElem_mem hlt)))
     have ge : (r)[i]? = some (r)[i] := List.getElem?_eq_getElem hlt
     obtain ⟨wi, hwv⟩ : ∃ wi, (r)[i] = wi := ⟨_, rfl⟩
     rw [hwv] at hwi ge
     have gs : (strs (r))[i]? = some [.str wi] := by simp only [List.getElem?_map, ge]; rfl
     skip
     have hi9 : i + 1 ≤ r.length + 1 := by have h9 := hlt; first | omega | (simp only [List.length_cons] at h9; omega)
     have hu := (unquote_fun wi (by omega)).glob0 (G' := GL)
     have hlt' : ((i : Int) < (r.length : Int)) = True := eq_true (by have h9 := hlt; first | omega | (simp only [List.length_cons] at h9; omega))
     cases hqs : (unq wi).isSome with
     | false =>
      rw [hqs] at hu
      have hr : readV mayB s = none := by
       unfold readV parseV
       rw [hsp]
       simp only [restV, hnb, if_true, Bool.false_eq_true, if_false]
       have ht := rtexts_none (r) i hlt (by rw [hwv]; cases h : unq wi with | none => rfl | some t => rw [h] at hqs; cases hqs)
       rw [ht]; rfl
      simp -dsimp only [push_cast, seval, hlt', gs]
      (try simp only [List.length_append, List.length_cons, List.length_nil, List.length_map, List.length_take, List.length_drop]); repeat (refine And.intro (by omega) ?_)
      (first | refine call (hu) ?_ | refine callP (hu) ?_); simp -dsimp only [push_cast, seval]
      exact ⟨[], rfl, rfl, by simp -dsimp only [WeakTm, WeakBx, CLe, CLeL, push_cast, seval, hr, Option.getD_none, Option.isSome_none, opL, zeroOp]⟩
     | true =>
      rw [hqs] at hu
      have htk : ((r).take (i + 1)).map txt = ((r).take i).map txt ++ [txt wi] := by rw [List.take_add_one, ge, List.map_append]; rfl
      have hti : (((r).take i).map txt).length ≤ 100003 := by have h9 := hi; simp only [List.length_map, List.length_take]; first | omega | (simp only [List.length_cons] at h9; omega)
      simp -dsimp only [push_cast, seval, hlt', gs]
      (try simp only [List.length_append, List.length_cons, List.length_nil, List.length_map, List.length_take, List.length_drop]); repeat (refine And.intro (by omega) ?_)
      (first | refine call (hu) ?_ | refine callP (hu) ?_); simp -dsimp only [push_cast, seval]
      (try simp only [List.length_append, List.length_cons, List.length_nil, List.length_map, List.length_take, List.length_drop]); repeat (refine And.intro (by omega) ?_)
      exact ⟨i + 1, ⟨hlt, fun j h hj => if h2 : j < i then hdone j h h2 else by have h8 : j = i := (by omega); subst h8; rw [hwv]; exact hqs⟩, by omega, Weak.mk [.inl 0] rfl rfl (Nat.zero_le _) rfl (by simp -dsimp only [WeakTm, WeakBx, CLe, CLeL, push_cast, seval, htk, show (unq wi).getD [] = txt wi from rfl] <;> exact (congrArg strs htk).symm) (by simp -dsimp only [WeakTm, WeakBx, CLe, CLeL, push_cast, seval])⟩
    ·have hie : i = (r).length := by omega
     subst hie
     have htx := rtexts_some (r) (fun j h => hdone j h h)
     clear hdone
     match r, hsp, hb, hwl, hrl, hwd, htx, hlen with
     | [], hsp, hb, hwl, hrl, hwd, htx, hlen =>
      by_cases h4 : kindOf w0 = 4
      ·have h4f := h4
       have hpr : parseV s = some ⟨kindOf w0, (valV w1 : Int), [], [], []⟩ := by
        unfold parseV
        rw [hsp]
        simp only [restV, hnb, if_true, Bool.false_eq_true, if_false]
        rw [htx]
        simp [buildV, h4f]
       have hsho : short ⟨kindOf w0, (valV w1 : Int), [], [], []⟩ := ⟨by first | exact ht1 | exact ht2 | simp, by first | exact ht2 | simp, by first | exact ht1 | simp⟩
       have hm := (opMay_fun (kindOf w0) ((valV w1 : Int)) ([]) ([]) ([]) hsho).glob1
       unfold opL at hm
       simp only at hm
       by_cases hmay : mayB ⟨kindOf w0, (valV w1 : Int), [], [], []⟩ = true
       ·rw [hmay] at hm
        have hln := line_fun _ (may_ok hmay) hsho (may_b hmay)
        unfold opL at hln
        simp only at hln
        by_cases heq : lineV ⟨kindOf w0, (valV w1 : Int), [], [], []⟩ = s
        ·have hr := (read_iff (fun o => may_ok) s _).2 ⟨hmay, heq⟩
         rw [heq] at hln
         simp -dsimp only [push_cast, seval, eq_true h4]
         (try simp only [List.length_append, List.length_cons, List.length_nil, List.length_map, List.length_take, List.length_drop]); repeat (refine And.intro (by omega) ?_)
         (first | refine call (hm) ?_ | refine callP (hm) ?_); simp -dsimp only [push_cast, seval]
         (first | refine call (hln) ?_ | refine callP (hln) ?_); simp -dsimp only [push_cast, seval]
         exact ⟨[], rfl, rfl, by simp -dsimp only [WeakTm, WeakBx, CLe, CLeL, push_cast, seval, hr, Option.getD_some, Option.isSome_some, opL]⟩
        ·have heq2 : (lineV ⟨kindOf w0, (valV w1 : Int), [], [], []⟩ = s) = False := eq_false heq
         have hr : readV mayB s = none := by unfold readV; rw [hpr]; simp [heq]
         simp -dsimp only [push_cast, seval, eq_true h4]
         (try simp only [List.length_append, List.length_cons, List.length_nil, List.length_map, List.length_take, List.length_drop]); repeat (refine And.intro (by omega) ?_)
         (first | refine call (hm) ?_ | refine callP (hm) ?_); simp -dsimp only [push_cast, seval]
         (first | refine call (hln) ?_ | refine callP (hln) ?_); simp -dsimp only [push_cast, seval, heq2]
         exact ⟨[], rfl, rfl, by simp -dsimp only [WeakTm, WeakBx, CLe, CLeL, push_cast, seval, hr, Option.getD_none, Option.isSome_none, opL, zeroOp]⟩
       ·have hmf : mayB ⟨kindOf w0, (valV w1 : Int), [], [], []⟩ = false := by simpa using hmay
        have hr : readV mayB s = none := by unfold readV; rw [hpr]; simp [hmf]
        rw [hmf] at hm
        simp -dsimp only [push_cast, seval, eq_true h4]
        (try simp only [List.length_append, List.length_cons, List.length_nil, List.length_map, List.length_take, List.length_drop]); repeat (refine And.intro (by omega) ?_)
        (first | refine call (hm) ?_ | refine callP (hm) ?_); simp -dsimp only [push_cast, seval]
        exact ⟨[], rfl, rfl, by simp -dsimp only [WeakTm, WeakBx, CLe, CLeL, push_cast, seval, hr, Option.getD_none, Option.isSome_none, opL, zeroOp]⟩
      ·have h4f := h4
       have hpr : parseV s = some ⟨kindOf w0, (valV w1 : Int), [], [], []⟩ := by
        unfold parseV
        rw [hsp]
        simp only [restV, hnb, if_true, Bool.false_eq_true, if_false]
        rw [htx]
        simp [buildV, h4f]
       have hsho : short ⟨kindOf w0, (valV w1 : Int), [], [], []⟩ := ⟨by first | exact ht1 | exact ht2 | simp, by first | exact ht2 | simp, by first | exact ht1 | simp⟩
       have hm := (opMay_fun (kindOf w0) ((valV w1 : Int)) ([]) ([]) ([]) hsho).glob1
       unfold opL at hm
       simp only at hm
       by_cases hmay : mayB ⟨kindOf w0, (valV w1 : Int), [], [], []⟩ = true
       ·rw [hmay] at hm
        have hln := line_fun _ (may_ok hmay) hsho (may_b hmay)
        unfold opL at hln
        simp only at hln
        by_cases heq : lineV ⟨kindOf w0, (valV w1 : Int), [], [], []⟩ = s
        ·have hr := (read_iff (fun o => may_ok) s _).2 ⟨hmay, heq⟩
         rw [heq] at hln
         simp -dsimp only [push_cast, seval, eq_false h4]
         (try simp only [List.length_append, List.length_cons, List.length_nil, List.length_map, List.length_take, List.length_drop]); repeat (refine And.intro (by omega) ?_)
         (first | refine call (hm) ?_ | refine callP (hm) ?_); simp -dsimp only [push_cast, seval]
         (first | refine call (hln) ?_ | refine callP (hln) ?_); simp -dsimp only [push_cast, seval]
         exact ⟨[], rfl, rfl, by simp -dsimp only [WeakTm, WeakBx, CLe, CLeL, push_cast, seval, hr, Option.getD_some, Option.isSome_some, opL]⟩
        ·have heq2 : (lineV ⟨kindOf w0, (valV w1 : Int), [], [], []⟩ = s) = False := eq_false heq
         have hr : readV mayB s = none := by unfold readV; rw [hpr]; simp [heq]
         simp -dsimp only [push_cast, seval, eq_false h4]
         (try simp only [List.length_append, List.length_cons, List.length_nil, List.length_map, List.length_take, List.length_drop]); repeat (refine And.intro (by omega) ?_)
         (first | refine call (hm) ?_ | refine callP (hm) ?_); simp -dsimp only [push_cast, seval]
         (first | refine call (hln) ?_ | refine callP (hln) ?_); simp -dsimp only [push_cast, seval, heq2]
         exact ⟨[], rfl, rfl, by simp -dsimp only [WeakTm, WeakBx, CLe, CLeL, push_cast, seval, hr, Option.getD_none, Option.isSome_none, opL, zeroOp]⟩
       ·have hmf : mayB ⟨kindOf w0, (valV w1 : Int), [], [], []⟩ = false := by simpa using hmay
        have hr : readV mayB s = none := by unfold readV; rw [hpr]; simp [hmf]
        rw [hmf] at hm
        simp -dsimp only [push_cast, seval, eq_false h4]
        (try simp only [List.length_append, List.length_cons, List.length_nil, List.length_map, List.length_take, List.length_drop]); repeat (refine And.intro (by omega) ?_)
        (first | refine call (hm) ?_ | refine callP (hm) ?_); simp -dsimp only [push_cast, seval]
        exact ⟨[], rfl, rfl, by simp -dsimp only [WeakTm, WeakBx, CLe, CLeL, push_cast, seval, hr, Option.getD_none, Option.isSome_none, opL, zeroOp]⟩
     | [x], hsp, hb, hwl, hrl, hwd, htx, hlen =>
      have ht1 : (txt x).length ≤ 100000 := by have h8 := hwd x (by simp); have h9 := txt_len x; omega
      by_cases h4 : kindOf w0 = 4
      ·have h4f := h4
       have hpr : parseV s = some ⟨kindOf w0, (valV w1 : Int), txt x, [], []⟩ := by
        unfold parseV
        rw [hsp]
        simp only [restV, hnb, if_true, Bool.false_eq_true, if_false]
        rw [htx]
        simp [buildV, h4f]
       have hsho : short ⟨kindOf w0, (valV w1 : Int), txt x, [], []⟩ := ⟨by first | exact ht1 | exact ht2 | simp, by first | exact ht2 | simp, by first | exact ht1 | simp⟩
       have hm := (opMay_fun (kindOf w0) ((valV w1 : Int)) (txt x) ([]) ([]) hsho).glob1
       unfold opL at hm
       simp only at hm
       by_cases hmay : mayB ⟨kindOf w0, (valV w1 : Int), txt x, [], []⟩ = true
       ·rw [hmay] at hm
        have hln := line_fun _ (may_ok hmay) hsho (may_b hmay)
        unfold opL at hln
        simp only at hln
        by_cases heq : lineV ⟨kindOf w0, (valV w1 : Int), txt x, [], []⟩ = s
        ·have hr := (read_iff (fun o => may_ok) s _).2 ⟨hmay, heq⟩
         rw [heq] at hln
         simp -dsimp only [push_cast, seval, eq_true h4]
         (try simp only [List.length_append, List.length_cons, List.length_nil, List.length_map, List.length_take, List.length_drop]); repeat (refine And.intro (by omega) ?_)
         (first | refine call (hm) ?_ | refine callP (hm) ?_); simp -dsimp only [push_cast, seval]
         (first | refine call (hln) ?_ | refine callP (hln) ?_); simp -dsimp only [push_cast, seval]
         exact ⟨[], rfl, rfl, by simp -dsimp only [WeakTm, WeakBx, CLe, CLeL, push_cast, seval, hr, Option.getD_some, Option.isSome_some, opL]⟩
        ·have heq2 : (lineV ⟨kindOf w0, (valV w1 : Int), txt x, [], []⟩ = s) = False := eq_false heq
         have hr : readV mayB s = none := by unfold readV; rw [hpr]; simp [heq]
         simp -dsimp only [push_cast, seval, eq_true h4]
         (try simp only [List.length_append, List.length_cons, List.length_nil, List.length_map, List.length_take, List.length_drop]); repeat (refine And.intro (by omega) ?_)
         (first | refine call (hm) ?_ | refine callP (hm) ?_); simp -dsimp only [push_cast, seval]
         (first | refine call (hln) ?_ | refine callP (hln) ?_); simp -dsimp only [push_cast, seval, heq2]
         exact ⟨[], rfl, rfl, by simp -dsimp only [WeakTm, WeakBx, CLe, CLeL, push_cast, seval, hr, Option.getD_none, Option.isSome_none, opL, zeroOp]⟩
       ·have hmf : mayB ⟨kindOf w0, (valV w1 : Int), txt x, [], []⟩ = false := by simpa using hmay
        have hr : readV mayB s = none := by unfold readV; rw [hpr]; simp [hmf]
        rw [hmf] at hm
        simp -dsimp only [push_cast, seval, eq_true h4]
        (try simp only [List.length_append, List.length_cons, List.length_nil, List.length_map, List.length_take, List.length_drop]); repeat (refine And.intro (by omega) ?_)
        (first | refine call (hm) ?_ | refine callP (hm) ?_); simp -dsimp only [push_cast, seval]
        exact ⟨[], rfl, rfl, by simp -dsimp only [WeakTm, WeakBx, CLe, CLeL, push_cast, seval, hr, Option.getD_none, Option.isSome_none, opL, zeroOp]⟩
      ·have h4f := h4
       have hpr : parseV s = some ⟨kindOf w0, (valV w1 : Int), txt x, [], []⟩ := by
        unfold parseV
        rw [hsp]
        simp only [restV, hnb, if_true, Bool.false_eq_true, if_false]
        rw [htx]
        simp [buildV, h4f]
       have hsho : short ⟨kindOf w0, (valV w1 : Int), txt x, [], []⟩ := ⟨by first | exact ht1 | exact ht2 | simp, by first | exact ht2 | simp, by first | exact ht1 | simp⟩
       have hm := (opMay_fun (kindOf w0) ((valV w1 : Int)) (txt x) ([]) ([]) hsho).glob1
       unfold opL at hm
       simp only at hm
       by_cases hmay : mayB ⟨kindOf w0, (valV w1 : Int), txt x, [], []⟩ = true
       ·rw [hmay] at hm
        have hln := line_fun _ (may_ok hmay) hsho (may_b hmay)
        unfold opL at hln
        simp only at hln
        by_cases heq : lineV ⟨kindOf w0, (valV w1 : Int), txt x, [], []⟩ = s
        ·have hr := (read_iff (fun o => may_ok) s _).2 ⟨hmay, heq⟩
         rw [heq] at hln
         simp -dsimp only [push_cast, seval, eq_false h4]
         (try simp only [List.length_append, List.length_cons, List.length_nil, List.length_map, List.length_take, List.length_drop]); repeat (refine And.intro (by omega) ?_)
         (first | refine call (hm) ?_ | refine callP (hm) ?_); simp -dsimp only [push_cast, seval]
         (first | refine call (hln) ?_ | refine callP (hln) ?_); simp -dsimp only [push_cast, seval]
         exact ⟨[], rfl, rfl, by simp -dsimp only [WeakTm, WeakBx, CLe, CLeL, push_cast, seval, hr, Option.getD_some, Option.isSome_some, opL]⟩
        ·have heq2 : (lineV ⟨kindOf w0, (valV w1 : Int), txt x, [], []⟩ = s) = False := eq_false heq
         have hr : readV mayB s = none := by unfold readV; rw [hpr]; simp [heq]
         simp -dsimp only [push_cast, seval, eq_false h4]
         (try simp only [List.length_append, List.length_cons, List.length_nil, List.length_map, List.length_take, List.length_drop]); repeat (refine And.intro (by omega) ?_)
         (first | refine call (hm) ?_ | refine callP (hm) ?_); simp -dsimp only [push_cast, seval]
         (first | refine call (hln) ?_ | refine callP (hln) ?_); simp -dsimp only [push_cast, seval, heq2]
         exact ⟨[], rfl, rfl, by simp -dsimp only [WeakTm, WeakBx, CLe, CLeL, push_cast, seval, hr, Option.getD_none, Option.isSome_none, opL, zeroOp]⟩
       ·have hmf : mayB ⟨kindOf w0, (valV w1 : Int), txt x, [], []⟩ = false := by simpa using hmay
        have hr : readV mayB s = none := by unfold readV; rw [hpr]; simp [hmf]
        rw [hmf] at hm
        simp -dsimp only [push_cast, seval, eq_false h4]
        (try simp only [List.length_append, List.length_cons, List.length_nil, List.length_map, List.length_take, List.length_drop]); repeat (refine And.intro (by omega) ?_)
        (first | refine call (hm) ?_ | refine callP (hm) ?_); simp -dsimp only [push_cast, seval]
        exact ⟨[], rfl, rfl, by simp -dsimp only [WeakTm, WeakBx, CLe, CLeL, push_cast, seval, hr, Option.getD_none, Option.isSome_none, opL, zeroOp]⟩
     | [x, y], hsp, hb, hwl, hrl, hwd, htx, hlen =>
      have ht1 : (txt x).length ≤ 100000 := by have h8 := hwd x (by simp); have h9 := txt_len x; omega
      have ht2 : (txt y).length ≤ 100000 := by have h8 := hwd y (by simp); have h9 := txt_len y; omega
      by_cases h4 : kindOf w0 = 4
      ·have h4f := h4
       have hpr : parseV s = some ⟨kindOf w0, (valV w1 : Int), txt y, [], txt x⟩ := by
        unfold parseV
        rw [hsp]
        simp only [restV, hnb, if_true, Bool.false_eq_true, if_false]
        rw [htx]
        simp [buildV, h4f]
       have hsho : short ⟨kindOf w0, (valV w1 : Int), txt y, [], txt x⟩ := ⟨by first | exact ht1 | exact ht2 | simp, by first | exact ht2 | simp, by first | exact ht1 | simp⟩
       have hm := (opMay_fun (kindOf w0) ((valV w1 : Int)) (txt y) ([]) (txt x) hsho).glob1
       unfold opL at hm
       simp only at hm
       by_cases hmay : mayB ⟨kindOf w0, (valV w1 : Int), txt y, [], txt x⟩ = true
       ·rw [hmay] at hm
        have hln := line_fun _ (may_ok hmay) hsho (may_b hmay)
        unfold opL at hln
        simp only at hln
        by_cases heq : lineV ⟨kindOf w0, (valV w1 : Int), txt y, [], txt x⟩ = s
        ·have hr := (read_iff (fun o => may_ok) s _).2 ⟨hmay, heq⟩
         rw [heq] at hln
         simp -dsimp only [push_cast, seval, eq_true h4]
         (try simp only [List.length_append, List.length_cons, List.length_nil, List.length_map, List.length_take, List.length_drop]); repeat (refine And.intro (by omega) ?_)
         (first | refine call (hm) ?_ | refine callP (hm) ?_); simp -dsimp only [push_cast, seval]
         (first | refine call (hln) ?_ | refine callP (hln) ?_); simp -dsimp only [push_cast, seval]
         exact ⟨[], rfl, rfl, by simp -dsimp only [WeakTm, WeakBx, CLe, CLeL, push_cast, seval, hr, Option.getD_some, Option.isSome_some, opL]⟩
        ·have heq2 : (lineV ⟨kindOf w0, (valV w1 : Int), txt y, [], txt x⟩ = s) = False := eq_false heq
         have hr : readV mayB s = none := by unfold readV; rw [hpr]; simp [heq]
         simp -dsimp only [push_cast, seval, eq_true h4]
         (try simp only [List.length_append, List.length_cons, List.length_nil, List.length_map, List.length_take, List.length_drop]); repeat (refine And.intro (by omega) ?_)
         (first | refine call (hm) ?_ | refine callP (hm) ?_); simp -dsimp only [push_cast, seval]
         (first | refine call (hln) ?_ | refine callP (hln) ?_); simp -dsimp only [push_cast, seval, heq2]
         exact ⟨[], rfl, rfl, by simp -dsimp only [WeakTm, WeakBx, CLe, CLeL, push_cast, seval, hr, Option.getD_none, Option.isSome_none, opL, zeroOp]⟩
       ·have hmf : mayB ⟨kindOf w0, (valV w1 : Int), txt y, [], txt x⟩ = false := by simpa using hmay
        have hr : readV mayB s = none := by unfold readV; rw [hpr]; simp [hmf]
        rw [hmf] at hm
        simp -dsimp only [push_cast, seval, eq_true h4]
        (try simp only [List.length_append, List.length_cons, List.length_nil, List.length_map, List.length_take, List.length_drop]); repeat (refine And.intro (by omega) ?_)
        (first | refine call (hm) ?_ | refine callP (hm) ?_); simp -dsimp only [push_cast, seval]
        exact ⟨[], rfl, rfl, by simp -dsimp only [WeakTm, WeakBx, CLe, CLeL, push_cast, seval, hr, Option.getD_none, Option.isSome_none, opL, zeroOp]⟩
      ·have h4f := h4
       have hpr : parseV s = some ⟨kindOf w0, (valV w1 : Int), txt x, txt y, []⟩ := by
        unfold parseV
        rw [hsp]
        simp only [restV, hnb, if_true, Bool.false_eq_true, if_false]
        rw [htx]
        simp [buildV, h4f]
       have hsho : short ⟨kindOf w0, (valV w1 : Int), txt x, txt y, []⟩ := ⟨by first | exact ht1 | exact ht2 | simp, by first | exact ht2 | simp, by first | exact ht1 | simp⟩
       have hm := (opMay_fun (kindOf w0) ((valV w1 : Int)) (txt x) (txt y) ([]) hsho).glob1
       unfold opL at hm
       simp only at hm
       by_cases hmay : mayB ⟨kindOf w0, (valV w1 : Int), txt x, txt y, []⟩ = true
       ·rw [hmay] at hm
        have hln := line_fun _ (may_ok hmay) hsho (may_b hmay)
        unfold opL at hln
        simp only at hln
        by_cases heq : lineV ⟨kindOf w0, (valV w1 : Int), txt x, txt y, []⟩ = s
        ·have hr := (read_iff (fun o => may_ok) s _).2 ⟨hmay, heq⟩
         rw [heq] at hln
         simp -dsimp only [push_cast, seval, eq_false h4]
         (try simp only [List.length_append, List.length_cons, List.length_nil, List.length_map, List.length_take, List.length_drop]); repeat (refine And.intro (by omega) ?_)
         (first | refine call (hm) ?_ | refine callP (hm) ?_); simp -dsimp only [push_cast, seval]
         (first | refine call (hln) ?_ | refine callP (hln) ?_); simp -dsimp only [push_cast, seval]
         exact ⟨[], rfl, rfl, by simp -dsimp only [WeakTm, WeakBx, CLe, CLeL, push_cast, seval, hr, Option.getD_some, Option.isSome_some, opL]⟩
        ·have heq2 : (lineV ⟨kindOf w0, (valV w1 : Int), txt x, txt y, []⟩ = s) = False := eq_false heq
         have hr : readV mayB s = none := by unfold readV; rw [hpr]; simp [heq]
         simp -dsimp only [push_cast, seval, eq_false h4]
         (try simp only [List.length_append, List.length_cons, List.length_nil, List.length_map, List.length_take, List.length_drop]); repeat (refine And.intro (by omega) ?_)
         (first | refine call (hm) ?_ | refine callP (hm) ?_); simp -dsimp only [push_cast, seval]
         (first | refine call (hln) ?_ | refine callP (hln) ?_); simp -dsimp only [push_cast, seval, heq2]
         exact ⟨[], rfl, rfl, by simp -dsimp only [WeakTm, WeakBx, CLe, CLeL, push_cast, seval, hr, Option.getD_none, Option.isSome_none, opL, zeroOp]⟩
       ·have hmf : mayB ⟨kindOf w0, (valV w1 : Int), txt x, txt y, []⟩ = false := by simpa using hmay
        have hr : readV mayB s = none := by unfold readV; rw [hpr]; simp [hmf]
        rw [hmf] at hm
        simp -dsimp only [push_cast, seval, eq_false h4]
        (try simp only [List.length_append, List.length_cons, List.length_nil, List.length_map, List.length_take, List.length_drop]); repeat (refine And.intro (by omega) ?_)
        (first | refine call (hm) ?_ | refine callP (hm) ?_); simp -dsimp only [push_cast, seval]
        exact ⟨[], rfl, rfl, by simp -dsimp only [WeakTm, WeakBx, CLe, CLeL, push_cast, seval, hr, Option.getD_none, Option.isSome_none, opL, zeroOp]⟩
     | x :: y :: z :: q, hsp, hb, hwl, hrl, hwd, htx, hlen =>
      have ht1 : (txt x).length ≤ 100000 := by have h8 := hwd x (by simp); have h9 := txt_len x; omega
      have ht2 : (txt y).length ≤ 100000 := by have h8 := hwd y (by simp); have h9 := txt_len y; omega
      have hn0 : ((q.length : Int) + 1 + 1 + 1 < (q.length : Int) + 1 + 1 + 1) = False := eq_false (by omega)
      have hn2 : ((q.length : Int) + 1 + 1 + 1 = 2) = False := eq_false (by omega)
      have hn1 : ((q.length : Int) + 1 + 1 + 1 = 1) = False := eq_false (by omega)
      by_cases h4 : kindOf w0 = 4
      ·have h4f := h4
       have hpr : parseV s = some ⟨kindOf w0, (valV w1 : Int), [], [], []⟩ := by
        unfold parseV
        rw [hsp]
        simp only [restV, hnb, if_true, Bool.false_eq_true, if_false]
        rw [htx]
        simp [buildV, h4f]
       have hsho : short ⟨kindOf w0, (valV w1 : Int), [], [], []⟩ := ⟨by first | exact ht1 | exact ht2 | simp, by first | exact ht2 | simp, by first | exact ht1 | simp⟩
       have hm := (opMay_fun (kindOf w0) ((valV w1 : Int)) ([]) ([]) ([]) hsho).glob1
       unfold opL at hm
       simp only at hm
       by_cases hmay : mayB ⟨kindOf w0, (valV w1 : Int), [], [], []⟩ = true
       ·rw [hmay] at hm
        have hln := line_fun _ (may_ok hmay) hsho (may_b hmay)
        unfold opL at hln
        simp only at hln
        by_cases heq : lineV ⟨kindOf w0, (valV w1 : Int), [], [], []⟩ = s
        ·have hr := (read_iff (fun o => may_ok) s _).2 ⟨hmay, heq⟩
         rw [heq] at hln
         simp -dsimp only [push_cast, seval, eq_true h4, List.take_length, List.length_map, hn2, hn1, hn0]
         (try simp only [List.length_append, List.length_cons, List.length_nil, List.length_map, List.length_take, List.length_drop]); repeat (refine And.intro (by omega) ?_)
         (first | refine call (hm) ?_ | refine callP (hm) ?_); simp -dsimp only [push_cast, seval]
         (first | refine call (hln) ?_ | refine callP (hln) ?_); simp -dsimp only [push_cast, seval]
         exact ⟨[], rfl, rfl, by simp -dsimp only [WeakTm, WeakBx, CLe, CLeL, push_cast, seval, hr, Option.getD_some, Option.isSome_some, opL]⟩
        ·have heq2 : (lineV ⟨kindOf w0, (valV w1 : Int), [], [], []⟩ = s) = False := eq_false heq
         have hr : readV mayB s = none := by unfold readV; rw [hpr]; simp [heq]
         simp -dsimp only [push_cast, seval, eq_true h4, List.take_length, List.length_map, hn2, hn1, hn0]
         (try simp only [List.length_append, List.length_cons, List.length_nil, List.length_map, List.length_take, List.length_drop]); repeat (refine And.intro (by omega) ?_)
         (first | refine call (hm) ?_ | refine callP (hm) ?_); simp -dsimp only [push_cast, seval]
         (first | refine call (hln) ?_ | refine callP (hln) ?_); simp -dsimp only [push_cast, seval, heq2]
         exact ⟨[], rfl, rfl, by simp -dsimp only [WeakTm, WeakBx, CLe, CLeL, push_cast, seval, hr, Option.getD_none, Option.isSome_none, opL, zeroOp]⟩
       ·have hmf : mayB ⟨kindOf w0, (valV w1 : Int), [], [], []⟩ = false := by simpa using hmay
        have hr : readV mayB s = none := by unfold readV; rw [hpr]; simp [hmf]
        rw [hmf] at hm
        simp -dsimp only [push_cast, seval, eq_true h4, List.take_length, List.length_map, hn2, hn1, hn0]
        (try simp only [List.length_append, List.length_cons, List.length_nil, List.length_map, List.length_take, List.length_drop]); repeat (refine And.intro (by omega) ?_)
        (first | refine call (hm) ?_ | refine callP (hm) ?_); simp -dsimp only [push_cast, seval]
        exact ⟨[], rfl, rfl, by simp -dsimp only [WeakTm, WeakBx, CLe, CLeL, push_cast, seval, hr, Option.getD_none, Option.isSome_none, opL, zeroOp]⟩
      ·have h4f := h4
       have hpr : parseV s = some ⟨kindOf w0, (valV w1 : Int), [], [], []⟩ := by
        unfold parseV
        rw [hsp]
        simp only [restV, hnb, if_true, Bool.false_eq_true, if_false]
        rw [htx]
        simp [buildV, h4f]
       have hsho : short ⟨kindOf w0, (valV w1 : Int), [], [], []⟩ := ⟨by first | exact ht1 | exact ht2 | simp, by first | exact ht2 | simp, by first | exact ht1 | simp⟩
       have hm := (opMay_fun (kindOf w0) ((valV w1 : Int)) ([]) ([]) ([]) hsho).glob1
       unfold opL at hm
       simp only at hm
       by_cases hmay : mayB ⟨kindOf w0, (valV w1 : Int), [], [], []⟩ = true
       ·rw [hmay] at hm
        have hln := line_fun _ (may_ok hmay) hsho (may_b hmay)
        unfold opL at hln
        simp only at hln
        by_cases heq : lineV ⟨kindOf w0, (valV w1 : Int), [], [], []⟩ = s
        ·have hr := (read_iff (fun o => may_ok) s _).2 ⟨hmay, heq⟩
         rw [heq] at hln
         simp -dsimp only [push_cast, seval, eq_false h4, List.take_length, List.length_map, hn2, hn1, hn0]
         (try simp only [List.length_append, List.length_cons, List.length_nil, List.length_map, List.length_take, List.length_drop]); repeat (refine And.intro (by omega) ?_)
         (first | refine call (hm) ?_ | refine callP (hm) ?_); simp -dsimp only [push_cast, seval]
         (first | refine call (hln) ?_ | refine callP (hln) ?_); simp -dsimp only [push_cast, seval]
         exact ⟨[], rfl, rfl, by simp -dsimp only [WeakTm, WeakBx, CLe, CLeL, push_cast, seval, hr, Option.getD_some, Option.isSome_some, opL]⟩
        ·have heq2 : (lineV ⟨kindOf w0, (valV w1 : Int), [], [], []⟩ = s) = False := eq_false heq
         have hr : readV mayB s = none := by unfold readV; rw [hpr]; simp [heq]
         simp -dsimp only [push_cast, seval, eq_false h4, List.take_length, List.length_map, hn2, hn1, hn0]
         (try simp only [List.length_append, List.length_cons, List.length_nil, List.length_map, List.length_take, List.length_drop]); repeat (refine And.intro (by omega) ?_)
         (first | refine call (hm) ?_ | refine callP (hm) ?_); simp -dsimp only [push_cast, seval]
         (first | refine call (hln) ?_ | refine callP (hln) ?_); simp -dsimp only [push_cast, seval, heq2]
         exact ⟨[], rfl, rfl, by simp -dsimp only [WeakTm, WeakBx, CLe, CLeL, push_cast, seval, hr, Option.getD_none, Option.isSome_none, opL, zeroOp]⟩
       ·have hmf : mayB ⟨kindOf w0, (valV w1 : Int), [], [], []⟩ = false := by simpa using hmay
        have hr : readV mayB s = none := by unfold readV; rw [hpr]; simp [hmf]
        rw [hmf] at hm
        simp -dsimp only [push_cast, seval, eq_false h4, List.take_length, List.length_map, hn2, hn1, hn0]
        (try simp only [List.length_append, List.length_cons, List.length_nil, List.length_map, List.length_take, List.length_drop]); repeat (refine And.intro (by omega) ?_)
        (first | refine call (hm) ?_ | refine callP (hm) ?_); simp -dsimp only [push_cast, seval]
        exact ⟨[], rfl, rfl, by simp -dsimp only [WeakTm, WeakBx, CLe, CLeL, push_cast, seval, hr, Option.getD_none, Option.isSome_none, opL, zeroOp]⟩
   | false =>
    simp -dsimp only [push_cast, seval, hnb]
    (try simp only [List.length_append, List.length_cons, List.length_nil, List.length_map, List.length_take, List.length_drop]); repeat (refine And.intro (by omega) ?_)
    refine loop (fun i : Nat => ⟨[(0, .str s), (2, .ptr 0 0), (3, .sc (.bool false)), (6, .ptr 1 0), (10, .own 0 9 1 (strs (((w1 :: r).take i).map txt))), (48, .sl 1 (strs (w1 :: r))), (49, .sc (.int .i64 ((w1 :: r).length : Nat))), (50, .sc (.int .i64 i))], [[.sc (.int .i64 0), .sc (.int .i64 0), .str [], .str [], .str []], [.sc (.int .i64 (kindOf w0)), .sc (.int .i64 0), .str [], .str [], .str []]], 1, 0⟩) (fun i => i ≤ (w1 :: r).length ∧ ∀ j (h : j < (w1 :: r).length), j < i → (unq (w1 :: r)[j]).isSome = true) (fun i => (w1 :: r).length - i) 0 ⟨Nat.zero_le _, fun j h hj => absurd hj (Nat.not_lt_zero j)⟩ ?_ ?_
    ·exact Weak.mk [.inr (9, 1)] rfl rfl (Nat.zero_le _) rfl (by simp -dsimp only [WeakTm, WeakBx, CLe, CLeL, push_cast, seval]) (by simp -dsimp only [WeakTm, WeakBx, CLe, CLeL, push_cast, seval])
    rintro i ⟨hi, hdone⟩
    by_cases hlt : i < ((w1 :: r)).length
    ·have hwi := hwd ((w1 :: r))[i] (by first | exact List.mem_cons_of_mem _ (List.getElem_mem hlt) | exact List.mem_cons_of_mem _ (List.mem_cons_of_mem _ (List.getElem_mem hlt)))
     have ge : ((w1 :: r))[i]? = some ((w1 :: r))[i] := List.getElem?_eq_getElem hlt
     obtain ⟨wi, hwv⟩ : ∃ wi, ((w1 :: r))[i] = wi := ⟨_, rfl⟩
     rw [hwv] at hwi ge
     have gs : (strs ((w1 :: r)))[i]? = some [.str wi] := by simp only [List.getElem?_map, ge]; rfl
     have gs2 : (strC w1 :: List.map strC r)[i]? = some [.str wi] := gs
     have hi9 : i + 1 ≤ r.length + 1 := by have h9 := hlt; first | omega | (simp only [List.length_cons] at h9; omega)
     have hu := (unquote_fun wi (by omega)).glob0 (G' := GL)
     have hlt' : ((i : Int) < (r.length : Int) + 1) = True := eq_true (by have h9 := hlt; first | omega | (simp only [List.length_cons] at h9; omega))
     cases hqs : (unq wi).isSome with
     | false =>
      rw [hqs] at hu
      have hr : readV mayB s = none := by
       unfold readV parseV
       rw [hsp]
       simp only [restV, hnb, if_true, Bool.false_eq_true, if_false]
       have ht := rtexts_none ((w1 :: r)) i hlt (by rw [hwv]; cases h : unq wi with | none => rfl | some t => rw [h] at hqs; cases hqs)
       rw [ht]; rfl
      simp -dsimp only [push_cast, seval, hlt', gs2]
      (try simp only [List.length_append, List.length_cons, List.length_nil, List.length_map, List.length_take, List.length_drop]); repeat (refine And.intro (by omega) ?_)
      (first | refine call (hu) ?_ | refine callP (hu) ?_); simp -dsimp only [push_cast, seval]
      exact ⟨[], rfl, rfl, by simp -dsimp only [WeakTm, WeakBx, CLe, CLeL, push_cast, seval, hr, Option.getD_none, Option.isSome_none, opL, zeroOp]⟩
     | true =>
      rw [hqs] at hu
      have htk : (((w1 :: r)).take (i + 1)).map txt = (((w1 :: r)).take i).map txt ++ [txt wi] := by rw [List.take_add_one, ge, List.map_append]; rfl
      have hti : ((((w1 :: r)).take i).map txt).length ≤ 100003 := by have h9 := hi; simp only [List.length_map, List.length_take]; first | omega | (simp only [List.length_cons] at h9; omega)
      simp -dsimp only [push_cast, seval, hlt', gs2]
      (try simp only [List.length_append, List.length_cons, List.length_nil, List.length_map, List.length_take, List.length_drop]); repeat (refine And.intro (by omega) ?_)
      (first | refine call (hu) ?_ | refine callP (hu) ?_); simp -dsimp only [push_cast, seval]
      (try simp only [List.length_append, List.length_cons, List.length_nil, List.length_map, List.length_take, List.length_drop]); repeat (refine And.intro (by omega) ?_)
      exact ⟨i + 1, ⟨hlt, fun j h hj => if h2 : j < i then hdone j h h2 else by have h8 : j = i := (by omega); subst h8; rw [hwv]; exact hqs⟩, by omega, Weak.mk [.inl 0] rfl rfl (Nat.zero_le _) rfl (by simp -dsimp only [WeakTm, WeakBx, CLe, CLeL, push_cast, seval, htk, show (unq wi).getD [] = txt wi from rfl] <;> exact (congrArg strs htk).symm) (by simp -dsimp only [WeakTm, WeakBx, CLe, CLeL, push_cast, seval])⟩
    ·have hie : i = ((w1 :: r)).length := by omega
     subst hie
     have htx := rtexts_some ((w1 :: r)) (fun j h => hdone j h h)
     clear hdone
     match r, hsp, hb, hwl, hrl, hwd, htx, hlen with
     | [], hsp, hb, hwl, hrl, hwd, htx, hlen =>
      have ht1 : (txt w1).length ≤ 100000 := by have h8 := hwd w1 (by simp); have h9 := txt_len w1; omega
      by_cases h4 : kindOf w0 = 4
      ·have h4f := h4
       have hpr : parseV s = some ⟨kindOf w0, 0, txt w1, [], []⟩ := by
        unfold parseV
        rw [hsp]
        simp only [restV, hnb, if_true, Bool.false_eq_true, if_false]
        rw [htx]
        simp [buildV, h4f]
       have hsho : short ⟨kindOf w0, 0, txt w1, [], []⟩ := ⟨by first | exact ht1 | exact ht2 | simp, by first | exact ht2 | simp, by first | exact ht1 | simp⟩
       have hm := (opMay_fun (kindOf w0) (0) (txt w1) ([]) ([]) hsho).glob1
       unfold opL at hm
       simp only at hm
       by_cases hmay : mayB ⟨kindOf w0, 0, txt w1, [], []⟩ = true
       ·rw [hmay] at hm
        have hln := line_fun _ (may_ok hmay) hsho (may_b hmay)
        unfold opL at hln
        simp only at hln
        by_cases heq : lineV ⟨kindOf w0, 0, txt w1, [], []⟩ = s
        ·have hr := (read_iff (fun o => may_ok) s _).2 ⟨hmay, heq⟩
         rw [heq] at hln
         simp -dsimp only [push_cast, seval, eq_true h4]
         (try simp only [List.length_append, List.length_cons, List.length_nil, List.length_map, List.length_take, List.length_drop]); repeat (refine And.intro (by omega) ?_)
         (first | refine call (hm) ?_ | refine callP (hm) ?_); simp -dsimp only [push_cast, seval]
         (first | refine call (hln) ?_ | refine callP (hln) ?_); simp -dsimp only [push_cast, seval]
         exact ⟨[], rfl, rfl, by simp -dsimp only [WeakTm, WeakBx, CLe, CLeL, push_cast, seval, hr, Option.getD_some, Option.isSome_some, opL]⟩
        ·have heq2 : (lineV ⟨kindOf w0, 0, txt w1, [], []⟩ = s) = False := eq_false heq
         have hr : readV mayB s = none := by unfold readV; rw [hpr]; simp [heq]
         simp -dsimp only [push_cast, seval, eq_true h4]
         (try simp only [List.length_append, List.length_cons, List.length_nil, List.length_map, List.length_take, List.length_drop]); repeat (refine And.intro (by omega) ?_)
         (first | refine call (hm) ?_ | refine callP (hm) ?_); simp -dsimp only [push_cast, seval]
         (first | refine call (hln) ?_ | refine callP (hln) ?_); simp -dsimp only [push_cast, seval, heq2]
         exact ⟨[], rfl, rfl, by simp -dsimp only [WeakTm, WeakBx, CLe, CLeL, push_cast, seval, hr, Option.getD_none, Option.isSome_none, opL, zeroOp]⟩
       ·have hmf : mayB ⟨kindOf w0, 0, txt w1, [], []⟩ = false := by simpa using hmay
        have hr : readV mayB s = none := by unfold readV; rw [hpr]; simp [hmf]
        rw [hmf] at hm
        simp -dsimp only [push_cast, seval, eq_true h4]
        (try simp only [List.length_append, List.length_cons, List.length_nil, List.length_map, List.length_take, List.length_drop]); repeat (refine And.intro (by omega) ?_)
        (first | refine call (hm) ?_ | refine callP (hm) ?_); simp -dsimp only [push_cast, seval]
        exact ⟨[], rfl, rfl, by simp -dsimp only [WeakTm, WeakBx, CLe, CLeL, push_cast, seval, hr, Option.getD_none, Option.isSome_none, opL, zeroOp]⟩
      ·have h4f := h4
       have hpr : parseV s = some ⟨kindOf w0, 0, txt w1, [], []⟩ := by
        unfold parseV
        rw [hsp]
        simp only [restV, hnb, if_true, Bool.false_eq_true, if_false]
        rw [htx]
        simp [buildV, h4f]
       have hsho : short ⟨kindOf w0, 0, txt w1, [], []⟩ := ⟨by first | exact ht1 | exact ht2 | simp, by first | exact ht2 | simp, by first | exact ht1 | simp⟩
       have hm := (opMay_fun (kindOf w0) (0) (txt w1) ([]) ([]) hsho).glob1
       unfold opL at hm
       simp only at hm
       by_cases hmay : mayB ⟨kindOf w0, 0, txt w1, [], []⟩ = true
       ·rw [hmay] at hm
        have hln := line_fun _ (may_ok hmay) hsho (may_b hmay)
        unfold opL at hln
        simp only at hln
        by_cases heq : lineV ⟨kindOf w0, 0, txt w1, [], []⟩ = s
        ·have hr := (read_iff (fun o => may_ok) s _).2 ⟨hmay, heq⟩
         rw [heq] at hln
         simp -dsimp only [push_cast, seval, eq_false h4]
         (try simp only [List.length_append, List.length_cons, List.length_nil, List.length_map, List.length_take, List.length_drop]); repeat (refine And.intro (by omega) ?_)
         (first | refine call (hm) ?_ | refine callP (hm) ?_); simp -dsimp only [push_cast, seval]
         (first | refine call (hln) ?_ | refine callP (hln) ?_); simp -dsimp only [push_cast, seval]
         exact ⟨[], rfl, rfl, by simp -dsimp only [WeakTm, WeakBx, CLe, CLeL, push_cast, seval, hr, Option.getD_some, Option.isSome_some, opL]⟩
        ·have heq2 : (lineV ⟨kindOf w0, 0, txt w1, [], []⟩ = s) = False := eq_false heq
         have hr : readV mayB s = none := by unfold readV; rw [hpr]; simp [heq]
         simp -dsimp only [push_cast, seval, eq_false h4]
         (try simp only [List.length_append, List.length_cons, List.length_nil, List.length_map, List.length_take, List.length_drop]); repeat (refine And.intro (by omega) ?_)
         (first | refine call (hm) ?_ | refine callP (hm) ?_); simp -dsimp only [push_cast, seval]
         (first | refine call (hln) ?_ | refine callP (hln) ?_); simp -dsimp only [push_cast, seval, heq2]
         exact ⟨[], rfl, rfl, by simp -dsimp only [WeakTm, WeakBx, CLe, CLeL, push_cast, seval, hr, Option.getD_none, Option.isSome_none, opL, zeroOp]⟩
       ·have hmf : mayB ⟨kindOf w0, 0, txt w1, [], []⟩ = false := by simpa using hmay
        have hr : readV mayB s = none := by unfold readV; rw [hpr]; simp [hmf]
        rw [hmf] at hm
        simp -dsimp only [push_cast, seval, eq_false h4]
        (try simp only [List.length_append, List.length_cons, List.length_nil, List.length_map, List.length_take, List.length_drop]); repeat (refine And.intro (by omega) ?_)
        (first | refine call (hm) ?_ | refine callP (hm) ?_); simp -dsimp only [push_cast, seval]
        exact ⟨[], rfl, rfl, by simp -dsimp only [WeakTm, WeakBx, CLe, CLeL, push_cast, seval, hr, Option.getD_none, Option.isSome_none, opL, zeroOp]⟩
     | [y], hsp, hb, hwl, hrl, hwd, htx, hlen =>
      have ht1 : (txt w1).length ≤ 100000 := by have h8 := hwd w1 (by simp); have h9 := txt_len w1; omega
      have ht2 : (txt y).length ≤ 100000 := by have h8 := hwd y (by simp); have h9 := txt_len y; omega
      by_cases h4 : kindOf w0 = 4
      ·have h4f := h4
       have hpr : parseV s = some ⟨kindOf w0, 0, txt y, [], txt w1⟩ := by
        unfold parseV
        rw [hsp]
        simp only [restV, hnb, if_true, Bool.false_eq_true, if_false]
        rw [htx]
        simp [buildV, h4f]
       have hsho : short ⟨kindOf w0, 0, txt y, [], txt w1⟩ := ⟨by first | exact ht1 | exact ht2 | simp, by first | exact ht2 | simp, by first | exact ht1 | simp⟩
       have hm := (opMay_fun (kindOf w0) (0) (txt y) ([]) (txt w1) hsho).glob1
       unfold opL at hm
       simp only at hm
       by_cases hmay : mayB ⟨kindOf w0, 0, txt y, [], txt w1⟩ = true
       ·rw [hmay] at hm
        have hln := line_fun _ (may_ok hmay) hsho (may_b hmay)
        unfold opL at hln
        simp only at hln
        by_cases heq : lineV ⟨kindOf w0, 0, txt y, [], txt w1⟩ = s
        ·have hr := (read_iff (fun o => may_ok) s _).2 ⟨hmay, heq⟩
         rw [heq] at hln
         simp -dsimp only [push_cast, seval, eq_true h4]
         (try simp only [List.length_append, List.length_cons, List.length_nil, List.length_map, List.length_take, List.length_drop]); repeat (refine And.intro (by omega) ?_)
         (first | refine call (hm) ?_ | refine callP (hm) ?_); simp -dsimp only [push_cast, seval]
         (first | refine call (hln) ?_ | refine callP (hln) ?_); simp -dsimp only [push_cast, seval]
         exact ⟨[], rfl, rfl, by simp -dsimp only [WeakTm, WeakBx, CLe, CLeL, push_cast, seval, hr, Option.getD_some, Option.isSome_some, opL]⟩
        ·have heq2 : (lineV ⟨kindOf w0, 0, txt y, [], txt w1⟩ = s) = False := eq_false heq
         have hr : readV mayB s = none := by unfold readV; rw [hpr]; simp [heq]
         simp -dsimp only [push_cast, seval, eq_true h4]
         (try simp only [List.length_append, List.length_cons, List.length_nil, List.length_map, List.length_take, List.length_drop]); repeat (refine And.intro (by omega) ?_)
         (first | refine call (hm) ?_ | refine callP (hm) ?_); simp -dsimp only [push_cast, seval]
         (first | refine call (hln) ?_ | refine callP (hln) ?_); simp -dsimp only [push_cast, seval, heq2]
         exact ⟨[], rfl, rfl, by simp -dsimp only [WeakTm, WeakBx, CLe, CLeL, push_cast, seval, hr, Option.getD_none, Option.isSome_none, opL, zeroOp]⟩
       ·have hmf : mayB ⟨kindOf w0, 0, txt y, [], txt w1⟩ = false := by simpa using hmay
        have hr : readV mayB s = none := by unfold readV; rw [hpr]; simp [hmf]
        rw [hmf] at hm
        simp -dsimp only [push_cast, seval, eq_true h4]
        (try simp only [List.length_append, List.length_cons, List.length_nil, List.length_map, List.length_take, List.length_drop]); repeat (refine And.intro (by omega) ?_)
        (first | refine call (hm) ?_ | refine callP (hm) ?_); simp -dsimp only [push_cast, seval]
        exact ⟨[], rfl, rfl, by simp -dsimp only [WeakTm, WeakBx, CLe, CLeL, push_cast, seval, hr, Option.getD_none, Option.isSome_none, opL, zeroOp]⟩
      ·have h4f := h4
       have hpr : parseV s = some ⟨kindOf w0, 0, txt w1, txt y, []⟩ := by
        unfold parseV
        rw [hsp]
        simp only [restV, hnb, if_true, Bool.false_eq_true, if_false]
        rw [htx]
        simp [buildV, h4f]
       have hsho : short ⟨kindOf w0, 0, txt w1, txt y, []⟩ := ⟨by first | exact ht1 | exact ht2 | simp, by first | exact ht2 | simp, by first | exact ht1 | simp⟩
       have hm := (opMay_fun (kindOf w0) (0) (txt w1) (txt y) ([]) hsho).glob1
       unfold opL at hm
       simp only at hm
       by_cases hmay : mayB ⟨kindOf w0, 0, txt w1, txt y, []⟩ = true
       ·rw [hmay] at hm
        have hln := line_fun _ (may_ok hmay) hsho (may_b hmay)
        unfold opL at hln
        simp only at hln
        by_cases heq : lineV ⟨kindOf w0, 0, txt w1, txt y, []⟩ = s
        ·have hr := (read_iff (fun o => may_ok) s _).2 ⟨hmay, heq⟩
         rw [heq] at hln
         simp -dsimp only [push_cast, seval, eq_false h4]
         (try simp only [List.length_append, List.length_cons, List.length_nil, List.length_map, List.length_take, List.length_drop]); repeat (refine And.intro (by omega) ?_)
         (first | refine call (hm) ?_ | refine callP (hm) ?_); simp -dsimp only [push_cast, seval]
         (first | refine call (hln) ?_ | refine callP (hln) ?_); simp -dsimp only [push_cast, seval]
         exact ⟨[], rfl, rfl, by simp -dsimp only [WeakTm, WeakBx, CLe, CLeL, push_cast, seval, hr, Option.getD_some, Option.isSome_some, opL]⟩
        ·have heq2 : (lineV ⟨kindOf w0, 0, txt w1, txt y, []⟩ = s) = False := eq_false heq
         have hr : readV mayB s = none := by unfold readV; rw [hpr]; simp [heq]
         simp -dsimp only [push_cast, seval, eq_false h4]
         (try simp only [List.length_append, List.length_cons, List.length_nil, List.length_map, List.length_take, List.length_drop]); repeat (refine And.intro (by omega) ?_)
         (first | refine call (hm) ?_ | refine callP (hm) ?_); simp -dsimp only [push_cast, seval]
         (first | refine call (hln) ?_ | refine callP (hln) ?_); simp -dsimp only [push_cast, seval, heq2]
         exact ⟨[], rfl, rfl, by simp -dsimp only [WeakTm, WeakBx, CLe, CLeL, push_cast, seval, hr, Option.getD_none, Option.isSome_none, opL, zeroOp]⟩
       ·have hmf : mayB ⟨kindOf w0, 0, txt w1, txt y, []⟩ = false := by simpa using hmay
        have hr : readV mayB s = none := by unfold readV; rw [hpr]; simp [hmf]
        rw [hmf] at hm
        simp -dsimp only [push_cast, seval, eq_false h4]
        (try simp only [List.length_append, List.length_cons, List.length_nil, List.length_map, List.length_take, List.length_drop]); repeat (refine And.intro (by omega) ?_)
        (first | refine call (hm) ?_ | refine callP (hm) ?_); simp -dsimp only [push_cast, seval]
        exact ⟨[], rfl, rfl, by simp -dsimp only [WeakTm, WeakBx, CLe, CLeL, push_cast, seval, hr, Option.getD_none, Option.isSome_none, opL, zeroOp]⟩
     | y :: z :: q, hsp, hb, hwl, hrl, hwd, htx, hlen =>
      have ht1 : (txt w1).length ≤ 100000 := by have h8 := hwd w1 (by simp); have h9 := txt_len w1; omega
      have ht2 : (txt y).length ≤ 100000 := by have h8 := hwd y (by simp); have h9 := txt_len y; omega
      have hn0 : ((q.length : Int) + 1 + 1 + 1 < (q.length : Int) + 1 + 1 + 1) = False := eq_false (by omega)
      have hn2 : ((q.length : Int) + 1 + 1 + 1 = 2) = False := eq_false (by omega)
      have hn1 : ((q.length : Int) + 1 + 1 + 1 = 1) = False := eq_false (by omega)
      by_cases h4 : kindOf w0 = 4
      ·have h4f := h4
       have hpr : parseV s = some ⟨kindOf w0, 0, [], [], []⟩ := by
        unfold parseV
        rw [hsp]
        simp only [restV, hnb, if_true, Bool.false_eq_true, if_false]
        rw [htx]
        simp [buildV, h4f]
       have hsho : short ⟨kindOf w0, 0, [], [], []⟩ := ⟨by first | exact ht1 | exact ht2 | simp, by first | exact ht2 | simp, by first | exact ht1 | simp⟩
       have hm := (opMay_fun (kindOf w0) (0) ([]) ([]) ([]) hsho).glob1
       unfold opL at hm
       simp only at hm
       by_cases hmay : mayB ⟨kindOf w0, 0, [], [], []⟩ = true
       ·rw [hmay] at hm
        have hln := line_fun _ (may_ok hmay) hsho (may_b hmay)
        unfold opL at hln
        simp only at hln
        by_cases heq : lineV ⟨kindOf w0, 0, [], [], []⟩ = s
        ·have hr := (read_iff (fun o => may_ok) s _).2 ⟨hmay, heq⟩
         rw [heq] at hln
         simp -dsimp only [push_cast, seval, eq_true h4, List.take_length, List.length_map, hn2, hn1, hn0]
         (try simp only [List.length_append, List.length_cons, List.length_nil, List.length_map, List.length_take, List.length_drop]); repeat (refine And.intro (by omega) ?_)
         (first | refine call (hm) ?_ | refine callP (hm) ?_); simp -dsimp only [push_cast, seval]
         (first | refine call (hln) ?_ | refine callP (hln) ?_); simp -dsimp only [push_cast, seval]
         exact ⟨[], rfl, rfl, by simp -dsimp only [WeakTm, WeakBx, CLe, CLeL, push_cast, seval, hr, Option.getD_some, Option.isSome_some, opL]⟩
        ·have heq2 : (lineV ⟨kindOf w0, 0, [], [], []⟩ = s) = False := eq_false heq
         have hr : readV mayB s = none := by unfold readV; rw [hpr]; simp [heq]
         simp -dsimp only [push_cast, seval, eq_true h4, List.take_length, List.length_map, hn2, hn1, hn0]
         (try simp only [List.length_append, List.length_cons, List.length_nil, List.length_map, List.length_take, List.length_drop]); repeat (refine And.intro (by omega) ?_)
         (first | refine call (hm) ?_ | refine callP (hm) ?_); simp -dsimp only [push_cast, seval]
         (first | refine call (hln) ?_ | refine callP (hln) ?_); simp -dsimp only [push_cast, seval, heq2]
         exact ⟨[], rfl, rfl, by simp -dsimp only [WeakTm, WeakBx, CLe, CLeL, push_cast, seval, hr, Option.getD_none, Option.isSome_none, opL, zeroOp]⟩
       ·have hmf : mayB ⟨kindOf w0, 0, [], [], []⟩ = false := by simpa using hmay
        have hr : readV mayB s = none := by unfold readV; rw [hpr]; simp [hmf]
        rw [hmf] at hm
        simp -dsimp only [push_cast, seval, eq_true h4, List.take_length, List.length_map, hn2, hn1, hn0]
        (try simp only [List.length_append, List.length_cons, List.length_nil, List.length_map, List.length_take, List.length_drop]); repeat (refine And.intro (by omega) ?_)
        (first | refine call (hm) ?_ | refine callP (hm) ?_); simp -dsimp only [push_cast, seval]
        exact ⟨[], rfl, rfl, by simp -dsimp only [WeakTm, WeakBx, CLe, CLeL, push_cast, seval, hr, Option.getD_none, Option.isSome_none, opL, zeroOp]⟩
      ·have h4f := h4
       have hpr : parseV s = some ⟨kindOf w0, 0, [], [], []⟩ := by
        unfold parseV
        rw [hsp]
        simp only [restV, hnb, if_true, Bool.false_eq_true, if_false]
        rw [htx]
        simp [buildV, h4f]
       have hsho : short ⟨kindOf w0, 0, [], [], []⟩ := ⟨by first | exact ht1 | exact ht2 | simp, by first | exact ht2 | simp, by first | exact ht1 | simp⟩
       have hm := (opMay_fun (kindOf w0) (0) ([]) ([]) ([]) hsho).glob1
       unfold opL at hm
       simp only at hm
       by_cases hmay : mayB ⟨kindOf w0, 0, [], [], []⟩ = true
       ·rw [hmay] at hm
        have hln := line_fun _ (may_ok hmay) hsho (may_b hmay)
        unfold opL at hln
        simp only at hln
        by_cases heq : lineV ⟨kindOf w0, 0, [], [], []⟩ = s
        ·have hr := (read_iff (fun o => may_ok) s _).2 ⟨hmay, heq⟩
         rw [heq] at hln
         simp -dsimp only [push_cast, seval, eq_false h4, List.take_length, List.length_map, hn2, hn1, hn0]
         (try simp only [List.length_append, List.length_cons, List.length_nil, List.length_map, List.length_take, List.length_drop]); repeat (refine And.intro (by omega) ?_)
         (first | refine call (hm) ?_ | refine callP (hm) ?_); simp -dsimp only [push_cast, seval]
         (first | refine call (hln) ?_ | refine callP (hln) ?_); simp -dsimp only [push_cast, seval]
         exact ⟨[], rfl, rfl, by simp -dsimp only [WeakTm, WeakBx, CLe, CLeL, push_cast, seval, hr, Option.getD_some, Option.isSome_some, opL]⟩
        ·have heq2 : (lineV ⟨kindOf w0, 0, [], [], []⟩ = s) = False := eq_false heq
         have hr : readV mayB s = none := by unfold readV; rw [hpr]; simp [heq]
         simp -dsimp only [push_cast, seval, eq_false h4, List.take_length, List.length_map, hn2, hn1, hn0]
         (try simp only [List.length_append, List.length_cons, List.length_nil, List.length_map, List.length_take, List.length_drop]); repeat (refine And.intro (by omega) ?_)
         (first | refine call (hm) ?_ | refine callP (hm) ?_); simp -dsimp only [push_cast, seval]
         (first | refine call (hln) ?_ | refine callP (hln) ?_); simp -dsimp only [push_cast, seval, heq2]
         exact ⟨[], rfl, rfl, by simp -dsimp only [WeakTm, WeakBx, CLe, CLeL, push_cast, seval, hr, Option.getD_none, Option.isSome_none, opL, zeroOp]⟩
       ·have hmf : mayB ⟨kindOf w0, 0, [], [], []⟩ = false := by simpa using hmay
        have hr : readV mayB s = none := by unfold readV; rw [hpr]; simp [hmf]
        rw [hmf] at hm
        simp -dsimp only [push_cast, seval, eq_false h4, List.take_length, List.length_map, hn2, hn1, hn0]
        (try simp only [List.length_append, List.length_cons, List.length_nil, List.length_map, List.length_take, List.length_drop]); repeat (refine And.intro (by omega) ?_)
        (first | refine call (hm) ?_ | refine callP (hm) ?_); simp -dsimp only [push_cast, seval]
        exact ⟨[], rfl, rfl, by simp -dsimp only [WeakTm, WeakBx, CLe, CLeL, push_cast, seval, hr, Option.getD_none, Option.isSome_none, opL, zeroOp]⟩
end Go.Proofs.YtbphobmohdclaaaGreatDoor.Vcg
end
section
set_option linter.unusedVariables false
set_option maxRecDepth 100000
set_option linter.unusedSimpArgs false
namespace Go.Proofs.YtbphobmohdclaaaGreatDoor.Vcg
open Go.RowKit
open QuotePlain (Bs quoteL plainL blanks okw unq splitW numB valV most okTo isDig)
def okL (l : List OpV) : Bool := planB l || undoB l
theorem ok_may {l : List OpV} (h : okL l = true) : ∀ o ∈ l, mayB o = true := by
 intro o ho
 unfold okL planB undoB at h
 simp only [Bool.or_eq_true, Bool.and_eq_true, Bool.not_eq_true', List.any_eq_false] at h
 rcases h with ⟨h, _⟩ | ⟨h, _⟩
 ·have := h o ho
  unfold planBad at this
  simp at this
  exact this.1
 ·have := h o ho
  unfold undoBad at this
  simp at this
  exact this.1
theorem body_take (l : List OpV) (k : Nat) (h : k < l.length) : bodyV (l.take (k + 1)) = bodyV (l.take k) ++ (lineV (l[k]'h) ++ [10]) := by
 unfold bodyV
 rw [List.take_add_one, List.getElem?_eq_getElem h, List.flatMap_append]
 simp
theorem body_bound : ∀ l : List OpV, (∀ o ∈ l, LineOk o ∧ short o) → (bodyV l).length ≤ 2000001 * l.length
 | [], _ => by simp [bodyV]
 | o :: l, h => by
  rw [body_cons]
  have h1 := body_bound l fun x hx => h x (List.mem_cons_of_mem _ hx)
  have h2 := line_len (h o List.mem_cons_self).1 (h o List.mem_cons_self).2
  have h3 : (lineV o).length ≤ 2000000 := h2
  simp only [List.length_append, List.length_cons]
  omega
def putTxt (l : List OpV) : Bs := if okL l then textV l else []
def putE (l : List OpV) : Int := if okL l then 0 else 12
end Go.Proofs.YtbphobmohdclaaaGreatDoor.Vcg
end
section
set_option linter.unusedVariables false
set_option linter.unusedSimpArgs false
namespace Go.Proofs.YtbphobmohdclaaaGreatDoor.Vcg
open Go.RowKit
def splA (c : UInt8) : List UInt8 → List (List UInt8)
 | [] => [[]]
 | b :: l => if b = c then [b] :: splA c l else match splA c l with
  | [] => [[b]]
  | x :: r => (b :: x) :: r
theorem splA_none (c : UInt8) : ∀ l : List UInt8, Lib.indexByte l c < 0 → splA c l = [l]
 | [], _ => rfl
 | b :: l, h => by
  unfold Lib.indexByte at h
  by_cases hb : b = c
  ·subst hb; simp at h
  ·have hb' : (b == c) = false := by simpa using hb
   rw [hb'] at h
   simp only [Bool.false_eq_true, if_false] at h
   have hl : Lib.indexByte l c < 0 := by
    split at h
    ·rename_i g; have := beq_iff_eq.1 g; omega
    ·omega
   unfold splA
   rw [if_neg hb, splA_none c l hl]
theorem splA_some (c : UInt8) : ∀ (l : List UInt8) (i : Nat), Lib.indexByte l c = (i : Int) → i < l.length ∧ splA c l = l.take (i + 1) :: splA c (l.drop (i + 1))
 | [], i, h => by
  have h : (-1 : Int) = (i : Int) := h
  omega
 | b :: l, i, h => by
  unfold Lib.indexByte at h
  by_cases hb : b = c
  ·subst hb
   simp at h
   obtain rfl : i = 0 := by omega
   refine ⟨by simp, ?_⟩
   conv => lhs; unfold splA
   simp
  ·have hb' : (b == c) = false := by simpa using hb
   rw [hb'] at h
   simp only [Bool.false_eq_true, if_false] at h
   split at h
   ·omega
   ·rename_i g
    have g' : Lib.indexByte l c ≠ -1 := by simpa using g
    have hg := indexc_ge c l
    obtain ⟨j, rfl⟩ : ∃ j, i = j + 1 := ⟨i - 1, by omega⟩
    have hj : Lib.indexByte l c = (j : Int) := by omega
    obtain ⟨h1, h2⟩ := splA_some c l j hj
    refine ⟨by simp; omega, ?_⟩
    conv => lhs; unfold splA
    rw [if_neg hb, h2]
    simp
theorem splA_length (c : UInt8) (l : List UInt8) : (splA c l).length ≤ l.length + 1 := by
 induction l with
 | nil => simp [splA]
 | cons b l ih =>
  unfold splA
  split
  ·simp; omega
  ·split
   ·simp
   ·rename_i x r h
    rw [h] at ih
    simp at ih ⊢; omega
set_option maxRecDepth 100000 in
set_option maxHeartbeats 1000000 in
theorem splitA1_iter (c : UInt8) (s : List UInt8) (hs : s.length ≤ 1000000000) : Iter Tryz.prog G0 80 [] [.ptr 1 0, .ptr 0 0, .ptr 2 0] [[.str s], [.str [c]], [.sc (.int .i64 1)]] (strs (splA c s)) := by
 refine Iter.of (fun _ => []) (by kernel_rfl) Tryz.func80 rfl rfl (Nat.le_of_ble_eq_true rfl) (by kernel_rfl) ?_; dsimp only [Tryz.f80, List.append_eq, List.cons_append, List.nil_append]
 intro l sf
 simp -dsimp only [push_cast, seval]
 refine loop (fun x : List UInt8 × Nat => ⟨[(0, .sc (.func (.yield l) #[] #[])), (1, .ptr 1 0), (2, .ptr 0 0), (3, .ptr 2 0)], [[.str x.1], [.str [c]], [.sc (.int .i64 1)]], 0, x.2⟩)
  (fun x => x.1.length ≤ 1000000000 ∧ (∃ done, splA c s = done ++ splA c x.1 ∧ done.length = x.2) ∧ ∀ j, j < x.2 → sf j = false) (fun x => x.1.length) (s, 0) ⟨hs, ⟨[], rfl, rfl⟩, fun j hj => by omega⟩ ?_ ?_
 ·refine Weak.mk [] rfl rfl (Nat.zero_le _) rfl ?_ ?_ <;> simp -dsimp only [WeakTm, WeakBx, CLe, CLeL, push_cast, seval] <;> omega
 ·rintro ⟨r, k⟩ hx
  simp only at hx ⊢
  have hr := hx.1
  have hsf := hx.2.2
  obtain ⟨done, hd, hdl⟩ := hx.2.1
  clear hx
  simp -dsimp only [push_cast, seval]
  refine call (indexc_fun c r) ?_
  simp -dsimp only [push_cast, seval]
  by_cases hi : Lib.indexByte r c < 0
  ·simp -dsimp only [push_cast, seval, hi]
   have hk : (strs (splA c s))[k]? = some [.str r] := by
    rw [hd, splA_none c r hi]; simp [← hdl]
   rw [hk]
   simp -dsimp only [push_cast, seval]
   refine ⟨by simp -dsimp only [WeakTm, WeakBx, CLe, CLeL, push_cast, seval], hsf, ?_⟩
   cases hk2 : sf k with
   | true => exact .inr ⟨Nat.succ_pos k, hk2⟩
   | false =>
    refine .inl ⟨?_, fun j (hj : j < k + 1) => ?_⟩
    ·rw [hd, splA_none c r hi]; simp [hdl]
    ·rcases Nat.lt_or_ge j k with g | g
     ·exact hsf j g
     ·rw [show j = k by omega]; exact hk2
  ·have hg := indexc_ge c r
   obtain ⟨i, hii⟩ : ∃ i : Nat, Lib.indexByte r c = (i : Int) := ⟨(Lib.indexByte r c).toNat, by omega⟩
   obtain ⟨hir, hsp⟩ := splA_some c r i hii
   have hk : (strs (splA c s))[k]? = some [.str (r.take (i + 1))] := by
    rw [hd, hsp]; simp [← hdl]
   rw [hii] at hi ⊢
   simp -dsimp only [push_cast, seval, hi]
   rw [hk]
   simp -dsimp only [push_cast, seval]
   refine ⟨⟨by omega, by omega⟩, by omega, by simp -dsimp only [WeakTm, WeakBx, CLe, CLeL, push_cast, seval], hsf, br (fun hk2 => ?_) (fun hk2 => ?_)⟩
   ·simp -dsimp only [push_cast, seval]
    exact .inr ⟨Nat.succ_pos k, hk2⟩
   ·simp -dsimp only [push_cast, seval]
    refine ⟨by omega, by omega, (r.drop (i + 1), k + 1), ⟨by simp; omega, ⟨done ++ [r.take (i + 1)], by rw [hd, hsp]; simp, by simp [hdl]⟩, fun j (hj : j < k + 1) => ?_⟩, by simp; omega, Weak.mk [] rfl rfl (Nat.zero_le _) rfl ?_ ?_⟩
    ·rcases Nat.lt_or_ge j k with g | g
     ·exact hsf j g
     ·rw [show j = k by omega]; exact hk2
    ·simp -dsimp only [WeakTm, WeakBx, CLe, CLeL, push_cast, seval]
    ·simp -dsimp only [WeakTm, WeakBx, CLe, CLeL, push_cast, seval]
theorem splitASeq_fun (c : UInt8) (s : List UInt8) : FunB Tryz.prog G0 66 [.str s, .str [c], .sc (.int .i64 1)] [] 0 (.clo (.func 80) [] [.ptr 1 0, .ptr 0 0, .ptr 2 0]) [[.str s], [.str [c]], [.sc (.int .i64 1)]] 0 := by
 refine FunB.of (fun _ => []) (by kernel_rfl) Tryz.func66 rfl rfl (Nat.le_of_ble_eq_true rfl) (by kernel_rfl) (Nat.le_of_ble_eq_true rfl) ?_; dsimp only [Tryz.f66, List.append_eq, List.cons_append, List.nil_append]
 simp -dsimp only [push_cast, seval]
 exact ⟨[], rfl, rfl, by simp -dsimp only [WeakTm, WeakBx, CLe, CLeL, push_cast, seval], by simp -dsimp only [WeakTm, WeakBx, CLe, CLeL, push_cast, seval]⟩
theorem SplitASeq_fun (c : UInt8) (s : List UInt8) : FunB Tryz.prog G0 43 [.str s, .str [c]] [] 0 (.clo (.func 80) [] [.ptr 1 0, .ptr 0 0, .ptr 2 0]) [[.str s], [.str [c]], [.sc (.int .i64 1)]] 0 := by
 refine FunB.of (fun _ => []) (by kernel_rfl) Tryz.func43 rfl rfl (Nat.le_of_ble_eq_true rfl) (by kernel_rfl) (Nat.le_of_ble_eq_true rfl) ?_; dsimp only [Tryz.f43, List.append_eq, List.cons_append, List.nil_append]
 simp -dsimp only [push_cast, seval]
 refine callB [] [] (splitASeq_fun c s) rfl (by simp) (by simp) (fun i hi => by cases hi) (by simp -dsimp only [push_cast, seval]) rfl ?_
 simp -dsimp only [push_cast, seval]
 exact ⟨[], rfl, rfl, by simp -dsimp only [WeakTm, WeakBx, CLe, CLeL, push_cast, seval], by simp -dsimp only [WeakTm, WeakBx, CLe, CLeL, push_cast, seval]⟩
end Go.Proofs.YtbphobmohdclaaaGreatDoor.Vcg
end
section
set_option linter.unusedVariables false
set_option linter.unusedSimpArgs false
namespace Go.Proofs.YtbphobmohdclaaaGreatDoor.Vcg
open QuotePlain (Bs quoteL plainL blanks okw unq splitW numB valV most okTo isDig)
theorem splA_lnN : ∀ {s : Bs}, ln s = none → splA 10 s = [s]
 | [], _ => rfl
 | c :: s, h => by
  unfold ln at h
  by_cases hc : c = 10
  ·rw [if_pos hc] at h; cases h
  ·rw [if_neg hc] at h
   have h' : ln s = none := by cases hq : ln s with | none => rfl | some x => rw [hq] at h; cases h
   unfold splA
   rw [if_neg hc, splA_lnN h']
theorem splA_lnS : ∀ {s a r : Bs}, ln s = some (a, r) → splA 10 s = (a ++ [10]) :: splA 10 r
 | [], a, r, h => by cases h
 | c :: s, a, r, h => by
  unfold ln at h
  by_cases hc : c = 10
  ·rw [if_pos hc] at h
   cases h
   subst hc
   conv => lhs; unfold splA
   simp
  ·rw [if_neg hc] at h
   cases hq : ln s with
   | none => rw [hq] at h; cases h
   | some x =>
    obtain ⟨a', r'⟩ := x
    rw [hq] at h
    simp only [Option.map_some, Option.some.injEq, Prod.mk.injEq] at h
    obtain ⟨rfl, rfl⟩ := h
    conv => lhs; unfold splA
    rw [if_neg hc, splA_lnS hq]
    rfl
theorem rest_fuel (rd : Bs → Option OpV) (ok : List OpV → Bool) : ∀ (f g want : Nat) (l : List OpV) (at_ : Nat) (s : Bs), s.length < f → s.length < g → restG rd ok f want l at_ s = restG rd ok g want l at_ s
 | 0, _, _, _, _, _, h, _ => by omega
 | _, 0, _, _, _, _, _, h => by omega
 | f + 1, g + 1, want, l, at_, s, hf, hg => by
  unfold restG
  split
  ·rfl
  ·split
   ·rfl
   ·rename_i a r hln
    obtain ⟨e1, _⟩ := ln_some hln
    have hlen : s.length = a.length + 1 + r.length := by rw [e1]; simp; omega
    split
    ·rfl
    ·split
     ·exact rest_fuel rd ok f g want _ _ r (by omega) (by omega)
     ·rfl
def restF (rd : Bs → Option OpV) (ok : List OpV → Bool) (want : Nat) (l : List OpV) (at_ : Nat) (s : Bs) : Option (List OpV) × Nat := restG rd ok (s.length + 1) want l at_ s
theorem restF_eq (rd : Bs → Option OpV) (ok : List OpV → Bool) (want : Nat) (l : List OpV) (at_ : Nat) (s : Bs) :
  restF rd ok want l at_ s = if l.length = want then (if s = [] then (some l, 0) else (none, at_))
  else match ln s with
   | none => (none, at_)
   | some (a, r) => match rd a with
    | none => (none, at_)
    | some o => if ok (l ++ [o]) then restF rd ok want (l ++ [o]) (at_ + a.length + 1) r else (none, at_) := by
 unfold restF
 conv => lhs; unfold restG
 by_cases hw : l.length = want
 ·rw [if_pos hw, if_pos hw]
 ·rw [if_neg hw, if_neg hw]
  cases hln : ln s with
  | none => rfl
  | some x =>
   obtain ⟨a, r⟩ := x
   obtain ⟨e1, _⟩ := ln_some hln
   have hlen : s.length = a.length + 1 + r.length := by rw [e1]; simp; omega
   simp only
   cases rd a with
   | none => rfl
   | some o =>
    simp only
    by_cases hk : ok (l ++ [o]) = true
    ·rw [if_pos hk, if_pos hk, rest_fuel rd ok s.length (r.length + 1) want _ _ r (by omega) (by omega)]
    ·rw [if_neg hk, if_neg hk]
end Go.Proofs.YtbphobmohdclaaaGreatDoor.Vcg
end
section
set_option linter.unusedVariables false
set_option maxRecDepth 100000
set_option linter.unusedSimpArgs false
namespace Go.Proofs.YtbphobmohdclaaaGreatDoor.Vcg
open Go.RowKit
open QuotePlain (Bs quoteL plainL blanks okw unq splitW numB valV most okTo isDig)
theorem indexl_fun (c : UInt8) (l : List UInt8) : Fun Tryz.prog G0 100 [.str l, .str [c]] (.sc (.int .i64 (Lib.indexByte l c))) 0 := by
 refine Fun.wrap (by kernel_rfl) fun R vs h => ?_
 obtain ⟨v1, us1, rfl, h1, h⟩ := repL_cons.1 h
 obtain ⟨v2, us2, rfl, h2, h⟩ := repL_cons.1 h
 rw [repL_nil] at h
 subst h
 rw [rep_str] at h1 h2
 subst h1 h2
 refine (Tryz.stringslite_Index_one ⟨l.toArray⟩ c R.w).mono ?_
 rintro e w' ⟨rfl, rfl⟩
 exact ⟨_, rfl, Below.refl _ _, fun R' _ => rep_sc.2 (by simp)⟩
def cut1 (c : UInt8) (l : Bs) : Bs × Bs := if Lib.indexByte l c < 0 then (l, []) else (l.take (Lib.indexByte l c).toNat, l.drop ((Lib.indexByte l c).toNat + 1))
theorem index_lt (c : UInt8) : ∀ l : Bs, Lib.indexByte l c < l.length
 | [] => by simp [Lib.indexByte]
 | b :: l => by
  have ih := index_lt c l
  unfold Lib.indexByte
  split
  ·simp <;> omega
  ·split
   ·simp <;> omega
   ·simp <;> omega
theorem lcut_fun (c : UInt8) (l : Bs) (hl : l.length ≤ 1000000) : Fun Tryz.prog G0 84 [.str l, .str [c]] (.tup [.str (cut1 c l).1, .str (cut1 c l).2, .sc (.bool (decide (0 ≤ Lib.indexByte l c)))]) 0 := by
 have hi := indexl_fun c l
 have hlt := index_lt c l
 by_cases h : Lib.indexByte l c < 0
 ·have e1 : cut1 c l = (l, []) := by unfold cut1; rw [if_pos h]
  have e2 : decide (0 ≤ Lib.indexByte l c) = false := decide_eq_false (by omega)
  have h' : (0 ≤ Lib.indexByte l c) = False := eq_false (by omega)
  refine Fun.of (fun _ => []) (by kernel_rfl) Tryz.func84 rfl rfl (Nat.le_of_ble_eq_true rfl) (by kernel_rfl) ?_; dsimp only [Tryz.f84, List.append_eq, List.cons_append, List.nil_append]
  simp -dsimp only [push_cast, seval]
  (first | refine call (hi) ?_ | refine callP (hi) ?_); simp -dsimp only [push_cast, seval]
  simp -dsimp only [push_cast, seval, h']
  exact ⟨[], rfl, rfl, by simp -dsimp only [WeakTm, WeakBx, CLe, CLeL, push_cast, seval, e1, e2]⟩
 ·obtain ⟨n, hn⟩ : ∃ n : Nat, Lib.indexByte l c = (n : Int) := ⟨(Lib.indexByte l c).toNat, by omega⟩
  have e1 : cut1 c l = (l.take n, l.drop (n + 1)) := by unfold cut1; rw [if_neg h, hn]; rfl
  have e2 : decide (0 ≤ Lib.indexByte l c) = true := decide_eq_true (by omega)
  rw [hn] at hi hlt
  have hlt : n < l.length := by omega
  have h0 : (0 ≤ (n : Int)) = True := eq_true (by omega)
  refine Fun.of (fun _ => []) (by kernel_rfl) Tryz.func84 rfl rfl (Nat.le_of_ble_eq_true rfl) (by kernel_rfl) ?_; dsimp only [Tryz.f84, List.append_eq, List.cons_append, List.nil_append]
  simp -dsimp only [push_cast, seval]
  (first | refine call (hi) ?_ | refine callP (hi) ?_); simp -dsimp only [push_cast, seval, h0]
  (try simp only [List.length_append, List.length_cons, List.length_nil, List.length_map, List.length_take, List.length_drop]); repeat (refine And.intro (by omega) ?_)
  exact ⟨[], rfl, rfl, by simp -dsimp only [WeakTm, WeakBx, CLe, CLeL, push_cast, seval, e1, e2]⟩
theorem cut_fun (c : UInt8) (l : Bs) (hl : l.length ≤ 1000000) : Fun Tryz.prog G0 68 [.str l, .str [c]] (.tup [.str (cut1 c l).1, .str (cut1 c l).2, .sc (.bool (decide (0 ≤ Lib.indexByte l c)))]) 0 := by
 have hi := lcut_fun c l hl
 refine Fun.of (fun _ => []) (by kernel_rfl) Tryz.func68 rfl rfl (Nat.le_of_ble_eq_true rfl) (by kernel_rfl) ?_; dsimp only [Tryz.f68, List.append_eq, List.cons_append, List.nil_append]
 simp -dsimp only [push_cast, seval]
 (first | refine call (hi) ?_ | refine callP (hi) ?_); simp -dsimp only [push_cast, seval]
 exact ⟨[], rfl, rfl, by simp -dsimp only [WeakTm, WeakBx, CLe, CLeL, push_cast, seval]⟩
theorem cutsuf_fun (l t : Bs) (hl : l.length ≤ 1000000) : Fun Tryz.prog G0 44 [.str l, .str t] (.tup [.str (Lib.trimSuffix l t), .sc (.bool (Lib.hasSuffix l t))]) 0 := by
 refine Fun.wrap (by kernel_rfl) fun R vs h => ?_
 obtain ⟨v1, us1, rfl, h1, h⟩ := repL_cons.1 h
 obtain ⟨v2, us2, rfl, h2, h⟩ := repL_cons.1 h
 rw [repL_nil] at h
 subst h
 rw [rep_str] at h1 h2
 subst h1 h2
 refine (Tryz.strings_CutSuffix ⟨l.toArray⟩ ⟨t.toArray⟩ R.w (by simp [ByteArray.size]; omega)).mono ?_
 rintro e w' ⟨rfl, rfl⟩
 exact ⟨_, rfl, Below.refl _ _, fun R' _ => rep_tup.2 ⟨_, rfl, repL_cons.2 ⟨_, _, rfl, rep_str.2 (by simp), repL_cons.2 ⟨_, _, rfl, rep_sc.2 (by simp), repL_nil.2 rfl⟩⟩⟩⟩
theorem clip_fun (rows : List (List C)) : Fun Tryz.prog G0 47 [.sl 5 rows] (.tight 5 rows) 0 := by
 refine Fun.of (fun _ => []) (by kernel_rfl) Tryz.func47 rfl rfl (Nat.le_of_ble_eq_true rfl) (by kernel_rfl) ?_; dsimp only [Tryz.f47, List.append_eq, List.cons_append, List.nil_append]
 simp -dsimp only [push_cast, seval]
 (try simp only [List.length_append, List.length_cons, List.length_nil, List.length_map, List.length_take, List.length_drop]); repeat (refine And.intro (by omega) ?_)
 exact ⟨[], rfl, rfl, by simp -dsimp only [WeakTm, WeakBx, CLe, CLeL, push_cast, seval, List.take_length]⟩
theorem index_at (c : UInt8) : ∀ (l : Bs) (n : Nat), Lib.indexByte l c = (n : Int) → l[n]? = some c
 | [], n, h => by
  have h : (-1 : Int) = (n : Int) := h
  omega
 | b :: l, n, h => by
  unfold Lib.indexByte at h
  by_cases hb : b = c
  ·subst hb
   simp at h
   obtain rfl : n = 0 := by omega
   rfl
  ·have hb' : (b == c) = false := by simpa using hb
   rw [hb'] at h
   simp only [Bool.false_eq_true, if_false] at h
   split at h
   ·omega
   ·rename_i g
    have g' : Lib.indexByte l c ≠ -1 := by simpa using g
    have hg := indexc_ge c l
    obtain ⟨j, rfl⟩ : ∃ j, n = j + 1 := ⟨n - 1, by omega⟩
    have := index_at c l j (by omega)
    simpa using this
theorem head_cut (a : Bs) : (headG a = if numB (cut1 32 a).2 && decide ((cut1 32 a).1 = [112, 108, 97, 110]) then some (valV (cut1 32 a).2) else none) := by
 unfold headG
 by_cases h : a.take 5 = [112, 108, 97, 110, 32]
 ·have e : a = 112 :: 108 :: 97 :: 110 :: 32 :: a.drop 5 := by
   conv => lhs; rw [← List.take_append_drop 5 a, h]
   rfl
  have hc : cut1 32 a = ([112, 108, 97, 110], a.drop 5) := by
   rw [e]
   have hi : Lib.indexByte (112 :: 108 :: 97 :: 110 :: 32 :: a.drop 5) 32 = 4 := by simp [Lib.indexByte]
   unfold cut1
   rw [hi]
   simp
  rw [if_pos h, hc]
  simp
 ·rw [if_neg h]
  symm
  rw [if_neg]
  intro hx
  simp only [Bool.and_eq_true, decide_eq_true_eq] at hx
  obtain ⟨h1, h2⟩ := hx
  unfold cut1 at h1 h2
  split at h1
  ·rename_i hi
   have h1 : numB [] = true := h1
   have := QuotePlain.num_len h1
   simp at this
  ·rename_i hi
   rw [if_neg hi] at h2
   obtain ⟨n, hn⟩ : ∃ n : Nat, Lib.indexByte a 32 = (n : Int) := ⟨(Lib.indexByte a 32).toNat, by omega⟩
   have hat := index_at 32 a n hn
   have hlt := index_lt 32 a
   rw [hn] at h2
   have h2 : a.take n = [112, 108, 97, 110] := h2
   have h4 : n = 4 := by
    have := congrArg List.length h2
    rw [List.length_take] at this
    simp at this
    omega
   subst h4
   apply h
   rw [List.take_add_one, h2, hat]
   rfl
theorem head_fun (a : Bs) (ha : a.length ≤ 1000000) : Fun Tryz.prog GL 45 [.str a] (.tup [.sc (.int .i64 (numV (cut1 32 a).2)), .sc (.bool (headG a).isSome)]) 0 := by
 have hc := (cut_fun 32 a ha).glob0 (G' := GL)
 have hl2 : (cut1 32 a).2.length ≤ a.length := by unfold cut1; split <;> simp
 have hn := number_fun (cut1 32 a).2 (by omega)
 have hh := head_cut a
 cases hb : numB (cut1 32 a).2 with
 | false =>
  have e : (headG a).isSome = false := by rw [hh, hb]; rfl
  rw [hb] at hn
  refine Fun.of (fun _ => []) (by kernel_rfl) Tryz.func45 rfl rfl (Nat.le_of_ble_eq_true rfl) (by kernel_rfl) ?_; dsimp only [Tryz.f45, List.append_eq, List.cons_append, List.nil_append]
  simp -dsimp only [push_cast, seval]
  (first | refine call (hc) ?_ | refine callP (hc) ?_); simp -dsimp only [push_cast, seval]
  (first | refine call (hn) ?_ | refine callP (hn) ?_); simp -dsimp only [push_cast, seval]
  exact ⟨[], rfl, rfl, by simp -dsimp only [WeakTm, WeakBx, CLe, CLeL, push_cast, seval, e]⟩
 | true =>
  rw [hb] at hn
  have e : (headG a).isSome = decide ((cut1 32 a).1 = [112, 108, 97, 110]) := by
   rw [hh, hb]
   by_cases h : (cut1 32 a).1 = [112, 108, 97, 110] <;> simp [h]
  refine Fun.of (fun _ => []) (by kernel_rfl) Tryz.func45 rfl rfl (Nat.le_of_ble_eq_true rfl) (by kernel_rfl) ?_; dsimp only [Tryz.f45, List.append_eq, List.cons_append, List.nil_append]
  simp -dsimp only [push_cast, seval]
  (first | refine call (hc) ?_ | refine callP (hc) ?_); simp -dsimp only [push_cast, seval]
  (first | refine call (hn) ?_ | refine callP (hn) ?_); simp -dsimp only [push_cast, seval]
  exact ⟨[], rfl, rfl, by simp -dsimp only [WeakTm, WeakBx, CLe, CLeL, push_cast, seval, e]⟩
def takeV (l : List OpV) (s : Bs) : List OpV := l ++ [(readV mayB s).getD zeroOp]
def takeB (l : List OpV) (s : Bs) : Bool := (readV mayB s).isSome && okL (takeV l s)
theorem line_parts {o : OpV} (h : LineOk o) : o.a.length ≤ (lineV o).length ∧ o.b.length ≤ (lineV o).length ∧ o.d.length ≤ (lineV o).length := by
 have key : ∀ x : Bs, quoteL x ∈ wordsV o → x.length ≤ (lineV o).length := fun x hx => by
  have h1 := word_len _ _ hx
  have h2 := text_len (unq_quote x)
  unfold lineV
  omega
 refine ⟨key _ (by simp [wordsV]), ?_, ?_⟩
 ·cases hb : hasB o.kind with
  | false => rw [h.b hb]; simp
  | true => exact key _ (by simp [wordsV, hb])
 ·by_cases h4 : o.kind = 4
  ·exact key _ (by simp [wordsV, h4])
  ·rw [h.d h4]; simp
theorem readV_short {s : Bs} (hs : s.length ≤ 100000) : short ((readV mayB s).getD zeroOp) := by
 cases hr : readV mayB s with
 | none => exact ⟨by simp [zeroOp], by simp [zeroOp], by simp [zeroOp]⟩
 | some o =>
  obtain ⟨h1, h2⟩ := (read_iff (fun o => may_ok) s o).1 hr
  have := line_parts (may_ok h1)
  rw [h2] at this
  exact ⟨by simp; omega, by simp; omega, by simp; omega⟩
theorem taken_fun (l : List OpV) (s : Bs) (hs : s.length ≤ 100000) (hx : l.length ≤ 90000) (hl : shortL l) : Fun Tryz.prog GL 46 [.tight 5 (opsC l), .str s] (.tup [.own 0 23 5 (opsC (takeV l s)), .sc (.bool (takeB l s))]) 1 := by
 have hr := read_fun s hs
 have hsl : shortL (takeV l s) := fun o ho => by
  unfold takeV at ho
  rcases List.mem_append.1 ho with h | h
  ·exact hl o h
  ·have : o = (readV mayB s).getD zeroOp := by simpa using h
   rw [this]; exact readV_short hs
 have hlen : (takeV l s).length ≤ 100000 := by unfold takeV; simp; omega
 have hp := (plan19_fun (takeV l s) hlen hsl).glob1
 have hu := (undo19_fun (takeV l s) hlen hsl).glob1
 have et : opsC (takeV l s) = opsC l ++ [opL ((readV mayB s).getD zeroOp)] := by unfold takeV; simp
 have hol : (opsC l).length = l.length := opsC_length l
 obtain ⟨o, ho⟩ : ∃ o, (readV mayB s).getD zeroOp = o := ⟨_, rfl⟩
 rw [ho] at hr et
 unfold opL at hr et
 cases hb : (readV mayB s).isSome with
 | false =>
  rw [hb] at hr
  have e : takeB l s = false := by unfold takeB; rw [hb]; rfl
  refine Fun.of (fun _ => []) (by kernel_rfl) Tryz.func46 rfl rfl (Nat.le_of_ble_eq_true rfl) (by kernel_rfl) ?_; dsimp only [Tryz.f46, List.append_eq, List.cons_append, List.nil_append]
  simp -dsimp only [push_cast, seval]
  (first | refine call (hr) ?_ | refine callP (hr) ?_); simp -dsimp only [push_cast, seval]
  refine ⟨by simp, by omega, by omega, ?_⟩
  exact ⟨[.inl 1], rfl, rfl, by simp -dsimp only [WeakTm, WeakBx, CLe, CLeL, push_cast, seval, e, et]⟩
 | true =>
  rw [hb] at hr
  cases hpb : planB (takeV l s) with
  | true =>
   have e : takeB l s = true := by unfold takeB okL; rw [hb, hpb]; rfl
   rw [hpb, et] at hp
   refine Fun.of (fun _ => []) (by kernel_rfl) Tryz.func46 rfl rfl (Nat.le_of_ble_eq_true rfl) (by kernel_rfl) ?_; dsimp only [Tryz.f46, List.append_eq, List.cons_append, List.nil_append]
   simp -dsimp only [push_cast, seval]
   (first | refine call (hr) ?_ | refine callP (hr) ?_); simp -dsimp only [push_cast, seval]
   refine ⟨by simp, by omega, by omega, ?_⟩
   (first | refine call (hp) ?_ | refine callP (hp) ?_); simp -dsimp only [push_cast, seval]
   exact ⟨[.inl 1], rfl, rfl, by simp -dsimp only [WeakTm, WeakBx, CLe, CLeL, push_cast, seval, e, et]⟩
  | false =>
   have e : takeB l s = undoB (takeV l s) := by unfold takeB okL; rw [hb, hpb]; rfl
   rw [hpb, et] at hp
   rw [et] at hu
   refine Fun.of (fun _ => []) (by kernel_rfl) Tryz.func46 rfl rfl (Nat.le_of_ble_eq_true rfl) (by kernel_rfl) ?_; dsimp only [Tryz.f46, List.append_eq, List.cons_append, List.nil_append]
   simp -dsimp only [push_cast, seval]
   (first | refine call (hr) ?_ | refine callP (hr) ?_); simp -dsimp only [push_cast, seval]
   refine ⟨by simp, by omega, by omega, ?_⟩
   (first | refine call (hp) ?_ | refine callP (hp) ?_); simp -dsimp only [push_cast, seval]
   (first | refine call (hu) ?_ | refine callP (hu) ?_); simp -dsimp only [push_cast, seval]
   exact ⟨[.inl 1], rfl, rfl, by simp -dsimp only [WeakTm, WeakBx, CLe, CLeL, push_cast, seval, e, et]⟩
end Go.Proofs.YtbphobmohdclaaaGreatDoor.Vcg
end
section
set_option linter.unusedVariables false
set_option linter.unusedSimpArgs false
namespace Go.Proofs.YtbphobmohdclaaaGreatDoor.Vcg
open QuotePlain (Bs quoteL plainL blanks okw unq splitW numB valV most okTo isDig)
structure GS where
 first : Bool
 want : Nat
 pos : Nat
 out : List OpV
 rest : Bs
def GS.text (g : GS) : Bs := match ln g.rest with | some (a, _) => a ++ [10] | none => g.rest
def GS.line (g : GS) : Bs := match ln g.rest with | some (a, _) => a | none => g.rest
def GS.ended (g : GS) : Bool := (ln g.rest).isSome
def GS.next (g : GS) : GS := ⟨false, if g.first then (headG g.line).getD 0 else g.want, g.pos + g.text.length, if g.first then [] else takeV g.out g.line, match ln g.rest with | some (_, r) => r | none => []⟩
def GS.full (g : GS) : Bool := !g.first && decide (g.out.length = g.want)
def GS.bad (g : GS) : Bool := if g.first then !(g.ended && (headG g.line).isSome) else !(g.ended && takeB g.out g.line)
def GS.stop (g : GS) : Bool := g.full || g.bad
def GS.end (g : GS) : Option (List OpV) × Nat := if g.first then getV (readV mayB) okL g.rest else restF (readV mayB) okL g.want g.out g.pos g.rest
def gs (s : Bs) : Nat → GS
 | 0 => ⟨true, 0, 0, [], s⟩
 | k + 1 => (gs s k).next
theorem GS.lnS {g : GS} {a r : Bs} (h : ln g.rest = some (a, r)) : g.text = a ++ [10] ∧ g.line = a ∧ g.next.rest = r ∧ g.ended = true := by
 unfold GS.text GS.line GS.ended GS.next
 rw [h]
 exact ⟨rfl, rfl, rfl, rfl⟩
theorem GS.lnN {g : GS} (h : ln g.rest = none) : g.text = g.rest ∧ g.line = g.rest ∧ g.ended = false := by
 unfold GS.text GS.line GS.ended
 rw [h]
 exact ⟨rfl, rfl, rfl⟩
theorem GS.text_ended {g : GS} (h : g.ended = true) : g.text = g.line ++ [10] ∧ g.rest = g.line ++ 10 :: g.next.rest ∧ (10 : UInt8) ∉ g.line := by
 unfold GS.ended at h
 cases hl : ln g.rest with
 | none => rw [hl] at h; cases h
 | some x =>
  obtain ⟨a, r⟩ := x
  obtain ⟨e1, e2⟩ := ln_some hl
  obtain ⟨t1, t2, t3, _⟩ := GS.lnS hl
  rw [t1, t2, t3]
  exact ⟨rfl, e1, e2⟩
theorem GS.text_open {g : GS} (h : g.ended = false) : g.text = g.line ∧ g.line = g.rest ∧ (10 : UInt8) ∉ g.rest ∧ ln g.rest = none := by
 unfold GS.ended at h
 cases hl : ln g.rest with
 | some x => rw [hl] at h; cases h
 | none =>
  obtain ⟨t1, t2, _⟩ := GS.lnN hl
  rw [t1, t2]
  exact ⟨rfl, rfl, ln_none hl, rfl⟩
theorem suffix_yes (a : Bs) : Lib.hasSuffix (a ++ [10]) [10] = true ∧ Lib.trimSuffix (a ++ [10]) [10] = a := by
 have h : Lib.hasSuffix (a ++ [10]) [10] = true := by unfold Lib.hasSuffix; simp
 refine ⟨h, ?_⟩
 unfold Lib.trimSuffix
 rw [if_pos h]
 simp
theorem suffix_no {a : Bs} (h : (10 : UInt8) ∉ a) : Lib.hasSuffix a [10] = false ∧ Lib.trimSuffix a [10] = a := by
 have h' : Lib.hasSuffix a [10] = false := by
  rw [Bool.eq_false_iff]
  intro hs
  unfold Lib.hasSuffix at hs
  rw [List.isSuffixOf_iff_suffix] at hs
  obtain ⟨t, rfl⟩ := hs
  exact h (by simp)
 refine ⟨h', ?_⟩
 unfold Lib.trimSuffix
 rw [if_neg (by rw [h']; simp)]
theorem GS.suffix (g : GS) : Lib.hasSuffix g.text [10] = g.ended ∧ Lib.trimSuffix g.text [10] = g.line := by
 cases h : g.ended with
 | true =>
  obtain ⟨e, _⟩ := GS.text_ended h
  rw [e]
  exact suffix_yes _
 | false =>
  obtain ⟨e1, e2, e3, _⟩ := GS.text_open h
  rw [e1, e2]
  exact suffix_no e3
theorem GS.text_nil {g : GS} : g.text = [] ↔ g.rest = [] := by
 cases h : g.ended with
 | true =>
  obtain ⟨e1, e2, _⟩ := GS.text_ended h
  rw [e1]
  constructor
  ·intro h; simp at h
  ·intro h; rw [e2] at h; simp at h
 | false =>
  obtain ⟨e1, e2, e3, _⟩ := GS.text_open h
  rw [e1, e2]
theorem GS.split (g : GS) : splA 10 g.rest = if g.ended then g.text :: splA 10 g.next.rest else [g.text] := by
 cases h : g.ended with
 | true =>
  unfold GS.ended at h
  cases hl : ln g.rest with
  | none => rw [hl] at h; cases h
  | some x =>
   obtain ⟨a, r⟩ := x
   obtain ⟨t1, t2, t3, _⟩ := GS.lnS hl
   rw [t1, t3, if_pos rfl]
   exact splA_lnS hl
 | false =>
  obtain ⟨e1, e2, e3, e4⟩ := GS.text_open h
  rw [e1, e2]
  simpa using splA_lnN e4
theorem GS.text_le (g : GS) : g.text.length ≤ g.rest.length := by
 cases h : g.ended with
 | true => obtain ⟨e1, e2, _⟩ := GS.text_ended h; rw [e1, e2]; simp
 | false => obtain ⟨e1, e2, _⟩ := GS.text_open h; rw [e1, e2]; exact Nat.le_refl _
theorem headG_num {a : Bs} {n : Nat} (h : headG a = some n) : numV (cut1 32 a).2 = n := by
 rw [head_cut] at h
 split at h
 ·rename_i hc
  simp only [Bool.and_eq_true] at hc
  cases h
  unfold numV
  rw [if_pos (QuotePlain.num_ok hc.1).1]
 ·cases h
theorem GS.end_stop {g : GS} (h : g.stop = true) (h0 : g.first = true → g.pos = 0) : g.end = if g.full && decide (g.rest = []) then (some g.out, 0) else (none, g.pos) := by
 unfold GS.stop at h
 unfold GS.end
 by_cases hf : g.first = true
 ·have h1 : g.full = false := by unfold GS.full; rw [hf]; rfl
  rw [h1, Bool.false_or] at h
  rw [if_pos hf, h1, h0 hf]
  simp only [Bool.false_and, Bool.false_eq_true, if_false]
  unfold GS.bad at h
  rw [if_pos hf] at h
  unfold getV
  unfold GS.ended GS.line at h
  cases hl : ln g.rest with
  | none => rfl
  | some x =>
   obtain ⟨a, r⟩ := x
   rw [hl] at h
   simp only [Option.isSome_some, Bool.true_and, Bool.not_eq_true', Option.isSome_eq_false_iff, Option.isNone_iff_eq_none] at h
   simp only
   rw [h]
 ·have hf : g.first = false := by simpa using hf
  rw [if_neg (by rw [hf]; simp), restF_eq]
  have h1 : g.full = decide (g.out.length = g.want) := by unfold GS.full; rw [hf]; rfl
  rw [h1]
  by_cases hw : g.out.length = g.want
  ·rw [if_pos hw]
   by_cases hr : g.rest = [] <;> simp [hw, hr]
  ·rw [if_neg hw]
   rw [h1, decide_eq_false hw, Bool.false_or] at h
   simp only [hw, decide_false, Bool.false_and, Bool.false_eq_true, if_false]
   unfold GS.bad at h
   rw [if_neg (by rw [hf]; simp)] at h
   unfold GS.ended GS.line takeB takeV at h
   cases hl : ln g.rest with
   | none => rfl
   | some x =>
    obtain ⟨a, r⟩ := x
    rw [hl] at h
    simp only [Option.isSome_some, Bool.true_and] at h
    simp only
    cases hr : readV mayB a with
    | none => rfl
    | some o =>
     rw [hr] at h
     simp only [Option.isSome_some, Option.getD_some, Bool.true_and, Bool.not_eq_true'] at h
     simp only
     rw [h]
     rfl
theorem GS.end_next {g : GS} (h : g.stop = false) (h0 : g.first = true → g.pos = 0 ∧ g.out = []) : g.next.end = g.end ∧ g.ended = true := by
 unfold GS.stop at h
 simp only [Bool.or_eq_false_iff] at h
 obtain ⟨h1, h2⟩ := h
 have hn : g.next.first = false := rfl
 by_cases hf : g.first = true
 ·unfold GS.bad at h2
  rw [if_pos hf] at h2
  simp only [Bool.not_eq_false', Bool.and_eq_true] at h2
  refine ⟨?_, h2.1⟩
  unfold GS.end
  rw [if_pos hf, if_neg (by rw [hn]; simp)]
  unfold getV
  have he := h2.1
  unfold GS.ended at he
  cases hl : ln g.rest with
  | none => rw [hl] at he; cases he
  | some x =>
   obtain ⟨a, r⟩ := x
   obtain ⟨n, hh⟩ := Option.isSome_iff_exists.1 h2.2
   have hla : g.line = a := by unfold GS.line; rw [hl]
   have hlt : g.text = a ++ [10] := by unfold GS.text; rw [hl]
   rw [hla] at hh
   obtain ⟨e1, _⟩ := ln_some hl
   simp only
   rw [hh]
   simp only [GS.next, hl, hf, if_true, hla, hlt, hh, Option.getD_some, (h0 hf).1]
   unfold restF
   have hlen : g.rest.length = a.length + 1 + r.length := by rw [e1]; simp; omega
   rw [rest_fuel _ _ (r.length + 1) (g.rest.length + 1) _ _ _ r (by omega) (by omega)]
   simp
 ·have hf : g.first = false := by simpa using hf
  unfold GS.bad at h2
  rw [if_neg (by rw [hf]; simp)] at h2
  simp only [Bool.not_eq_false', Bool.and_eq_true] at h2
  refine ⟨?_, h2.1⟩
  unfold GS.end
  rw [if_neg (by rw [hn]; simp), if_neg (by rw [hf]; simp)]
  have hw : g.out.length ≠ g.want := by
   unfold GS.full at h1
   rw [hf] at h1
   simpa using h1
  conv => rhs; rw [restF_eq, if_neg hw]
  have he := h2.1
  unfold GS.ended at he
  cases hl : ln g.rest with
  | none => rw [hl] at he; cases he
  | some x =>
   obtain ⟨a, r⟩ := x
   have hla : g.line = a := by unfold GS.line; rw [hl]
   have hlt : g.text = a ++ [10] := by unfold GS.text; rw [hl]
   have hb := h2.2
   rw [hla] at hb
   unfold takeB at hb
   simp only [Bool.and_eq_true] at hb
   obtain ⟨o, ho⟩ := Option.isSome_iff_exists.1 hb.1
   have hb2 := hb.2
   unfold takeV at hb2
   rw [ho] at hb2
   simp only [Option.getD_some] at hb2
   simp only
   rw [ho]
   simp only
   rw [if_pos hb2]
   simp only [GS.next, hl, hf, Bool.false_eq_true, if_false, hla, hlt]
   unfold takeV
   rw [ho]
   simp [Nat.add_assoc]
structure LinesOk (s : Bs) : Prop where
 size : s.length ≤ 1000000000
 many : (splA 10 s).length ≤ 50000
 line : ∀ x ∈ splA 10 s, x.length ≤ 100000
theorem splA_mem : ∀ (s x : Bs), x ∈ splA 10 s → x.length ≤ s.length
  | [], x, h => by
    have : x = [] := by simpa [splA] using h
    rw [this]; exact Nat.le_refl _
  | b :: s, x, h => by
    unfold splA at h
    split at h
    · rcases List.mem_cons.1 h with rfl | h
      · simp
      · have := splA_mem s x h; simp; omega
    · cases hq : splA 10 s with
      | nil => rw [hq] at h; have : x = [b] := by simpa using h
               rw [this]; simp
      | cons y r =>
        rw [hq] at h
        rcases List.mem_cons.1 h with rfl | h
        · have := splA_mem s y (by rw [hq]; simp); simp; omega
        · have := splA_mem s x (by rw [hq]; simp [h]); simp; omega
theorem linesOk_short {s : Bs} (h : s.length ≤ 40000) : LinesOk s :=
 ⟨by omega, by have := splA_length 10 s; omega, fun x hx => by have := splA_mem s x hx; omega⟩
structure GsOk (s : Bs) (k : Nat) (g : GS) : Prop where
 done : ∃ d, splA 10 s = d ++ splA 10 g.rest ∧ d.length = k
 ends : g.end = getV (readV mayB) okL s
 len : g.pos + g.rest.length = s.length
 first : g.first = decide (k = 0)
 zero : g.first = true → g.pos = 0 ∧ g.out = []
 many : g.out.length ≤ k
 short : shortL g.out
theorem gs_ok (s : Bs) (hs : LinesOk s) : ∀ k, (∀ j, j < k → (gs s j).stop = false) → GsOk s k (gs s k)
 | 0, _ => ⟨⟨[], rfl, rfl⟩, rfl, by simp [gs], rfl, fun _ => ⟨rfl, rfl⟩, Nat.le_refl _, fun o ho => by cases ho⟩
 | k + 1, h => by
  have ih := gs_ok s hs k fun j hj => h j (by omega)
  have hk := h k (by omega)
  obtain ⟨e1, e2⟩ := GS.end_next hk ih.zero
  obtain ⟨t1, t2, t3⟩ := GS.text_ended e2
  have hsp := GS.split (gs s k)
  rw [if_pos e2] at hsp
  have hlen := ih.len
  have htl : (gs s k).text.length = (gs s k).line.length + 1 := by rw [t1]; simp
  have hrl : (gs s k).rest.length = (gs s k).line.length + 1 + (gs s k).next.rest.length := by
   conv => lhs; rw [t2]
   simp; omega
  obtain ⟨d, hd, hdl⟩ := ih.done
  have hpos : (gs s (k + 1)).pos = (gs s k).pos + (gs s k).text.length := rfl
  have hm := ih.many
  refine ⟨⟨d ++ [(gs s k).text], ?_, by simp [hdl]⟩, ?_, ?_, ?_, ?_, ?_, ?_⟩
  ·rw [hd, hsp, List.append_assoc]; rfl
  ·rw [← ih.ends]; exact e1
  ·show (gs s (k + 1)).pos + (gs s k).next.rest.length = _
   omega
  ·show false = _
   simp
  ·intro hf; cases hf
  ·show (if (gs s k).first then [] else takeV (gs s k).out (gs s k).line).length ≤ _
   split
   ·simp
   ·unfold takeV; simp; omega
  ·show shortL (if (gs s k).first then [] else takeV (gs s k).out (gs s k).line)
   split
   ·intro o ho; cases ho
   ·intro o ho
    unfold takeV at ho
    rcases List.mem_append.1 ho with ho | ho
    ·exact ih.short o ho
    ·have : o = (readV mayB (gs s k).line).getD zeroOp := by simpa using ho
     rw [this]
     have hmem : (gs s k).text ∈ splA 10 s := by rw [hd, hsp]; simp
     have := hs.line _ hmem
     exact readV_short (by omega)
theorem GsOk.item {s : Bs} {k : Nat} {g : GS} (h : GsOk s k g) {t : Bs} (ht : (splA 10 s)[k]? = some t) : t = g.text := by
 obtain ⟨d, hd, hdl⟩ := h.done
 rw [hd, List.getElem?_append_right (by omega), hdl, Nat.sub_self, GS.split] at ht
 split at ht <;> simpa using ht.symm
theorem GsOk.cnt {s : Bs} {k : Nat} {g : GS} (h : GsOk s k g) : k ≤ (splA 10 s).length ∧ g.text ∈ splA 10 s := by
 obtain ⟨d, hd, hdl⟩ := h.done
 refine ⟨by rw [hd]; simp; omega, ?_⟩
 rw [hd, GS.split]
 split <;> simp
theorem GS.line_text (g : GS) : g.line.length ≤ g.text.length := by
 cases h : g.ended with
 | true => obtain ⟨e, _⟩ := GS.text_ended h; rw [e]; simp
 | false => obtain ⟨e, _⟩ := GS.text_open h; rw [e]; exact Nat.le_refl _
theorem GsOk.none {s : Bs} {k : Nat} {g : GS} (h : GsOk s k g) (hk : k = (splA 10 s).length) : False := by
 obtain ⟨d, hd, hdl⟩ := h.done
 have := congrArg List.length hd
 rw [List.length_append, GS.split] at this
 split at this <;> simp at this <;> omega
end Go.Proofs.YtbphobmohdclaaaGreatDoor.Vcg
end
section
set_option linter.unusedVariables false
set_option maxRecDepth 100000
set_option linter.unusedSimpArgs false
namespace Go.Proofs.YtbphobmohdclaaaGreatDoor.Vcg
open Go.RowKit
open QuotePlain (Bs quoteL plainL blanks okw unq splitW numB valV most okTo isDig)
def gotL (x : Option (List OpV) × Nat) : List OpV := x.1.getD []
def gotE (x : Option (List OpV) × Nat) : Int := if x.1.isSome then 0 else 12
def gotC (x : Option (List OpV) × Nat) : C := .tup [.sl 5 (opsC (gotL x)), .agg [.sc (.int .i64 x.2), .sc (.int .i64 (gotE x))]]
def gsSt (g : GS) : List (List C) := [[.sc (.slice none 0 0)], [.sc (.int .i64 0), .sc (.int .i64 0)], [.tight 5 (opsC g.out)], [.sc (.int .i64 g.want)], [.sc (.int .i64 g.pos)], [.sc (.bool g.first)]]
set_option maxHeartbeats 4000000 in
theorem get_fun (s : Bs) (hs : LinesOk s) : Fun Tryz.prog GL 16 [.str s] (gotC (getV (readV mayB) okL s)) 0 := by
 have hit := splitA1_iter 10 s hs.size
 refine Fun.of (fun i => if i = 13 then floatB 1 [true] else if i = 18 then floatB 1 [true] else []) (by kernel_rfl) Tryz.func16 rfl rfl (Nat.le_of_ble_eq_true rfl) (by kernel_rfl) ?_; dsimp only [Tryz.f16, List.append_eq, List.cons_append, List.nil_append]
 simp -dsimp only [push_cast, seval]
 refine callB [] [] ((SplitASeq_fun 10 s).glob0) rfl (by simp) (by simp) (fun i hi => by cases hi) (by simp -dsimp only [push_cast, seval]) rfl ?_
 simp -dsimp only [push_cast, seval]
 refine range (strs (splA 10 s)) (fun k => (gs s k).stop) 6 (fun k => ⟨[], gsSt (gs s k), 0, 0⟩) hit.glob0 (by simp -dsimp only [push_cast, seval]) (by simp -dsimp only [push_cast, seval]) (by simp -dsimp only [push_cast, seval]) (Nat.le_of_ble_eq_true rfl) (by simp -dsimp only [push_cast, seval]) (fun it h => ?_) (fun j _ => rfl) ?_ (fun k it hk hsf => ?_) (fun hsf => ?_)
 ·obtain ⟨x, _, rfl⟩ := List.mem_map.1 h; rfl
 ·exact Weak.mk [] rfl rfl (Nat.le_of_ble_eq_true rfl) rfl (by simp -dsimp only [WeakTm, WeakBx, CLe, CLeL, push_cast, seval]) (by simp -dsimp only [WeakTm, WeakBx, CLe, CLeL, push_cast, seval, gsSt, gs])
 ·obtain ⟨x, hx, rfl⟩ := strs_get hk
  have hok := gs_ok s hs k hsf
  have hxt := hok.item hx
  subst hxt
  have hlen := hok.len
  have hnx : gs s (k + 1) = (gs s k).next := rfl
  have hsfx := (gs s k).suffix
  have hes : (gs s k).stop = true → _ := fun h => GS.end_stop h fun hf => (hok.zero hf).1
  have hen := hok.ends
  have hmany := hok.many
  obtain ⟨hcnt, hmem⟩ := hok.cnt
  have htxl := hs.line _ hmem
  have hcn2 := hs.many
  have hsz := hs.size
  clear hmem
  have hshort := hok.short
  have hfz := hok.zero
  rw [hnx]
  clear hx hsf hnx hok hk
  generalize gs s k = g at *
  have hcs := (cutsuf_fun g.text [10] (by omega)).glob0 (G' := GL)
  rw [hsfx.1, hsfx.2] at hcs
  have hll : g.line.length ≤ 100000 := by have h9 := GS.line_text g; omega
  unfold gsSt
  by_cases hf : g.first = true
  ·have hfull : g.full = false := by unfold GS.full; rw [hf]; rfl
   have hbad : g.bad = !(g.ended && (headG g.line).isSome) := by unfold GS.bad; rw [if_pos hf]
   have hst : g.stop = !(g.ended && (headG g.line).isSome) := by unfold GS.stop; rw [hfull, hbad, Bool.false_or]
   have hh := head_fun g.line (by omega)
   cases he : g.ended with
   | false =>
    rw [he] at hcs hst
    have hs1 : g.stop = true := hst
    simp -dsimp only [push_cast, seval, hf]
    (first | refine call (hcs) ?_ | refine callP (hcs) ?_); simp -dsimp only [push_cast, seval]
    (first | refine call (hh) ?_ | refine callP (hh) ?_); simp -dsimp only [push_cast, seval]
    have hr : getV (readV mayB) okL s = (none, g.pos) := by rw [← hen, hes hs1]; simp [hfull]
    refine ⟨hs1, ⟨[], [[.sc (.slice none 0 0)], [.sc (.int .i64 g.pos), .sc (.int .i64 12)], [.any], [.any], [.any], [.any]], 0, 0⟩, rfl, Weak.mk [] rfl rfl (Nat.le_of_ble_eq_true rfl) rfl (by simp -dsimp only [WeakTm, WeakBx, CLe, CLeL, push_cast, seval]) (by simp -dsimp only [WeakTm, WeakBx, CLe, CLeL, push_cast, seval]), ?_⟩
    simp -dsimp only [push_cast, seval]
    exact ⟨[], rfl, rfl, by simp -dsimp only [WeakTm, WeakBx, CLe, CLeL, push_cast, seval, hr, gotC, gotL, gotE, Option.getD_none, Option.isSome_none]⟩
   | true =>
    rw [he] at hcs hst
    cases hhd : headG g.line with
    | none =>
     rw [hhd] at hh hst
     simp only [Option.isSome_none] at hh
     have hs1 : g.stop = true := hst
     simp -dsimp only [push_cast, seval, hf]
     (first | refine call (hcs) ?_ | refine callP (hcs) ?_); simp -dsimp only [push_cast, seval]
     (first | refine call (hh) ?_ | refine callP (hh) ?_); simp -dsimp only [push_cast, seval]
     have hr : getV (readV mayB) okL s = (none, g.pos) := by rw [← hen, hes hs1]; simp [hfull]
     refine ⟨hs1, ⟨[], [[.sc (.slice none 0 0)], [.sc (.int .i64 g.pos), .sc (.int .i64 12)], [.any], [.any], [.any], [.any]], 0, 0⟩, rfl, Weak.mk [] rfl rfl (Nat.le_of_ble_eq_true rfl) rfl (by simp -dsimp only [WeakTm, WeakBx, CLe, CLeL, push_cast, seval]) (by simp -dsimp only [WeakTm, WeakBx, CLe, CLeL, push_cast, seval]), ?_⟩
     simp -dsimp only [push_cast, seval]
     exact ⟨[], rfl, rfl, by simp -dsimp only [WeakTm, WeakBx, CLe, CLeL, push_cast, seval, hr, gotC, gotL, gotE, Option.getD_none, Option.isSome_none]⟩
    | some n =>
     have hnum := headG_num hhd
     rw [hnum, hhd] at hh
     rw [hhd] at hst
     simp only [Option.isSome_some] at hh
     have hs1 : g.stop = false := hst
     have htl := GS.text_le g
     have ho0 := (hfz hf).2
     have hnx : g.next = ⟨false, n, g.pos + g.text.length, [], g.next.rest⟩ := by
      show (⟨_, _, _, _, _⟩ : GS) = _
      rw [hhd, if_pos hf, if_pos hf]; rfl
     rw [hnx]
     simp -dsimp only [push_cast, seval, hf]
     (first | refine call (hcs) ?_ | refine callP (hcs) ?_); simp -dsimp only [push_cast, seval]
     (first | refine call (hh) ?_ | refine callP (hh) ?_); simp -dsimp only [push_cast, seval]
     refine ⟨⟨by omega, by omega⟩, hs1, Weak.mk [] rfl rfl (Nat.le_of_ble_eq_true rfl) rfl (by simp -dsimp only [WeakTm, WeakBx, CLe, CLeL, push_cast, seval]) (by simp -dsimp only [WeakTm, WeakBx, CLe, CLeL, push_cast, seval, ho0])⟩
  ·have hf0 : g.first = false := by simpa using hf
   have hfl : g.full = decide (g.out.length = g.want) := by unfold GS.full; rw [hf0]; rfl
   have hol : (opsC g.out).length = g.out.length := opsC_length g.out
   by_cases hw : g.out.length = g.want
   ·have hfull : g.full = true := by rw [hfl]; exact decide_eq_true hw
    have hs1 : g.stop = true := by unfold GS.stop; rw [hfull]; rfl
    have hw2 := eq_true hw
    by_cases htx : g.text = []
    ·have hrs := GS.text_nil.1 htx
     have hr : getV (readV mayB) okL s = (some g.out, 0) := by rw [← hen, hes hs1, hfull, hrs]; simp
     have htx2 := eq_true htx
     simp -dsimp only [push_cast, seval, hf0]
     (first | refine call (hcs) ?_ | refine callP (hcs) ?_); simp -dsimp only [push_cast, seval]
     simp -dsimp only [push_cast, seval, hol, hw2, htx2]
     refine ⟨hs1, ⟨[], [[.tight 5 (opsC g.out)], [.sc (.int .i64 0), .sc (.int .i64 0)], [.any], [.any], [.any], [.any]], 0, 0⟩, rfl, Weak.mk [] rfl rfl (Nat.le_of_ble_eq_true rfl) rfl (by simp -dsimp only [WeakTm, WeakBx, CLe, CLeL, push_cast, seval]) (by simp -dsimp only [WeakTm, WeakBx, CLe, CLeL, push_cast, seval]), ?_⟩
     simp -dsimp only [push_cast, seval]
     exact ⟨[], rfl, rfl, by simp -dsimp only [WeakTm, WeakBx, CLe, CLeL, push_cast, seval, hr, gotC, gotL, gotE, Option.getD_some, Option.isSome_some]⟩
    ·have hrs : g.rest ≠ [] := fun h => htx (GS.text_nil.2 h)
     have htx2 := eq_false htx
     simp -dsimp only [push_cast, seval, hf0]
     (first | refine call (hcs) ?_ | refine callP (hcs) ?_); simp -dsimp only [push_cast, seval]
     simp -dsimp only [push_cast, seval, hol, hw2, htx2]
     have hr : getV (readV mayB) okL s = (none, g.pos) := by rw [← hen, hes hs1]; simp [hrs]
     refine ⟨hs1, ⟨[], [[.sc (.slice none 0 0)], [.sc (.int .i64 g.pos), .sc (.int .i64 12)], [.any], [.any], [.any], [.any]], 0, 0⟩, rfl, Weak.mk [] rfl rfl (Nat.le_of_ble_eq_true rfl) rfl (by simp -dsimp only [WeakTm, WeakBx, CLe, CLeL, push_cast, seval]) (by simp -dsimp only [WeakTm, WeakBx, CLe, CLeL, push_cast, seval]), ?_⟩
     simp -dsimp only [push_cast, seval]
     exact ⟨[], rfl, rfl, by simp -dsimp only [WeakTm, WeakBx, CLe, CLeL, push_cast, seval, hr, gotC, gotL, gotE, Option.getD_none, Option.isSome_none]⟩
   ·have hfull : g.full = false := by rw [hfl]; exact decide_eq_false hw
    have hw2 := eq_false hw
    have hst : g.stop = !(g.ended && takeB g.out g.line) := by
     unfold GS.stop GS.bad
     rw [hfull, if_neg hf, Bool.false_or]
    have htk := taken_fun g.out g.line hll (by omega) hshort
    have hcl := (clip_fun (opsC (takeV g.out g.line))).glob0 (G' := GL)
    have hbd := GS.text_le g
    cases he : g.ended with
    | false =>
     rw [he] at hcs hst
     have hs1 : g.stop = true := hst
     simp -dsimp only [push_cast, seval, hf0]
     (first | refine call (hcs) ?_ | refine callP (hcs) ?_); simp -dsimp only [push_cast, seval]
     simp -dsimp only [push_cast, seval, hol, hw2]
     (first | refine call (htk) ?_ | refine callP (htk) ?_); simp -dsimp only [push_cast, seval]
     (first | refine call (hcl) ?_ | refine callP (hcl) ?_); simp -dsimp only [push_cast, seval]
     have hr : getV (readV mayB) okL s = (none, g.pos) := by rw [← hen, hes hs1]; simp [hfull]
     refine ⟨hs1, ⟨[], [[.sc (.slice none 0 0)], [.sc (.int .i64 g.pos), .sc (.int .i64 12)], [.any], [.any], [.any], [.any]], 0, 0⟩, rfl, Weak.mk [] rfl rfl (Nat.le_of_ble_eq_true rfl) rfl (by simp -dsimp only [WeakTm, WeakBx, CLe, CLeL, push_cast, seval]) (by simp -dsimp only [WeakTm, WeakBx, CLe, CLeL, push_cast, seval]), ?_⟩
     simp -dsimp only [push_cast, seval]
     exact ⟨[], rfl, rfl, by simp -dsimp only [WeakTm, WeakBx, CLe, CLeL, push_cast, seval, hr, gotC, gotL, gotE, Option.getD_none, Option.isSome_none]⟩
    | true =>
     rw [he] at hcs hst
     cases htb : takeB g.out g.line with
     | false =>
      rw [htb] at htk hst
      have hs1 : g.stop = true := hst
      simp -dsimp only [push_cast, seval, hf0]
      (first | refine call (hcs) ?_ | refine callP (hcs) ?_); simp -dsimp only [push_cast, seval]
      simp -dsimp only [push_cast, seval, hol, hw2]
      (first | refine call (htk) ?_ | refine callP (htk) ?_); simp -dsimp only [push_cast, seval]
      (first | refine call (hcl) ?_ | refine callP (hcl) ?_); simp -dsimp only [push_cast, seval]
      have hr : getV (readV mayB) okL s = (none, g.pos) := by rw [← hen, hes hs1]; simp [hfull]
      refine ⟨hs1, ⟨[], [[.sc (.slice none 0 0)], [.sc (.int .i64 g.pos), .sc (.int .i64 12)], [.any], [.any], [.any], [.any]], 0, 0⟩, rfl, Weak.mk [] rfl rfl (Nat.le_of_ble_eq_true rfl) rfl (by simp -dsimp only [WeakTm, WeakBx, CLe, CLeL, push_cast, seval]) (by simp -dsimp only [WeakTm, WeakBx, CLe, CLeL, push_cast, seval]), ?_⟩
      simp -dsimp only [push_cast, seval]
      exact ⟨[], rfl, rfl, by simp -dsimp only [WeakTm, WeakBx, CLe, CLeL, push_cast, seval, hr, gotC, gotL, gotE, Option.getD_none, Option.isSome_none]⟩
     | true =>
      rw [htb] at htk hst
      have hs1 : g.stop = false := hst
      have hnx : g.next = ⟨false, g.want, g.pos + g.text.length, takeV g.out g.line, g.next.rest⟩ := by
       show (⟨_, _, _, _, _⟩ : GS) = _
       rw [if_neg hf, if_neg hf]; rfl
      rw [hnx]
      simp -dsimp only [push_cast, seval, hf0]
      (first | refine call (hcs) ?_ | refine callP (hcs) ?_); simp -dsimp only [push_cast, seval]
      simp -dsimp only [push_cast, seval, hol, hw2]
      (first | refine call (htk) ?_ | refine callP (htk) ?_); simp -dsimp only [push_cast, seval]
      (first | refine call (hcl) ?_ | refine callP (hcl) ?_); simp -dsimp only [push_cast, seval]
      refine ⟨⟨by omega, by omega⟩, hs1, Weak.mk [] rfl rfl (Nat.le_of_ble_eq_true rfl) rfl (by simp -dsimp only [WeakTm, WeakBx, CLe, CLeL, push_cast, seval]) (by simp -dsimp only [WeakTm, WeakBx, CLe, CLeL, push_cast, seval])⟩
 ·exact (GsOk.none (gs_ok s hs _ fun j hj => hsf j (by simpa using hj)) (by simp)).elim
end Go.Proofs.YtbphobmohdclaaaGreatDoor.Vcg
end
section
set_option linter.unusedVariables false
set_option maxRecDepth 100000
set_option linter.unusedSimpArgs false
namespace Go.Proofs.YtbphobmohdclaaaGreatDoor.Vcg
open Go.RowKit
open QuotePlain (Bs quoteL plainL blanks okw unq splitW numB valV most okTo isDig)
end Go.Proofs.YtbphobmohdclaaaGreatDoor.Vcg
end
section
set_option linter.unusedVariables false
set_option maxRecDepth 100000
set_option linter.unusedSimpArgs false
namespace Go.Proofs.YtbphobmohdclaaaGreatDoor.Vcg
open Go.RowKit
open QuotePlain (Bs quoteL plainL blanks okw unq splitW numB valV most okTo isDig)
end Go.Proofs.YtbphobmohdclaaaGreatDoor.Vcg
end
section
set_option linter.unusedVariables false
set_option maxRecDepth 100000
set_option linter.unusedSimpArgs false
namespace Go.Proofs.YtbphobmohdclaaaGreatDoor.Vcg
open Go.RowKit
open Kit QuoteWalk
open QuotePlain (Bs quoteL plainL blanks okw unq splitW numB valV most okTo isDig)
theorem ext_below {R : Env} {w : World} (hb : Below R.w.heap.size R.w w) : Ext R ⟨w, R.M, R.F⟩ where
 cell b o v hc hm := by
  have hlt : b < R.w.heap.size := by
   rcases Nat.lt_or_ge b R.w.heap.size with h | h
   ·exact h
   ·simp [World.cell?, Array.getElem?_eq_none h] at hc
  exact ⟨by rw [hb.cell (p := ⟨b, o, none⟩) hlt]; exact hc, hm⟩
 whole b cs ty fl hc hm := by
  have hlt : b < R.w.heap.size := (Array.getElem?_eq_some_iff.1 hc).1
  exact ⟨by rw [hb.block b hlt]; exact hc, hm⟩
theorem Fun.said {P : Program} {G : Globs} {f : FuncId} {args : List C} {r : C} {n : Nat} (h : Fun P G f args r n) {u : Value} (hr : ∀ R L v, Rep R L r v → v = u) {R : Env} {w : World} {vs : List Value} (hg : GlobOk G R) (hb : Below R.w.heap.size R.w w) (ha : RepL R noLoc args vs) :
  Calls P f vs.toArray w fun e w' => e = .returned u ∧ Below w.heap.size w w' := by
 have he := ext_below hb
 refine (h.2 ⟨w, R.M, R.F⟩ vs (hg.ext he) (RepL.ext he (LocLe.refl _) _ _ ha)).mono ?_
 rintro e w' ⟨v, R', L', rfl, rfl, st, hv⟩
 exact ⟨by rw [hr _ _ _ hv], st.below⟩
theorem said_str {R : Env} {L : Loc} {l : Bs} {v : Value} (h : Rep R L (.str l) v) : v = .string (ofL l) := rep_str.1 h
theorem said_sc {R : Env} {L : Loc} {u v : Value} (h : Rep R L (.sc u) v) : v = u := rep_sc.1 h
theorem Bld.below {B : Nat} {l : Bs} {w w' : World} (h : Bld B l w) (hb : Below w.heap.size w w') : Bld B l w' := by
 obtain ⟨h1, v, h2, h3, h4⟩ := h
 exact ⟨h1, v, by rw [hb.block _ (Array.getElem?_eq_some_iff.1 h2).1]; exact h2, ownsRow_below h3 hb (Nat.le_refl _), h4⟩
def Bld0 (B : Nat) (w : World) : Prop := Lib.BuilderAt 65 5 B B (.pointer none) [] w
theorem Bld0.below {B : Nat} {w w' : World} (h : Bld0 B w) (hb : Below w.heap.size w w') : Bld0 B w' := by
 obtain ⟨h1, v, h2, h3, h4⟩ := h
 exact ⟨h1, v, by rw [hb.block _ (Array.getElem?_eq_some_iff.1 h2).1]; exact h2, ownsRow_below h3 hb (Nat.le_refl _), h4⟩
theorem bld0_alloc (w : World) : Bld0 w.heap.size (w.alloc (.cells #[.pointer none, .slice none 0 0] 65 (0, 0))) := by
 rcases Lib.fresh_isBuilder 65 5 w with h | h
 ·exact h
 ·obtain ⟨_, v, hb, _⟩ := h
  rw [heap_alloc_new] at hb
  simp at hb
theorem writeString0 (B : Nat) (w : World) (x : ByteArray) (h : Bld0 B w) (hl : x.size ≤ 140737488355328) (hB : B ≤ w.heap.size) :
  Calls Tryz.prog 41 #[.pointer (some ⟨B, 0, none⟩), .string x] w fun e w' => e = .returned (.tuple #[.int .i64 x.size, .nilIface]) ∧ Bld B (toL x) w' ∧ Below B w w' :=
 Tryz.zBuilder_WriteString B B [] x w (.inl h) (by simpa using hl) hB
theorem row_cells {R : Env} {l : List OpV} {v : Value} (h : Rep R noLoc (.sl 5 (opsC l)) v) (k : Nat) (hk : k < l.length) : ∃ b o cap, v = .slice (some ⟨b, o, none⟩) l.length cap ∧ b < R.w.heap.size ∧ l.length ≤ cap ∧ cap ≤ maxLen ∧
  R.w.cell? ⟨b, o + k * 5, none⟩ = some (.int .i64 l[k].kind) ∧ R.w.cell? ⟨b, o + k * 5 + 1, none⟩ = some (.int .i64 l[k].slot) ∧ R.w.cell? ⟨b, o + k * 5 + 2, none⟩ = some (.string (ofL l[k].a)) ∧ R.w.cell? ⟨b, o + k * 5 + 3, none⟩ = some (.string (ofL l[k].b)) ∧ R.w.cell? ⟨b, o + k * 5 + 4, none⟩ = some (.string (ofL l[k].d)) := by
 unfold Rep at h
 obtain ⟨a, cap, e, h1, h2, h3⟩ := h
 rcases h3 with h3 | ⟨b, o, rfl, h3⟩
 ·have : l.length = 0 := by rw [← opsC_length, h3]; rfl
  omega
 ·rw [opsC_length] at e h1
  have key : ∀ (l : List OpV) (o k : Nat) (hk : k < l.length), RepRows R (opsC l) 5 b o → R.w.cell? ⟨b, o + k * 5, none⟩ = some (.int .i64 l[k].kind) ∧ R.w.cell? ⟨b, o + k * 5 + 1, none⟩ = some (.int .i64 l[k].slot) ∧ R.w.cell? ⟨b, o + k * 5 + 2, none⟩ = some (.string (ofL l[k].a)) ∧ R.w.cell? ⟨b, o + k * 5 + 3, none⟩ = some (.string (ofL l[k].b)) ∧ R.w.cell? ⟨b, o + k * 5 + 4, none⟩ = some (.string (ofL l[k].d)) := by
   intro l
   induction l with
   | nil => intro o k hk; simp at hk
   | cons x r ih =>
    intro o k hk h
    have h : RepRows R (opL x :: opsC r) 5 b o := h
    unfold RepRows at h
    obtain ⟨_, h4, h5⟩ := h
    cases k with
    | zero =>
     unfold opL at h4
     simp only [RepCells] at h4
     obtain ⟨⟨v1, c1, _, r1, _⟩, ⟨v2, c2, _, r2, _⟩, ⟨v3, c3, _, r3, _⟩, ⟨v4, c4, _, r4, _⟩, ⟨v5, c5, _, r5, _⟩, _⟩ := h4
     rw [rep_sc] at r1 r2
     rw [rep_str] at r3 r4 r5
     subst r1 r2 r3 r4 r5
     simp only [Nat.zero_mul, Nat.add_zero, List.getElem_cons_zero]
     exact ⟨c1, c2, c3, c4, c5⟩
    | succ k =>
     have := ih (o + 5) k (by simpa using hk) h5
     rw [show o + (k + 1) * 5 = o + 5 + k * 5 by omega]
     simpa using this
  have h9 := key l o k hk h3
  refine ⟨b, o, cap, e, ?_, h1, h2, h9⟩
  rcases Nat.lt_or_ge b R.w.heap.size with h | h
  ·exact h
  ·have := h9.1
   simp [World.cell?, Array.getElem?_eq_none h] at this
def PutPost (l : List OpV) (w : World) (e : Ending) (w' : World) : Prop := e = .returned (.tuple #[.string (ofL (putTxt l)), .int .i64 (putE l)]) ∧ Below w.heap.size w w'
theorem put_none (l : List OpV) (hok : okL l = false) (hx : l.length ≤ 10000) (hl : shortL l) (R : Env) (v : Value) (hg : GlobOk GL R) (hv : Rep R noLoc (.sl 5 (opsC l)) v) : Calls Tryz.prog 14 #[v] R.w (PutPost l R.w) := by
 have h1 : planB l = false := by
  cases h : planB l with
  | false => rfl
  | true => unfold okL at hok; rw [h] at hok; cases hok
 have h2 : undoB l = false := by
  cases h : undoB l with
  | false => rfl
  | true => unfold okL at hok; rw [h, Bool.or_true] at hok; cases hok
 have hp := (plan19_fun l (by omega) hl).glob1
 have hu := (undo19_fun l (by omega) hl).glob1
 rw [h1] at hp
 rw [h2] at hu
 have hvl := repL_cons.2 ⟨v, [], rfl, hv, repL_nil.2 rfl⟩
 have cp := Lib.hid (hp.said (fun _ _ _ => said_sc) hg (Below.refl _ _) hvl)
 have cu := Lib.hid (fun w hb => hu.said (w := w) (fun _ _ _ => said_sc) hg hb hvl)
 have e1 := Lib.hid (show putTxt l = [] by unfold putTxt; rw [hok]; rfl)
 have e2 := Lib.hid (show putE l = 12 by unfold putE; rw [hok]; rfl)
 clear hp hu hvl hv h1 h2 hok
 go_enter Tryz.func14, Tryz.ntmps14
 go_wp2_with fail
 refine cp.out.mono ?_
 rintro e w1 ⟨rfl, hB1⟩
 go_wp2_with fail
 refine (cu.out _ hB1).mono ?_
 rintro e w2 ⟨rfl, hB2⟩
 go_wp2_with fail
 go_ret2
 exact ⟨by rw [e1.out, e2.out]; rfl, hB1.trans (hB2.mono hB1.size)⟩
set_option maxHeartbeats 4000000 in
theorem put_plan (l : List OpV) (hok : okL l = true) (h1 : planB l = true) (hx : l.length ≤ 10000) (hl : shortL l) (R : Env) (v : Value) (hg : GlobOk GL R) (hv : Rep R noLoc (.sl 5 (opsC l)) v) : Calls Tryz.prog 14 #[v] R.w (PutPost l R.w) := by
 have hp := (plan19_fun l (by omega) hl).glob1
 have hu := (undo19_fun l (by omega) hl).glob1
 have hmay := ok_may hok
 have hev : ∀ o ∈ l, LineOk o ∧ short o := fun o ho => ⟨may_ok (hmay o ho), hl o ho⟩
 have hkey : ∀ k, k ≤ l.length → (headV l.length ++ [10] ++ bodyV (l.take k)).length ≤ 100 + 2000001 * 10000 := fun k hk => by
  have hdl := QuotePlain.dec_len 19 l.length (by decide) (Nat.lt_of_le_of_lt hx (by decide))
  have := body_bound (l.take k) fun o ho => hev o (List.mem_of_mem_take ho)
  have h3 : (l.take k).length ≤ 10000 := by simp; omega
  have h4 : (bodyV (l.take k)).length ≤ 2000001 * 10000 := Nat.le_trans this (Nat.mul_le_mul_left _ h3)
  simp only [List.length_append, headV, List.length_cons, List.length_nil]
  omega
 have hvl := repL_cons.2 ⟨v, [], rfl, hv, repL_nil.2 rfl⟩
 have cp := Lib.hid (fun w hb => hp.said (w := w) (fun _ _ _ => said_sc) hg hb hvl)
 have cu := Lib.hid (fun w hb => hu.said (w := w) (fun _ _ _ => said_sc) hg hb hvl)
 have ci := Lib.hid (fun w hb => (itoa_fun l.length (by omega)).said (w := w) (vs := [.int .i64 (l.length : Int)]) (fun _ _ _ => said_str) hg hb (repL_cons.2 ⟨_, [], rfl, rep_sc.2 rfl, repL_nil.2 rfl⟩))
 have cl := Lib.hid (fun (k : Nat) (hk : k < l.length) w hb => (line_fun l[k] (hev _ (List.getElem_mem hk)).1 (hev _ (List.getElem_mem hk)).2 (may_b (hmay _ (List.getElem_mem hk)))).said (w := w) (vs := [.agg #[.int .i64 l[k].kind, .int .i64 l[k].slot, .string (ofL l[k].a), .string (ofL l[k].b), .string (ofL l[k].d)]]) (fun _ _ _ => said_str) hg hb (repL_cons.2 ⟨_, [], rfl, rep_agg.2 ⟨_, rfl, repL_cons.2 ⟨_, _, rfl, rep_sc.2 rfl, repL_cons.2 ⟨_, _, rfl, rep_sc.2 rfl, repL_cons.2 ⟨_, _, rfl, rep_str.2 rfl, repL_cons.2 ⟨_, _, rfl, rep_str.2 rfl, repL_cons.2 ⟨_, _, rfl, rep_str.2 rfl, repL_nil.2 rfl⟩⟩⟩⟩⟩⟩, repL_nil.2 rfl⟩))
 have e1 := Lib.hid (show putTxt l = headV l.length ++ 10 :: bodyV l by unfold putTxt; rw [hok, if_pos rfl]; simp [textV])
 have e2 := Lib.hid (show putE l = 0 by unfold putE; rw [hok]; rfl)
 have hrow := Lib.hid (row_cells hv)
 obtain ⟨av, cap, hve, hvc, hvm⟩ : ∃ a cap, v = .slice a l.length cap ∧ l.length ≤ cap ∧ cap ≤ maxLen := by
  unfold Rep at hv
  obtain ⟨a, cap, e, h1, h2, _⟩ := hv
  rw [opsC_length] at e h1
  exact ⟨a, cap, e, h1, h2⟩
 have hvm2 : (cap : Int) ≤ 9223372036854775807 := by unfold maxLen at hvm; omega
 have hkey' := Lib.hid hkey
 obtain ⟨D, hD⟩ : ∃ D, ofL (Lib.decDigits l.length) = D := ⟨_, rfl⟩
 have hDs : D.size ≤ 19 := by
  have hdl := QuotePlain.dec_len 19 l.length (by decide) (Nat.lt_of_le_of_lt hx (by decide))
  rw [← hD, size_ofL]; exact hdl
 have hD' := Lib.hid hD
 have h1h := Lib.hid h1
 clear hp hu hvl hv hok hmay hev hkey hvm hl h1
 subst hve
 go_enter Tryz.func14, Tryz.ntmps14
 go_wp2_with fail
 refine (cp.out _ (Below.refl _ _)).mono ?_
 rw [h1h.out]
 rintro e w1 ⟨rfl, hB1⟩
 go_wp2_with fail
 have hB0 := hB1
 have hBS : R.w.heap.size ≤ w1.heap.size := hB1.size
 have hb0 := bld0_alloc w1
 have hba := (Below.refl w1.heap.size w1).alloc (Nat.le_refl _) (.cells #[.pointer none, .slice none 0 0] 65 (0, 0))
 refine (ci.out _ (hB0.trans (hba.mono hB0.size))).mono ?_
 rintro e w3 ⟨rfl, hB3⟩
 have hb3 := hb0.below hB3
 have hB13 : Below w1.heap.size w1 w3 := hba.trans (hB3.mono hba.size)
 have hB03 := hB0.trans (hB13.mono hB0.size)
 rw [hD'.out]
 clear hB3 hba hb0 hB0 hD
 go_wp2_with fail
 have hX : toL ((⟨#[112, 108, 97, 110, 32]⟩ : ByteArray) ++ D ++ ⟨#[10]⟩) = headV l.length ++ [10] := by
  rw [← hD'.out, toL_append, toL_append, toL_ofL]; rfl
 have hXs : ((⟨#[112, 108, 97, 110, 32]⟩ : ByteArray) ++ D ++ ⟨#[10]⟩).size ≤ 140737488355328 := by
  have := hkey'.out 0 (Nat.zero_le _)
  rw [← size_toL, hX]
  simp only [List.length_append, List.length_cons, List.length_nil] at this ⊢
  omega
 refine (writeString0 w1.heap.size w3 _ hb3 hXs hB13.size).mono ?_
 rintro e w4 ⟨rfl, hI4, hB4⟩
 rw [hX] at hI4
 have hB04 := hB03.trans (hB4.mono hB1.size)
 have hs4 : w1.heap.size ≤ w4.heap.size := Nat.le_trans hB13.size hB4.size
 clear hb3 hX hXs hB4 hB13 hB03
 go_wp2_with fail
 go_loopw [23] (fun i wr => ∃ k : Nat, k ≤ l.length ∧ i = .int .i64 k ∧ Bld w1.heap.size (headV l.length ++ [10] ++ bodyV (l.take k)) wr ∧ Below R.w.heap.size R.w wr ∧ w1.heap.size ≤ wr.heap.size) (fun i _ => l.length - (intOf i).toNat)
 case atStart => exact ⟨0, by omega, rfl, by simpa [bodyV] using hI4, hB04, hs4⟩
 case round =>
  obtain ⟨k, hk, rfl, hI, hB, hsz⟩ := hrel
  by_cases hlt : k < l.length
  ·obtain ⟨b, o, cap2, hv2, hbs, _, _, c0, c1, c2, c3, c4⟩ := hrow.out k hlt
   have hav : av = some ⟨b, o, none⟩ := by injection hv2
   subst hav
   have hbw := fun p : Addr => fun hp : p.block < R.w.heap.size => hB.cell (p := p) hp
   rw [← hbw ⟨b, _, none⟩ hbs] at c0 c1 c2 c3 c4
   have hcl := Lib.hid (cl.out k hlt)
   obtain ⟨x, hx2⟩ : ∃ x, l[k] = x := ⟨_, rfl⟩
   have hx2' := Lib.hid hx2
   rw [hx2] at c0 c1 c2 c3 c4 hcl
   clear hbw hx2
   obtain ⟨T, hT⟩ : ∃ T, ofL (lineV x) = T := ⟨_, rfl⟩
   have hbt := body_take l k hlt
   rw [hx2'.out] at hbt
   have hTl : (bodyV (l.take (k + 1))).length = (bodyV (l.take k)).length + (lineV x).length + 1 := by rw [hbt]; simp; omega
   have hk1 := hkey'.out (k + 1) hlt
   have hk0 := hkey'.out k (by omega)
   simp only [List.length_append, List.length_cons, List.length_nil] at hk1 hk0
   have hTs : T.size = (lineV x).length := by rw [← hT, size_ofL]
   have hbound : (headV l.length).length + 1 + (bodyV (l.take k)).length + T.size + 1 ≤ 100 + 2000001 * 10000 := by omega
   have hT2 : T.size ≤ 30000000000 := by omega
   have hTt : toL (T ++ ⟨#[10]⟩) = lineV x ++ [10] := by rw [toL_append, ← hT, toL_ofL]; rfl
   have hTt' := Lib.hid hTt
   have hsz9 : (headV l.length ++ [10] ++ bodyV (l.take k)).length + (T ++ (⟨#[10]⟩ : ByteArray)).size ≤ 140737488355328 := by
    have h9 : (T ++ (⟨#[10]⟩ : ByteArray)).size = T.size + 1 := by simp; rfl
    rw [h9]
    simp only [List.length_append, List.length_cons, List.length_nil]
    omega
   have hbt' := Lib.hid hbt
   rw [hT] at hcl
   have hcl' := Lib.hid hcl.out
   clear hcl hk1 hk0 hTl hTs hTt hbt hT
   go_wp2_with fail
   refine (hcl'.out _ (hB.alloc hB.size _)).mono ?_
   rintro e w5 ⟨rfl, hB5⟩
   have hI5 := Bld.below (hI.alloc (.cells #[.int .i64 x.kind, .int .i64 x.slot, .string (ofL x.a), .string (ofL x.b), .string (ofL x.d)] 23 (0, 0))) hB5
   have hB05 := (hB.alloc hB.size (.cells #[.int .i64 x.kind, .int .i64 x.slot, .string (ofL x.a), .string (ofL x.b), .string (ofL x.d)] 23 (0, 0))).trans (hB5.mono (hB.alloc hB.size _).size)
   have hs5 : w1.heap.size ≤ w5.heap.size := by have := hB5.size; simp at this; omega
   clear hB5 hI
   go_wp2_with fail
   have hws := writeString w1.heap.size (headV l.length ++ [10] ++ bodyV (l.take k)) (T ++ (⟨#[10]⟩ : ByteArray)) w5 hI5 hsz9 hs5
   refine hws.mono ?_
   rintro e w6 ⟨rfl, hI6, hB6⟩
   rw [hTt'.out] at hI6
   go_wp2
   go_roundw
   case rel => exact ⟨k + 1, by omega, by go_num, by rw [hbt'.out, ← List.append_assoc]; exact hI6, hB05.trans (hB6.mono hBS), by have := hB6.size; omega⟩
   case measure => simp [intOf]; omega
  ·obtain rfl : k = l.length := by omega
   rw [List.take_length] at hI
   go_wp2_with fail
   refine (bldString w1.heap.size _ wr hI hsz).mono ?_
   rintro e w5 ⟨rfl, hB5⟩
   go_wp2
   go_ret2
   exact ⟨by rw [e1.out, e2.out]; rfl, hB.trans (hB5.mono hBS)⟩
set_option maxHeartbeats 4000000 in
theorem put_undo (l : List OpV) (hok : okL l = true) (h1 : planB l = false ∧ undoB l = true) (hx : l.length ≤ 10000) (hl : shortL l) (R : Env) (v : Value) (hg : GlobOk GL R) (hv : Rep R noLoc (.sl 5 (opsC l)) v) : Calls Tryz.prog 14 #[v] R.w (PutPost l R.w) := by
 have hp := (plan19_fun l (by omega) hl).glob1
 have hu := (undo19_fun l (by omega) hl).glob1
 have hmay := ok_may hok
 have hev : ∀ o ∈ l, LineOk o ∧ short o := fun o ho => ⟨may_ok (hmay o ho), hl o ho⟩
 have hkey : ∀ k, k ≤ l.length → (headV l.length ++ [10] ++ bodyV (l.take k)).length ≤ 100 + 2000001 * 10000 := fun k hk => by
  have hdl := QuotePlain.dec_len 19 l.length (by decide) (Nat.lt_of_le_of_lt hx (by decide))
  have := body_bound (l.take k) fun o ho => hev o (List.mem_of_mem_take ho)
  have h3 : (l.take k).length ≤ 10000 := by simp; omega
  have h4 : (bodyV (l.take k)).length ≤ 2000001 * 10000 := Nat.le_trans this (Nat.mul_le_mul_left _ h3)
  simp only [List.length_append, headV, List.length_cons, List.length_nil]
  omega
 have hvl := repL_cons.2 ⟨v, [], rfl, hv, repL_nil.2 rfl⟩
 have cp := Lib.hid (fun w hb => hp.said (w := w) (fun _ _ _ => said_sc) hg hb hvl)
 have cu := Lib.hid (fun w hb => hu.said (w := w) (fun _ _ _ => said_sc) hg hb hvl)
 have ci := Lib.hid (fun w hb => (itoa_fun l.length (by omega)).said (w := w) (vs := [.int .i64 (l.length : Int)]) (fun _ _ _ => said_str) hg hb (repL_cons.2 ⟨_, [], rfl, rep_sc.2 rfl, repL_nil.2 rfl⟩))
 have cl := Lib.hid (fun (k : Nat) (hk : k < l.length) w hb => (line_fun l[k] (hev _ (List.getElem_mem hk)).1 (hev _ (List.getElem_mem hk)).2 (may_b (hmay _ (List.getElem_mem hk)))).said (w := w) (vs := [.agg #[.int .i64 l[k].kind, .int .i64 l[k].slot, .string (ofL l[k].a), .string (ofL l[k].b), .string (ofL l[k].d)]]) (fun _ _ _ => said_str) hg hb (repL_cons.2 ⟨_, [], rfl, rep_agg.2 ⟨_, rfl, repL_cons.2 ⟨_, _, rfl, rep_sc.2 rfl, repL_cons.2 ⟨_, _, rfl, rep_sc.2 rfl, repL_cons.2 ⟨_, _, rfl, rep_str.2 rfl, repL_cons.2 ⟨_, _, rfl, rep_str.2 rfl, repL_cons.2 ⟨_, _, rfl, rep_str.2 rfl, repL_nil.2 rfl⟩⟩⟩⟩⟩⟩, repL_nil.2 rfl⟩))
 have e1 := Lib.hid (show putTxt l = headV l.length ++ 10 :: bodyV l by unfold putTxt; rw [hok, if_pos rfl]; simp [textV])
 have e2 := Lib.hid (show putE l = 0 by unfold putE; rw [hok]; rfl)
 have hrow := Lib.hid (row_cells hv)
 obtain ⟨av, cap, hve, hvc, hvm⟩ : ∃ a cap, v = .slice a l.length cap ∧ l.length ≤ cap ∧ cap ≤ maxLen := by
  unfold Rep at hv
  obtain ⟨a, cap, e, h1, h2, _⟩ := hv
  rw [opsC_length] at e h1
  exact ⟨a, cap, e, h1, h2⟩
 have hvm2 : (cap : Int) ≤ 9223372036854775807 := by unfold maxLen at hvm; omega
 have hkey' := Lib.hid hkey
 obtain ⟨D, hD⟩ : ∃ D, ofL (Lib.decDigits l.length) = D := ⟨_, rfl⟩
 have hDs : D.size ≤ 19 := by
  have hdl := QuotePlain.dec_len 19 l.length (by decide) (Nat.lt_of_le_of_lt hx (by decide))
  rw [← hD, size_ofL]; exact hdl
 have hD' := Lib.hid hD
 have h1h := Lib.hid h1
 clear hp hu hvl hv hok hmay hev hkey hvm hl h1
 subst hve
 go_enter Tryz.func14, Tryz.ntmps14
 go_wp2_with fail
 refine (cp.out _ (Below.refl _ _)).mono ?_
 rw [h1h.out.1]
 rintro e w0 ⟨rfl, hB9⟩
 go_wp2_with fail
 refine (cu.out _ hB9).mono ?_
 rw [h1h.out.2]
 rintro e w1 ⟨rfl, hBb⟩
 have hB1 := hB9.trans (hBb.mono hB9.size)
 clear hB9 hBb
 go_wp2_with fail
 have hB0 := hB1
 have hBS : R.w.heap.size ≤ w1.heap.size := hB1.size
 have hb0 := bld0_alloc w1
 have hba := (Below.refl w1.heap.size w1).alloc (Nat.le_refl _) (.cells #[.pointer none, .slice none 0 0] 65 (0, 0))
 refine (ci.out _ (hB0.trans (hba.mono hB0.size))).mono ?_
 rintro e w3 ⟨rfl, hB3⟩
 have hb3 := hb0.below hB3
 have hB13 : Below w1.heap.size w1 w3 := hba.trans (hB3.mono hba.size)
 have hB03 := hB0.trans (hB13.mono hB0.size)
 rw [hD'.out]
 clear hB3 hba hb0 hB0 hD
 go_wp2_with fail
 have hX : toL ((⟨#[112, 108, 97, 110, 32]⟩ : ByteArray) ++ D ++ ⟨#[10]⟩) = headV l.length ++ [10] := by
  rw [← hD'.out, toL_append, toL_append, toL_ofL]; rfl
 have hXs : ((⟨#[112, 108, 97, 110, 32]⟩ : ByteArray) ++ D ++ ⟨#[10]⟩).size ≤ 140737488355328 := by
  have := hkey'.out 0 (Nat.zero_le _)
  rw [← size_toL, hX]
  simp only [List.length_append, List.length_cons, List.length_nil] at this ⊢
  omega
 refine (writeString0 w1.heap.size w3 _ hb3 hXs hB13.size).mono ?_
 rintro e w4 ⟨rfl, hI4, hB4⟩
 rw [hX] at hI4
 have hB04 := hB03.trans (hB4.mono hB1.size)
 have hs4 : w1.heap.size ≤ w4.heap.size := Nat.le_trans hB13.size hB4.size
 clear hb3 hX hXs hB4 hB13 hB03
 go_wp2_with fail
 go_loopw [23] (fun i wr => ∃ k : Nat, k ≤ l.length ∧ i = .int .i64 k ∧ Bld w1.heap.size (headV l.length ++ [10] ++ bodyV (l.take k)) wr ∧ Below R.w.heap.size R.w wr ∧ w1.heap.size ≤ wr.heap.size) (fun i _ => l.length - (intOf i).toNat)
 case atStart => exact ⟨0, by omega, rfl, by simpa [bodyV] using hI4, hB04, hs4⟩
 case round =>
  obtain ⟨k, hk, rfl, hI, hB, hsz⟩ := hrel
  by_cases hlt : k < l.length
  ·obtain ⟨b, o, cap2, hv2, hbs, _, _, c0, c1, c2, c3, c4⟩ := hrow.out k hlt
   have hav : av = some ⟨b, o, none⟩ := by injection hv2
   subst hav
   have hbw := fun p : Addr => fun hp : p.block < R.w.heap.size => hB.cell (p := p) hp
   rw [← hbw ⟨b, _, none⟩ hbs] at c0 c1 c2 c3 c4
   have hcl := Lib.hid (cl.out k hlt)
   obtain ⟨x, hx2⟩ : ∃ x, l[k] = x := ⟨_, rfl⟩
   have hx2' := Lib.hid hx2
   rw [hx2] at c0 c1 c2 c3 c4 hcl
   clear hbw hx2
   obtain ⟨T, hT⟩ : ∃ T, ofL (lineV x) = T := ⟨_, rfl⟩
   have hbt := body_take l k hlt
   rw [hx2'.out] at hbt
   have hTl : (bodyV (l.take (k + 1))).length = (bodyV (l.take k)).length + (lineV x).length + 1 := by rw [hbt]; simp; omega
   have hk1 := hkey'.out (k + 1) hlt
   have hk0 := hkey'.out k (by omega)
   simp only [List.length_append, List.length_cons, List.length_nil] at hk1 hk0
   have hTs : T.size = (lineV x).length := by rw [← hT, size_ofL]
   have hbound : (headV l.length).length + 1 + (bodyV (l.take k)).length + T.size + 1 ≤ 100 + 2000001 * 10000 := by omega
   have hT2 : T.size ≤ 30000000000 := by omega
   have hTt : toL (T ++ ⟨#[10]⟩) = lineV x ++ [10] := by rw [toL_append, ← hT, toL_ofL]; rfl
   have hTt' := Lib.hid hTt
   have hsz9 : (headV l.length ++ [10] ++ bodyV (l.take k)).length + (T ++ (⟨#[10]⟩ : ByteArray)).size ≤ 140737488355328 := by
    have h9 : (T ++ (⟨#[10]⟩ : ByteArray)).size = T.size + 1 := by simp; rfl
    rw [h9]
    simp only [List.length_append, List.length_cons, List.length_nil]
    omega
   have hbt' := Lib.hid hbt
   rw [hT] at hcl
   have hcl' := Lib.hid hcl.out
   clear hcl hk1 hk0 hTl hTs hTt hbt hT
   go_wp2_with fail
   refine (hcl'.out _ (hB.alloc hB.size _)).mono ?_
   rintro e w5 ⟨rfl, hB5⟩
   have hI5 := Bld.below (hI.alloc (.cells #[.int .i64 x.kind, .int .i64 x.slot, .string (ofL x.a), .string (ofL x.b), .string (ofL x.d)] 23 (0, 0))) hB5
   have hB05 := (hB.alloc hB.size (.cells #[.int .i64 x.kind, .int .i64 x.slot, .string (ofL x.a), .string (ofL x.b), .string (ofL x.d)] 23 (0, 0))).trans (hB5.mono (hB.alloc hB.size _).size)
   have hs5 : w1.heap.size ≤ w5.heap.size := by have := hB5.size; simp at this; omega
   clear hB5 hI
   go_wp2_with fail
   have hws := writeString w1.heap.size (headV l.length ++ [10] ++ bodyV (l.take k)) (T ++ (⟨#[10]⟩ : ByteArray)) w5 hI5 hsz9 hs5
   refine hws.mono ?_
   rintro e w6 ⟨rfl, hI6, hB6⟩
   rw [hTt'.out] at hI6
   go_wp2
   go_roundw
   case rel => exact ⟨k + 1, by omega, by go_num, by rw [hbt'.out, ← List.append_assoc]; exact hI6, hB05.trans (hB6.mono hBS), by have := hB6.size; omega⟩
   case measure => simp [intOf]; omega
  ·obtain rfl : k = l.length := by omega
   rw [List.take_length] at hI
   go_wp2_with fail
   refine (bldString w1.heap.size _ wr hI hsz).mono ?_
   rintro e w5 ⟨rfl, hB5⟩
   go_wp2
   go_ret2
   exact ⟨by rw [e1.out, e2.out]; rfl, hB.trans (hB5.mono hBS)⟩
theorem put_fun (l : List OpV) (hx : l.length ≤ 10000) (hl : shortL l) : Fun Tryz.prog GL 14 [.sl 5 (opsC l)] (.tup [.str (putTxt l), .sc (.int .i64 (putE l))]) 0 := by
 refine Fun.wrapG (by kernel_rfl) fun R vs hg h => ?_
 obtain ⟨v, us, rfl, hv, h⟩ := repL_cons.1 h
 rw [repL_nil] at h
 subst h
 have key : Calls Tryz.prog 14 #[v] R.w (PutPost l R.w) := by
  cases hok : okL l with
  | false => exact put_none l hok hx hl R v hg hv
  | true =>
   cases hp : planB l with
   | true => exact put_plan l hok hp hx hl R v hg hv
   | false => exact put_undo l hok ⟨hp, by unfold okL at hok; rw [hp, Bool.false_or] at hok; exact hok⟩ hx hl R v hg hv
 refine key.mono ?_
 rintro e w' ⟨rfl, hb⟩
 exact ⟨_, rfl, hb, fun R' _ => rep_tup.2 ⟨_, rfl, repL_cons.2 ⟨_, _, rfl, rep_str.2 rfl, repL_cons.2 ⟨_, _, rfl, rep_sc.2 rfl, repL_nil.2 rfl⟩⟩⟩⟩
end Go.Proofs.YtbphobmohdclaaaGreatDoor.Vcg
end
section
set_option linter.unusedVariables false
set_option maxRecDepth 100000
set_option linter.unusedSimpArgs false
namespace Go.Proofs.YtbphobmohdclaaaGreatDoor.Vcg
open Go.RowKit
open QuotePlain (Bs quoteL plainL blanks okw unq splitW numB valV most okTo isDig)
theorem okL_prefix (l r : List OpV) (h : okL (l ++ r) = true) : okL l = true := by
 unfold okL at h ⊢
 simp only [Bool.or_eq_true] at h ⊢
 have e : (l ++ r).take l.length = l := by simp
 rcases h with h | h
 ·have := planB_take l.length h; rw [e] at this; exact .inl this
 ·have := undoB_take l.length h; rw [e] at this; exact .inr this
def op1 : OpV := ⟨1, 0, [47, 97], [], []⟩
def op7 : OpV := ⟨7, 3, [47, 97, 32, 98], [], []⟩
theorem w_ok1 : okL [op1] = true := by decide +kernel
theorem w_ok0 : okL [] = true := by decide +kernel
theorem w_okz : okL [zeroOp] = false := by decide +kernel
theorem w_txt1 : textV [op1] = [112, 108, 97, 110, 32, 49] ++ 10 :: [109, 107, 100, 105, 114, 32, 34, 47, 97, 34] ++ [10] := by decide +kernel
theorem w_get0 : getV (readV mayB) okL ([112, 108, 97, 110, 32, 48] ++ [10]) = (some [], 0) := by
 have := get_put (may := mayB) (ok := okL) (fun o => may_ok) okL_prefix (fun l h => ok_may h) [] w_ok0 (by decide) []
 rw [if_pos rfl, show textV [] ++ [] = [112, 108, 97, 110, 32, 48] ++ [10] by decide +kernel] at this
 exact this
theorem w_get1 : getV (readV mayB) okL ([112, 108, 97, 110, 32, 49] ++ [10]) = (none, 7) := by decide +kernel
theorem w_read7 : readV mayB ([115, 116, 97, 115, 104, 32, 51, 32, 34, 47, 97, 32, 98, 34]) = some op7 := (read_iff (fun o => may_ok) _ _).2 ⟨by decide +kernel, by decide +kernel⟩
theorem w_read3 : readV mayB ([115, 116, 97, 115, 104, 32, 48, 51, 32, 34, 47, 97, 34]) = none := by decide +kernel
theorem w_get1t : getV (readV mayB) okL (textV [op1]) = (some [op1], 0) := by
 have := get_put (may := mayB) (ok := okL) (fun o => may_ok) okL_prefix (fun l h => ok_may h) [op1] w_ok1 (by decide) []
 rw [if_pos rfl, List.append_nil] at this
 exact this
set_option maxHeartbeats 4000000 in
theorem awake20 : Fun Tryz.prog GL 7 [] (.sc (.bool true)) 0 := by
  have sh1 : shortL [op1] := by intro o ho; have : o = op1 := by simpa using ho
                                rw [this]; exact ⟨by decide, by decide, by decide⟩
  have shz : shortL [zeroOp] := by intro o ho; have : o = zeroOp := by simpa using ho
                                   rw [this]; exact ⟨by decide, by decide, by decide⟩
  have p1 := put_fun [op1] (by decide) sh1
  have pz := put_fun [zeroOp] (by decide) shz
  rw [show putTxt [op1] = textV [op1] by unfold putTxt; rw [w_ok1]; rfl, show putE [op1] = 0 by unfold putE; rw [w_ok1]; rfl, w_txt1] at p1
  rw [show putTxt [zeroOp] = [] by unfold putTxt; rw [w_okz]; rfl, show putE [zeroOp] = 12 by unfold putE; rw [w_okz]; rfl] at pz
  have g1 := get_fun (textV [op1]) (linesOk_short (by rw [w_txt1]; decide))
  rw [w_get1t, w_txt1] at g1
  have g0 := get_fun ([112, 108, 97, 110, 32, 48] ++ [10]) (linesOk_short (by decide))
  rw [w_get0] at g0
  have g2 := get_fun ([112, 108, 97, 110, 32, 49] ++ [10]) (linesOk_short (by decide))
  rw [w_get1] at g2
  have r7 := read_fun ([115, 116, 97, 115, 104, 32, 51, 32, 34, 47, 97, 32, 98, 34]) (by decide)
  rw [w_read7] at r7
  have r3 := read_fun ([115, 116, 97, 115, 104, 32, 48, 51, 32, 34, 47, 97, 34]) (by decide)
  rw [w_read3] at r3
  have sm := (rSame_fun [op1] [op1] (by decide)).glob0 (G' := GL)
  rw [sameOps_refl] at sm
  have ln7 := line_fun op7 (may_ok (by decide +kernel)) ⟨by decide, by decide, by decide⟩ (by decide)
  rw [show lineV op7 = [115, 116, 97, 115, 104, 32, 51, 32, 34, 47, 97, 32, 98, 34] by decide +kernel] at ln7
  simp only [gotC, gotL, gotE, Option.getD_some, Option.getD_none, Option.isSome_some, Option.isSome_none, if_true, if_false, List.map_cons, List.map_nil, op1, zeroOp, op7, opL, List.cons_append, List.nil_append, Bool.false_eq_true] at p1 pz g1 g0 g2 r7 r3 sm ln7
  refine Fun.of (fun _ => []) (by kernel_rfl) Tryz.func7 rfl rfl (Nat.le_of_ble_eq_true rfl) (by kernel_rfl) ?_; dsimp only [Tryz.f7, List.append_eq, List.cons_append, List.nil_append]
  simp -dsimp only [push_cast, seval]
  (first | refine call (p1) ?_ | refine callP (p1) ?_); simp -dsimp only [push_cast, seval]
  (first | refine call (g1) ?_ | refine callP (g1) ?_); simp -dsimp only [push_cast, seval]
  (first | refine call (g0) ?_ | refine callP (g0) ?_); simp -dsimp only [push_cast, seval]
  (first | refine call (g2) ?_ | refine callP (g2) ?_); simp -dsimp only [push_cast, seval]
  (first | refine call (pz) ?_ | refine callP (pz) ?_); simp -dsimp only [push_cast, seval]
  (first | refine call (r7) ?_ | refine callP (r7) ?_); simp -dsimp only [push_cast, seval]
  (first | refine call (r3) ?_ | refine callP (r3) ?_); simp -dsimp only [push_cast, seval]
  (first | refine call (sm) ?_ | refine callP (sm) ?_); simp -dsimp only [push_cast, seval]
  (first | refine call (ln7) ?_ | refine callP (ln7) ?_); simp -dsimp only [push_cast, seval]
  exact ⟨[], rfl, rfl, by simp -dsimp only [WeakTm, WeakBx, CLe, CLeL, push_cast, seval]⟩
theorem got_text {s : Bs} {x : List OpV} {k : Nat} (h : getV (readV mayB) okL s = (some x, k)) : s = textV x ∧ okL x = true ∧ x.length ≤ s.length := by
 obtain ⟨h1, h2, _⟩ := get_some (may := mayB) (ok := okL) (fun o => may_ok) w_ok0 (s := s) (x := x) (by rw [h])
 refine ⟨h1, h2, ?_⟩
 have := body_len x
 rw [h1]
 unfold textV
 simp only [List.length_append]
 omega
end Go.Proofs.YtbphobmohdclaaaGreatDoor.Vcg
end
section
set_option linter.unusedVariables false
set_option maxRecDepth 100000
set_option linter.unusedSimpArgs false
namespace Go.Proofs.YtbphobmohdclaaaGreatDoor.Vcg
open Go.RowKit
open QuotePlain (Bs quoteL plainL blanks okw unq splitW numB valV most okTo isDig)
theorem line_len2 {o : OpV} (h : LineOk o) (hs : okO o = true) : (lineV o).length ≤ 60000 := by
 have h1 := blanks_len (wordsV o)
 have h2 := quote_len o.a
 have h3 := quote_len o.b
 have h4 := quote_len o.d
 unfold okO at hs
 simp only [Bool.and_eq_true, decide_eq_true_eq] at hs
 obtain ⟨⟨g1, g2⟩, g3⟩ := hs
 have h5 := QuotePlain.dec_len 19 o.slot.toNat (by decide)
 have h6 : (nameW o.kind).length ≤ 7 := by
  have a := h.lo; have b := h.hi
  rcases kind_cases a b with e | e | e | e | e | e | e | e | e | e <;> rw [e] <;> decide
 have h7 : (Lib.decDigits o.slot.toNat).length ≤ 19 := by
  refine h5 ?_
  cases hk : slotted o.kind with
  | true =>
   have := (h.slot hk).2
   have : o.slot.toNat < 1073741825 := by omega
   exact Nat.lt_trans this (by decide)
  | false => rw [h.none hk]; decide
 refine Nat.le_trans h1 ?_
 unfold wordsV
 simp only [List.map_append, List.sum_append, List.map_cons, List.map_nil, List.sum_cons, List.sum_nil]
 split <;> split <;> split <;> simp only [List.map_append, List.sum_append, List.map_cons, List.map_nil, List.sum_cons, List.sum_nil] <;> omega
theorem splA_line (a r : Bs) (h : (10 : UInt8) ∉ a) : splA 10 (a ++ 10 :: r) = (a ++ [10]) :: splA 10 r := splA_lnS (ln_app a r h)
theorem body_lines (more : Bs) (hm : more.length ≤ 1000) : ∀ l : List OpV, (∀ o ∈ l, LineOk o ∧ okO o = true) → (bodyV l ++ more).length ≤ 60001 * l.length + 1000 ∧ (splA 10 (bodyV l ++ more)).length ≤ l.length + 1001 ∧ ∀ x ∈ splA 10 (bodyV l ++ more), x.length ≤ 100000
 | [], _ => by
  have e : bodyV [] ++ more = more := rfl
  rw [e]
  refine ⟨by simp; exact hm, by have := splA_length 10 more; simp; omega, fun x hx => by have := splA_mem more x hx; omega⟩
 | o :: l, h => by
  obtain ⟨h1, h2⟩ := h o List.mem_cons_self
  obtain ⟨i1, i2, i3⟩ := body_lines more hm l fun x hx => h x (List.mem_cons_of_mem _ hx)
  have hl := line_len2 h1 h2
  have e : bodyV (o :: l) ++ more = lineV o ++ 10 :: (bodyV l ++ more) := by rw [body_cons]; simp
  rw [e, splA_line _ _ (line_no10 h1)]
  refine ⟨by simp only [List.length_append, List.length_cons] at i1 ⊢; omega, by simp only [List.length_cons]; omega, fun x hx => ?_⟩
  rcases List.mem_cons.1 hx with rfl | hx
  ·simp; omega
  ·exact i3 x hx
theorem text_lines {l : List OpV} (hf : fewO l = true) (hok : okL l = true) (more : Bs) (hm : more.length ≤ 1000) : LinesOk (textV l ++ more) := by
 have hmay := ok_may hok
 obtain ⟨hlen, hsh⟩ := fewO_short hf
 have hall : ∀ o ∈ l, LineOk o ∧ okO o = true := fun o ho => ⟨may_ok (hmay o ho), by
  simp only [fewO, Bool.and_eq_true, decide_eq_true_eq] at hf
  rw [List.take_of_length_le (by omega)] at hf
  exact List.all_eq_true.1 hf.1 o ho⟩
 obtain ⟨i1, i2, i3⟩ := body_lines more hm l hall
 have hdl := QuotePlain.dec_len 19 l.length (by decide) (Nat.lt_of_le_of_lt hlen (by decide))
 have hhl : (headV l.length).length ≤ 24 := by unfold headV; simp; omega
 have e : textV l ++ more = headV l.length ++ 10 :: (bodyV l ++ more) := by unfold textV; simp
 have e2 := splA_line (headV l.length) (bodyV l ++ more) (head_no10 _)
 rw [e]
 refine ⟨?_, ?_, fun x hx => ?_⟩
 ·simp only [List.length_append, List.length_cons] at i1 ⊢; omega
 ·rw [e2]; simp only [List.length_cons]; omega
 ·rw [e2] at hx
  rcases List.mem_cons.1 hx with rfl | hx
  ·simp; omega
  ·exact i3 x hx
theorem splA_ne (c : UInt8) : ∀ s : Bs, ∃ x r, splA c s = x :: r
 | [] => ⟨[], [], rfl⟩
 | b :: s => by
  unfold splA
  split
  ·exact ⟨_, _, rfl⟩
  ·split
   ·exact ⟨_, _, rfl⟩
   ·exact ⟨_, _, rfl⟩
theorem splA_pre (b : Bs) : ∀ a : Bs, ∀ x r y q, splA 10 a = x :: r → splA 10 (a ++ b) = y :: q → x.length ≤ y.length ∧ r.length ≤ q.length ∧ ∀ u ∈ r, ∃ w ∈ q, u.length ≤ w.length
 | [], x, r, y, q, h1, h2 => by
  unfold splA at h1
  cases h1
  exact ⟨Nat.zero_le _, Nat.zero_le _, fun u hu => by cases hu⟩
 | c :: a, x, r, y, q, h1, h2 => by
  obtain ⟨x', r', e1⟩ := splA_ne 10 a
  obtain ⟨y', q', e2⟩ := splA_ne 10 (a ++ b)
  obtain ⟨i1, i2, i3⟩ := splA_pre b a x' r' y' q' e1 e2
  rw [List.cons_append] at h2
  unfold splA at h1 h2
  rw [e1] at h1
  rw [e2] at h2
  by_cases hc : c = 10
  ·rw [if_pos hc] at h1 h2
   cases h1; cases h2
   refine ⟨Nat.le_refl _, by simp; omega, fun u hu => ?_⟩
   rcases List.mem_cons.1 hu with rfl | hu
   ·exact ⟨y', List.mem_cons_self, i1⟩
   ·obtain ⟨w, hw, hl⟩ := i3 u hu
    exact ⟨w, List.mem_cons_of_mem _ hw, hl⟩
  ·rw [if_neg hc] at h1 h2
   cases h1; cases h2
   exact ⟨by simp; omega, i2, i3⟩
theorem LinesOk.pre {a b : Bs} (h : LinesOk (a ++ b)) : LinesOk a := by
 obtain ⟨x, r, e1⟩ := splA_ne 10 a
 obtain ⟨y, q, e2⟩ := splA_ne 10 (a ++ b)
 obtain ⟨i1, i2, i3⟩ := splA_pre b a x r y q e1 e2
 have h1 := h.size
 have h2 := h.many
 have h3 := h.line
 rw [e2] at h2 h3
 refine ⟨by simp at h1; omega, by rw [e1]; simp at h2 ⊢; omega, fun u hu => ?_⟩
 rw [e1] at hu
 rcases List.mem_cons.1 hu with rfl | hu
 ·have := h3 y List.mem_cons_self; omega
 ·obtain ⟨w, hw, hl⟩ := i3 u hu
  have := h3 w (List.mem_cons_of_mem _ hw); omega
theorem get_of_put {l : List OpV} (hl : okL l = true) (hn : l.length ≤ most) (more : Bs) : getV (readV mayB) okL (textV l ++ more) = if more = [] then (some l, 0) else (none, (textV l).length) :=
 get_put (may := mayB) (ok := okL) (fun o => may_ok) okL_prefix (fun l h => ok_may h) l hl hn more
theorem get_le2 (s : Bs) : (getV (readV mayB) okL s).2 ≤ s.length := get_le s
theorem eqOp_eq {o p : OpV} (h : eqOp o p = true) : o = p := by
 obtain ⟨a, b, c, d, e⟩ := o
 obtain ⟨a', b', c', d', e'⟩ := p
 unfold eqOp at h
 simpa [and_assoc] using h
theorem sameOps_eq {l m : List OpV} : sameOps l m = decide (textV l = textV m) ∨ ¬ (okL l = true ∧ okL m = true ∧ l.length ≤ most ∧ m.length ≤ most) := by
 by_cases h : okL l = true ∧ okL m = true ∧ l.length ≤ most ∧ m.length ≤ most
 ·left
  obtain ⟨h1, h2, h3, h4⟩ := h
  by_cases e : l = m
  ·subst e
   rw [sameOps_refl]; simp
  ·have h5 : sameOps l m = false := by
    rw [Bool.eq_false_iff]
    intro hs
    apply e
    obtain ⟨i1, i2⟩ := (sameOps_iff l m).1 hs
    exact List.ext_getElem i1 fun j g1 g2 => eqOp_eq (i2 j g1 g2)
   rw [h5]
   symm
   rw [decide_eq_false_iff_not]
   intro ht
   have g1 := get_of_put h1 h3 []
   have g2 := get_of_put h2 h4 []
   rw [ht, g2] at g1
   simp at g1
   exact e g1.symm
 ·exact .inr h
end Go.Proofs.YtbphobmohdclaaaGreatDoor.Vcg
end
section
set_option linter.unusedVariables false
set_option maxRecDepth 100000
set_option linter.unusedSimpArgs false
namespace Go.Proofs.YtbphobmohdclaaaGreatDoor.Vcg
open Go.RowKit
open QuotePlain (Bs quoteL plainL blanks okw unq splitW numB valV most okTo isDig)
theorem got_short {s : Bs} (hs : s.length ≤ 5000) {x : List OpV} {k : Nat} (h : getV (readV mayB) okL s = (some x, k)) : shortL x := by
 obtain ⟨h1, h2, _⟩ := got_text h
 intro o ho
 have hm := may_ok (ok_may h2 o ho)
 have hl : (lineV o).length ≤ s.length := by
  rw [h1]
  unfold textV bodyV
  obtain ⟨a, b, rfl⟩ := List.append_of_mem ho
  simp
  omega
 have := line_parts hm
 exact ⟨by omega, by omega, by omega⟩
set_option maxHeartbeats 8000000 in
theorem langBack_fun (l m : List OpV) (s : Bs) : Fun Tryz.prog GL 6 [.sl 5 (opsC l), .sl 5 (opsC m), .str s] (.sc (.bool true)) 0 := by
 have hf := (fewO_fun l).glob0 (G' := GL)
 have hf2 := (fewO_fun m).glob0 (G' := GL)
 cases hfw : fewO l with
 | false =>
  rw [hfw] at hf
  refine Fun.of (fun _ => []) (by kernel_rfl) Tryz.func6 rfl rfl (Nat.le_of_ble_eq_true rfl) (by kernel_rfl) ?_; dsimp only [Tryz.f6, List.append_eq, List.cons_append, List.nil_append]
  simp -dsimp only [push_cast, seval]
  (first | refine call (awake20) ?_ | refine callP (awake20) ?_); simp -dsimp only [push_cast, seval]
  (first | refine call (hf) ?_ | refine callP (hf) ?_); simp -dsimp only [push_cast, seval]
  (first | refine call (awake20) ?_ | refine callP (awake20) ?_); simp -dsimp only [push_cast, seval]
  exact ⟨[], rfl, rfl, by simp -dsimp only [WeakTm, WeakBx, CLe, CLeL, push_cast, seval]⟩
 | true =>
  rw [hfw] at hf
  cases hfw2 : fewO m with
  | false =>
   rw [hfw2] at hf2
   refine Fun.of (fun _ => []) (by kernel_rfl) Tryz.func6 rfl rfl (Nat.le_of_ble_eq_true rfl) (by kernel_rfl) ?_; dsimp only [Tryz.f6, List.append_eq, List.cons_append, List.nil_append]
   simp -dsimp only [push_cast, seval]
   (first | refine call (awake20) ?_ | refine callP (awake20) ?_); simp -dsimp only [push_cast, seval]
   (first | refine call (hf) ?_ | refine callP (hf) ?_); simp -dsimp only [push_cast, seval]
   (first | refine call (hf2) ?_ | refine callP (hf2) ?_); simp -dsimp only [push_cast, seval]
   (first | refine call (awake20) ?_ | refine callP (awake20) ?_); simp -dsimp only [push_cast, seval]
   exact ⟨[], rfl, rfl, by simp -dsimp only [WeakTm, WeakBx, CLe, CLeL, push_cast, seval]⟩
  | true =>
   rw [hfw2] at hf2
   obtain ⟨h1, h2⟩ := fewO_short hfw
   obtain ⟨h3, h4⟩ := fewO_short hfw2
   by_cases hs : 5000 < s.length
   ·have hs' : ((5000 : Int) < (s.length : Int)) = True := eq_true (by omega)
    refine Fun.of (fun _ => []) (by kernel_rfl) Tryz.func6 rfl rfl (Nat.le_of_ble_eq_true rfl) (by kernel_rfl) ?_; dsimp only [Tryz.f6, List.append_eq, List.cons_append, List.nil_append]
    simp -dsimp only [push_cast, seval]
    (first | refine call (awake20) ?_ | refine callP (awake20) ?_); simp -dsimp only [push_cast, seval]
    (first | refine call (hf) ?_ | refine callP (hf) ?_); simp -dsimp only [push_cast, seval]
    (first | refine call (hf2) ?_ | refine callP (hf2) ?_); simp -dsimp only [push_cast, seval]
    simp -dsimp only [push_cast, seval, hs']
    (first | refine call (awake20) ?_ | refine callP (awake20) ?_); simp -dsimp only [push_cast, seval]
    exact ⟨[], rfl, rfl, by simp -dsimp only [WeakTm, WeakBx, CLe, CLeL, push_cast, seval]⟩
   ·have hs' : ((5000 : Int) < (s.length : Int)) = False := eq_false (by omega)
    have p1 := put_fun l (by omega) h2
    have p2 := put_fun m (by omega) h4
    have gst := get_fun s (linesOk_short (by omega))
    unfold gotC gotL gotE at gst
    cases hol : okL l with
    | false =>
     rw [show putTxt l = [] by unfold putTxt; rw [hol]; rfl, show putE l = 12 by unfold putE; rw [hol]; rfl] at p1
     cases hg : getV (readV mayB) okL s with
     | mk a k =>
      cases a with
      | none =>
       have hk := get_le2 s
       rw [hg] at hk gst
       simp only [Option.getD_some, Option.getD_none, Option.isSome_some, Option.isSome_none, if_true, if_false, Bool.false_eq_true, List.map_nil] at gst
       have hk0 : ((0 : Int) ≤ (k : Int)) = True := eq_true (by omega)
       have hk1 : ((k : Int) ≤ (s.length : Int)) = True := eq_true (by simp only at hk; omega)
       refine Fun.of (fun _ => []) (by kernel_rfl) Tryz.func6 rfl rfl (Nat.le_of_ble_eq_true rfl) (by kernel_rfl) ?_; dsimp only [Tryz.f6, List.append_eq, List.cons_append, List.nil_append]
       simp -dsimp only [push_cast, seval]
       (first | refine call (awake20) ?_ | refine callP (awake20) ?_); simp -dsimp only [push_cast, seval]
       (first | refine call (hf) ?_ | refine callP (hf) ?_); simp -dsimp only [push_cast, seval]
       (first | refine call (hf2) ?_ | refine callP (hf2) ?_); simp -dsimp only [push_cast, seval]
       simp -dsimp only [push_cast, seval, hs']
       (first | refine call (p1) ?_ | refine callP (p1) ?_); simp -dsimp only [push_cast, seval]
       (first | refine call (p2) ?_ | refine callP (p2) ?_); simp -dsimp only [push_cast, seval]
       (first | refine call (gst) ?_ | refine callP (gst) ?_); simp -dsimp only [push_cast, seval, Bool.and_false, Bool.not_false, hk0, hk1]
       exact ⟨[], rfl, rfl, by simp -dsimp only [WeakTm, WeakBx, CLe, CLeL, push_cast, seval]⟩
      | some x =>
       obtain rfl : k = 0 := get_zero hg
       obtain ⟨g1, g2, g3⟩ := got_text hg
       have hxs := got_short (by omega) hg
       rw [hg] at gst
       simp only [Option.getD_some, Option.getD_none, Option.isSome_some, Option.isSome_none, if_true, if_false, Bool.false_eq_true, List.map_nil] at gst
       have p3 := put_fun x (by omega) hxs
       rw [show putTxt x = s by unfold putTxt; rw [g2, if_pos rfl, ← g1], show putE x = 0 by unfold putE; rw [g2]; rfl] at p3
       have pl := (rPlan_fun x (by omega) hxs).glob0 (G' := GL)
       have pu := (rUndo_fun x (by omega) hxs).glob0 (G' := GL)
       cases hpl : planB x with
       | true =>
        rw [hpl] at pl
        refine Fun.of (fun _ => []) (by kernel_rfl) Tryz.func6 rfl rfl (Nat.le_of_ble_eq_true rfl) (by kernel_rfl) ?_; dsimp only [Tryz.f6, List.append_eq, List.cons_append, List.nil_append]
        simp -dsimp only [push_cast, seval]
        (first | refine call (awake20) ?_ | refine callP (awake20) ?_); simp -dsimp only [push_cast, seval]
        (first | refine call (hf) ?_ | refine callP (hf) ?_); simp -dsimp only [push_cast, seval]
        (first | refine call (hf2) ?_ | refine callP (hf2) ?_); simp -dsimp only [push_cast, seval]
        simp -dsimp only [push_cast, seval, hs']
        (first | refine call (p1) ?_ | refine callP (p1) ?_); simp -dsimp only [push_cast, seval]
        (first | refine call (p2) ?_ | refine callP (p2) ?_); simp -dsimp only [push_cast, seval]
        (first | refine call (gst) ?_ | refine callP (gst) ?_); simp -dsimp only [push_cast, seval]
        (first | refine call (p3) ?_ | refine callP (p3) ?_); simp -dsimp only [push_cast, seval]
        (first | refine call (pl) ?_ | refine callP (pl) ?_); simp -dsimp only [push_cast, seval]
        exact ⟨[], rfl, rfl, by simp -dsimp only [WeakTm, WeakBx, CLe, CLeL, push_cast, seval]⟩
       | false =>
        rw [hpl] at pl
        have hu : undoB x = true := by unfold okL at g2; rw [hpl, Bool.false_or] at g2; exact g2
        rw [hu] at pu
        refine Fun.of (fun _ => []) (by kernel_rfl) Tryz.func6 rfl rfl (Nat.le_of_ble_eq_true rfl) (by kernel_rfl) ?_; dsimp only [Tryz.f6, List.append_eq, List.cons_append, List.nil_append]
        simp -dsimp only [push_cast, seval]
        (first | refine call (awake20) ?_ | refine callP (awake20) ?_); simp -dsimp only [push_cast, seval]
        (first | refine call (hf) ?_ | refine callP (hf) ?_); simp -dsimp only [push_cast, seval]
        (first | refine call (hf2) ?_ | refine callP (hf2) ?_); simp -dsimp only [push_cast, seval]
        simp -dsimp only [push_cast, seval, hs']
        (first | refine call (p1) ?_ | refine callP (p1) ?_); simp -dsimp only [push_cast, seval]
        (first | refine call (p2) ?_ | refine callP (p2) ?_); simp -dsimp only [push_cast, seval]
        (first | refine call (gst) ?_ | refine callP (gst) ?_); simp -dsimp only [push_cast, seval]
        (first | refine call (p3) ?_ | refine callP (p3) ?_); simp -dsimp only [push_cast, seval]
        (first | refine call (pl) ?_ | refine callP (pl) ?_); simp -dsimp only [push_cast, seval]
        (first | refine call (pu) ?_ | refine callP (pu) ?_); simp -dsimp only [push_cast, seval]
        exact ⟨[], rfl, rfl, by simp -dsimp only [WeakTm, WeakBx, CLe, CLeL, push_cast, seval]⟩
    | true =>
     rw [show putTxt l = textV l by unfold putTxt; rw [hol]; rfl, show putE l = 0 by unfold putE; rw [hol]; rfl] at p1
     have hlo := text_lines hfw hol [] (by simp)
     rw [List.append_nil] at hlo
     have gl := get_fun (textV l) hlo
     have hgp := get_of_put hol (Nat.le_trans h1 (by decide)) []
     rw [if_pos rfl, List.append_nil] at hgp
     rw [hgp] at gl
     unfold gotC gotL gotE at gl
     simp only [Option.getD_some, Option.getD_none, Option.isSome_some, Option.isSome_none, if_true, if_false, Bool.false_eq_true, List.map_nil] at gl
     have sm := (rSame_fun l l (by omega)).glob0 (G' := GL)
     rw [sameOps_refl] at sm
     cases hom : okL m with
     | false =>
      rw [show putTxt m = [] by unfold putTxt; rw [hom]; rfl, show putE m = 12 by unfold putE; rw [hom]; rfl] at p2
      cases hg : getV (readV mayB) okL s with
      | mk a k =>
       cases a with
       | none =>
        have hk := get_le2 s
        rw [hg] at hk gst
        simp only [Option.getD_some, Option.getD_none, Option.isSome_some, Option.isSome_none, if_true, if_false, Bool.false_eq_true, List.map_nil] at gst
        have hk0 : ((0 : Int) ≤ (k : Int)) = True := eq_true (by omega)
        have hk1 : ((k : Int) ≤ (s.length : Int)) = True := eq_true (by simp only at hk; omega)
        refine Fun.of (fun _ => []) (by kernel_rfl) Tryz.func6 rfl rfl (Nat.le_of_ble_eq_true rfl) (by kernel_rfl) ?_; dsimp only [Tryz.f6, List.append_eq, List.cons_append, List.nil_append]
        simp -dsimp only [push_cast, seval]
        (first | refine call (awake20) ?_ | refine callP (awake20) ?_); simp -dsimp only [push_cast, seval]
        (first | refine call (hf) ?_ | refine callP (hf) ?_); simp -dsimp only [push_cast, seval]
        (first | refine call (hf2) ?_ | refine callP (hf2) ?_); simp -dsimp only [push_cast, seval]
        simp -dsimp only [push_cast, seval, hs']
        (first | refine call (p1) ?_ | refine callP (p1) ?_); simp -dsimp only [push_cast, seval]
        (first | refine call (p2) ?_ | refine callP (p2) ?_); simp -dsimp only [push_cast, seval]
        (first | refine call (gl) ?_ | refine callP (gl) ?_); simp -dsimp only [push_cast, seval]
        (first | refine call (sm) ?_ | refine callP (sm) ?_); simp -dsimp only [push_cast, seval]
        (first | refine call (gst) ?_ | refine callP (gst) ?_); simp -dsimp only [push_cast, seval, Bool.and_false, Bool.not_false, hk0, hk1]
        exact ⟨[], rfl, rfl, by simp -dsimp only [WeakTm, WeakBx, CLe, CLeL, push_cast, seval]⟩
       | some x =>
        obtain rfl : k = 0 := get_zero hg
        obtain ⟨g1, g2, g3⟩ := got_text hg
        have hxs := got_short (by omega) hg
        rw [hg] at gst
        simp only [Option.getD_some, Option.getD_none, Option.isSome_some, Option.isSome_none, if_true, if_false, Bool.false_eq_true, List.map_nil] at gst
        have p3 := put_fun x (by omega) hxs
        rw [show putTxt x = s by unfold putTxt; rw [g2, if_pos rfl, ← g1], show putE x = 0 by unfold putE; rw [g2]; rfl] at p3
        have pl := (rPlan_fun x (by omega) hxs).glob0 (G' := GL)
        have pu := (rUndo_fun x (by omega) hxs).glob0 (G' := GL)
        cases hpl : planB x with
        | true =>
         rw [hpl] at pl
         refine Fun.of (fun _ => []) (by kernel_rfl) Tryz.func6 rfl rfl (Nat.le_of_ble_eq_true rfl) (by kernel_rfl) ?_; dsimp only [Tryz.f6, List.append_eq, List.cons_append, List.nil_append]
         simp -dsimp only [push_cast, seval]
         (first | refine call (awake20) ?_ | refine callP (awake20) ?_); simp -dsimp only [push_cast, seval]
         (first | refine call (hf) ?_ | refine callP (hf) ?_); simp -dsimp only [push_cast, seval]
         (first | refine call (hf2) ?_ | refine callP (hf2) ?_); simp -dsimp only [push_cast, seval]
         simp -dsimp only [push_cast, seval, hs']
         (first | refine call (p1) ?_ | refine callP (p1) ?_); simp -dsimp only [push_cast, seval]
         (first | refine call (p2) ?_ | refine callP (p2) ?_); simp -dsimp only [push_cast, seval]
         (first | refine call (gl) ?_ | refine callP (gl) ?_); simp -dsimp only [push_cast, seval]
         (first | refine call (sm) ?_ | refine callP (sm) ?_); simp -dsimp only [push_cast, seval]
         (first | refine call (gst) ?_ | refine callP (gst) ?_); simp -dsimp only [push_cast, seval]
         (first | refine call (p3) ?_ | refine callP (p3) ?_); simp -dsimp only [push_cast, seval]
         (first | refine call (pl) ?_ | refine callP (pl) ?_); simp -dsimp only [push_cast, seval]
         exact ⟨[], rfl, rfl, by simp -dsimp only [WeakTm, WeakBx, CLe, CLeL, push_cast, seval]⟩
        | false =>
         rw [hpl] at pl
         have hu : undoB x = true := by unfold okL at g2; rw [hpl, Bool.false_or] at g2; exact g2
         rw [hu] at pu
         refine Fun.of (fun _ => []) (by kernel_rfl) Tryz.func6 rfl rfl (Nat.le_of_ble_eq_true rfl) (by kernel_rfl) ?_; dsimp only [Tryz.f6, List.append_eq, List.cons_append, List.nil_append]
         simp -dsimp only [push_cast, seval]
         (first | refine call (awake20) ?_ | refine callP (awake20) ?_); simp -dsimp only [push_cast, seval]
         (first | refine call (hf) ?_ | refine callP (hf) ?_); simp -dsimp only [push_cast, seval]
         (first | refine call (hf2) ?_ | refine callP (hf2) ?_); simp -dsimp only [push_cast, seval]
         simp -dsimp only [push_cast, seval, hs']
         (first | refine call (p1) ?_ | refine callP (p1) ?_); simp -dsimp only [push_cast, seval]
         (first | refine call (p2) ?_ | refine callP (p2) ?_); simp -dsimp only [push_cast, seval]
         (first | refine call (gl) ?_ | refine callP (gl) ?_); simp -dsimp only [push_cast, seval]
         (first | refine call (sm) ?_ | refine callP (sm) ?_); simp -dsimp only [push_cast, seval]
         (first | refine call (gst) ?_ | refine callP (gst) ?_); simp -dsimp only [push_cast, seval]
         (first | refine call (p3) ?_ | refine callP (p3) ?_); simp -dsimp only [push_cast, seval]
         (first | refine call (pl) ?_ | refine callP (pl) ?_); simp -dsimp only [push_cast, seval]
         (first | refine call (pu) ?_ | refine callP (pu) ?_); simp -dsimp only [push_cast, seval]
         exact ⟨[], rfl, rfl, by simp -dsimp only [WeakTm, WeakBx, CLe, CLeL, push_cast, seval]⟩
     | true =>
      rw [show putTxt m = textV m by unfold putTxt; rw [hom]; rfl, show putE m = 0 by unfold putE; rw [hom]; rfl] at p2
      have sm2 := (rSame_fun l m (by omega)).glob0 (G' := GL)
      rcases sameOps_eq (l := l) (m := m) with he | he
      ·rw [he] at sm2
       cases hg : getV (readV mayB) okL s with
       | mk a k =>
        cases a with
        | none =>
         have hk := get_le2 s
         rw [hg] at hk gst
         simp only [Option.getD_some, Option.getD_none, Option.isSome_some, Option.isSome_none, if_true, if_false, Bool.false_eq_true, List.map_nil] at gst
         have hk0 : ((0 : Int) ≤ (k : Int)) = True := eq_true (by omega)
         have hk1 : ((k : Int) ≤ (s.length : Int)) = True := eq_true (by simp only at hk; omega)
         refine Fun.of (fun _ => []) (by kernel_rfl) Tryz.func6 rfl rfl (Nat.le_of_ble_eq_true rfl) (by kernel_rfl) ?_; dsimp only [Tryz.f6, List.append_eq, List.cons_append, List.nil_append]
         simp -dsimp only [push_cast, seval]
         (first | refine call (awake20) ?_ | refine callP (awake20) ?_); simp -dsimp only [push_cast, seval]
         (first | refine call (hf) ?_ | refine callP (hf) ?_); simp -dsimp only [push_cast, seval]
         (first | refine call (hf2) ?_ | refine callP (hf2) ?_); simp -dsimp only [push_cast, seval]
         simp -dsimp only [push_cast, seval, hs']
         (first | refine call (p1) ?_ | refine callP (p1) ?_); simp -dsimp only [push_cast, seval]
         (first | refine call (p2) ?_ | refine callP (p2) ?_); simp -dsimp only [push_cast, seval]
         (first | refine call (gl) ?_ | refine callP (gl) ?_); simp -dsimp only [push_cast, seval]
         (first | refine call (sm) ?_ | refine callP (sm) ?_); simp -dsimp only [push_cast, seval]
         (first | refine call (sm2) ?_ | refine callP (sm2) ?_); simp -dsimp only [push_cast, seval]
         (first | refine call (gst) ?_ | refine callP (gst) ?_); simp -dsimp only [push_cast, seval, Bool.and_false, Bool.not_false, hk0, hk1]
         exact ⟨[], rfl, rfl, by simp -dsimp only [WeakTm, WeakBx, CLe, CLeL, push_cast, seval]⟩
        | some x =>
         obtain rfl : k = 0 := get_zero hg
         obtain ⟨g1, g2, g3⟩ := got_text hg
         have hxs := got_short (by omega) hg
         rw [hg] at gst
         simp only [Option.getD_some, Option.getD_none, Option.isSome_some, Option.isSome_none, if_true, if_false, Bool.false_eq_true, List.map_nil] at gst
         have p3 := put_fun x (by omega) hxs
         rw [show putTxt x = s by unfold putTxt; rw [g2, if_pos rfl, ← g1], show putE x = 0 by unfold putE; rw [g2]; rfl] at p3
         have pl := (rPlan_fun x (by omega) hxs).glob0 (G' := GL)
         have pu := (rUndo_fun x (by omega) hxs).glob0 (G' := GL)
         cases hpl : planB x with
         | true =>
          rw [hpl] at pl
          refine Fun.of (fun _ => []) (by kernel_rfl) Tryz.func6 rfl rfl (Nat.le_of_ble_eq_true rfl) (by kernel_rfl) ?_; dsimp only [Tryz.f6, List.append_eq, List.cons_append, List.nil_append]
          simp -dsimp only [push_cast, seval]
          (first | refine call (awake20) ?_ | refine callP (awake20) ?_); simp -dsimp only [push_cast, seval]
          (first | refine call (hf) ?_ | refine callP (hf) ?_); simp -dsimp only [push_cast, seval]
          (first | refine call (hf2) ?_ | refine callP (hf2) ?_); simp -dsimp only [push_cast, seval]
          simp -dsimp only [push_cast, seval, hs']
          (first | refine call (p1) ?_ | refine callP (p1) ?_); simp -dsimp only [push_cast, seval]
          (first | refine call (p2) ?_ | refine callP (p2) ?_); simp -dsimp only [push_cast, seval]
          (first | refine call (gl) ?_ | refine callP (gl) ?_); simp -dsimp only [push_cast, seval]
          (first | refine call (sm) ?_ | refine callP (sm) ?_); simp -dsimp only [push_cast, seval]
          (first | refine call (sm2) ?_ | refine callP (sm2) ?_); simp -dsimp only [push_cast, seval]
          (first | refine call (gst) ?_ | refine callP (gst) ?_); simp -dsimp only [push_cast, seval]
          (first | refine call (p3) ?_ | refine callP (p3) ?_); simp -dsimp only [push_cast, seval]
          (first | refine call (pl) ?_ | refine callP (pl) ?_); simp -dsimp only [push_cast, seval]
          exact ⟨[], rfl, rfl, by simp -dsimp only [WeakTm, WeakBx, CLe, CLeL, push_cast, seval]⟩
         | false =>
          rw [hpl] at pl
          have hu : undoB x = true := by unfold okL at g2; rw [hpl, Bool.false_or] at g2; exact g2
          rw [hu] at pu
          refine Fun.of (fun _ => []) (by kernel_rfl) Tryz.func6 rfl rfl (Nat.le_of_ble_eq_true rfl) (by kernel_rfl) ?_; dsimp only [Tryz.f6, List.append_eq, List.cons_append, List.nil_append]
          simp -dsimp only [push_cast, seval]
          (first | refine call (awake20) ?_ | refine callP (awake20) ?_); simp -dsimp only [push_cast, seval]
          (first | refine call (hf) ?_ | refine callP (hf) ?_); simp -dsimp only [push_cast, seval]
          (first | refine call (hf2) ?_ | refine callP (hf2) ?_); simp -dsimp only [push_cast, seval]
          simp -dsimp only [push_cast, seval, hs']
          (first | refine call (p1) ?_ | refine callP (p1) ?_); simp -dsimp only [push_cast, seval]
          (first | refine call (p2) ?_ | refine callP (p2) ?_); simp -dsimp only [push_cast, seval]
          (first | refine call (gl) ?_ | refine callP (gl) ?_); simp -dsimp only [push_cast, seval]
          (first | refine call (sm) ?_ | refine callP (sm) ?_); simp -dsimp only [push_cast, seval]
          (first | refine call (sm2) ?_ | refine callP (sm2) ?_); simp -dsimp only [push_cast, seval]
          (first | refine call (gst) ?_ | refine callP (gst) ?_); simp -dsimp only [push_cast, seval]
          (first | refine call (p3) ?_ | refine callP (p3) ?_); simp -dsimp only [push_cast, seval]
          (first | refine call (pl) ?_ | refine callP (pl) ?_); simp -dsimp only [push_cast, seval]
          (first | refine call (pu) ?_ | refine callP (pu) ?_); simp -dsimp only [push_cast, seval]
          exact ⟨[], rfl, rfl, by simp -dsimp only [WeakTm, WeakBx, CLe, CLeL, push_cast, seval]⟩
      ·exact absurd ⟨hol, hom, Nat.le_trans h1 (by decide), Nat.le_trans h3 (by decide)⟩ he
end Go.Proofs.YtbphobmohdclaaaGreatDoor.Vcg
end
section
set_option linter.unusedVariables false
namespace Go.Proofs.YtbphobmohdclaaaGreatDoor.Vcg
open Go.RowKit Go.ChangeMaps Go.ChangeShapes Go.WideShapes Go.Deep Go.Joins
section
variable {H : Type} {enc : TypeId × Value → H} {W : World}
theorem opn_op : OpnRow enc Tryz.prog W 23 5 fun row => ∃ o : OpV, row = opL o ∧ True := fun fuel cs x hx => by
 obtain ⟨row, ⟨hl, hq⟩, h1, h2, h3⟩ := OpnRow.struct (W := W) (enc := enc) (Qs := fun j c => match j with | 0 => ∃ n, c = .sc (.int .i64 n) ∧ (Lit.int .i64 n).wf = true | 1 => ∃ n, c = .sc (.int .i64 n) ∧ (Lit.int .i64 n).wf = true | 2 => ∃ l : List UInt8, c = .str l ∧ l.length ≤ maxLen | 3 => ∃ l : List UInt8, c = .str l ∧ l.length ≤ maxLen | 4 => ∃ l : List UInt8, c = .str l ∧ l.length ≤ maxLen | _ => True) Tryz.underlying23 (by kernel_rfl) (by kernel_rfl) (fun j f hj => by
  match j, hj with
  | 0, hj => cases hj; exact Opn.int Tryz.underlying3
  | 1, hj => cases hj; exact Opn.int Tryz.underlying3
  | 2, hj => cases hj; exact Opn.str Tryz.underlying9
  | 3, hj => cases hj; exact Opn.str Tryz.underlying9
  | 4, hj => cases hj; exact Opn.str Tryz.underlying9
  | j + 5, hj => simp at hj) fuel cs x hx
 match row, h1, hq, h3 with
 | [c0, c1, c2, c3, c4], _, hq, h3 =>
  obtain ⟨k, rfl, _⟩ := hq 0 c0 rfl
  obtain ⟨s, rfl, _⟩ := hq 1 c1 rfl
  obtain ⟨a, rfl, _⟩ := hq 2 c2 rfl
  obtain ⟨b, rfl, _⟩ := hq 3 c3 rfl
  obtain ⟨d, rfl, _⟩ := hq 4 c4 rfl
  exact ⟨_, ⟨⟨k, s, a, b, d⟩, rfl, trivial⟩, rfl, h2, h3⟩
theorem ops_of_rows : ∀ {rows : List (List C)}, (∀ r ∈ rows, ∃ o : OpV, r = opL o ∧ True) → ∃ xs : List OpV, rows = opsC xs
 | [], _ => ⟨[], rfl⟩
 | r :: rows, h => by
  obtain ⟨xs, rfl⟩ := ops_of_rows fun r' hr => h r' (List.mem_cons_of_mem _ hr)
  obtain ⟨o, rfl, _⟩ := h r List.mem_cons_self
  exact ⟨o :: xs, rfl⟩
theorem opn_ops : Opn enc Tryz.prog W 26 fun c => ∃ xs : List OpV, c = .sl 5 (opsC xs) ∧ True := fun fuel cs x hx => by
 obtain ⟨v, c, rfl, ⟨rows, rfl, hl, hr⟩, h1, h2⟩ := Opn.slice (W := W) (enc := enc) Tryz.underlying26 (show Tryz.prog.cellsOf 23 = 5 by kernel_rfl) (by decide) opn_op fuel cs x hx
 obtain ⟨xs, rfl⟩ := ops_of_rows hr
 exact ⟨v, _, rfl, ⟨xs, rfl, trivial⟩, h1, h2⟩
end
theorem globL {W : World} {l : List (String × DataW Unit)} (h : laidMetH Tryz.prog l W) (hp : (l.filter fun x => x.2.handleName?.isSome) = []) (hm1 : ("drayman/op.has", Rows.laid_drayman_op_has) ∈ l) (hm2 : ("drayman/lang.names", Rows.laid_drayman_lang_names) ∈ l) (hm3 : ("internal/strconv.uint64pow10", Rows.laid_internal_strconv_uint64pow10) ∈ l) : GlobOk GL (env0 W) := fun g cs hc => by
 unfold GL at hc
 split at hc
 ·rename_i hg
  subst hg
  cases hc
  exact globCells_laid (t := 82) h hp hm1 (by kernel_rfl) (by kernel_rfl) (m := 4) (by kernel_rfl) (by kernel_rfl) (by kernel_rfl)
 ·split at hc
  ·rename_i hg
   subst hg
   cases hc
   exact globCells_laid (t := 56) h hp hm2 (by kernel_rfl) (by kernel_rfl) (m := 4) (vs := namesL.map fun l => Value.string ⟨l.toArray⟩) (by kernel_rfl) (by kernel_rfl) (by kernel_rfl)
  ·split at hc
   ·rename_i hg
    subst hg
    cases hc
    exact globCells_laid (t := 121) h hp hm3 (by kernel_rfl) (by kernel_rfl) (m := 4) (vs := powV) (by kernel_rfl) (by kernel_rfl) (by kernel_rfl)
   ·cases hc
end Go.Proofs.YtbphobmohdclaaaGreatDoor.Vcg
end
section
set_option linter.unusedVariables false
namespace Go.Proofs.YtbphobmohdclaaaGreatDoor.PLangBack
open Go.ChangeShapes Go.WideShapes Go.ChangeAt Go.RowKit Vcg
theorem own : ownKnob Tryz.prog.godebug = none := by kernel_rfl
theorem laidOut : laidOutB Tryz.prog = true := by kernel_rfl
set_option maxRecDepth 100000 in
theorem contract (H : Type) (enc : TypeId × Value → H) (W : World) (base : Nat) (args : Array Value) (ds gs : List (DataW H)) (before : List MemPlace)
  (hval : ∀ (j : Nat) t v, Tryz.f6.params[j]? = some t → args[j]? = some v → Value.okWide Tryz.prog W .any base t v)
  (hW : DataW.Whole enc Tryz.prog Tryz.f6.params.toList Rows.langBackSpec.vars false W args.toList ds gs before) (hL : laidMetH Tryz.prog Rows.langBackRow.laid W) :
  Calls Tryz.prog 6 args W fun e W' => ∃ v, e = .returned v ∧ Rows.langBackSpec.post enc Tryz.prog Tryz.f6 false true false false W args v W' := by
 have hW' := hW
 obtain ⟨p, q, hA0, hV, rfl, hfz, hnd⟩ := hW
 have hA : DataW.TrodAll enc Tryz.prog W 0 (fun _ => true) true Tryz.f6.params.toList args.toList ds p := hA0
 rw [Tryz.params6] at hA hval
 obtain ⟨v0, vs0, d0, ds0, p0, q0, hargs, rfl, rfl, h0, r0⟩ := trodAll_cons hA
 obtain ⟨v1, vs1, d1, ds1, p1, q1, rfl, rfl, rfl, h1, r1⟩ := trodAll_cons r0
 obtain ⟨v2, vs2, d2, ds2, p2, q2, rfl, rfl, rfl, h2, r2⟩ := trodAll_cons r1
 obtain ⟨rfl, rfl, rfl⟩ := trodAll_nil r2
 obtain rfl : args = #[v0, v1, v2] := by cases args; simp_all
 obtain ⟨rfl, rfl⟩ := trodVars_none hV
 have lt0 : ∀ x ∈ p0, x.block < W.heap.size := by obtain ⟨m, hm⟩ := h0; exact DataW.trod_lt m _ _ _ hm
 have lt1 : ∀ x ∈ p1, x.block < W.heap.size := by obtain ⟨m, hm⟩ := h1; exact DataW.trod_lt m _ _ _ hm
 have lt2 : ∀ x ∈ p2, x.block < W.heap.size := by obtain ⟨m, hm⟩ := h2; exact DataW.trod_lt m _ _ _ hm
 obtain ⟨n0, m0, c0, hn0⟩ := okWide_slice Tryz.underlying26 (hval 0 26 v0 rfl rfl)
 obtain ⟨_, ⟨a0, rfl, w0⟩, rep0⟩ := Opn.arg (r := .any) (b0 := base) opn_ops (by rw [hn0]; rfl) h0
 obtain ⟨n1, m1, c1, hn1⟩ := okWide_slice Tryz.underlying26 (hval 1 26 v1 rfl rfl)
 obtain ⟨_, ⟨a1, rfl, w1⟩, rep1⟩ := Opn.arg (r := .any) (b0 := base) opn_ops (by rw [hn1]; rfl) h1
 obtain ⟨n2, hn2⟩ := okWide_string Tryz.underlying9 (hval 2 9 v2 rfl rfl)
 obtain ⟨_, ⟨a2, rfl, w2⟩, rep2⟩ := Opn.arg (r := .any) (b0 := base) (Opn.str Tryz.underlying9) (by rw [hn2]; rfl) h2
 clear hA0
 refine (Fun.answers (langBack_fun a0 a1 a2) (globL hL (by kernel_rfl) (by repeat (first | exact List.mem_cons_self | refine List.mem_cons_of_mem _ ?_)) (by repeat (first | exact List.mem_cons_self | refine List.mem_cons_of_mem _ ?_)) (by repeat (first | exact List.mem_cons_self | refine List.mem_cons_of_mem _ ?_))) (repL_cons.2 ⟨_, _, rfl, rep0, repL_cons.2 ⟨_, _, rfl, rep1, repL_cons.2 ⟨_, _, rfl, rep2, repL_nil.2 rfl⟩⟩⟩)).mono fun e W' ⟨he, bel⟩ => ?_
 subst he
 exact ⟨_, rfl, _, _, _, [], _, [], hW', trodAll_mk1 (shut_bool Tryz.underlying4 _), (trodAll_cons_mk (Below.trod laidOut (by kernel_rfl) (of_decide_eq_true (by kernel_rfl)) h0 bel lt0) (trodAll_cons_mk (Below.trod laidOut (by kernel_rfl) (of_decide_eq_true (by kernel_rfl)) h1 bel lt1) (trodAll_cons_mk (Below.trod laidOut (by kernel_rfl) (of_decide_eq_true (by kernel_rfl)) h2 bel lt2) trodAll_mk0))), rfl, bel.frame _, fun h => by cases h⟩
set_option maxRecDepth 100000 in
theorem lifted (os : Os) (started : os.Started) (H : Type) (enc : TypeId × Value → H) :
  ReturnsInHanded {} Tryz.checked os 6 .any (fun w args => (Rows.langBackSpec.pre enc Tryz.prog Tryz.f6 Rows.langBackRow.domain false w args ∧ laidMetH Tryz.prog Rows.langBackRow.laid w) ∧ sizedMet enc Tryz.prog Tryz.f6 (OpenSpec.ofChange Rows.langBackSpec) false w args)
   (Rows.langBackSpec.post enc Tryz.prog Tryz.f6 false true false false) := by
 refine returnsInHanded_of_change_and (C := Tryz.checked) (X := fun w _ => laidMetH Tryz.prog Rows.langBackRow.laid w) (fun _ _ _ hh h => h.of_heap hh) own started (by kernel_rfl) Tryz.func6
  (ChangeSpec.witness_shaped (enc := enc) (C := Tryz.checked) (os := os) (X := fun w _ => laidMetH Tryz.prog Rows.langBackRow.laid w) false (World.laidAll Tryz.prog os Rows.langBackRow.laid) #[.slice none 0 0, .slice none 0 0, .string ⟨#[]⟩] 8 (World.laidAll_os _ _ _)
   (World.shaped_of_ZipB (by kernel_rfl) (by kernel_rfl)) (by kernel_rfl) (by kernel_rfl) (by kernel_rfl)
   (by rw [MakeChecks.laidMetH_plain _ _ _ (by kernel_rfl)]; exact laidMet_laidAll _ (by kernel_rfl) (by kernel_rfl))) ?_
 intro W base args ds gs before hval hW _ _ hL _
 exact contract H enc W base args ds gs before hval hW hL
theorem said : Rows.LangBackSaid :=
 OpenClaim.holds_of_wide 6 Tryz.f6 rfl rfl rfl rfl rfl rfl rfl ⟨rfl, rfl, rfl, rfl, rfl⟩ rfl rfl rfl rfl rfl (by kernel_rfl) Tryz.func6 (by kernel_rfl)
  (of_decide_eq_true (by kernel_rfl)) (by unfold Func.isWrapper; first | (rw [if_pos (by decide +kernel)]; kernel_rfl) | (rw [if_neg (by decide +kernel)]; exact ⟨rfl, rfl⟩))
  (fun os started H enc _ => lifted os started H enc)
theorem plain (f : FuncId) (fn : Func) (hf : Tryz.pinned.checked.prog.funcNamed "drayman/draymanlaw20.LangBack" = some f) (hfn : Tryz.pinned.checked.prog.funcs[f]? = some fn) :
  false = Tryz.pinned.checked.prog.looks [] ∧ ∀ (j : Nat) t, fn.params[j]? = some t → Tryz.pinned.checked.prog.wantsStandIn t = false := by
 obtain rfl : f = 6 := Option.some.inj ((show Tryz.prog.funcNamed "drayman/draymanlaw20.LangBack" = some 6 by kernel_rfl).symm.trans hf) |>.symm
 obtain rfl : fn = Tryz.f6 := (Option.some.inj (Tryz.func6.symm.trans hfn)).symm
 exact ⟨by kernel_rfl, fun j t ht => by
  rw [Tryz.params6] at ht
  have hm : t ∈ [26, 26, 9] := by simpa using Array.mem_of_getElem? ht
  have hall : ([26, 26, 9].all fun u => !Tryz.prog.wantsStandIn u) = true := by kernel_rfl
  exact (show Tryz.prog.wantsStandIn t = false by simpa using List.all_eq_true.1 hall t hm)⟩
theorem card : Rows.LangBackCardSaid :=
 Claim7.holds_tied_plain_at .later [] _ _ _ _ said (fun _ h => by cases h) (by kernel_rfl) (fun _ h => by cases h) langBack_row_tie rfl ⟨rfl, rfl⟩ (by kernel_rfl) rfl plain (by kernel_rfl)
theorem proved : Rows.LangBackCardSaid := card
end Go.Proofs.YtbphobmohdclaaaGreatDoor.PLangBack
end
