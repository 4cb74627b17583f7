/- Layer 17's law ArgsOrder, walked: it answers true. No condition but bounds that each states. -/
import Derived.Test.YtphiahlodjblcaaDoorLaw17b
set_option linter.unusedVariables false
set_option linter.unusedSimpArgs false
namespace Go.Proofs.YtphiahlodjblcaaDoor.Vcg
open Go.RowKit QuotePlain
/-- the letters that the law draws from -/
def drawV (k : Int) : List UInt8 := if k = 1 then [112] else if k = 2 then [100, 102, 114] else if k = 3 then [102, 110, 115, 84] else if k = 4 then [102, 84] else if k = 5 then [102, 114, 80, 84] else []
def pickV (A : List UInt8) (ls : List UInt8) : List UInt8 := ls.map fun b => A.getD (b.toNat % A.length) 0
theorem draw_ref {k : Int} (hk : k = 1 ∨ k = 2 ∨ k = 3 ∨ k = 4 ∨ k = 5) : ∀ c ∈ drawV k, c ∈ refAll k := by
  rcases hk with rfl | rfl | rfl | rfl | rfl <;> decide
theorem draw_pair {k : Int} (h4 : 4 ≤ k) : (110 : UInt8) ∉ drawV k := by
  unfold drawV
  (repeat' split) <;> first | omega | simp
theorem draw_pos {k : Int} (hk : k = 1 ∨ k = 2 ∨ k = 3 ∨ k = 4 ∨ k = 5) : 0 < (drawV k).length := by
  rcases hk with rfl | rfl | rfl | rfl | rfl <;> decide
theorem draw_dash {k : Int} : (45 : UInt8) ∉ drawV k := by
  unfold drawV
  (repeat' split) <;> simp
theorem pick_mem {A : List UInt8} (hA : 0 < A.length) {ls : List UInt8} : ∀ c ∈ pickV A ls, c ∈ A := by
  intro c hc
  unfold pickV at hc
  obtain ⟨b, _, rfl⟩ := List.mem_map.1 hc
  rw [List.getD_eq_getElem?_getD, List.getElem?_eq_getElem (Nat.mod_lt _ hA)]
  exact List.getElem_mem _
theorem wordG_all {A : List UInt8} : ∀ (w s : List UInt8), (∀ c ∈ w, c ∈ A) → wordG A snocF s w = (s ++ w, [])
  | [], s, _ => by simp [wordG]
  | c :: w, s, h => by
    rw [wordG, if_pos (h c (List.mem_cons_self ..)), wordG_all w (snocF s c) fun x hx => h x (List.mem_cons_of_mem _ hx)]
    simp
theorem letters_end (A s : List UInt8) (n : Nat) (r : List (List UInt8)) : lettersG A snocF s n ([45, 45] :: r) = (s, n + 1, []) := by rw [lettersG, if_pos rfl]
theorem letters_word {A : List UInt8} (hd : (45 : UInt8) ∉ A) {w : List UInt8} (hw : ∀ c ∈ w, c ∈ A) (h0 : w ≠ []) (s : List UInt8) (n : Nat) (r : List (List UInt8)) : lettersG A snocF s n ((45 :: w) :: r) = lettersG A snocF (s ++ w) (n + 1) r := by
  have h1 : (45 :: w) ≠ [45, 45] := by
    intro e
    have : w = [45] := by simpa using e
    exact hd (hw 45 (by rw [this]; simp))
  have hpos := List.length_pos_iff.2 h0
  rw [lettersG, if_neg h1, if_neg (by simp; omega)]
  rw [show (45 :: w).tail = w from rfl, wordG_all w s hw, if_pos rfl]
theorem letters_words {A : List UInt8} (hd : (45 : UInt8) ∉ A) : ∀ (cs : List UInt8) (s : List UInt8) (n : Nat) (r : List (List UInt8)), (∀ c ∈ cs, c ∈ A) → lettersG A snocF s n (cs.map (fun c => [45, c]) ++ [45, 45] :: r) = (s ++ cs, n + cs.length + 1, [])
  | [], s, n, r, _ => by rw [List.map_nil, List.nil_append, letters_end]; simp
  | c :: cs, s, n, r, h => by
    rw [List.map_cons, List.cons_append, letters_word hd (w := [c]) (fun x hx => by rw [List.mem_singleton.1 hx]; exact h c (List.mem_cons_self ..)) (by simp), letters_words hd cs _ _ _ fun x hx => h x (List.mem_cons_of_mem _ hx)]
    simp; omega
theorem lastV_f {cs : List UInt8} (h : (110 : UInt8) ∉ cs) : lastV cs [102, 110] = if 102 ∈ cs then 102 else 0 := by
  have key : ∀ (l : List UInt8) (a : UInt8), (110 : UInt8) ∉ l → l.foldl (fun c b => if b ∈ ([102, 110] : List UInt8) then b else c) a = if 102 ∈ l then 102 else a := by
    intro l
    induction l with
    | nil => intro a _; rfl
    | cons b l ih =>
      intro a hl
      have hb : b ≠ 110 := fun e => hl (by rw [e]; exact List.mem_cons_self ..)
      rw [List.foldl_cons, ih _ fun hx => hl (List.mem_cons_of_mem _ hx)]
      by_cases h1 : b = 102
      · subst h1; simp
      · have : b ∉ ([102, 110] : List UInt8) := by simp [h1, hb]
        rw [if_neg this]
        by_cases h2 : 102 ∈ l
        · simp [h2]
        · simp [h2, Ne.symm h1]
  exact key cs 0 h
theorem optV_mem {k : Int} {a b : List UInt8} (hm : ∀ x, x ∈ a ↔ x ∈ b) (hp : 4 ≤ k → (110 : UInt8) ∉ a) : optV k a 58 = optV k b 58 := by
  have hi : ∀ x, isV k a x = isV k b x := fun x => by
    unfold isV
    by_cases h1 : 4 ≤ k ∧ (x = 102 ∨ x = 110)
    · have h2 := hp h1.1
      rw [if_pos h1, if_pos h1, lastV_f h2, lastV_f (fun h => h2 ((hm _).2 h))]
      simp [hm]
    · rw [if_neg h1, if_neg h1]
      simp [hm]
  unfold optV
  congr 1
  funext x
  exact hi x
/-- what the three readings come to -/
def orderR (k : Int) (cs : List UInt8) (ops : List (List UInt8)) : CmdV × List UInt8 :=
  if wrongV k (optV k cs 58) ops ≠ [] then (noCmd, nameV k ++ [58, 32] ++ wrongV k (optV k cs 58) ops) else (⟨k, optV k cs 58, ops⟩, [])
theorem read_order {k : Int} (hk : k = 1 ∨ k = 2 ∨ k = 3 ∨ k = 4 ∨ k = 5) {r ops : List (List UInt8)} {cs : List UInt8} {n : Nat} (h : lettersG (refAll k) snocF [] 0 r = (cs, n, [])) (hr : r.drop n = ops) : readV (nameV k :: r) = orderR k cs ops := by
  rw [readV, kindUp_name hk, if_neg (by omega), h]
  unfold readTail orderR
  rw [if_neg (by simp)]
  dsimp only
  rw [hr]
theorem order_plain {k : Int} (hk : k = 1 ∨ k = 2 ∨ k = 3 ∨ k = 4 ∨ k = 5) {cs : List UInt8} (hc : ∀ c ∈ cs, c ∈ drawV k) (ops : List (List UInt8)) :
    readV (nameV k :: ((if cs = [] then [] else [45 :: cs]) ++ [45, 45] :: ops)) = orderR k cs ops ∧
    readV (nameV k :: (cs.map (fun c => [45, c]) ++ [45, 45] :: ops)) = orderR k cs ops ∧
    readV (nameV k :: ((if cs = [] then [] else [45 :: cs.reverse]) ++ [45, 45] :: ops)) = orderR k cs ops := by
  have hA : (45 : UInt8) ∉ refAll k := by
    rcases hk with rfl | rfl | rfl | rfl | rfl <;> decide
  have hcr : ∀ c ∈ cs, c ∈ refAll k := fun c h => draw_ref hk c (hc c h)
  have hrev : orderR k cs.reverse ops = orderR k cs ops := by
    unfold orderR
    rw [optV_mem (a := cs.reverse) (b := cs) (fun x => List.mem_reverse) (fun h4 h => draw_pair h4 (hc _ (List.mem_reverse.1 h)))]
  refine ⟨?_, ?_, ?_⟩
  · by_cases h0 : cs = []
    · rw [if_pos h0, List.nil_append]
      exact read_order hk (n := 1) (by rw [letters_end, h0]) rfl
    · rw [if_neg h0]
      exact read_order hk (n := 2) (by rw [List.singleton_append, letters_word hA hcr h0, letters_end]; simp) rfl
  · refine read_order hk (n := cs.length + 1) (by rw [letters_words hA cs _ _ _ hcr]; simp) ?_
    rw [← List.drop_drop]
    have : (cs.map fun c => [45, c]).length = cs.length := by simp
    rw [List.drop_left' this]; rfl
  · by_cases h0 : cs = []
    · rw [if_pos h0, List.nil_append]
      exact read_order hk (n := 1) (by rw [letters_end, h0]) rfl
    · rw [if_neg h0, ← hrev]
      exact read_order hk (n := 2) (by rw [List.singleton_append, letters_word hA (fun c h => hcr c (List.mem_reverse.1 h)) (by simpa using h0), letters_end]; simp) rfl
abbrev u8R (ls : List UInt8) : List (List C) := ls.map fun b => [u8C b]
theorem u8R_at (ls : List UInt8) (i : Nat) (h : i < ls.length) : (u8R ls)[i]? = some [u8C (ls[i]'h)] := by simp [u8R, List.getElem?_eq_getElem h]
theorem pick_snoc (A ls : List UInt8) (i : Nat) (hi : i < ls.length) : pickV A (ls.take (i + 1)) = pickV A (ls.take i) ++ [A.getD ((ls[i]'hi).toNat % A.length) 0] := by
  unfold pickV
  rw [List.take_add_one, List.getElem?_eq_getElem hi, List.map_append]
  rfl
abbrev dashed (cs : List UInt8) : List (List UInt8) := cs.map fun c => [45, c]
set_option maxRecDepth 8000 in
set_option maxHeartbeats 2000000 in
theorem argsOrder_fun (n : Nat) (hn : n ≤ 255) (ls : List UInt8) (ops : List (List UInt8)) (hls : ls.length ≤ 9223372036854775807) : Fun Tryd.prog G3 5 [.sc (.int .u8 n), .sl 1 (u8R ls), .sl 1 (strs ops)] (boolC true) 0 := by
  have hf := (few_fun ops).glob0 (G' := G3)
  have hul : (u8R ls).length = ls.length := List.length_map ..
  by_cases h20 : ls.length ≤ 20
  · have h20' : (20 < (ls.length : Int)) = False := eq_false (by omega)
    cases hfr : few ops with
    | false =>
      rw [hfr] at hf
      refine Fun.of (fun _ => []) (by kernel_rfl) Tryd.func5 rfl rfl (Nat.le_of_ble_eq_true rfl) (by kernel_rfl) ?_; dsimp only [Tryd.f5, List.append_eq, List.cons_append, List.nil_append]
      simp -dsimp only [push_cast, Int.ofNat_eq_natCast, ↓reduceIte, Nat.reduceAdd, Nat.reduceMul, Nat.reduceSub, Nat.reduceLeDiff, Nat.reduceEqDiff, Nat.reduceBEq, Int.reduceToNat, Nat.reduceLT, Int.reduceEq, Int.reduceLT, Int.reduceLE, Int.reduceAdd, Int.reduceSub, Int.reduceMul, reduceCtorEq, Bool.not_false, Bool.not_true, Bool.true_beq, Bool.false_beq, beq_self_eq_true, Bool.true_and]
      (first | refine call (awake17_fun) ?_ | refine callP (awake17_fun) ?_); simp -dsimp only [push_cast, Int.ofNat_eq_natCast, ↓reduceIte, Nat.reduceAdd, Nat.reduceMul, Nat.reduceSub, Nat.reduceLeDiff, Nat.reduceEqDiff, Nat.reduceBEq, Int.reduceToNat, Nat.reduceLT, Int.reduceEq, Int.reduceLT, Int.reduceLE, Int.reduceAdd, Int.reduceSub, Int.reduceMul, reduceCtorEq, Bool.not_false, Bool.not_true, Bool.true_beq, Bool.false_beq, beq_self_eq_true, Bool.true_and, h20', hul]
      (first | refine call (hf) ?_ | refine callP (hf) ?_); simp -dsimp only [push_cast, Int.ofNat_eq_natCast, ↓reduceIte, Nat.reduceAdd, Nat.reduceMul, Nat.reduceSub, Nat.reduceLeDiff, Nat.reduceEqDiff, Nat.reduceBEq, Int.reduceToNat, Nat.reduceLT, Int.reduceEq, Int.reduceLT, Int.reduceLE, Int.reduceAdd, Int.reduceSub, Int.reduceMul, reduceCtorEq, Bool.not_false, Bool.not_true, Bool.true_beq, Bool.false_beq, beq_self_eq_true, Bool.true_and]
      (first | refine call (awake17_fun) ?_ | refine callP (awake17_fun) ?_); simp -dsimp only [push_cast, Int.ofNat_eq_natCast, ↓reduceIte, Nat.reduceAdd, Nat.reduceMul, Nat.reduceSub, Nat.reduceLeDiff, Nat.reduceEqDiff, Nat.reduceBEq, Int.reduceToNat, Nat.reduceLT, Int.reduceEq, Int.reduceLT, Int.reduceLE, Int.reduceAdd, Int.reduceSub, Int.reduceMul, reduceCtorEq, Bool.not_false, Bool.not_true, Bool.true_beq, Bool.false_beq, beq_self_eq_true, Bool.true_and]
      exact ⟨[], rfl, rfl, by simp -dsimp only [WeakTm, WeakBx, CLe, CLeL, push_cast, Int.ofNat_eq_natCast, ↓reduceIte, Nat.reduceAdd, Nat.reduceMul, Nat.reduceSub, Nat.reduceLeDiff, Nat.reduceEqDiff, Nat.reduceBEq, Int.reduceToNat, Nat.reduceLT, Int.reduceEq, Int.reduceLT, Int.reduceLE, Int.reduceAdd, Int.reduceSub, Int.reduceMul, reduceCtorEq, Bool.not_false, Bool.not_true, Bool.true_beq, Bool.false_beq, beq_self_eq_true, Bool.true_and]⟩
    | true =>
      rw [hfr] at hf
      have hfl := few_len hfr
      have hfs := few_size hfr
      obtain ⟨k, hk⟩ : ∃ k : Int, (1 + (n : Int) % 5) = k := ⟨_, rfl⟩
      have hkk : k = 1 ∨ k = 2 ∨ k = 3 ∨ k = 4 ∨ k = 5 := by omega
      have hnl := name_len hkk
      have hrn := (rName_fun k).glob0 (G' := G3)
      have hpos := draw_pos hkk
      have hplain := order_plain hkk (cs := pickV (drawV k) ls) (pick_mem hpos) ops
      obtain ⟨A, hA⟩ : ∃ A, drawV k = A := ⟨_, rfl⟩
      rw [hA] at hplain hpos
      have hgk : ([[.str []], [.str [112]], [.str [100, 102, 114]], [.str [102, 110, 115, 84]], [.str [102, 84]], [.str [102, 114, 80, 84]]] : List (List C))[k.toNat]? = some [.str A] := by
        subst hA
        rcases hkk with rfl | rfl | rfl | rfl | rfl <;> rfl
      refine Fun.of (fun _ => []) (by kernel_rfl) Tryd.func5 rfl rfl (Nat.le_of_ble_eq_true rfl) (by kernel_rfl) ?_; dsimp only [Tryd.f5, List.append_eq, List.cons_append, List.nil_append]
      simp -dsimp only [push_cast, Int.ofNat_eq_natCast, ↓reduceIte, Nat.reduceAdd, Nat.reduceMul, Nat.reduceSub, Nat.reduceLeDiff, Nat.reduceEqDiff, Nat.reduceBEq, Int.reduceToNat, Nat.reduceLT, Int.reduceEq, Int.reduceLT, Int.reduceLE, Int.reduceAdd, Int.reduceSub, Int.reduceMul, reduceCtorEq, Bool.not_false, Bool.not_true, Bool.true_beq, Bool.false_beq, beq_self_eq_true, Bool.true_and]
      (first | refine call (awake17_fun) ?_ | refine callP (awake17_fun) ?_); simp -dsimp only [push_cast, Int.ofNat_eq_natCast, ↓reduceIte, Nat.reduceAdd, Nat.reduceMul, Nat.reduceSub, Nat.reduceLeDiff, Nat.reduceEqDiff, Nat.reduceBEq, Int.reduceToNat, Nat.reduceLT, Int.reduceEq, Int.reduceLT, Int.reduceLE, Int.reduceAdd, Int.reduceSub, Int.reduceMul, reduceCtorEq, Bool.not_false, Bool.not_true, Bool.true_beq, Bool.false_beq, beq_self_eq_true, Bool.true_and, h20', hul]
      (first | refine call (hf) ?_ | refine callP (hf) ?_); simp -dsimp only [push_cast, Int.ofNat_eq_natCast, ↓reduceIte, Nat.reduceAdd, Nat.reduceMul, Nat.reduceSub, Nat.reduceLeDiff, Nat.reduceEqDiff, Nat.reduceBEq, Int.reduceToNat, Nat.reduceLT, Int.reduceEq, Int.reduceLT, Int.reduceLE, Int.reduceAdd, Int.reduceSub, Int.reduceMul, reduceCtorEq, Bool.not_false, Bool.not_true, Bool.true_beq, Bool.false_beq, beq_self_eq_true, Bool.true_and, hk, hgk]
      (try simp only [List.length_append, List.length_cons, List.length_nil, List.length_map, List.length_take, List.length_drop]); repeat (refine And.intro (by omega) ?_)
      refine loop (fun i : Nat => ⟨[(1, .sl 1 (u8R ls)), (2, .sl 1 (strs ops)), (7, .sc (.int .i64 k)), (8, .str A), (9, .str (45 :: pickV A (ls.take i))), (10, .str (45 :: (pickV A (ls.take i)).reverse)), (11, .own 0 9 1 (strs (dashed (pickV A (ls.take i))))), (12, .sc (.int .i64 i))], [], 1, 0⟩) (fun i => i ≤ ls.length) (fun i => ls.length - i) 0 (Nat.zero_le _) ?_ ?_
      · exact Weak.mk [.inr (9, 1)] rfl rfl (Nat.le_refl _) rfl (by simp -dsimp only [WeakTm, WeakBx, CLe, CLeL, push_cast, Int.ofNat_eq_natCast, ↓reduceIte, Nat.reduceAdd, Nat.reduceMul, Nat.reduceSub, Nat.reduceLeDiff, Nat.reduceEqDiff, Nat.reduceBEq, Int.reduceToNat, Nat.reduceLT, Int.reduceEq, Int.reduceLT, Int.reduceLE, Int.reduceAdd, Int.reduceSub, Int.reduceMul, reduceCtorEq, Bool.not_false, Bool.not_true, Bool.true_beq, Bool.false_beq, beq_self_eq_true, Bool.true_and, pickV, List.take_zero, List.map_nil, List.reverse_nil] <;> rfl) (by simp -dsimp only [WeakTm, WeakBx, CLe, CLeL, push_cast, Int.ofNat_eq_natCast, ↓reduceIte, Nat.reduceAdd, Nat.reduceMul, Nat.reduceSub, Nat.reduceLeDiff, Nat.reduceEqDiff, Nat.reduceBEq, Int.reduceToNat, Nat.reduceLT, Int.reduceEq, Int.reduceLT, Int.reduceLE, Int.reduceAdd, Int.reduceSub, Int.reduceMul, reduceCtorEq, Bool.not_false, Bool.not_true, Bool.true_beq, Bool.false_beq, beq_self_eq_true, Bool.true_and])
      · rintro i hi
        by_cases h : i < ls.length
        · have hgl := u8R_at ls i h
          have hps := pick_snoc A ls i h
          have hmod : (((ls[i].toNat : Int)) % (A.length : Int)).toNat = ls[i].toNat % A.length := by omega
          have hga : A[ls[i].toNat % A.length]? = some (A.getD (ls[i].toNat % A.length) 0) := by
            rw [List.getD_eq_getElem?_getD, List.getElem?_eq_getElem (Nat.mod_lt _ hpos)]; rfl
          have hmlt : ls[i].toNat % A.length < A.length := Nat.mod_lt _ hpos
          have hpl : (pickV A (ls.take i)).length ≤ 20 := by simp [pickV]; omega
          generalize A.getD (ls[i].toNat % A.length) 0 = c at hga hps
          generalize hPi : pickV A (ls.take i) = P at hps hpl
          have hb256 : ls[i].toNat < 256 := UInt8.toNat_lt _
          have hm0 : 0 ≤ ((ls[i].toNat : Int)) % (A.length : Int) := Int.emod_nonneg _ (by omega)
          simp -dsimp only [push_cast, Int.ofNat_eq_natCast, ↓reduceIte, Nat.reduceAdd, Nat.reduceMul, Nat.reduceSub, Nat.reduceLeDiff, Nat.reduceEqDiff, Nat.reduceBEq, Int.reduceToNat, Nat.reduceLT, Int.reduceEq, Int.reduceLT, Int.reduceLE, Int.reduceAdd, Int.reduceSub, Int.reduceMul, reduceCtorEq, Bool.not_false, Bool.not_true, Bool.true_beq, Bool.false_beq, beq_self_eq_true, Bool.true_and, h, hul, hgl, hmod, hga, hPi]
          refine ⟨by omega, by omega, by omega, by omega, hm0, ?_⟩
          refine ⟨[c], rfl, ?_⟩
          simp -dsimp only [push_cast, Int.ofNat_eq_natCast, ↓reduceIte, Nat.reduceAdd, Nat.reduceMul, Nat.reduceSub, Nat.reduceLeDiff, Nat.reduceEqDiff, Nat.reduceBEq, Int.reduceToNat, Nat.reduceLT, Int.reduceEq, Int.reduceLT, Int.reduceLE, Int.reduceAdd, Int.reduceSub, Int.reduceMul, reduceCtorEq, Bool.not_false, Bool.not_true, Bool.true_beq, Bool.false_beq, beq_self_eq_true, Bool.true_and]
          (try simp only [List.length_append, List.length_cons, List.length_nil, List.length_map, List.length_take, List.length_drop]); repeat (refine And.intro (by omega) ?_)
          refine ⟨[c], rfl, ?_⟩
          simp -dsimp only [push_cast, Int.ofNat_eq_natCast, ↓reduceIte, Nat.reduceAdd, Nat.reduceMul, Nat.reduceSub, Nat.reduceLeDiff, Nat.reduceEqDiff, Nat.reduceBEq, Int.reduceToNat, Nat.reduceLT, Int.reduceEq, Int.reduceLT, Int.reduceLE, Int.reduceAdd, Int.reduceSub, Int.reduceMul, reduceCtorEq, Bool.not_false, Bool.not_true, Bool.true_beq, Bool.false_beq, beq_self_eq_true, Bool.true_and]
          have hrl : P.reverse.length = P.length := List.length_reverse
          simp only [hrl]
          (try simp only [List.length_append, List.length_cons, List.length_nil, List.length_map, List.length_take, List.length_drop]); repeat (refine And.intro (by omega) ?_)
          refine ⟨[c], rfl, ?_⟩
          simp -dsimp only [push_cast, Int.ofNat_eq_natCast, ↓reduceIte, Nat.reduceAdd, Nat.reduceMul, Nat.reduceSub, Nat.reduceLeDiff, Nat.reduceEqDiff, Nat.reduceBEq, Int.reduceToNat, Nat.reduceLT, Int.reduceEq, Int.reduceLT, Int.reduceLE, Int.reduceAdd, Int.reduceSub, Int.reduceMul, reduceCtorEq, Bool.not_false, Bool.not_true, Bool.true_beq, Bool.false_beq, beq_self_eq_true, Bool.true_and]
          have hdl : (dashed P).length = P.length := List.length_map ..
          simp only [hdl]
          have hd1 : dashed (P ++ [c]) = dashed P ++ [[45, c]] := by simp [dashed]
          have hr1 : (P ++ [c]).reverse = c :: P.reverse := by simp
          (try simp only [List.length_append, List.length_cons, List.length_nil, List.length_map, List.length_take, List.length_drop]); repeat (refine And.intro (by omega) ?_)
          exact ⟨i + 1, by omega, by omega, Weak.mk [.inl 0] rfl rfl (Nat.le_refl _) rfl (by simp -dsimp only [WeakTm, WeakBx, CLe, CLeL, push_cast, Int.ofNat_eq_natCast, ↓reduceIte, Nat.reduceAdd, Nat.reduceMul, Nat.reduceSub, Nat.reduceLeDiff, Nat.reduceEqDiff, Nat.reduceBEq, Int.reduceToNat, Nat.reduceLT, Int.reduceEq, Int.reduceLT, Int.reduceLE, Int.reduceAdd, Int.reduceSub, Int.reduceMul, reduceCtorEq, Bool.not_false, Bool.not_true, Bool.true_beq, Bool.false_beq, beq_self_eq_true, Bool.true_and, hps, hd1, hr1]) (by simp -dsimp only [WeakTm, WeakBx, CLe, CLeL, push_cast, Int.ofNat_eq_natCast, ↓reduceIte, Nat.reduceAdd, Nat.reduceMul, Nat.reduceSub, Nat.reduceLeDiff, Nat.reduceEqDiff, Nat.reduceBEq, Int.reduceToNat, Nat.reduceLT, Int.reduceEq, Int.reduceLT, Int.reduceLE, Int.reduceAdd, Int.reduceSub, Int.reduceMul, reduceCtorEq, Bool.not_false, Bool.not_true, Bool.true_beq, Bool.false_beq, beq_self_eq_true, Bool.true_and])⟩
        · have hil : i = ls.length := by omega
          subst hil
          rw [List.take_length]
          have hcl : (pickV A ls).length = ls.length := by simp [pickV]
          generalize hcs : pickV A ls = cs at hplain hcl ⊢
          obtain ⟨p1, p2, p3⟩ := hplain
          have hdl : (dashed cs).length = cs.length := List.length_map ..
          have hcs20 : cs.length ≤ 20 := by omega
          have hrl : cs.reverse.length = cs.length := List.length_reverse
          have sz : ∀ (X : List (List UInt8)), (∀ x ∈ X, x.length ≤ 300) → ∀ x ∈ nameV k :: (X ++ [45, 45] :: ops), x.length ≤ 300 := by
            intro X hX x hx
            simp only [List.mem_cons, List.mem_append] at hx
            rcases hx with rfl | hx | rfl | hx
            · exact hnl
            · exact hX x hx
            · simp
            · exact hfs x hx
          have hrd2 := read_fun (nameV k :: (dashed cs ++ [45, 45] :: ops)) (by simp; omega) (sz _ (fun x hx => by
            obtain ⟨c, _, rfl⟩ := List.mem_map.1 hx
            simp))
          by_cases h0 : cs = []
          · have hl0 : ((ls.length : Int)) = 0 := by rw [← hcl, h0]; rfl
            rw [if_pos h0, List.nil_append] at p1 p3
            have hrd1 := read_fun (nameV k :: [45, 45] :: ops) (by simp; omega) (sz [] (fun x hx => by cases hx))
            have hrd3 := hrd1
            by_cases hw : wrongV k (optV k cs 58) ops = []
            · have hR : orderR k cs ops = (⟨k, optV k cs 58, ops⟩, []) := by unfold orderR; rw [if_neg (by simpa using hw)]
              rw [hR] at p1 p2 p3
              rw [p1] at hrd1
              rw [p2] at hrd2
              rw [p3] at hrd3
              have hsm := ((sameCmd_fun ⟨k, optV k cs 58, ops⟩ ⟨k, optV k cs 58, ops⟩ (by dsimp only; omega)).glob0 (G' := G3)).ias rfl (r' := boolC true) (by simp)
              have hso := ((same_fun ops ops (by omega)).glob0 (G' := G3)).ias rfl (r' := boolC true) (by simp)
              simp -dsimp only [push_cast, Int.ofNat_eq_natCast, ↓reduceIte, Nat.reduceAdd, Nat.reduceMul, Nat.reduceSub, Nat.reduceLeDiff, Nat.reduceEqDiff, Nat.reduceBEq, Int.reduceToNat, Nat.reduceLT, Int.reduceEq, Int.reduceLT, Int.reduceLE, Int.reduceAdd, Int.reduceSub, Int.reduceMul, reduceCtorEq, Bool.not_false, Bool.not_true, Bool.true_beq, Bool.false_beq, beq_self_eq_true, Bool.true_and, h, hul]
              (first | refine call (hrn) ?_ | refine callP (hrn) ?_); simp -dsimp only [push_cast, Int.ofNat_eq_natCast, ↓reduceIte, Nat.reduceAdd, Nat.reduceMul, Nat.reduceSub, Nat.reduceLeDiff, Nat.reduceEqDiff, Nat.reduceBEq, Int.reduceToNat, Nat.reduceLT, Int.reduceEq, Int.reduceLT, Int.reduceLE, Int.reduceAdd, Int.reduceSub, Int.reduceMul, reduceCtorEq, Bool.not_false, Bool.not_true, Bool.true_beq, Bool.false_beq, beq_self_eq_true, Bool.true_and]
              (first | refine call (hrn) ?_ | refine callP (hrn) ?_); simp -dsimp only [push_cast, Int.ofNat_eq_natCast, ↓reduceIte, Nat.reduceAdd, Nat.reduceMul, Nat.reduceSub, Nat.reduceLeDiff, Nat.reduceEqDiff, Nat.reduceBEq, Int.reduceToNat, Nat.reduceLT, Int.reduceEq, Int.reduceLT, Int.reduceLE, Int.reduceAdd, Int.reduceSub, Int.reduceMul, reduceCtorEq, Bool.not_false, Bool.not_true, Bool.true_beq, Bool.false_beq, beq_self_eq_true, Bool.true_and]
              (first | refine call (hrn) ?_ | refine callP (hrn) ?_); simp -dsimp only [push_cast, Int.ofNat_eq_natCast, ↓reduceIte, Nat.reduceAdd, Nat.reduceMul, Nat.reduceSub, Nat.reduceLeDiff, Nat.reduceEqDiff, Nat.reduceBEq, Int.reduceToNat, Nat.reduceLT, Int.reduceEq, Int.reduceLT, Int.reduceLE, Int.reduceAdd, Int.reduceSub, Int.reduceMul, reduceCtorEq, Bool.not_false, Bool.not_true, Bool.true_beq, Bool.false_beq, beq_self_eq_true, Bool.true_and, hul, hl0]
              simp only [hdl]
              (try simp only [List.length_append, List.length_cons, List.length_nil, List.length_map, List.length_take, List.length_drop]); repeat (refine And.intro (by omega) ?_)
              (first | refine call (Fun.ias hrd1 (by simp [strs]) rfl) ?_ | refine callP (Fun.ias hrd1 (by simp [strs]) rfl) ?_); simp -dsimp only [push_cast, Int.ofNat_eq_natCast, ↓reduceIte, Nat.reduceAdd, Nat.reduceMul, Nat.reduceSub, Nat.reduceLeDiff, Nat.reduceEqDiff, Nat.reduceBEq, Int.reduceToNat, Nat.reduceLT, Int.reduceEq, Int.reduceLT, Int.reduceLE, Int.reduceAdd, Int.reduceSub, Int.reduceMul, reduceCtorEq, Bool.not_false, Bool.not_true, Bool.true_beq, Bool.false_beq, beq_self_eq_true, Bool.true_and]
              (try simp only [List.length_append, List.length_cons, List.length_nil, List.length_map, List.length_take, List.length_drop]); repeat (refine And.intro (by omega) ?_)
              (first | refine call (Fun.ias hrd2 (by simp [strs]) rfl) ?_ | refine callP (Fun.ias hrd2 (by simp [strs]) rfl) ?_); simp -dsimp only [push_cast, Int.ofNat_eq_natCast, ↓reduceIte, Nat.reduceAdd, Nat.reduceMul, Nat.reduceSub, Nat.reduceLeDiff, Nat.reduceEqDiff, Nat.reduceBEq, Int.reduceToNat, Nat.reduceLT, Int.reduceEq, Int.reduceLT, Int.reduceLE, Int.reduceAdd, Int.reduceSub, Int.reduceMul, reduceCtorEq, Bool.not_false, Bool.not_true, Bool.true_beq, Bool.false_beq, beq_self_eq_true, Bool.true_and]
              (try simp only [List.length_append, List.length_cons, List.length_nil, List.length_map, List.length_take, List.length_drop]); repeat (refine And.intro (by omega) ?_)
              (first | refine call (Fun.ias hrd3 (by simp [strs]) rfl) ?_ | refine callP (Fun.ias hrd3 (by simp [strs]) rfl) ?_); simp -dsimp only [push_cast, Int.ofNat_eq_natCast, ↓reduceIte, Nat.reduceAdd, Nat.reduceMul, Nat.reduceSub, Nat.reduceLeDiff, Nat.reduceEqDiff, Nat.reduceBEq, Int.reduceToNat, Nat.reduceLT, Int.reduceEq, Int.reduceLT, Int.reduceLE, Int.reduceAdd, Int.reduceSub, Int.reduceMul, reduceCtorEq, Bool.not_false, Bool.not_true, Bool.true_beq, Bool.false_beq, beq_self_eq_true, Bool.true_and]
              (first | refine call (hsm) ?_ | refine callP (hsm) ?_); simp -dsimp only [push_cast, Int.ofNat_eq_natCast, ↓reduceIte, Nat.reduceAdd, Nat.reduceMul, Nat.reduceSub, Nat.reduceLeDiff, Nat.reduceEqDiff, Nat.reduceBEq, Int.reduceToNat, Nat.reduceLT, Int.reduceEq, Int.reduceLT, Int.reduceLE, Int.reduceAdd, Int.reduceSub, Int.reduceMul, reduceCtorEq, Bool.not_false, Bool.not_true, Bool.true_beq, Bool.false_beq, beq_self_eq_true, Bool.true_and]
              (first | refine call (hsm) ?_ | refine callP (hsm) ?_); simp -dsimp only [push_cast, Int.ofNat_eq_natCast, ↓reduceIte, Nat.reduceAdd, Nat.reduceMul, Nat.reduceSub, Nat.reduceLeDiff, Nat.reduceEqDiff, Nat.reduceBEq, Int.reduceToNat, Nat.reduceLT, Int.reduceEq, Int.reduceLT, Int.reduceLE, Int.reduceAdd, Int.reduceSub, Int.reduceMul, reduceCtorEq, Bool.not_false, Bool.not_true, Bool.true_beq, Bool.false_beq, beq_self_eq_true, Bool.true_and]
              (first | refine call (hso) ?_ | refine callP (hso) ?_); simp -dsimp only [push_cast, Int.ofNat_eq_natCast, ↓reduceIte, Nat.reduceAdd, Nat.reduceMul, Nat.reduceSub, Nat.reduceLeDiff, Nat.reduceEqDiff, Nat.reduceBEq, Int.reduceToNat, Nat.reduceLT, Int.reduceEq, Int.reduceLT, Int.reduceLE, Int.reduceAdd, Int.reduceSub, Int.reduceMul, reduceCtorEq, Bool.not_false, Bool.not_true, Bool.true_beq, Bool.false_beq, beq_self_eq_true, Bool.true_and]
              exact ⟨[], rfl, rfl, by simp -dsimp only [WeakTm, WeakBx, CLe, CLeL, push_cast, Int.ofNat_eq_natCast, ↓reduceIte, Nat.reduceAdd, Nat.reduceMul, Nat.reduceSub, Nat.reduceLeDiff, Nat.reduceEqDiff, Nat.reduceBEq, Int.reduceToNat, Nat.reduceLT, Int.reduceEq, Int.reduceLT, Int.reduceLE, Int.reduceAdd, Int.reduceSub, Int.reduceMul, reduceCtorEq, Bool.not_false, Bool.not_true, Bool.true_beq, Bool.false_beq, beq_self_eq_true, Bool.true_and]⟩
            · have hR : orderR k cs ops = (noCmd, nameV k ++ [58, 32] ++ wrongV k (optV k cs 58) ops) := by unfold orderR; rw [if_pos hw]
              rw [hR] at p1 p2 p3
              rw [p1] at hrd1
              rw [p2] at hrd2
              rw [p3] at hrd3
              have hm : nameV k ++ [58, 32] ++ wrongV k (optV k cs 58) ops ≠ [] := by simp
              generalize nameV k ++ [58, 32] ++ wrongV k (optV k cs 58) ops = m at hrd1 hrd2 hrd3 hm
              have hsm := ((sameCmd_fun noCmd noCmd (by decide)).glob0 (G' := G3)).ias rfl (r' := boolC true) (by simp)
              simp -dsimp only [push_cast, Int.ofNat_eq_natCast, ↓reduceIte, Nat.reduceAdd, Nat.reduceMul, Nat.reduceSub, Nat.reduceLeDiff, Nat.reduceEqDiff, Nat.reduceBEq, Int.reduceToNat, Nat.reduceLT, Int.reduceEq, Int.reduceLT, Int.reduceLE, Int.reduceAdd, Int.reduceSub, Int.reduceMul, reduceCtorEq, Bool.not_false, Bool.not_true, Bool.true_beq, Bool.false_beq, beq_self_eq_true, Bool.true_and, h, hul]
              (first | refine call (hrn) ?_ | refine callP (hrn) ?_); simp -dsimp only [push_cast, Int.ofNat_eq_natCast, ↓reduceIte, Nat.reduceAdd, Nat.reduceMul, Nat.reduceSub, Nat.reduceLeDiff, Nat.reduceEqDiff, Nat.reduceBEq, Int.reduceToNat, Nat.reduceLT, Int.reduceEq, Int.reduceLT, Int.reduceLE, Int.reduceAdd, Int.reduceSub, Int.reduceMul, reduceCtorEq, Bool.not_false, Bool.not_true, Bool.true_beq, Bool.false_beq, beq_self_eq_true, Bool.true_and]
              (first | refine call (hrn) ?_ | refine callP (hrn) ?_); simp -dsimp only [push_cast, Int.ofNat_eq_natCast, ↓reduceIte, Nat.reduceAdd, Nat.reduceMul, Nat.reduceSub, Nat.reduceLeDiff, Nat.reduceEqDiff, Nat.reduceBEq, Int.reduceToNat, Nat.reduceLT, Int.reduceEq, Int.reduceLT, Int.reduceLE, Int.reduceAdd, Int.reduceSub, Int.reduceMul, reduceCtorEq, Bool.not_false, Bool.not_true, Bool.true_beq, Bool.false_beq, beq_self_eq_true, Bool.true_and]
              (first | refine call (hrn) ?_ | refine callP (hrn) ?_); simp -dsimp only [push_cast, Int.ofNat_eq_natCast, ↓reduceIte, Nat.reduceAdd, Nat.reduceMul, Nat.reduceSub, Nat.reduceLeDiff, Nat.reduceEqDiff, Nat.reduceBEq, Int.reduceToNat, Nat.reduceLT, Int.reduceEq, Int.reduceLT, Int.reduceLE, Int.reduceAdd, Int.reduceSub, Int.reduceMul, reduceCtorEq, Bool.not_false, Bool.not_true, Bool.true_beq, Bool.false_beq, beq_self_eq_true, Bool.true_and, hul, hl0]
              simp only [hdl]
              (try simp only [List.length_append, List.length_cons, List.length_nil, List.length_map, List.length_take, List.length_drop]); repeat (refine And.intro (by omega) ?_)
              (first | refine call (Fun.ias hrd1 (by simp [strs]) rfl) ?_ | refine callP (Fun.ias hrd1 (by simp [strs]) rfl) ?_); simp -dsimp only [push_cast, Int.ofNat_eq_natCast, ↓reduceIte, Nat.reduceAdd, Nat.reduceMul, Nat.reduceSub, Nat.reduceLeDiff, Nat.reduceEqDiff, Nat.reduceBEq, Int.reduceToNat, Nat.reduceLT, Int.reduceEq, Int.reduceLT, Int.reduceLE, Int.reduceAdd, Int.reduceSub, Int.reduceMul, reduceCtorEq, Bool.not_false, Bool.not_true, Bool.true_beq, Bool.false_beq, beq_self_eq_true, Bool.true_and]
              (try simp only [List.length_append, List.length_cons, List.length_nil, List.length_map, List.length_take, List.length_drop]); repeat (refine And.intro (by omega) ?_)
              (first | refine call (Fun.ias hrd2 (by simp [strs]) rfl) ?_ | refine callP (Fun.ias hrd2 (by simp [strs]) rfl) ?_); simp -dsimp only [push_cast, Int.ofNat_eq_natCast, ↓reduceIte, Nat.reduceAdd, Nat.reduceMul, Nat.reduceSub, Nat.reduceLeDiff, Nat.reduceEqDiff, Nat.reduceBEq, Int.reduceToNat, Nat.reduceLT, Int.reduceEq, Int.reduceLT, Int.reduceLE, Int.reduceAdd, Int.reduceSub, Int.reduceMul, reduceCtorEq, Bool.not_false, Bool.not_true, Bool.true_beq, Bool.false_beq, beq_self_eq_true, Bool.true_and]
              (try simp only [List.length_append, List.length_cons, List.length_nil, List.length_map, List.length_take, List.length_drop]); repeat (refine And.intro (by omega) ?_)
              (first | refine call (Fun.ias hrd3 (by simp [strs]) rfl) ?_ | refine callP (Fun.ias hrd3 (by simp [strs]) rfl) ?_); simp -dsimp only [push_cast, Int.ofNat_eq_natCast, ↓reduceIte, Nat.reduceAdd, Nat.reduceMul, Nat.reduceSub, Nat.reduceLeDiff, Nat.reduceEqDiff, Nat.reduceBEq, Int.reduceToNat, Nat.reduceLT, Int.reduceEq, Int.reduceLT, Int.reduceLE, Int.reduceAdd, Int.reduceSub, Int.reduceMul, reduceCtorEq, Bool.not_false, Bool.not_true, Bool.true_beq, Bool.false_beq, beq_self_eq_true, Bool.true_and]
              (first | refine call (hsm) ?_ | refine callP (hsm) ?_); simp -dsimp only [push_cast, Int.ofNat_eq_natCast, ↓reduceIte, Nat.reduceAdd, Nat.reduceMul, Nat.reduceSub, Nat.reduceLeDiff, Nat.reduceEqDiff, Nat.reduceBEq, Int.reduceToNat, Nat.reduceLT, Int.reduceEq, Int.reduceLT, Int.reduceLE, Int.reduceAdd, Int.reduceSub, Int.reduceMul, reduceCtorEq, Bool.not_false, Bool.not_true, Bool.true_beq, Bool.false_beq, beq_self_eq_true, Bool.true_and]
              (first | refine call (hsm) ?_ | refine callP (hsm) ?_); simp -dsimp only [push_cast, Int.ofNat_eq_natCast, ↓reduceIte, Nat.reduceAdd, Nat.reduceMul, Nat.reduceSub, Nat.reduceLeDiff, Nat.reduceEqDiff, Nat.reduceBEq, Int.reduceToNat, Nat.reduceLT, Int.reduceEq, Int.reduceLT, Int.reduceLE, Int.reduceAdd, Int.reduceSub, Int.reduceMul, reduceCtorEq, Bool.not_false, Bool.not_true, Bool.true_beq, Bool.false_beq, beq_self_eq_true, Bool.true_and, hm]
              exact ⟨[], rfl, rfl, by simp -dsimp only [WeakTm, WeakBx, CLe, CLeL, push_cast, Int.ofNat_eq_natCast, ↓reduceIte, Nat.reduceAdd, Nat.reduceMul, Nat.reduceSub, Nat.reduceLeDiff, Nat.reduceEqDiff, Nat.reduceBEq, Int.reduceToNat, Nat.reduceLT, Int.reduceEq, Int.reduceLT, Int.reduceLE, Int.reduceAdd, Int.reduceSub, Int.reduceMul, reduceCtorEq, Bool.not_false, Bool.not_true, Bool.true_beq, Bool.false_beq, beq_self_eq_true, Bool.true_and]⟩
          · have hl0 : (0 < (ls.length : Int)) = True := eq_true (by have := List.length_pos_iff.2 h0; omega)
            rw [if_neg h0, List.singleton_append] at p1 p3
            have hrd1 := read_fun (nameV k :: (45 :: cs) :: [45, 45] :: ops) (by simp; omega) (sz [45 :: cs] (fun x hx => by simp at hx; subst hx; simp; omega))
            have hrd3 := read_fun (nameV k :: (45 :: cs.reverse) :: [45, 45] :: ops) (by simp; omega) (sz [45 :: cs.reverse] (fun x hx => by simp at hx; subst hx; simp; omega))
            by_cases hw : wrongV k (optV k cs 58) ops = []
            · have hR : orderR k cs ops = (⟨k, optV k cs 58, ops⟩, []) := by unfold orderR; rw [if_neg (by simpa using hw)]
              rw [hR] at p1 p2 p3
              rw [p1] at hrd1
              rw [p2] at hrd2
              rw [p3] at hrd3
              have hsm := ((sameCmd_fun ⟨k, optV k cs 58, ops⟩ ⟨k, optV k cs 58, ops⟩ (by dsimp only; omega)).glob0 (G' := G3)).ias rfl (r' := boolC true) (by simp)
              have hso := ((same_fun ops ops (by omega)).glob0 (G' := G3)).ias rfl (r' := boolC true) (by simp)
              simp -dsimp only [push_cast, Int.ofNat_eq_natCast, ↓reduceIte, Nat.reduceAdd, Nat.reduceMul, Nat.reduceSub, Nat.reduceLeDiff, Nat.reduceEqDiff, Nat.reduceBEq, Int.reduceToNat, Nat.reduceLT, Int.reduceEq, Int.reduceLT, Int.reduceLE, Int.reduceAdd, Int.reduceSub, Int.reduceMul, reduceCtorEq, Bool.not_false, Bool.not_true, Bool.true_beq, Bool.false_beq, beq_self_eq_true, Bool.true_and, h, hul]
              (first | refine call (hrn) ?_ | refine callP (hrn) ?_); simp -dsimp only [push_cast, Int.ofNat_eq_natCast, ↓reduceIte, Nat.reduceAdd, Nat.reduceMul, Nat.reduceSub, Nat.reduceLeDiff, Nat.reduceEqDiff, Nat.reduceBEq, Int.reduceToNat, Nat.reduceLT, Int.reduceEq, Int.reduceLT, Int.reduceLE, Int.reduceAdd, Int.reduceSub, Int.reduceMul, reduceCtorEq, Bool.not_false, Bool.not_true, Bool.true_beq, Bool.false_beq, beq_self_eq_true, Bool.true_and]
              (first | refine call (hrn) ?_ | refine callP (hrn) ?_); simp -dsimp only [push_cast, Int.ofNat_eq_natCast, ↓reduceIte, Nat.reduceAdd, Nat.reduceMul, Nat.reduceSub, Nat.reduceLeDiff, Nat.reduceEqDiff, Nat.reduceBEq, Int.reduceToNat, Nat.reduceLT, Int.reduceEq, Int.reduceLT, Int.reduceLE, Int.reduceAdd, Int.reduceSub, Int.reduceMul, reduceCtorEq, Bool.not_false, Bool.not_true, Bool.true_beq, Bool.false_beq, beq_self_eq_true, Bool.true_and]
              (first | refine call (hrn) ?_ | refine callP (hrn) ?_); simp -dsimp only [push_cast, Int.ofNat_eq_natCast, ↓reduceIte, Nat.reduceAdd, Nat.reduceMul, Nat.reduceSub, Nat.reduceLeDiff, Nat.reduceEqDiff, Nat.reduceBEq, Int.reduceToNat, Nat.reduceLT, Int.reduceEq, Int.reduceLT, Int.reduceLE, Int.reduceAdd, Int.reduceSub, Int.reduceMul, reduceCtorEq, Bool.not_false, Bool.not_true, Bool.true_beq, Bool.false_beq, beq_self_eq_true, Bool.true_and, hul, hl0]
              simp only [hdl]
              (try simp only [List.length_append, List.length_cons, List.length_nil, List.length_map, List.length_take, List.length_drop]); repeat (refine And.intro (by omega) ?_)
              (first | refine call (Fun.ias hrd1 (by simp [strs]) rfl) ?_ | refine callP (Fun.ias hrd1 (by simp [strs]) rfl) ?_); simp -dsimp only [push_cast, Int.ofNat_eq_natCast, ↓reduceIte, Nat.reduceAdd, Nat.reduceMul, Nat.reduceSub, Nat.reduceLeDiff, Nat.reduceEqDiff, Nat.reduceBEq, Int.reduceToNat, Nat.reduceLT, Int.reduceEq, Int.reduceLT, Int.reduceLE, Int.reduceAdd, Int.reduceSub, Int.reduceMul, reduceCtorEq, Bool.not_false, Bool.not_true, Bool.true_beq, Bool.false_beq, beq_self_eq_true, Bool.true_and]
              (try simp only [List.length_append, List.length_cons, List.length_nil, List.length_map, List.length_take, List.length_drop]); repeat (refine And.intro (by omega) ?_)
              (first | refine call (Fun.ias hrd2 (by simp [strs]) rfl) ?_ | refine callP (Fun.ias hrd2 (by simp [strs]) rfl) ?_); simp -dsimp only [push_cast, Int.ofNat_eq_natCast, ↓reduceIte, Nat.reduceAdd, Nat.reduceMul, Nat.reduceSub, Nat.reduceLeDiff, Nat.reduceEqDiff, Nat.reduceBEq, Int.reduceToNat, Nat.reduceLT, Int.reduceEq, Int.reduceLT, Int.reduceLE, Int.reduceAdd, Int.reduceSub, Int.reduceMul, reduceCtorEq, Bool.not_false, Bool.not_true, Bool.true_beq, Bool.false_beq, beq_self_eq_true, Bool.true_and]
              (try simp only [List.length_append, List.length_cons, List.length_nil, List.length_map, List.length_take, List.length_drop]); repeat (refine And.intro (by omega) ?_)
              (first | refine call (Fun.ias hrd3 (by simp [strs]) rfl) ?_ | refine callP (Fun.ias hrd3 (by simp [strs]) rfl) ?_); simp -dsimp only [push_cast, Int.ofNat_eq_natCast, ↓reduceIte, Nat.reduceAdd, Nat.reduceMul, Nat.reduceSub, Nat.reduceLeDiff, Nat.reduceEqDiff, Nat.reduceBEq, Int.reduceToNat, Nat.reduceLT, Int.reduceEq, Int.reduceLT, Int.reduceLE, Int.reduceAdd, Int.reduceSub, Int.reduceMul, reduceCtorEq, Bool.not_false, Bool.not_true, Bool.true_beq, Bool.false_beq, beq_self_eq_true, Bool.true_and]
              (first | refine call (hsm) ?_ | refine callP (hsm) ?_); simp -dsimp only [push_cast, Int.ofNat_eq_natCast, ↓reduceIte, Nat.reduceAdd, Nat.reduceMul, Nat.reduceSub, Nat.reduceLeDiff, Nat.reduceEqDiff, Nat.reduceBEq, Int.reduceToNat, Nat.reduceLT, Int.reduceEq, Int.reduceLT, Int.reduceLE, Int.reduceAdd, Int.reduceSub, Int.reduceMul, reduceCtorEq, Bool.not_false, Bool.not_true, Bool.true_beq, Bool.false_beq, beq_self_eq_true, Bool.true_and]
              (first | refine call (hsm) ?_ | refine callP (hsm) ?_); simp -dsimp only [push_cast, Int.ofNat_eq_natCast, ↓reduceIte, Nat.reduceAdd, Nat.reduceMul, Nat.reduceSub, Nat.reduceLeDiff, Nat.reduceEqDiff, Nat.reduceBEq, Int.reduceToNat, Nat.reduceLT, Int.reduceEq, Int.reduceLT, Int.reduceLE, Int.reduceAdd, Int.reduceSub, Int.reduceMul, reduceCtorEq, Bool.not_false, Bool.not_true, Bool.true_beq, Bool.false_beq, beq_self_eq_true, Bool.true_and]
              (first | refine call (hso) ?_ | refine callP (hso) ?_); simp -dsimp only [push_cast, Int.ofNat_eq_natCast, ↓reduceIte, Nat.reduceAdd, Nat.reduceMul, Nat.reduceSub, Nat.reduceLeDiff, Nat.reduceEqDiff, Nat.reduceBEq, Int.reduceToNat, Nat.reduceLT, Int.reduceEq, Int.reduceLT, Int.reduceLE, Int.reduceAdd, Int.reduceSub, Int.reduceMul, reduceCtorEq, Bool.not_false, Bool.not_true, Bool.true_beq, Bool.false_beq, beq_self_eq_true, Bool.true_and]
              exact ⟨[], rfl, rfl, by simp -dsimp only [WeakTm, WeakBx, CLe, CLeL, push_cast, Int.ofNat_eq_natCast, ↓reduceIte, Nat.reduceAdd, Nat.reduceMul, Nat.reduceSub, Nat.reduceLeDiff, Nat.reduceEqDiff, Nat.reduceBEq, Int.reduceToNat, Nat.reduceLT, Int.reduceEq, Int.reduceLT, Int.reduceLE, Int.reduceAdd, Int.reduceSub, Int.reduceMul, reduceCtorEq, Bool.not_false, Bool.not_true, Bool.true_beq, Bool.false_beq, beq_self_eq_true, Bool.true_and]⟩
            · have hR : orderR k cs ops = (noCmd, nameV k ++ [58, 32] ++ wrongV k (optV k cs 58) ops) := by unfold orderR; rw [if_pos hw]
              rw [hR] at p1 p2 p3
              rw [p1] at hrd1
              rw [p2] at hrd2
              rw [p3] at hrd3
              have hm : nameV k ++ [58, 32] ++ wrongV k (optV k cs 58) ops ≠ [] := by simp
              generalize nameV k ++ [58, 32] ++ wrongV k (optV k cs 58) ops = m at hrd1 hrd2 hrd3 hm
              have hsm := ((sameCmd_fun noCmd noCmd (by decide)).glob0 (G' := G3)).ias rfl (r' := boolC true) (by simp)
              simp -dsimp only [push_cast, Int.ofNat_eq_natCast, ↓reduceIte, Nat.reduceAdd, Nat.reduceMul, Nat.reduceSub, Nat.reduceLeDiff, Nat.reduceEqDiff, Nat.reduceBEq, Int.reduceToNat, Nat.reduceLT, Int.reduceEq, Int.reduceLT, Int.reduceLE, Int.reduceAdd, Int.reduceSub, Int.reduceMul, reduceCtorEq, Bool.not_false, Bool.not_true, Bool.true_beq, Bool.false_beq, beq_self_eq_true, Bool.true_and, h, hul]
              (first | refine call (hrn) ?_ | refine callP (hrn) ?_); simp -dsimp only [push_cast, Int.ofNat_eq_natCast, ↓reduceIte, Nat.reduceAdd, Nat.reduceMul, Nat.reduceSub, Nat.reduceLeDiff, Nat.reduceEqDiff, Nat.reduceBEq, Int.reduceToNat, Nat.reduceLT, Int.reduceEq, Int.reduceLT, Int.reduceLE, Int.reduceAdd, Int.reduceSub, Int.reduceMul, reduceCtorEq, Bool.not_false, Bool.not_true, Bool.true_beq, Bool.false_beq, beq_self_eq_true, Bool.true_and]
              (first | refine call (hrn) ?_ | refine callP (hrn) ?_); simp -dsimp only [push_cast, Int.ofNat_eq_natCast, ↓reduceIte, Nat.reduceAdd, Nat.reduceMul, Nat.reduceSub, Nat.reduceLeDiff, Nat.reduceEqDiff, Nat.reduceBEq, Int.reduceToNat, Nat.reduceLT, Int.reduceEq, Int.reduceLT, Int.reduceLE, Int.reduceAdd, Int.reduceSub, Int.reduceMul, reduceCtorEq, Bool.not_false, Bool.not_true, Bool.true_beq, Bool.false_beq, beq_self_eq_true, Bool.true_and]
              (first | refine call (hrn) ?_ | refine callP (hrn) ?_); simp -dsimp only [push_cast, Int.ofNat_eq_natCast, ↓reduceIte, Nat.reduceAdd, Nat.reduceMul, Nat.reduceSub, Nat.reduceLeDiff, Nat.reduceEqDiff, Nat.reduceBEq, Int.reduceToNat, Nat.reduceLT, Int.reduceEq, Int.reduceLT, Int.reduceLE, Int.reduceAdd, Int.reduceSub, Int.reduceMul, reduceCtorEq, Bool.not_false, Bool.not_true, Bool.true_beq, Bool.false_beq, beq_self_eq_true, Bool.true_and, hul, hl0]
              simp only [hdl]
              (try simp only [List.length_append, List.length_cons, List.length_nil, List.length_map, List.length_take, List.length_drop]); repeat (refine And.intro (by omega) ?_)
              (first | refine call (Fun.ias hrd1 (by simp [strs]) rfl) ?_ | refine callP (Fun.ias hrd1 (by simp [strs]) rfl) ?_); simp -dsimp only [push_cast, Int.ofNat_eq_natCast, ↓reduceIte, Nat.reduceAdd, Nat.reduceMul, Nat.reduceSub, Nat.reduceLeDiff, Nat.reduceEqDiff, Nat.reduceBEq, Int.reduceToNat, Nat.reduceLT, Int.reduceEq, Int.reduceLT, Int.reduceLE, Int.reduceAdd, Int.reduceSub, Int.reduceMul, reduceCtorEq, Bool.not_false, Bool.not_true, Bool.true_beq, Bool.false_beq, beq_self_eq_true, Bool.true_and]
              (try simp only [List.length_append, List.length_cons, List.length_nil, List.length_map, List.length_take, List.length_drop]); repeat (refine And.intro (by omega) ?_)
              (first | refine call (Fun.ias hrd2 (by simp [strs]) rfl) ?_ | refine callP (Fun.ias hrd2 (by simp [strs]) rfl) ?_); simp -dsimp only [push_cast, Int.ofNat_eq_natCast, ↓reduceIte, Nat.reduceAdd, Nat.reduceMul, Nat.reduceSub, Nat.reduceLeDiff, Nat.reduceEqDiff, Nat.reduceBEq, Int.reduceToNat, Nat.reduceLT, Int.reduceEq, Int.reduceLT, Int.reduceLE, Int.reduceAdd, Int.reduceSub, Int.reduceMul, reduceCtorEq, Bool.not_false, Bool.not_true, Bool.true_beq, Bool.false_beq, beq_self_eq_true, Bool.true_and]
              (try simp only [List.length_append, List.length_cons, List.length_nil, List.length_map, List.length_take, List.length_drop]); repeat (refine And.intro (by omega) ?_)
              (first | refine call (Fun.ias hrd3 (by simp [strs]) rfl) ?_ | refine callP (Fun.ias hrd3 (by simp [strs]) rfl) ?_); simp -dsimp only [push_cast, Int.ofNat_eq_natCast, ↓reduceIte, Nat.reduceAdd, Nat.reduceMul, Nat.reduceSub, Nat.reduceLeDiff, Nat.reduceEqDiff, Nat.reduceBEq, Int.reduceToNat, Nat.reduceLT, Int.reduceEq, Int.reduceLT, Int.reduceLE, Int.reduceAdd, Int.reduceSub, Int.reduceMul, reduceCtorEq, Bool.not_false, Bool.not_true, Bool.true_beq, Bool.false_beq, beq_self_eq_true, Bool.true_and]
              (first | refine call (hsm) ?_ | refine callP (hsm) ?_); simp -dsimp only [push_cast, Int.ofNat_eq_natCast, ↓reduceIte, Nat.reduceAdd, Nat.reduceMul, Nat.reduceSub, Nat.reduceLeDiff, Nat.reduceEqDiff, Nat.reduceBEq, Int.reduceToNat, Nat.reduceLT, Int.reduceEq, Int.reduceLT, Int.reduceLE, Int.reduceAdd, Int.reduceSub, Int.reduceMul, reduceCtorEq, Bool.not_false, Bool.not_true, Bool.true_beq, Bool.false_beq, beq_self_eq_true, Bool.true_and]
              (first | refine call (hsm) ?_ | refine callP (hsm) ?_); simp -dsimp only [push_cast, Int.ofNat_eq_natCast, ↓reduceIte, Nat.reduceAdd, Nat.reduceMul, Nat.reduceSub, Nat.reduceLeDiff, Nat.reduceEqDiff, Nat.reduceBEq, Int.reduceToNat, Nat.reduceLT, Int.reduceEq, Int.reduceLT, Int.reduceLE, Int.reduceAdd, Int.reduceSub, Int.reduceMul, reduceCtorEq, Bool.not_false, Bool.not_true, Bool.true_beq, Bool.false_beq, beq_self_eq_true, Bool.true_and, hm]
              exact ⟨[], rfl, rfl, by simp -dsimp only [WeakTm, WeakBx, CLe, CLeL, push_cast, Int.ofNat_eq_natCast, ↓reduceIte, Nat.reduceAdd, Nat.reduceMul, Nat.reduceSub, Nat.reduceLeDiff, Nat.reduceEqDiff, Nat.reduceBEq, Int.reduceToNat, Nat.reduceLT, Int.reduceEq, Int.reduceLT, Int.reduceLE, Int.reduceAdd, Int.reduceSub, Int.reduceMul, reduceCtorEq, Bool.not_false, Bool.not_true, Bool.true_beq, Bool.false_beq, beq_self_eq_true, Bool.true_and]⟩
  · have h20' : (20 < (ls.length : Int)) = True := eq_true (by omega)
    refine Fun.of (fun _ => []) (by kernel_rfl) Tryd.func5 rfl rfl (Nat.le_of_ble_eq_true rfl) (by kernel_rfl) ?_; dsimp only [Tryd.f5, List.append_eq, List.cons_append, List.nil_append]
    simp -dsimp only [push_cast, Int.ofNat_eq_natCast, ↓reduceIte, Nat.reduceAdd, Nat.reduceMul, Nat.reduceSub, Nat.reduceLeDiff, Nat.reduceEqDiff, Nat.reduceBEq, Int.reduceToNat, Nat.reduceLT, Int.reduceEq, Int.reduceLT, Int.reduceLE, Int.reduceAdd, Int.reduceSub, Int.reduceMul, reduceCtorEq, Bool.not_false, Bool.not_true, Bool.true_beq, Bool.false_beq, beq_self_eq_true, Bool.true_and]
    (first | refine call (awake17_fun) ?_ | refine callP (awake17_fun) ?_); simp -dsimp only [push_cast, Int.ofNat_eq_natCast, ↓reduceIte, Nat.reduceAdd, Nat.reduceMul, Nat.reduceSub, Nat.reduceLeDiff, Nat.reduceEqDiff, Nat.reduceBEq, Int.reduceToNat, Nat.reduceLT, Int.reduceEq, Int.reduceLT, Int.reduceLE, Int.reduceAdd, Int.reduceSub, Int.reduceMul, reduceCtorEq, Bool.not_false, Bool.not_true, Bool.true_beq, Bool.false_beq, beq_self_eq_true, Bool.true_and, h20', hul]
    (first | refine call (awake17_fun) ?_ | refine callP (awake17_fun) ?_); simp -dsimp only [push_cast, Int.ofNat_eq_natCast, ↓reduceIte, Nat.reduceAdd, Nat.reduceMul, Nat.reduceSub, Nat.reduceLeDiff, Nat.reduceEqDiff, Nat.reduceBEq, Int.reduceToNat, Nat.reduceLT, Int.reduceEq, Int.reduceLT, Int.reduceLE, Int.reduceAdd, Int.reduceSub, Int.reduceMul, reduceCtorEq, Bool.not_false, Bool.not_true, Bool.true_beq, Bool.false_beq, beq_self_eq_true, Bool.true_and]
    exact ⟨[], rfl, rfl, by simp -dsimp only [WeakTm, WeakBx, CLe, CLeL, push_cast, Int.ofNat_eq_natCast, ↓reduceIte, Nat.reduceAdd, Nat.reduceMul, Nat.reduceSub, Nat.reduceLeDiff, Nat.reduceEqDiff, Nat.reduceBEq, Int.reduceToNat, Nat.reduceLT, Int.reduceEq, Int.reduceLT, Int.reduceLE, Int.reduceAdd, Int.reduceSub, Int.reduceMul, reduceCtorEq, Bool.not_false, Bool.not_true, Bool.true_beq, Bool.false_beq, beq_self_eq_true, Bool.true_and]⟩
end Go.Proofs.YtphiahlodjblcaaDoor.Vcg
