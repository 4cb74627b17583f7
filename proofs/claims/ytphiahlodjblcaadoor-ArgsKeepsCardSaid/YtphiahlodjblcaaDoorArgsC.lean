/- Layer 17: a command, read. No condition but bounds that each states. -/
import Derived.Test.YtphiahlodjblcaaDoorArgsB
set_option linter.unusedVariables false
set_option linter.unusedSimpArgs false
namespace Go.Proofs.YtphiahlodjblcaaDoor.Vcg
open Go.RowKit QuotePlain
def leastV (k : Int) : Nat := if k = 4 ∨ k = 5 then 2 else 1
def wrongV (k : Int) (o : List UInt8) (ops : List (List UInt8)) : List UInt8 :=
  if ops.length = 0 then (if k = 2 ∧ 102 ∈ o then [] else [109, 105, 115, 115, 105, 110, 103, 32, 111, 112, 101, 114, 97, 110, 100])
  else if ops.length < (if 84 ∈ o then 2 else leastV k) then [109, 105, 115, 115, 105, 110, 103, 32, 100, 101, 115, 116, 105, 110, 97, 116, 105, 111, 110, 32, 111, 112, 101, 114, 97, 110, 100, 32, 97, 102, 116, 101, 114, 32] ++ quoteL (ops.getD (ops.length - 1) [])
  else if 84 ∈ o ∧ 2 < ops.length then [101, 120, 116, 114, 97, 32, 111, 112, 101, 114, 97, 110, 100, 32] ++ quoteL (ops.getD 2 []) else []
theorem quoteL_le (l : List UInt8) : (quoteL l).length ≤ 4 * l.length + 2 := by
  have := QuoteWalk.mid_len l
  simp only [quoteL, List.length_cons, List.length_append, List.length_nil]
  omega
set_option maxRecDepth 100000 in
set_option maxRecDepth 8000 in
theorem wrong_fun (k : Int) (o : List UInt8) (ops : List (List UInt8)) (hk : k = 1 ∨ k = 2 ∨ k = 3 ∨ k = 4 ∨ k = 5) (hl : ops.length ≤ 100) (hs : ∀ x ∈ ops, x.length ≤ 300) :
    Fun Tryd.prog G3 22 [.agg [.sc (.int .i64 k), .str o, .sl 1 (strs ops)]] (.str (wrongV k o ops)) 0 := by
  have h84 := (has_fun k o (.sl 1 (strs ops)) 84 rfl).glob0 (G' := G3)
  have h102 := (has_fun k o (.sl 1 (strs ops)) 102 rfl).glob0 (G' := G3)
  rcases hk with rfl | rfl | rfl | rfl | rfl
  all_goals
    refine Fun.of (fun _ => []) (by kernel_rfl) Tryd.func22 rfl rfl (Nat.le_of_ble_eq_true rfl) (by kernel_rfl) ?_; dsimp only [Tryd.f22, List.append_eq, List.cons_append, List.nil_append]
    simp -dsimp only [push_cast, Int.ofNat_eq_natCast, ↓reduceIte, Nat.reduceAdd, Nat.reduceMul, Nat.reduceSub, Nat.reduceLeDiff, Nat.reduceEqDiff, Nat.reduceBEq, Int.reduceToNat, Nat.reduceLT, Int.reduceEq, Int.reduceLT, Int.reduceLE, Int.reduceAdd, Int.reduceSub, Int.reduceMul, reduceCtorEq, Bool.not_false, Bool.not_true, Bool.true_beq, Bool.false_beq, beq_self_eq_true, Bool.true_and]
    (first | refine call (h84) ?_ | refine callP (h84) ?_); simp -dsimp only [push_cast, Int.ofNat_eq_natCast, ↓reduceIte, Nat.reduceAdd, Nat.reduceMul, Nat.reduceSub, Nat.reduceLeDiff, Nat.reduceEqDiff, Nat.reduceBEq, Int.reduceToNat, Nat.reduceLT, Int.reduceEq, Int.reduceLT, Int.reduceLE, Int.reduceAdd, Int.reduceSub, Int.reduceMul, reduceCtorEq, Bool.not_false, Bool.not_true, Bool.true_beq, Bool.false_beq, beq_self_eq_true, Bool.true_and]
    rcases ops with _ | ⟨x, _ | ⟨y, _ | ⟨z, r⟩⟩⟩
    · by_cases m84 : 84 ∈ o <;> by_cases m102 : 102 ∈ o
      all_goals
        simp -dsimp only [push_cast, Int.ofNat_eq_natCast, ↓reduceIte, Nat.reduceAdd, Nat.reduceMul, Nat.reduceSub, Nat.reduceLeDiff, Nat.reduceEqDiff, Nat.reduceBEq, Int.reduceToNat, Nat.reduceLT, Int.reduceEq, Int.reduceLT, Int.reduceLE, Int.reduceAdd, Int.reduceSub, Int.reduceMul, reduceCtorEq, Bool.not_false, Bool.not_true, Bool.true_beq, Bool.false_beq, beq_self_eq_true, Bool.true_and, m84, strs, List.map_nil, List.length_nil]
        try ((first | refine call (h102) ?_ | refine callP (h102) ?_); simp -dsimp only [push_cast, Int.ofNat_eq_natCast, ↓reduceIte, Nat.reduceAdd, Nat.reduceMul, Nat.reduceSub, Nat.reduceLeDiff, Nat.reduceEqDiff, Nat.reduceBEq, Int.reduceToNat, Nat.reduceLT, Int.reduceEq, Int.reduceLT, Int.reduceLE, Int.reduceAdd, Int.reduceSub, Int.reduceMul, reduceCtorEq, Bool.not_false, Bool.not_true, Bool.true_beq, Bool.false_beq, beq_self_eq_true, Bool.true_and]; simp -dsimp only [push_cast, Int.ofNat_eq_natCast, ↓reduceIte, Nat.reduceAdd, Nat.reduceMul, Nat.reduceSub, Nat.reduceLeDiff, Nat.reduceEqDiff, Nat.reduceBEq, Int.reduceToNat, Nat.reduceLT, Int.reduceEq, Int.reduceLT, Int.reduceLE, Int.reduceAdd, Int.reduceSub, Int.reduceMul, reduceCtorEq, Bool.not_false, Bool.not_true, Bool.true_beq, Bool.false_beq, beq_self_eq_true, Bool.true_and, m102])
        try exact ⟨[], rfl, rfl, by simp -dsimp only [WeakTm, WeakBx, CLe, CLeL, push_cast, Int.ofNat_eq_natCast, ↓reduceIte, Nat.reduceAdd, Nat.reduceMul, Nat.reduceSub, Nat.reduceLeDiff, Nat.reduceEqDiff, Nat.reduceBEq, Int.reduceToNat, Nat.reduceLT, Int.reduceEq, Int.reduceLT, Int.reduceLE, Int.reduceAdd, Int.reduceSub, Int.reduceMul, reduceCtorEq, Bool.not_false, Bool.not_true, Bool.true_beq, Bool.false_beq, beq_self_eq_true, Bool.true_and] <;> simp [wrongV, m84, m102]⟩
    · have hx := hs x (List.mem_cons_self ..)
      have hq := (quote_fun x (by omega)).glob0 (G' := G3)
      have hql := quoteL_le x
      by_cases m84 : 84 ∈ o
      all_goals
        simp -dsimp only [push_cast, Int.ofNat_eq_natCast, ↓reduceIte, Nat.reduceAdd, Nat.reduceMul, Nat.reduceSub, Nat.reduceLeDiff, Nat.reduceEqDiff, Nat.reduceBEq, Int.reduceToNat, Nat.reduceLT, Int.reduceEq, Int.reduceLT, Int.reduceLE, Int.reduceAdd, Int.reduceSub, Int.reduceMul, reduceCtorEq, Bool.not_false, Bool.not_true, Bool.true_beq, Bool.false_beq, beq_self_eq_true, Bool.true_and, m84, strs, List.map_nil, List.map_cons, List.length_nil, List.length_cons]
        try ((first | refine call (hq) ?_ | refine callP (hq) ?_); simp -dsimp only [push_cast, Int.ofNat_eq_natCast, ↓reduceIte, Nat.reduceAdd, Nat.reduceMul, Nat.reduceSub, Nat.reduceLeDiff, Nat.reduceEqDiff, Nat.reduceBEq, Int.reduceToNat, Nat.reduceLT, Int.reduceEq, Int.reduceLT, Int.reduceLE, Int.reduceAdd, Int.reduceSub, Int.reduceMul, reduceCtorEq, Bool.not_false, Bool.not_true, Bool.true_beq, Bool.false_beq, beq_self_eq_true, Bool.true_and]; (try simp only [List.length_append, List.length_cons, List.length_nil, List.length_map, List.length_take, List.length_drop]); repeat (refine And.intro (by omega) ?_))
        try exact ⟨[], rfl, rfl, by simp -dsimp only [WeakTm, WeakBx, CLe, CLeL, push_cast, Int.ofNat_eq_natCast, ↓reduceIte, Nat.reduceAdd, Nat.reduceMul, Nat.reduceSub, Nat.reduceLeDiff, Nat.reduceEqDiff, Nat.reduceBEq, Int.reduceToNat, Nat.reduceLT, Int.reduceEq, Int.reduceLT, Int.reduceLE, Int.reduceAdd, Int.reduceSub, Int.reduceMul, reduceCtorEq, Bool.not_false, Bool.not_true, Bool.true_beq, Bool.false_beq, beq_self_eq_true, Bool.true_and] <;> simp [wrongV, m84, leastV]⟩
    · by_cases m84 : 84 ∈ o
      all_goals
        simp -dsimp only [push_cast, Int.ofNat_eq_natCast, ↓reduceIte, Nat.reduceAdd, Nat.reduceMul, Nat.reduceSub, Nat.reduceLeDiff, Nat.reduceEqDiff, Nat.reduceBEq, Int.reduceToNat, Nat.reduceLT, Int.reduceEq, Int.reduceLT, Int.reduceLE, Int.reduceAdd, Int.reduceSub, Int.reduceMul, reduceCtorEq, Bool.not_false, Bool.not_true, Bool.true_beq, Bool.false_beq, beq_self_eq_true, Bool.true_and, m84, strs, List.map_nil, List.map_cons, List.length_nil, List.length_cons]
        try exact ⟨[], rfl, rfl, by simp -dsimp only [WeakTm, WeakBx, CLe, CLeL, push_cast, Int.ofNat_eq_natCast, ↓reduceIte, Nat.reduceAdd, Nat.reduceMul, Nat.reduceSub, Nat.reduceLeDiff, Nat.reduceEqDiff, Nat.reduceBEq, Int.reduceToNat, Nat.reduceLT, Int.reduceEq, Int.reduceLT, Int.reduceLE, Int.reduceAdd, Int.reduceSub, Int.reduceMul, reduceCtorEq, Bool.not_false, Bool.not_true, Bool.true_beq, Bool.false_beq, beq_self_eq_true, Bool.true_and] <;> simp [wrongV, m84, leastV]⟩
    · have hx := hs z (by simp)
      have hq := (quote_fun z (by omega)).glob0 (G' := G3)
      have hql := quoteL_le z
      have hp1 : ((r.length : Int) + 1 + 1 + 1 = 0) = False := eq_false (by omega)
      have hp2 : ((r.length : Int) + 1 + 1 + 1 < 2) = False := eq_false (by omega)
      have hp3 : ((r.length : Int) + 1 + 1 + 1 < 1) = False := eq_false (by omega)
      have hp4 : (2 < (r.length : Int) + 1 + 1 + 1) = True := eq_true (by omega)
      have hp5 : (1 < (r.length : Int) + 1 + 1 + 1) = True := eq_true (by omega)
      by_cases m84 : 84 ∈ o
      all_goals
        simp -dsimp only [push_cast, Int.ofNat_eq_natCast, ↓reduceIte, Nat.reduceAdd, Nat.reduceMul, Nat.reduceSub, Nat.reduceLeDiff, Nat.reduceEqDiff, Nat.reduceBEq, Int.reduceToNat, Nat.reduceLT, Int.reduceEq, Int.reduceLT, Int.reduceLE, Int.reduceAdd, Int.reduceSub, Int.reduceMul, reduceCtorEq, Bool.not_false, Bool.not_true, Bool.true_beq, Bool.false_beq, beq_self_eq_true, Bool.true_and, m84, strs, List.map_nil, List.map_cons, List.length_nil, List.length_cons, hp1, hp2, hp3, hp4, hp5]
        try ((first | refine call (hq) ?_ | refine callP (hq) ?_); simp -dsimp only [push_cast, Int.ofNat_eq_natCast, ↓reduceIte, Nat.reduceAdd, Nat.reduceMul, Nat.reduceSub, Nat.reduceLeDiff, Nat.reduceEqDiff, Nat.reduceBEq, Int.reduceToNat, Nat.reduceLT, Int.reduceEq, Int.reduceLT, Int.reduceLE, Int.reduceAdd, Int.reduceSub, Int.reduceMul, reduceCtorEq, Bool.not_false, Bool.not_true, Bool.true_beq, Bool.false_beq, beq_self_eq_true, Bool.true_and]; (try simp only [List.length_append, List.length_cons, List.length_nil, List.length_map, List.length_take, List.length_drop]); repeat (refine And.intro (by omega) ?_))
        try exact ⟨[], rfl, rfl, by simp -dsimp only [WeakTm, WeakBx, CLe, CLeL, push_cast, Int.ofNat_eq_natCast, ↓reduceIte, Nat.reduceAdd, Nat.reduceMul, Nat.reduceSub, Nat.reduceLeDiff, Nat.reduceEqDiff, Nat.reduceBEq, Int.reduceToNat, Nat.reduceLT, Int.reduceEq, Int.reduceLT, Int.reduceLE, Int.reduceAdd, Int.reduceSub, Int.reduceMul, reduceCtorEq, Bool.not_false, Bool.not_true, Bool.true_beq, Bool.false_beq, beq_self_eq_true, Bool.true_and] <;> simp [wrongV, m84, leastV]⟩
end Go.Proofs.YtphiahlodjblcaaDoor.Vcg
set_option linter.unusedVariables false
set_option linter.unusedSimpArgs false
namespace Go.Proofs.YtphiahlodjblcaaDoor.Vcg
open Go.RowKit QuotePlain
structure CmdV where
  kind : Int
  opts : List UInt8
  operands : List (List UInt8)
def kindUp (w : List UInt8) : Nat → Int
  | 0 => 0
  | j + 1 => if nameV ((j + 1 : Nat) : Int) = w then ((j + 1 : Nat) : Int) else kindUp w j
def noCmd : CmdV := ⟨0, [], []⟩
def readTail (kind : Int) (w : List UInt8) (q : List UInt8 × Nat × List UInt8) (r : List (List UInt8)) : CmdV × List UInt8 :=
  if q.2.2 ≠ [] then (noCmd, w ++ [58, 32, 105, 110, 118, 97, 108, 105, 100, 32, 111, 112, 116, 105, 111, 110, 32] ++ quoteL q.2.2)
  else if wrongV kind (optV kind q.1 58) (r.drop q.2.1) ≠ [] then (noCmd, w ++ [58, 32] ++ wrongV kind (optV kind q.1 58) (r.drop q.2.1))
  else (⟨kind, optV kind q.1 58, r.drop q.2.1⟩, [])
def readV : List (List UInt8) → CmdV × List UInt8
  | [] => (noCmd, [109, 105, 115, 115, 105, 110, 103, 32, 99, 111, 109, 109, 97, 110, 100])
  | w :: r => if kindUp w 5 = 0 then (noCmd, quoteL w ++ [58, 32, 117, 110, 107, 110, 111, 119, 110, 32, 99, 111, 109, 109, 97, 110, 100])
    else readTail (kindUp w 5) w (lettersG (refAll (kindUp w 5)) snocF [] 0 r) r
theorem kindUp_le (w : List UInt8) : ∀ j, 0 ≤ kindUp w j ∧ kindUp w j ≤ j
  | 0 => ⟨Int.le_refl _, Int.le_refl _⟩
  | j + 1 => by
    have := kindUp_le w j
    unfold kindUp
    split <;> omega
theorem wordG_bad (A : List UInt8) (f : Acc) : ∀ (w s : List UInt8), (wordG A f s w).2.length ≤ 1
  | [], s => Nat.zero_le _
  | c :: w, s => by
    rw [wordG]
    split
    · exact wordG_bad A f w _
    · exact Nat.le_refl _
theorem wordG_len (A : List UInt8) : ∀ (w s : List UInt8), (wordG A snocF s w).1.length ≤ s.length + w.length
  | [], s => by simp [wordG]
  | c :: w, s => by
    rw [wordG]
    split
    · have h0 : (snocF s c).length = s.length + 1 := by simp
      have := wordG_len A w (snocF s c); simp only [List.length_cons]; omega
    · simp only [List.length_cons]; omega
theorem lettersG_bnd (A : List UInt8) : ∀ (l : List (List UInt8)) (s : List UInt8) (n : Nat), (∀ x ∈ l, x.length ≤ 300) → (lettersG A snocF s n l).1.length ≤ s.length + 300 * l.length ∧ (lettersG A snocF s n l).2.1 ≤ n + l.length ∧ (lettersG A snocF s n l).2.2.length ≤ 1
  | [], s, n, _ => by simp [lettersG]
  | w :: l, s, n, h => by
    have hw := h w (List.mem_cons_self ..)
    have h1 := wordG_bad A snocF w.tail s
    have h2 := wordG_len A w.tail s
    have h3 : w.tail.length ≤ 300 := by rw [List.length_tail]; omega
    have ih := lettersG_bnd A l (wordG A snocF s w.tail).1 (n + 1) fun x hx => h x (List.mem_cons_of_mem _ hx)
    rw [lettersG]
    simp only [List.length_cons]
    split
    · simp only [List.length_nil]; omega
    · split
      · simp only [List.length_nil]; omega
      · split
        · omega
        · dsimp only; omega
abbrev cmdC (c : CmdV) : C := .agg [.sc (.int .i64 c.kind), .str c.opts, .own 0 9 1 (strs c.operands)]
set_option maxRecDepth 8000 in
theorem rread_fun (l : List (List UInt8)) (hl : l.length ≤ 100) (hs : ∀ x ∈ l, x.length ≤ 300) :
    Fun Tryd.prog G0 11 [.sl 1 (strs l)] (.tup [cmdC (readV l).1, .str (readV l).2]) 1 := by
  refine Fun.of (fun i => if i = 15 then [false, false, false, false, false, false, true, false, true] else []) (by kernel_rfl) Tryd.func11 rfl rfl (Nat.le_of_ble_eq_true rfl) (by kernel_rfl) ?_; dsimp only [Tryd.f11, List.append_eq, List.cons_append, List.nil_append]
  rcases l with _ | ⟨w, r⟩
  · simp -dsimp only [push_cast, Int.ofNat_eq_natCast, ↓reduceIte, Nat.reduceAdd, Nat.reduceMul, Nat.reduceSub, Nat.reduceLeDiff, Nat.reduceEqDiff, Nat.reduceBEq, Int.reduceToNat, Nat.reduceLT, Int.reduceEq, Int.reduceLT, Int.reduceLE, Int.reduceAdd, Int.reduceSub, Int.reduceMul, reduceCtorEq, Bool.not_false, Bool.not_true, Bool.true_beq, Bool.false_beq, beq_self_eq_true, Bool.true_and, strs, List.map_nil, List.length_nil]
    exact ⟨[.inr (9, 1)], rfl, rfl, by simp -dsimp only [WeakTm, WeakBx, CLe, CLeL, push_cast, Int.ofNat_eq_natCast, ↓reduceIte, Nat.reduceAdd, Nat.reduceMul, Nat.reduceSub, Nat.reduceLeDiff, Nat.reduceEqDiff, Nat.reduceBEq, Int.reduceToNat, Nat.reduceLT, Int.reduceEq, Int.reduceLT, Int.reduceLE, Int.reduceAdd, Int.reduceSub, Int.reduceMul, reduceCtorEq, Bool.not_false, Bool.not_true, Bool.true_beq, Bool.false_beq, beq_self_eq_true, Bool.true_and, readV, noCmd] <;> rfl⟩
  · have hlr : r.length ≤ 99 := by simp at hl; omega
    have hw := hs w (List.mem_cons_self ..)
    have hsr : ∀ x ∈ r, x.length ≤ 300 := fun x hx => hs x (List.mem_cons_of_mem _ hx)
    have hsC : strs (w :: r) = [.str w] :: strs r := rfl
    have hp0 : ((r.length : Int) + 1 = 0) = False := eq_false (by omega)
    rw [hsC]
    simp -dsimp only [push_cast, Int.ofNat_eq_natCast, ↓reduceIte, Nat.reduceAdd, Nat.reduceMul, Nat.reduceSub, Nat.reduceLeDiff, Nat.reduceEqDiff, Nat.reduceBEq, Int.reduceToNat, Nat.reduceLT, Int.reduceEq, Int.reduceLT, Int.reduceLE, Int.reduceAdd, Int.reduceSub, Int.reduceMul, reduceCtorEq, Bool.not_false, Bool.not_true, Bool.true_beq, Bool.false_beq, beq_self_eq_true, Bool.true_and, hp0]
    refine loop (fun j : Nat => ⟨[(0, .sl 1 ([.str w] :: strs r)), (2, .ptr 0 0), (4, .sc (.int .i64 (kindUp w j))), (5, .sc (.int .i64 ((j : Int) + 1)))], [[.sc (.int .i64 0), .str [], .sc (.slice none 0 0)]], 0, 0⟩) (fun j => j ≤ 5) (fun j => 5 - j) 0 (Nat.zero_le _) ?_ ?_
    · exact Weak.mk [] rfl rfl (Nat.zero_le _) rfl (by simp -dsimp only [WeakTm, WeakBx, CLe, CLeL, push_cast, Int.ofNat_eq_natCast, ↓reduceIte, Nat.reduceAdd, Nat.reduceMul, Nat.reduceSub, Nat.reduceLeDiff, Nat.reduceEqDiff, Nat.reduceBEq, Int.reduceToNat, Nat.reduceLT, Int.reduceEq, Int.reduceLT, Int.reduceLE, Int.reduceAdd, Int.reduceSub, Int.reduceMul, reduceCtorEq, Bool.not_false, Bool.not_true, Bool.true_beq, Bool.false_beq, beq_self_eq_true, Bool.true_and, kindUp]) (by simp -dsimp only [WeakTm, WeakBx, CLe, CLeL, push_cast, Int.ofNat_eq_natCast, ↓reduceIte, Nat.reduceAdd, Nat.reduceMul, Nat.reduceSub, Nat.reduceLeDiff, Nat.reduceEqDiff, Nat.reduceBEq, Int.reduceToNat, Nat.reduceLT, Int.reduceEq, Int.reduceLT, Int.reduceLE, Int.reduceAdd, Int.reduceSub, Int.reduceMul, reduceCtorEq, Bool.not_false, Bool.not_true, Bool.true_beq, Bool.false_beq, beq_self_eq_true, Bool.true_and])
    · rintro j hj
      by_cases h : j < 5
      · have hp1 : ((j : Int) + 1 ≤ 5) = True := eq_true (by omega)
        simp -dsimp only [push_cast, Int.ofNat_eq_natCast, ↓reduceIte, Nat.reduceAdd, Nat.reduceMul, Nat.reduceSub, Nat.reduceLeDiff, Nat.reduceEqDiff, Nat.reduceBEq, Int.reduceToNat, Nat.reduceLT, Int.reduceEq, Int.reduceLT, Int.reduceLE, Int.reduceAdd, Int.reduceSub, Int.reduceMul, reduceCtorEq, Bool.not_false, Bool.not_true, Bool.true_beq, Bool.false_beq, beq_self_eq_true, Bool.true_and, hp1]
        (first | refine call (rName_fun ((j : Int) + 1)) ?_ | refine callP (rName_fun ((j : Int) + 1)) ?_); simp -dsimp only [push_cast, Int.ofNat_eq_natCast, ↓reduceIte, Nat.reduceAdd, Nat.reduceMul, Nat.reduceSub, Nat.reduceLeDiff, Nat.reduceEqDiff, Nat.reduceBEq, Int.reduceToNat, Nat.reduceLT, Int.reduceEq, Int.reduceLT, Int.reduceLE, Int.reduceAdd, Int.reduceSub, Int.reduceMul, reduceCtorEq, Bool.not_false, Bool.not_true, Bool.true_beq, Bool.false_beq, beq_self_eq_true, Bool.true_and]
        have hku : kindUp w (j + 1) = if nameV ((j : Int) + 1) = w then (j : Int) + 1 else kindUp w j := by simp [kindUp]
        by_cases hm : nameV ((j : Int) + 1) = w
        · rw [if_pos hm] at hku
          simp -dsimp only [push_cast, Int.ofNat_eq_natCast, ↓reduceIte, Nat.reduceAdd, Nat.reduceMul, Nat.reduceSub, Nat.reduceLeDiff, Nat.reduceEqDiff, Nat.reduceBEq, Int.reduceToNat, Nat.reduceLT, Int.reduceEq, Int.reduceLT, Int.reduceLE, Int.reduceAdd, Int.reduceSub, Int.reduceMul, reduceCtorEq, Bool.not_false, Bool.not_true, Bool.true_beq, Bool.false_beq, beq_self_eq_true, Bool.true_and, hm]
          (try simp only [List.length_append, List.length_cons, List.length_nil, List.length_map, List.length_take, List.length_drop]); repeat (refine And.intro (by omega) ?_)
          exact ⟨j + 1, by omega, by omega, Weak.mk [] rfl rfl (Nat.zero_le _) rfl (by simp -dsimp only [WeakTm, WeakBx, CLe, CLeL, push_cast, Int.ofNat_eq_natCast, ↓reduceIte, Nat.reduceAdd, Nat.reduceMul, Nat.reduceSub, Nat.reduceLeDiff, Nat.reduceEqDiff, Nat.reduceBEq, Int.reduceToNat, Nat.reduceLT, Int.reduceEq, Int.reduceLT, Int.reduceLE, Int.reduceAdd, Int.reduceSub, Int.reduceMul, reduceCtorEq, Bool.not_false, Bool.not_true, Bool.true_beq, Bool.false_beq, beq_self_eq_true, Bool.true_and, hku]) (by simp -dsimp only [WeakTm, WeakBx, CLe, CLeL, push_cast, Int.ofNat_eq_natCast, ↓reduceIte, Nat.reduceAdd, Nat.reduceMul, Nat.reduceSub, Nat.reduceLeDiff, Nat.reduceEqDiff, Nat.reduceBEq, Int.reduceToNat, Nat.reduceLT, Int.reduceEq, Int.reduceLT, Int.reduceLE, Int.reduceAdd, Int.reduceSub, Int.reduceMul, reduceCtorEq, Bool.not_false, Bool.not_true, Bool.true_beq, Bool.false_beq, beq_self_eq_true, Bool.true_and])⟩
        · rw [if_neg hm] at hku
          simp -dsimp only [push_cast, Int.ofNat_eq_natCast, ↓reduceIte, Nat.reduceAdd, Nat.reduceMul, Nat.reduceSub, Nat.reduceLeDiff, Nat.reduceEqDiff, Nat.reduceBEq, Int.reduceToNat, Nat.reduceLT, Int.reduceEq, Int.reduceLT, Int.reduceLE, Int.reduceAdd, Int.reduceSub, Int.reduceMul, reduceCtorEq, Bool.not_false, Bool.not_true, Bool.true_beq, Bool.false_beq, beq_self_eq_true, Bool.true_and, hm]
          (try simp only [List.length_append, List.length_cons, List.length_nil, List.length_map, List.length_take, List.length_drop]); repeat (refine And.intro (by omega) ?_)
          exact ⟨j + 1, by omega, by omega, Weak.mk [] rfl rfl (Nat.zero_le _) rfl (by simp -dsimp only [WeakTm, WeakBx, CLe, CLeL, push_cast, Int.ofNat_eq_natCast, ↓reduceIte, Nat.reduceAdd, Nat.reduceMul, Nat.reduceSub, Nat.reduceLeDiff, Nat.reduceEqDiff, Nat.reduceBEq, Int.reduceToNat, Nat.reduceLT, Int.reduceEq, Int.reduceLT, Int.reduceLE, Int.reduceAdd, Int.reduceSub, Int.reduceMul, reduceCtorEq, Bool.not_false, Bool.not_true, Bool.true_beq, Bool.false_beq, beq_self_eq_true, Bool.true_and, hku]) (by simp -dsimp only [WeakTm, WeakBx, CLe, CLeL, push_cast, Int.ofNat_eq_natCast, ↓reduceIte, Nat.reduceAdd, Nat.reduceMul, Nat.reduceSub, Nat.reduceLeDiff, Nat.reduceEqDiff, Nat.reduceBEq, Int.reduceToNat, Nat.reduceLT, Int.reduceEq, Int.reduceLT, Int.reduceLE, Int.reduceAdd, Int.reduceSub, Int.reduceMul, reduceCtorEq, Bool.not_false, Bool.not_true, Bool.true_beq, Bool.false_beq, beq_self_eq_true, Bool.true_and])⟩
      · have hp1 : ((j : Int) + 1 ≤ 5) = False := eq_false (by omega)
        have hj5 : j = 5 := by omega
        subst hj5
        have hkle := kindUp_le w 5
        have hrd : readV (w :: r) = if kindUp w 5 = 0 then (noCmd, quoteL w ++ [58, 32, 117, 110, 107, 110, 111, 119, 110, 32, 99, 111, 109, 109, 97, 110, 100]) else readTail (kindUp w 5) w (lettersG (refAll (kindUp w 5)) snocF [] 0 r) r := rfl
        generalize kindUp w 5 = K at hkle hrd ⊢
        by_cases hK0 : K = 0
        · rw [if_pos hK0] at hrd
          have hq := quoteL_le w
          simp -dsimp only [push_cast, Int.ofNat_eq_natCast, ↓reduceIte, Nat.reduceAdd, Nat.reduceMul, Nat.reduceSub, Nat.reduceLeDiff, Nat.reduceEqDiff, Nat.reduceBEq, Int.reduceToNat, Nat.reduceLT, Int.reduceEq, Int.reduceLT, Int.reduceLE, Int.reduceAdd, Int.reduceSub, Int.reduceMul, reduceCtorEq, Bool.not_false, Bool.not_true, Bool.true_beq, Bool.false_beq, beq_self_eq_true, Bool.true_and, hp1, hK0]
          (first | refine call (rQuote_fun w (by omega)) ?_ | refine callP (rQuote_fun w (by omega)) ?_); simp -dsimp only [push_cast, Int.ofNat_eq_natCast, ↓reduceIte, Nat.reduceAdd, Nat.reduceMul, Nat.reduceSub, Nat.reduceLeDiff, Nat.reduceEqDiff, Nat.reduceBEq, Int.reduceToNat, Nat.reduceLT, Int.reduceEq, Int.reduceLT, Int.reduceLE, Int.reduceAdd, Int.reduceSub, Int.reduceMul, reduceCtorEq, Bool.not_false, Bool.not_true, Bool.true_beq, Bool.false_beq, beq_self_eq_true, Bool.true_and]
          (try simp only [List.length_append, List.length_cons, List.length_nil, List.length_map, List.length_take, List.length_drop]); repeat (refine And.intro (by omega) ?_)
          exact ⟨[.inr (9, 1)], rfl, rfl, by simp -dsimp only [WeakTm, WeakBx, CLe, CLeL, push_cast, Int.ofNat_eq_natCast, ↓reduceIte, Nat.reduceAdd, Nat.reduceMul, Nat.reduceSub, Nat.reduceLeDiff, Nat.reduceEqDiff, Nat.reduceBEq, Int.reduceToNat, Nat.reduceLT, Int.reduceEq, Int.reduceLT, Int.reduceLE, Int.reduceAdd, Int.reduceSub, Int.reduceMul, reduceCtorEq, Bool.not_false, Bool.not_true, Bool.true_beq, Bool.false_beq, beq_self_eq_true, Bool.true_and, hrd, noCmd] <;> rfl⟩
        · rw [if_neg hK0] at hrd
          have hkk : K = 1 ∨ K = 2 ∨ K = 3 ∨ K = 4 ∨ K = 5 := by omega
          have hlet := letters_fun K r hkk (by omega) hsr
          have hbnd := lettersG_bnd (refAll K) r [] 0 hsr
          generalize lettersG (refAll K) snocF [] 0 r = q at hlet hbnd hrd ⊢
          obtain ⟨s, n, bad⟩ := q
          dsimp only at hlet hbnd
          simp -dsimp only [push_cast, Int.ofNat_eq_natCast, ↓reduceIte, Nat.reduceAdd, Nat.reduceMul, Nat.reduceSub, Nat.reduceLeDiff, Nat.reduceEqDiff, Nat.reduceBEq, Int.reduceToNat, Nat.reduceLT, Int.reduceEq, Int.reduceLT, Int.reduceLE, Int.reduceAdd, Int.reduceSub, Int.reduceMul, reduceCtorEq, Bool.not_false, Bool.not_true, Bool.true_beq, Bool.false_beq, beq_self_eq_true, Bool.true_and, hp1, hK0]
          (try simp only [List.length_append, List.length_cons, List.length_nil, List.length_map, List.length_take, List.length_drop]); repeat (refine And.intro (by omega) ?_)
          (first | refine call (hlet) ?_ | refine callP (hlet) ?_); simp -dsimp only [push_cast, Int.ofNat_eq_natCast, ↓reduceIte, Nat.reduceAdd, Nat.reduceMul, Nat.reduceSub, Nat.reduceLeDiff, Nat.reduceEqDiff, Nat.reduceBEq, Int.reduceToNat, Nat.reduceLT, Int.reduceEq, Int.reduceLT, Int.reduceLE, Int.reduceAdd, Int.reduceSub, Int.reduceMul, reduceCtorEq, Bool.not_false, Bool.not_true, Bool.true_beq, Bool.false_beq, beq_self_eq_true, Bool.true_and]
          by_cases hbad : bad = []
          · have hdr : List.drop (1 + (n : Int)).toNat ([C.str w] :: strs r) = strs (r.drop n) := by
              rw [show (1 + (n : Int)).toNat = n + 1 by omega, List.drop_succ_cons]; simp [strs]
            have hop : (r.drop n).length ≤ 99 := by rw [List.length_drop]; omega
            have hso : ∀ x ∈ r.drop n, x.length ≤ 300 := fun x hx => hsr x (List.mem_of_mem_drop hx)
            have hrt : readTail K w (s, n, bad) r = if wrongV K (optV K s 58) (r.drop n) ≠ [] then (noCmd, w ++ [58, 32] ++ wrongV K (optV K s 58) (r.drop n)) else (⟨K, optV K s 58, r.drop n⟩, []) := by
              unfold readTail; rw [if_neg (by simpa using hbad)]
            rw [hrt] at hrd
            have h84 := in_fun (optV K s 58) 84 (by have := List.length_filter_le (isV K s) ((List.range' 65 58).map UInt8.ofNat); simp at this; unfold optV; omega)
            have h102 := in_fun (optV K s 58) 102 (by have := List.length_filter_le (isV K s) ((List.range' 65 58).map UInt8.ofNat); simp at this; unfold optV; omega)
            generalize r.drop n = ops at hop hso hrd hdr
            simp -dsimp only [push_cast, Int.ofNat_eq_natCast, ↓reduceIte, Nat.reduceAdd, Nat.reduceMul, Nat.reduceSub, Nat.reduceLeDiff, Nat.reduceEqDiff, Nat.reduceBEq, Int.reduceToNat, Nat.reduceLT, Int.reduceEq, Int.reduceLT, Int.reduceLE, Int.reduceAdd, Int.reduceSub, Int.reduceMul, reduceCtorEq, Bool.not_false, Bool.not_true, Bool.true_beq, Bool.false_beq, beq_self_eq_true, Bool.true_and, hbad]
            (first | refine call (options_fun K s (by simp at hbnd; omega)) ?_ | refine callP (options_fun K s (by simp at hbnd; omega)) ?_); simp -dsimp only [push_cast, Int.ofNat_eq_natCast, ↓reduceIte, Nat.reduceAdd, Nat.reduceMul, Nat.reduceSub, Nat.reduceLeDiff, Nat.reduceEqDiff, Nat.reduceBEq, Int.reduceToNat, Nat.reduceLT, Int.reduceEq, Int.reduceLT, Int.reduceLE, Int.reduceAdd, Int.reduceSub, Int.reduceMul, reduceCtorEq, Bool.not_false, Bool.not_true, Bool.true_beq, Bool.false_beq, beq_self_eq_true, Bool.true_and, hdr]
            generalize optV K s 58 = O at h84 h102 hrd ⊢
            (try simp only [List.length_append, List.length_cons, List.length_nil, List.length_map, List.length_take, List.length_drop]); repeat (refine And.intro (by omega) ?_)
            have hleast : leastV K = if 4 ≤ K then 2 else 1 := by
              unfold leastV
              by_cases h4 : 4 ≤ K
              · rw [if_pos h4, if_pos (by omega)]
              · rw [if_neg h4, if_neg (by omega)]
            rcases ops with _ | ⟨x, _ | ⟨y, _ | ⟨z, t⟩⟩⟩
            · by_cases hK2 : K = 2 ∧ 102 ∈ O
              · have hwv : wrongV K O [] = [] := by simp [wrongV, hK2]
                have hr2 := hrd
                rw [hwv, if_neg (by simp)] at hr2
                have h4 : ¬ 4 ≤ K := by omega
                have hK2' := hK2.1
                have m102 := hK2.2
                by_cases m84 : 84 ∈ O
                all_goals
                  simp -dsimp only [push_cast, Int.ofNat_eq_natCast, ↓reduceIte, Nat.reduceAdd, Nat.reduceMul, Nat.reduceSub, Nat.reduceLeDiff, Nat.reduceEqDiff, Nat.reduceBEq, Int.reduceToNat, Nat.reduceLT, Int.reduceEq, Int.reduceLT, Int.reduceLE, Int.reduceAdd, Int.reduceSub, Int.reduceMul, reduceCtorEq, Bool.not_false, Bool.not_true, Bool.true_beq, Bool.false_beq, beq_self_eq_true, Bool.true_and, h4, strs, List.map_nil, List.map_cons, List.length_nil, List.length_cons]
                  (first | refine call (h84) ?_ | refine callP (h84) ?_); simp -dsimp only [push_cast, Int.ofNat_eq_natCast, ↓reduceIte, Nat.reduceAdd, Nat.reduceMul, Nat.reduceSub, Nat.reduceLeDiff, Nat.reduceEqDiff, Nat.reduceBEq, Int.reduceToNat, Nat.reduceLT, Int.reduceEq, Int.reduceLT, Int.reduceLE, Int.reduceAdd, Int.reduceSub, Int.reduceMul, reduceCtorEq, Bool.not_false, Bool.not_true, Bool.true_beq, Bool.false_beq, beq_self_eq_true, Bool.true_and, m84, hK2', strs, List.map_nil, List.map_cons, List.length_nil, List.length_cons]
                  (first | refine call (h102) ?_ | refine callP (h102) ?_); simp -dsimp only [push_cast, Int.ofNat_eq_natCast, ↓reduceIte, Nat.reduceAdd, Nat.reduceMul, Nat.reduceSub, Nat.reduceLeDiff, Nat.reduceEqDiff, Nat.reduceBEq, Int.reduceToNat, Nat.reduceLT, Int.reduceEq, Int.reduceLT, Int.reduceLE, Int.reduceAdd, Int.reduceSub, Int.reduceMul, reduceCtorEq, Bool.not_false, Bool.not_true, Bool.true_beq, Bool.false_beq, beq_self_eq_true, Bool.true_and, m102, strs, List.map_nil, List.map_cons, List.length_nil, List.length_cons]
                  exact ⟨[.inl 0], rfl, rfl, by simp -dsimp only [WeakTm, WeakBx, CLe, CLeL, push_cast, Int.ofNat_eq_natCast, ↓reduceIte, Nat.reduceAdd, Nat.reduceMul, Nat.reduceSub, Nat.reduceLeDiff, Nat.reduceEqDiff, Nat.reduceBEq, Int.reduceToNat, Nat.reduceLT, Int.reduceEq, Int.reduceLT, Int.reduceLE, Int.reduceAdd, Int.reduceSub, Int.reduceMul, reduceCtorEq, Bool.not_false, Bool.not_true, Bool.true_beq, Bool.false_beq, beq_self_eq_true, Bool.true_and, hr2, hK2', strs, List.map_nil, List.map_cons, List.length_nil, List.length_cons]⟩
              · have hwv : wrongV K O [] = [109, 105, 115, 115, 105, 110, 103, 32, 111, 112, 101, 114, 97, 110, 100] := by simp [wrongV, hK2]
                have hr2 := hrd
                rw [hwv, if_pos (by simp)] at hr2
                by_cases hK2' : K = 2
                · have m102 : 102 ∉ O := fun h => hK2 ⟨hK2', h⟩
                  have h4 : ¬ 4 ≤ K := by omega
                  by_cases m84 : 84 ∈ O
                  all_goals
                    simp -dsimp only [push_cast, Int.ofNat_eq_natCast, ↓reduceIte, Nat.reduceAdd, Nat.reduceMul, Nat.reduceSub, Nat.reduceLeDiff, Nat.reduceEqDiff, Nat.reduceBEq, Int.reduceToNat, Nat.reduceLT, Int.reduceEq, Int.reduceLT, Int.reduceLE, Int.reduceAdd, Int.reduceSub, Int.reduceMul, reduceCtorEq, Bool.not_false, Bool.not_true, Bool.true_beq, Bool.false_beq, beq_self_eq_true, Bool.true_and, h4, strs, List.map_nil, List.map_cons, List.length_nil, List.length_cons]
                    (first | refine call (h84) ?_ | refine callP (h84) ?_); simp -dsimp only [push_cast, Int.ofNat_eq_natCast, ↓reduceIte, Nat.reduceAdd, Nat.reduceMul, Nat.reduceSub, Nat.reduceLeDiff, Nat.reduceEqDiff, Nat.reduceBEq, Int.reduceToNat, Nat.reduceLT, Int.reduceEq, Int.reduceLT, Int.reduceLE, Int.reduceAdd, Int.reduceSub, Int.reduceMul, reduceCtorEq, Bool.not_false, Bool.not_true, Bool.true_beq, Bool.false_beq, beq_self_eq_true, Bool.true_and, m84, hK2', strs, List.map_nil, List.map_cons, List.length_nil, List.length_cons]
                    (first | refine call (h102) ?_ | refine callP (h102) ?_); simp -dsimp only [push_cast, Int.ofNat_eq_natCast, ↓reduceIte, Nat.reduceAdd, Nat.reduceMul, Nat.reduceSub, Nat.reduceLeDiff, Nat.reduceEqDiff, Nat.reduceBEq, Int.reduceToNat, Nat.reduceLT, Int.reduceEq, Int.reduceLT, Int.reduceLE, Int.reduceAdd, Int.reduceSub, Int.reduceMul, reduceCtorEq, Bool.not_false, Bool.not_true, Bool.true_beq, Bool.false_beq, beq_self_eq_true, Bool.true_and, m102, strs, List.map_nil, List.map_cons, List.length_nil, List.length_cons]
                    (try simp only [List.length_append, List.length_cons, List.length_nil, List.length_map, List.length_take, List.length_drop]); repeat (refine And.intro (by omega) ?_)
                    exact ⟨[.inr (9, 1)], rfl, rfl, by simp -dsimp only [WeakTm, WeakBx, CLe, CLeL, push_cast, Int.ofNat_eq_natCast, ↓reduceIte, Nat.reduceAdd, Nat.reduceMul, Nat.reduceSub, Nat.reduceLeDiff, Nat.reduceEqDiff, Nat.reduceBEq, Int.reduceToNat, Nat.reduceLT, Int.reduceEq, Int.reduceLT, Int.reduceLE, Int.reduceAdd, Int.reduceSub, Int.reduceMul, reduceCtorEq, Bool.not_false, Bool.not_true, Bool.true_beq, Bool.false_beq, beq_self_eq_true, Bool.true_and, hr2, noCmd, List.append_assoc, List.cons_append, List.nil_append] <;> rfl⟩
                · by_cases h4 : 4 ≤ K <;> by_cases m84 : 84 ∈ O
                  all_goals
                    simp -dsimp only [push_cast, Int.ofNat_eq_natCast, ↓reduceIte, Nat.reduceAdd, Nat.reduceMul, Nat.reduceSub, Nat.reduceLeDiff, Nat.reduceEqDiff, Nat.reduceBEq, Int.reduceToNat, Nat.reduceLT, Int.reduceEq, Int.reduceLT, Int.reduceLE, Int.reduceAdd, Int.reduceSub, Int.reduceMul, reduceCtorEq, Bool.not_false, Bool.not_true, Bool.true_beq, Bool.false_beq, beq_self_eq_true, Bool.true_and, h4, hK2', strs, List.map_nil, List.map_cons, List.length_nil, List.length_cons]
                    try (first | refine call (h84) ?_ | refine callP (h84) ?_); simp -dsimp only [push_cast, Int.ofNat_eq_natCast, ↓reduceIte, Nat.reduceAdd, Nat.reduceMul, Nat.reduceSub, Nat.reduceLeDiff, Nat.reduceEqDiff, Nat.reduceBEq, Int.reduceToNat, Nat.reduceLT, Int.reduceEq, Int.reduceLT, Int.reduceLE, Int.reduceAdd, Int.reduceSub, Int.reduceMul, reduceCtorEq, Bool.not_false, Bool.not_true, Bool.true_beq, Bool.false_beq, beq_self_eq_true, Bool.true_and, m84, hK2', strs, List.map_nil, List.map_cons, List.length_nil, List.length_cons]
                    (try simp only [List.length_append, List.length_cons, List.length_nil, List.length_map, List.length_take, List.length_drop]); repeat (refine And.intro (by omega) ?_)
                    exact ⟨[.inr (9, 1)], rfl, rfl, by simp -dsimp only [WeakTm, WeakBx, CLe, CLeL, push_cast, Int.ofNat_eq_natCast, ↓reduceIte, Nat.reduceAdd, Nat.reduceMul, Nat.reduceSub, Nat.reduceLeDiff, Nat.reduceEqDiff, Nat.reduceBEq, Int.reduceToNat, Nat.reduceLT, Int.reduceEq, Int.reduceLT, Int.reduceLE, Int.reduceAdd, Int.reduceSub, Int.reduceMul, reduceCtorEq, Bool.not_false, Bool.not_true, Bool.true_beq, Bool.false_beq, beq_self_eq_true, Bool.true_and, hr2, noCmd, List.append_assoc, List.cons_append, List.nil_append] <;> rfl⟩
            · have hx := hso x (by simp)
              have hqx := quoteL_le x
              by_cases hl2 : 4 ≤ K ∨ 84 ∈ O
              · have hwv : wrongV K O [x] = [109, 105, 115, 115, 105, 110, 103, 32, 100, 101, 115, 116, 105, 110, 97, 116, 105, 111, 110, 32, 111, 112, 101, 114, 97, 110, 100, 32, 97, 102, 116, 101, 114, 32] ++ quoteL x := by
                  unfold wrongV
                  rw [if_neg (by simp), if_pos (by rw [hleast]; rcases hl2 with h | h <;> simp [h])]; rfl
                have hr2 := hrd
                rw [hwv, if_pos (by simp)] at hr2
                have h3 : (4 ≤ K ∧ 84 ∈ O) ∨ (4 ≤ K ∧ 84 ∉ O) ∨ (¬ 4 ≤ K ∧ 84 ∈ O) := by
                  by_cases a : 4 ≤ K <;> by_cases b : 84 ∈ O <;> simp [a, b] at hl2 ⊢
                rcases h3 with ⟨h4, m84⟩ | ⟨h4, m84⟩ | ⟨h4, m84⟩
                all_goals
                  simp -dsimp only [push_cast, Int.ofNat_eq_natCast, ↓reduceIte, Nat.reduceAdd, Nat.reduceMul, Nat.reduceSub, Nat.reduceLeDiff, Nat.reduceEqDiff, Nat.reduceBEq, Int.reduceToNat, Nat.reduceLT, Int.reduceEq, Int.reduceLT, Int.reduceLE, Int.reduceAdd, Int.reduceSub, Int.reduceMul, reduceCtorEq, Bool.not_false, Bool.not_true, Bool.true_beq, Bool.false_beq, beq_self_eq_true, Bool.true_and, h4, strs, List.map_nil, List.map_cons, List.length_nil, List.length_cons]
                  try (first | refine call (h84) ?_ | refine callP (h84) ?_); simp -dsimp only [push_cast, Int.ofNat_eq_natCast, ↓reduceIte, Nat.reduceAdd, Nat.reduceMul, Nat.reduceSub, Nat.reduceLeDiff, Nat.reduceEqDiff, Nat.reduceBEq, Int.reduceToNat, Nat.reduceLT, Int.reduceEq, Int.reduceLT, Int.reduceLE, Int.reduceAdd, Int.reduceSub, Int.reduceMul, reduceCtorEq, Bool.not_false, Bool.not_true, Bool.true_beq, Bool.false_beq, beq_self_eq_true, Bool.true_and, m84, strs, List.map_nil, List.map_cons, List.length_nil, List.length_cons]
                  (try simp only [List.length_append, List.length_cons, List.length_nil, List.length_map, List.length_take, List.length_drop]); repeat (refine And.intro (by omega) ?_)
                  (first | refine call (rQuote_fun x (by omega)) ?_ | refine callP (rQuote_fun x (by omega)) ?_); simp -dsimp only [push_cast, Int.ofNat_eq_natCast, ↓reduceIte, Nat.reduceAdd, Nat.reduceMul, Nat.reduceSub, Nat.reduceLeDiff, Nat.reduceEqDiff, Nat.reduceBEq, Int.reduceToNat, Nat.reduceLT, Int.reduceEq, Int.reduceLT, Int.reduceLE, Int.reduceAdd, Int.reduceSub, Int.reduceMul, reduceCtorEq, Bool.not_false, Bool.not_true, Bool.true_beq, Bool.false_beq, beq_self_eq_true, Bool.true_and]
                  (try simp only [List.length_append, List.length_cons, List.length_nil, List.length_map, List.length_take, List.length_drop]); repeat (refine And.intro (by omega) ?_)
                  exact ⟨[.inr (9, 1)], rfl, rfl, by simp -dsimp only [WeakTm, WeakBx, CLe, CLeL, push_cast, Int.ofNat_eq_natCast, ↓reduceIte, Nat.reduceAdd, Nat.reduceMul, Nat.reduceSub, Nat.reduceLeDiff, Nat.reduceEqDiff, Nat.reduceBEq, Int.reduceToNat, Nat.reduceLT, Int.reduceEq, Int.reduceLT, Int.reduceLE, Int.reduceAdd, Int.reduceSub, Int.reduceMul, reduceCtorEq, Bool.not_false, Bool.not_true, Bool.true_beq, Bool.false_beq, beq_self_eq_true, Bool.true_and, hr2, noCmd, List.append_assoc, List.cons_append, List.nil_append] <;> rfl⟩
              · have h4 : ¬ 4 ≤ K := fun h => hl2 (.inl h)
                have m84 : 84 ∉ O := fun h => hl2 (.inr h)
                have hwv : wrongV K O [x] = [] := by
                  unfold wrongV
                  rw [if_neg (by simp), hleast]; simp [h4, m84]
                have hr2 := hrd
                rw [hwv, if_neg (by simp)] at hr2
                simp -dsimp only [push_cast, Int.ofNat_eq_natCast, ↓reduceIte, Nat.reduceAdd, Nat.reduceMul, Nat.reduceSub, Nat.reduceLeDiff, Nat.reduceEqDiff, Nat.reduceBEq, Int.reduceToNat, Nat.reduceLT, Int.reduceEq, Int.reduceLT, Int.reduceLE, Int.reduceAdd, Int.reduceSub, Int.reduceMul, reduceCtorEq, Bool.not_false, Bool.not_true, Bool.true_beq, Bool.false_beq, beq_self_eq_true, Bool.true_and, h4, strs, List.map_nil, List.map_cons, List.length_nil, List.length_cons]
                (first | refine call (h84) ?_ | refine callP (h84) ?_); simp -dsimp only [push_cast, Int.ofNat_eq_natCast, ↓reduceIte, Nat.reduceAdd, Nat.reduceMul, Nat.reduceSub, Nat.reduceLeDiff, Nat.reduceEqDiff, Nat.reduceBEq, Int.reduceToNat, Nat.reduceLT, Int.reduceEq, Int.reduceLT, Int.reduceLE, Int.reduceAdd, Int.reduceSub, Int.reduceMul, reduceCtorEq, Bool.not_false, Bool.not_true, Bool.true_beq, Bool.false_beq, beq_self_eq_true, Bool.true_and, m84, strs, List.map_nil, List.map_cons, List.length_nil, List.length_cons]
                exact ⟨[.inl 0], rfl, rfl, by simp -dsimp only [WeakTm, WeakBx, CLe, CLeL, push_cast, Int.ofNat_eq_natCast, ↓reduceIte, Nat.reduceAdd, Nat.reduceMul, Nat.reduceSub, Nat.reduceLeDiff, Nat.reduceEqDiff, Nat.reduceBEq, Int.reduceToNat, Nat.reduceLT, Int.reduceEq, Int.reduceLT, Int.reduceLE, Int.reduceAdd, Int.reduceSub, Int.reduceMul, reduceCtorEq, Bool.not_false, Bool.not_true, Bool.true_beq, Bool.false_beq, beq_self_eq_true, Bool.true_and, hr2, strs, List.map_nil, List.map_cons, List.length_nil, List.length_cons]⟩
            · have hwv : wrongV K O [x, y] = [] := by
                unfold wrongV
                rw [if_neg (by simp), hleast]
                by_cases h4 : 4 ≤ K <;> by_cases m84 : 84 ∈ O <;> simp [h4, m84]
              have hr2 := hrd
              rw [hwv, if_neg (by simp)] at hr2
              by_cases h4 : 4 ≤ K <;> by_cases m84 : 84 ∈ O
              all_goals
                simp -dsimp only [push_cast, Int.ofNat_eq_natCast, ↓reduceIte, Nat.reduceAdd, Nat.reduceMul, Nat.reduceSub, Nat.reduceLeDiff, Nat.reduceEqDiff, Nat.reduceBEq, Int.reduceToNat, Nat.reduceLT, Int.reduceEq, Int.reduceLT, Int.reduceLE, Int.reduceAdd, Int.reduceSub, Int.reduceMul, reduceCtorEq, Bool.not_false, Bool.not_true, Bool.true_beq, Bool.false_beq, beq_self_eq_true, Bool.true_and, h4, strs, List.map_nil, List.map_cons, List.length_nil, List.length_cons]
                try (first | refine call (h84) ?_ | refine callP (h84) ?_); simp -dsimp only [push_cast, Int.ofNat_eq_natCast, ↓reduceIte, Nat.reduceAdd, Nat.reduceMul, Nat.reduceSub, Nat.reduceLeDiff, Nat.reduceEqDiff, Nat.reduceBEq, Int.reduceToNat, Nat.reduceLT, Int.reduceEq, Int.reduceLT, Int.reduceLE, Int.reduceAdd, Int.reduceSub, Int.reduceMul, reduceCtorEq, Bool.not_false, Bool.not_true, Bool.true_beq, Bool.false_beq, beq_self_eq_true, Bool.true_and, m84, strs, List.map_nil, List.map_cons, List.length_nil, List.length_cons]
                exact ⟨[.inl 0], rfl, rfl, by simp -dsimp only [WeakTm, WeakBx, CLe, CLeL, push_cast, Int.ofNat_eq_natCast, ↓reduceIte, Nat.reduceAdd, Nat.reduceMul, Nat.reduceSub, Nat.reduceLeDiff, Nat.reduceEqDiff, Nat.reduceBEq, Int.reduceToNat, Nat.reduceLT, Int.reduceEq, Int.reduceLT, Int.reduceLE, Int.reduceAdd, Int.reduceSub, Int.reduceMul, reduceCtorEq, Bool.not_false, Bool.not_true, Bool.true_beq, Bool.false_beq, beq_self_eq_true, Bool.true_and, hr2, strs, List.map_nil, List.map_cons, List.length_nil, List.length_cons]⟩
            · have hz := hso z (by simp)
              have hqz := quoteL_le z
              have hp0 : ((t.length : Int) + 1 + 1 + 1 = 0) = False := eq_false (by omega)
              have hp2 : ((t.length : Int) + 1 + 1 + 1 < 2) = False := eq_false (by omega)
              have hp3 : ((t.length : Int) + 1 + 1 + 1 < 1) = False := eq_false (by omega)
              have hp4 : (2 < (t.length : Int) + 1 + 1 + 1) = True := eq_true (by omega)
              have hp5 : (0 < (t.length : Int) + 1 + 1 + 1) = True := eq_true (by omega)
              by_cases m84 : 84 ∈ O
              · have hwv : wrongV K O (x :: y :: z :: t) = [101, 120, 116, 114, 97, 32, 111, 112, 101, 114, 97, 110, 100, 32] ++ quoteL z := by
                  unfold wrongV
                  rw [if_neg (by simp), hleast, if_neg (by simp [m84]), if_pos (by simp [m84])]; rfl
                have hr2 := hrd
                rw [hwv, if_pos (by simp)] at hr2
                by_cases h4 : 4 ≤ K
                all_goals
                  simp -dsimp only [push_cast, Int.ofNat_eq_natCast, ↓reduceIte, Nat.reduceAdd, Nat.reduceMul, Nat.reduceSub, Nat.reduceLeDiff, Nat.reduceEqDiff, Nat.reduceBEq, Int.reduceToNat, Nat.reduceLT, Int.reduceEq, Int.reduceLT, Int.reduceLE, Int.reduceAdd, Int.reduceSub, Int.reduceMul, reduceCtorEq, Bool.not_false, Bool.not_true, Bool.true_beq, Bool.false_beq, beq_self_eq_true, Bool.true_and, h4, hp0, hp2, hp3, hp4, hp5, strs, List.map_nil, List.map_cons, List.length_nil, List.length_cons]
                  try (first | refine call (h84) ?_ | refine callP (h84) ?_); simp -dsimp only [push_cast, Int.ofNat_eq_natCast, ↓reduceIte, Nat.reduceAdd, Nat.reduceMul, Nat.reduceSub, Nat.reduceLeDiff, Nat.reduceEqDiff, Nat.reduceBEq, Int.reduceToNat, Nat.reduceLT, Int.reduceEq, Int.reduceLT, Int.reduceLE, Int.reduceAdd, Int.reduceSub, Int.reduceMul, reduceCtorEq, Bool.not_false, Bool.not_true, Bool.true_beq, Bool.false_beq, beq_self_eq_true, Bool.true_and, m84, hp0, hp2, hp3, hp4, hp5, strs, List.map_nil, List.map_cons, List.length_nil, List.length_cons]
                  try (first | refine call (h84) ?_ | refine callP (h84) ?_); simp -dsimp only [push_cast, Int.ofNat_eq_natCast, ↓reduceIte, Nat.reduceAdd, Nat.reduceMul, Nat.reduceSub, Nat.reduceLeDiff, Nat.reduceEqDiff, Nat.reduceBEq, Int.reduceToNat, Nat.reduceLT, Int.reduceEq, Int.reduceLT, Int.reduceLE, Int.reduceAdd, Int.reduceSub, Int.reduceMul, reduceCtorEq, Bool.not_false, Bool.not_true, Bool.true_beq, Bool.false_beq, beq_self_eq_true, Bool.true_and, m84, hp0, hp2, hp3, hp4, hp5, strs, List.map_nil, List.map_cons, List.length_nil, List.length_cons]
                  (try simp only [List.length_append, List.length_cons, List.length_nil, List.length_map, List.length_take, List.length_drop]); repeat (refine And.intro (by omega) ?_)
                  (first | refine call (rQuote_fun z (by omega)) ?_ | refine callP (rQuote_fun z (by omega)) ?_); simp -dsimp only [push_cast, Int.ofNat_eq_natCast, ↓reduceIte, Nat.reduceAdd, Nat.reduceMul, Nat.reduceSub, Nat.reduceLeDiff, Nat.reduceEqDiff, Nat.reduceBEq, Int.reduceToNat, Nat.reduceLT, Int.reduceEq, Int.reduceLT, Int.reduceLE, Int.reduceAdd, Int.reduceSub, Int.reduceMul, reduceCtorEq, Bool.not_false, Bool.not_true, Bool.true_beq, Bool.false_beq, beq_self_eq_true, Bool.true_and]
                  (try simp only [List.length_append, List.length_cons, List.length_nil, List.length_map, List.length_take, List.length_drop]); repeat (refine And.intro (by omega) ?_)
                  exact ⟨[.inr (9, 1)], rfl, rfl, by simp -dsimp only [WeakTm, WeakBx, CLe, CLeL, push_cast, Int.ofNat_eq_natCast, ↓reduceIte, Nat.reduceAdd, Nat.reduceMul, Nat.reduceSub, Nat.reduceLeDiff, Nat.reduceEqDiff, Nat.reduceBEq, Int.reduceToNat, Nat.reduceLT, Int.reduceEq, Int.reduceLT, Int.reduceLE, Int.reduceAdd, Int.reduceSub, Int.reduceMul, reduceCtorEq, Bool.not_false, Bool.not_true, Bool.true_beq, Bool.false_beq, beq_self_eq_true, Bool.true_and, hr2, noCmd, List.append_assoc, List.cons_append, List.nil_append] <;> rfl⟩
              · have hwv : wrongV K O (x :: y :: z :: t) = [] := by
                  unfold wrongV
                  rw [if_neg (by simp), hleast]
                  by_cases h4 : 4 ≤ K <;> simp [h4, m84]
                have hr2 := hrd
                rw [hwv, if_neg (by simp)] at hr2
                by_cases h4 : 4 ≤ K
                all_goals
                  simp -dsimp only [push_cast, Int.ofNat_eq_natCast, ↓reduceIte, Nat.reduceAdd, Nat.reduceMul, Nat.reduceSub, Nat.reduceLeDiff, Nat.reduceEqDiff, Nat.reduceBEq, Int.reduceToNat, Nat.reduceLT, Int.reduceEq, Int.reduceLT, Int.reduceLE, Int.reduceAdd, Int.reduceSub, Int.reduceMul, reduceCtorEq, Bool.not_false, Bool.not_true, Bool.true_beq, Bool.false_beq, beq_self_eq_true, Bool.true_and, h4, hp0, hp2, hp3, hp4, hp5, strs, List.map_nil, List.map_cons, List.length_nil, List.length_cons]
                  try (first | refine call (h84) ?_ | refine callP (h84) ?_); simp -dsimp only [push_cast, Int.ofNat_eq_natCast, ↓reduceIte, Nat.reduceAdd, Nat.reduceMul, Nat.reduceSub, Nat.reduceLeDiff, Nat.reduceEqDiff, Nat.reduceBEq, Int.reduceToNat, Nat.reduceLT, Int.reduceEq, Int.reduceLT, Int.reduceLE, Int.reduceAdd, Int.reduceSub, Int.reduceMul, reduceCtorEq, Bool.not_false, Bool.not_true, Bool.true_beq, Bool.false_beq, beq_self_eq_true, Bool.true_and, m84, hp0, hp2, hp3, hp4, hp5, strs, List.map_nil, List.map_cons, List.length_nil, List.length_cons]
                  try (first | refine call (h84) ?_ | refine callP (h84) ?_); simp -dsimp only [push_cast, Int.ofNat_eq_natCast, ↓reduceIte, Nat.reduceAdd, Nat.reduceMul, Nat.reduceSub, Nat.reduceLeDiff, Nat.reduceEqDiff, Nat.reduceBEq, Int.reduceToNat, Nat.reduceLT, Int.reduceEq, Int.reduceLT, Int.reduceLE, Int.reduceAdd, Int.reduceSub, Int.reduceMul, reduceCtorEq, Bool.not_false, Bool.not_true, Bool.true_beq, Bool.false_beq, beq_self_eq_true, Bool.true_and, m84, hp0, hp2, hp3, hp4, hp5, strs, List.map_nil, List.map_cons, List.length_nil, List.length_cons]
                  exact ⟨[.inl 0], rfl, rfl, by simp -dsimp only [WeakTm, WeakBx, CLe, CLeL, push_cast, Int.ofNat_eq_natCast, ↓reduceIte, Nat.reduceAdd, Nat.reduceMul, Nat.reduceSub, Nat.reduceLeDiff, Nat.reduceEqDiff, Nat.reduceBEq, Int.reduceToNat, Nat.reduceLT, Int.reduceEq, Int.reduceLT, Int.reduceLE, Int.reduceAdd, Int.reduceSub, Int.reduceMul, reduceCtorEq, Bool.not_false, Bool.not_true, Bool.true_beq, Bool.false_beq, beq_self_eq_true, Bool.true_and, hr2, strs, List.map_nil, List.map_cons, List.length_nil, List.length_cons]⟩
          · have hqb := quoteL_le bad
            have hrt : readTail K w (s, n, bad) r = (noCmd, w ++ [58, 32, 105, 110, 118, 97, 108, 105, 100, 32, 111, 112, 116, 105, 111, 110, 32] ++ quoteL bad) := by
              unfold readTail; rw [if_pos (by simpa using hbad)]
            rw [hrt] at hrd
            simp -dsimp only [push_cast, Int.ofNat_eq_natCast, ↓reduceIte, Nat.reduceAdd, Nat.reduceMul, Nat.reduceSub, Nat.reduceLeDiff, Nat.reduceEqDiff, Nat.reduceBEq, Int.reduceToNat, Nat.reduceLT, Int.reduceEq, Int.reduceLT, Int.reduceLE, Int.reduceAdd, Int.reduceSub, Int.reduceMul, reduceCtorEq, Bool.not_false, Bool.not_true, Bool.true_beq, Bool.false_beq, beq_self_eq_true, Bool.true_and, hbad]
            (try simp only [List.length_append, List.length_cons, List.length_nil, List.length_map, List.length_take, List.length_drop]); repeat (refine And.intro (by omega) ?_)
            (first | refine call (rQuote_fun bad (by omega)) ?_ | refine callP (rQuote_fun bad (by omega)) ?_); simp -dsimp only [push_cast, Int.ofNat_eq_natCast, ↓reduceIte, Nat.reduceAdd, Nat.reduceMul, Nat.reduceSub, Nat.reduceLeDiff, Nat.reduceEqDiff, Nat.reduceBEq, Int.reduceToNat, Nat.reduceLT, Int.reduceEq, Int.reduceLT, Int.reduceLE, Int.reduceAdd, Int.reduceSub, Int.reduceMul, reduceCtorEq, Bool.not_false, Bool.not_true, Bool.true_beq, Bool.false_beq, beq_self_eq_true, Bool.true_and]
            (try simp only [List.length_append, List.length_cons, List.length_nil, List.length_map, List.length_take, List.length_drop]); repeat (refine And.intro (by omega) ?_)
            exact ⟨[.inr (9, 1)], rfl, rfl, by simp -dsimp only [WeakTm, WeakBx, CLe, CLeL, push_cast, Int.ofNat_eq_natCast, ↓reduceIte, Nat.reduceAdd, Nat.reduceMul, Nat.reduceSub, Nat.reduceLeDiff, Nat.reduceEqDiff, Nat.reduceBEq, Int.reduceToNat, Nat.reduceLT, Int.reduceEq, Int.reduceLT, Int.reduceLE, Int.reduceAdd, Int.reduceSub, Int.reduceMul, reduceCtorEq, Bool.not_false, Bool.not_true, Bool.true_beq, Bool.false_beq, beq_self_eq_true, Bool.true_and, hrd, noCmd] <;> rfl⟩
end Go.Proofs.YtphiahlodjblcaaDoor.Vcg
set_option linter.unusedVariables false
set_option linter.unusedSimpArgs false
namespace Go.Proofs.YtphiahlodjblcaaDoor.Vcg
open Go.RowKit QuotePlain
theorem line_fun (xs : List (List UInt8)) (hx : xs.length ≤ 1000001) (hl : (Lib.join xs [58, 32]).length ≤ 100000000) : Fun Tryd.prog G0 18 [.sl 1 (strs xs)] (.str (Lib.join xs [58, 32])) 0 := by
  refine Fun.of (fun _ => []) (by kernel_rfl) Tryd.func18 rfl rfl (Nat.le_of_ble_eq_true rfl) (by kernel_rfl) ?_; dsimp only [Tryd.f18, List.append_eq, List.cons_append, List.nil_append]
  simp -dsimp only [push_cast, Int.ofNat_eq_natCast, ↓reduceIte, Nat.reduceAdd, Nat.reduceMul, Nat.reduceSub, Nat.reduceLeDiff, Nat.reduceEqDiff, Nat.reduceBEq, Int.reduceToNat, Nat.reduceLT, Int.reduceEq, Int.reduceLT, Int.reduceLE, Int.reduceAdd, Int.reduceSub, Int.reduceMul, reduceCtorEq, Bool.not_false, Bool.not_true, Bool.true_beq, Bool.false_beq, beq_self_eq_true, Bool.true_and]
  (first | refine call (join_fun xs [58, 32] hx hl) ?_ | refine callP (join_fun xs [58, 32] hx hl) ?_); simp -dsimp only [push_cast, Int.ofNat_eq_natCast, ↓reduceIte, Nat.reduceAdd, Nat.reduceMul, Nat.reduceSub, Nat.reduceLeDiff, Nat.reduceEqDiff, Nat.reduceBEq, Int.reduceToNat, Nat.reduceLT, Int.reduceEq, Int.reduceLT, Int.reduceLE, Int.reduceAdd, Int.reduceSub, Int.reduceMul, reduceCtorEq, Bool.not_false, Bool.not_true, Bool.true_beq, Bool.false_beq, beq_self_eq_true, Bool.true_and]
  exact ⟨[], rfl, rfl, by simp -dsimp only [WeakTm, WeakBx, CLe, CLeL, push_cast, Int.ofNat_eq_natCast, ↓reduceIte, Nat.reduceAdd, Nat.reduceMul, Nat.reduceSub, Nat.reduceLeDiff, Nat.reduceEqDiff, Nat.reduceBEq, Int.reduceToNat, Nat.reduceLT, Int.reduceEq, Int.reduceLT, Int.reduceLE, Int.reduceAdd, Int.reduceSub, Int.reduceMul, reduceCtorEq, Bool.not_false, Bool.not_true, Bool.true_beq, Bool.false_beq, beq_self_eq_true, Bool.true_and]⟩
theorem line2_fun (a b : List UInt8) (ha : a.length ≤ 10000) (hb : b.length ≤ 10000) : Fun Tryd.prog G3 18 [.sl 1 [[.str a], [.str b]]] (.str (a ++ [58, 32] ++ b)) 0 := by
  have e : Lib.join [a, b] [58, 32] = a ++ [58, 32] ++ b := by simp [Lib.join]
  have := (line_fun [a, b] (by simp) (by rw [e]; simp; omega)).glob0 (G' := G3)
  rw [e] at this
  exact this
theorem getD_le {ops : List (List UInt8)} (h : ∀ x ∈ ops, x.length ≤ 300) (i : Nat) : (ops.getD i []).length ≤ 300 := by
  rw [List.getD_eq_getElem?_getD]
  cases hi : ops[i]? with
  | none => simp
  | some x => exact h x (List.mem_of_getElem? hi)
theorem wrongV_len {K : Int} {O : List UInt8} {ops : List (List UInt8)} (h : ∀ x ∈ ops, x.length ≤ 300) : (wrongV K O ops).length ≤ 2000 := by
  have h1 := quoteL_le (ops.getD (ops.length - 1) [])
  have h2 := quoteL_le (ops.getD 2 [])
  have h3 := getD_le h (ops.length - 1)
  have h4 := getD_le h 2
  unfold wrongV
  repeat' split
  all_goals (simp only [List.length_append, List.length_cons, List.length_nil]; omega)
set_option maxRecDepth 8000 in
theorem read_fun (l : List (List UInt8)) (hl : l.length ≤ 100) (hs : ∀ x ∈ l, x.length ≤ 300) :
    Fun Tryd.prog G3 10 [.sl 1 (strs l)] (.tup [cmdC (readV l).1, .str (readV l).2]) 1 := by
  refine Fun.of (fun _ => []) (by kernel_rfl) Tryd.func10 rfl rfl (Nat.le_of_ble_eq_true rfl) (by kernel_rfl) ?_; dsimp only [Tryd.f10, List.append_eq, List.cons_append, List.nil_append]
  rcases l with _ | ⟨w, r⟩
  · simp -dsimp only [push_cast, Int.ofNat_eq_natCast, ↓reduceIte, Nat.reduceAdd, Nat.reduceMul, Nat.reduceSub, Nat.reduceLeDiff, Nat.reduceEqDiff, Nat.reduceBEq, Int.reduceToNat, Nat.reduceLT, Int.reduceEq, Int.reduceLT, Int.reduceLE, Int.reduceAdd, Int.reduceSub, Int.reduceMul, reduceCtorEq, Bool.not_false, Bool.not_true, Bool.true_beq, Bool.false_beq, beq_self_eq_true, Bool.true_and, strs, List.map_nil, List.length_nil]
    exact ⟨[.inr (9, 1)], rfl, rfl, by simp -dsimp only [WeakTm, WeakBx, CLe, CLeL, push_cast, Int.ofNat_eq_natCast, ↓reduceIte, Nat.reduceAdd, Nat.reduceMul, Nat.reduceSub, Nat.reduceLeDiff, Nat.reduceEqDiff, Nat.reduceBEq, Int.reduceToNat, Nat.reduceLT, Int.reduceEq, Int.reduceLT, Int.reduceLE, Int.reduceAdd, Int.reduceSub, Int.reduceMul, reduceCtorEq, Bool.not_false, Bool.not_true, Bool.true_beq, Bool.false_beq, beq_self_eq_true, Bool.true_and, readV, noCmd] <;> rfl⟩
  · have hlr : r.length ≤ 99 := by simp at hl; omega
    have hw := hs w (List.mem_cons_self ..)
    have hsr : ∀ x ∈ r, x.length ≤ 300 := fun x hx => hs x (List.mem_cons_of_mem _ hx)
    have hsC : strs (w :: r) = [.str w] :: strs r := rfl
    have hp0 : ((r.length : Int) + 1 = 0) = False := eq_false (by omega)
    rw [hsC]
    simp -dsimp only [push_cast, Int.ofNat_eq_natCast, ↓reduceIte, Nat.reduceAdd, Nat.reduceMul, Nat.reduceSub, Nat.reduceLeDiff, Nat.reduceEqDiff, Nat.reduceBEq, Int.reduceToNat, Nat.reduceLT, Int.reduceEq, Int.reduceLT, Int.reduceLE, Int.reduceAdd, Int.reduceSub, Int.reduceMul, reduceCtorEq, Bool.not_false, Bool.not_true, Bool.true_beq, Bool.false_beq, beq_self_eq_true, Bool.true_and, hp0]
    refine loop (fun j : Nat => ⟨[(0, .sl 1 ([.str w] :: strs r)), (2, .ptr 0 0), (4, .ptr 1 0), (5, .sc (.int .i64 ((j : Int) + 1)))], [[.sc (.int .i64 0), .str [], .sc (.slice none 0 0)], [.sc (.int .i64 (kindUp w j)), .str [], .sc (.slice none 0 0)]], 0, 0⟩) (fun j => j ≤ 5) (fun j => 5 - j) 0 (Nat.zero_le _) ?_ ?_
    · exact Weak.mk [] rfl rfl (Nat.zero_le _) rfl (by simp -dsimp only [WeakTm, WeakBx, CLe, CLeL, push_cast, Int.ofNat_eq_natCast, ↓reduceIte, Nat.reduceAdd, Nat.reduceMul, Nat.reduceSub, Nat.reduceLeDiff, Nat.reduceEqDiff, Nat.reduceBEq, Int.reduceToNat, Nat.reduceLT, Int.reduceEq, Int.reduceLT, Int.reduceLE, Int.reduceAdd, Int.reduceSub, Int.reduceMul, reduceCtorEq, Bool.not_false, Bool.not_true, Bool.true_beq, Bool.false_beq, beq_self_eq_true, Bool.true_and, kindUp]) (by simp -dsimp only [WeakTm, WeakBx, CLe, CLeL, push_cast, Int.ofNat_eq_natCast, ↓reduceIte, Nat.reduceAdd, Nat.reduceMul, Nat.reduceSub, Nat.reduceLeDiff, Nat.reduceEqDiff, Nat.reduceBEq, Int.reduceToNat, Nat.reduceLT, Int.reduceEq, Int.reduceLT, Int.reduceLE, Int.reduceAdd, Int.reduceSub, Int.reduceMul, reduceCtorEq, Bool.not_false, Bool.not_true, Bool.true_beq, Bool.false_beq, beq_self_eq_true, Bool.true_and, kindUp])
    · rintro j hj
      by_cases h : j < 5
      · have hj5 : j = 0 ∨ j = 1 ∨ j = 2 ∨ j = 3 ∨ j = 4 := by omega
        have hku : kindUp w (j + 1) = if nameV ((j : Int) + 1) = w then (j : Int) + 1 else kindUp w j := by simp [kindUp]
        by_cases hm : nameV ((j : Int) + 1) = w
        all_goals
          (first | rw [if_pos hm] at hku | rw [if_neg hm] at hku)
          rcases hj5 with h0 | h0 | h0 | h0 | h0
          all_goals
            simp [nameV, h0] at hm
            have hku2 := hku
            rw [h0] at hku2
            simp at hku2
            simp -dsimp only [push_cast, Int.ofNat_eq_natCast, ↓reduceIte, Nat.reduceAdd, Nat.reduceMul, Nat.reduceSub, Nat.reduceLeDiff, Nat.reduceEqDiff, Nat.reduceBEq, Int.reduceToNat, Nat.reduceLT, Int.reduceEq, Int.reduceLT, Int.reduceLE, Int.reduceAdd, Int.reduceSub, Int.reduceMul, reduceCtorEq, Bool.not_false, Bool.not_true, Bool.true_beq, Bool.false_beq, beq_self_eq_true, Bool.true_and, hm, h0]
            exact ⟨j + 1, by omega, by omega, Weak.mk [] rfl rfl (Nat.zero_le _) rfl (by simp -dsimp only [WeakTm, WeakBx, CLe, CLeL, push_cast, Int.ofNat_eq_natCast, ↓reduceIte, Nat.reduceAdd, Nat.reduceMul, Nat.reduceSub, Nat.reduceLeDiff, Nat.reduceEqDiff, Nat.reduceBEq, Int.reduceToNat, Nat.reduceLT, Int.reduceEq, Int.reduceLT, Int.reduceLE, Int.reduceAdd, Int.reduceSub, Int.reduceMul, reduceCtorEq, Bool.not_false, Bool.not_true, Bool.true_beq, Bool.false_beq, beq_self_eq_true, Bool.true_and, hku2, h0]) (by simp -dsimp only [WeakTm, WeakBx, CLe, CLeL, push_cast, Int.ofNat_eq_natCast, ↓reduceIte, Nat.reduceAdd, Nat.reduceMul, Nat.reduceSub, Nat.reduceLeDiff, Nat.reduceEqDiff, Nat.reduceBEq, Int.reduceToNat, Nat.reduceLT, Int.reduceEq, Int.reduceLT, Int.reduceLE, Int.reduceAdd, Int.reduceSub, Int.reduceMul, reduceCtorEq, Bool.not_false, Bool.not_true, Bool.true_beq, Bool.false_beq, beq_self_eq_true, Bool.true_and, hku2, h0])⟩
      · have hp1 : ((j : Int) + 1 ≤ 5) = False := eq_false (by omega)
        have hj5 : j = 5 := by omega
        subst hj5
        have hkle := kindUp_le w 5
        have hrd : readV (w :: r) = if kindUp w 5 = 0 then (noCmd, quoteL w ++ [58, 32, 117, 110, 107, 110, 111, 119, 110, 32, 99, 111, 109, 109, 97, 110, 100]) else readTail (kindUp w 5) w (lettersG (refAll (kindUp w 5)) snocF [] 0 r) r := rfl
        generalize kindUp w 5 = K at hkle hrd ⊢
        by_cases hK0 : K = 0
        · rw [if_pos hK0] at hrd
          have hq := quoteL_le w
          simp -dsimp only [push_cast, Int.ofNat_eq_natCast, ↓reduceIte, Nat.reduceAdd, Nat.reduceMul, Nat.reduceSub, Nat.reduceLeDiff, Nat.reduceEqDiff, Nat.reduceBEq, Int.reduceToNat, Nat.reduceLT, Int.reduceEq, Int.reduceLT, Int.reduceLE, Int.reduceAdd, Int.reduceSub, Int.reduceMul, reduceCtorEq, Bool.not_false, Bool.not_true, Bool.true_beq, Bool.false_beq, beq_self_eq_true, Bool.true_and, hp1, hK0]
          (first | refine call ((quote_fun w (by omega)).glob0 (G' := G3)) ?_ | refine callP ((quote_fun w (by omega)).glob0 (G' := G3)) ?_); simp -dsimp only [push_cast, Int.ofNat_eq_natCast, ↓reduceIte, Nat.reduceAdd, Nat.reduceMul, Nat.reduceSub, Nat.reduceLeDiff, Nat.reduceEqDiff, Nat.reduceBEq, Int.reduceToNat, Nat.reduceLT, Int.reduceEq, Int.reduceLT, Int.reduceLE, Int.reduceAdd, Int.reduceSub, Int.reduceMul, reduceCtorEq, Bool.not_false, Bool.not_true, Bool.true_beq, Bool.false_beq, beq_self_eq_true, Bool.true_and]
          (first | refine call (line2_fun (quoteL w) _ (by omega) (by simp)) ?_ | refine callP (line2_fun (quoteL w) _ (by omega) (by simp)) ?_); simp -dsimp only [push_cast, Int.ofNat_eq_natCast, ↓reduceIte, Nat.reduceAdd, Nat.reduceMul, Nat.reduceSub, Nat.reduceLeDiff, Nat.reduceEqDiff, Nat.reduceBEq, Int.reduceToNat, Nat.reduceLT, Int.reduceEq, Int.reduceLT, Int.reduceLE, Int.reduceAdd, Int.reduceSub, Int.reduceMul, reduceCtorEq, Bool.not_false, Bool.not_true, Bool.true_beq, Bool.false_beq, beq_self_eq_true, Bool.true_and]
          (try simp only [List.length_append, List.length_cons, List.length_nil, List.length_map, List.length_take, List.length_drop]); repeat (refine And.intro (by omega) ?_)
          exact ⟨[.inr (9, 1)], rfl, rfl, by simp -dsimp only [WeakTm, WeakBx, CLe, CLeL, push_cast, Int.ofNat_eq_natCast, ↓reduceIte, Nat.reduceAdd, Nat.reduceMul, Nat.reduceSub, Nat.reduceLeDiff, Nat.reduceEqDiff, Nat.reduceBEq, Int.reduceToNat, Nat.reduceLT, Int.reduceEq, Int.reduceLT, Int.reduceLE, Int.reduceAdd, Int.reduceSub, Int.reduceMul, reduceCtorEq, Bool.not_false, Bool.not_true, Bool.true_beq, Bool.false_beq, beq_self_eq_true, Bool.true_and, hrd, noCmd, List.append_assoc, List.cons_append, List.nil_append] <;> rfl⟩
        · rw [if_neg hK0] at hrd
          have hkk : K = 1 ∨ K = 2 ∨ K = 3 ∨ K = 4 ∨ K = 5 := by omega
          have hopt := optread_fun K r hkk (by omega) hsr
          have hbnd := lettersG_bnd (refAll K) r [] 0 hsr
          rw [optRes_eq hkk] at hopt
          generalize lettersG (refAll K) snocF [] 0 r = q at hopt hbnd hrd ⊢
          obtain ⟨s, n, bad⟩ := q
          dsimp only at hopt hbnd
          by_cases hbad : bad = []
          · have hop : (r.drop n).length ≤ 99 := by rw [List.length_drop]; omega
            have hso : ∀ x ∈ r.drop n, x.length ≤ 300 := fun x hx => hsr x (List.mem_of_mem_drop hx)
            have hrt : readTail K w (s, n, bad) r = if wrongV K (optV K s 58) (r.drop n) ≠ [] then (noCmd, w ++ [58, 32] ++ wrongV K (optV K s 58) (r.drop n)) else (⟨K, optV K s 58, r.drop n⟩, []) := by
              unfold readTail; rw [if_neg (by simpa using hbad)]
            rw [hrt] at hrd
            rw [if_pos hbad] at hopt
            dsimp only at hopt
            have hcl := (clone_fun (r.drop n) (by omega)).glob0 (G' := G3)
            have hwr := wrong_fun K (optV K s 58) (r.drop n) hkk (by omega) hso
            generalize r.drop n = ops at hop hso hrd hopt hcl hwr
            generalize optV K s 58 = O at hrd hopt hwr ⊢
            simp -dsimp only [push_cast, Int.ofNat_eq_natCast, ↓reduceIte, Nat.reduceAdd, Nat.reduceMul, Nat.reduceSub, Nat.reduceLeDiff, Nat.reduceEqDiff, Nat.reduceBEq, Int.reduceToNat, Nat.reduceLT, Int.reduceEq, Int.reduceLT, Int.reduceLE, Int.reduceAdd, Int.reduceSub, Int.reduceMul, reduceCtorEq, Bool.not_false, Bool.not_true, Bool.true_beq, Bool.false_beq, beq_self_eq_true, Bool.true_and, hp1, hK0]
            (try simp only [List.length_append, List.length_cons, List.length_nil, List.length_map, List.length_take, List.length_drop]); repeat (refine And.intro (by omega) ?_)
            (first | refine call (hopt) ?_ | refine callP (hopt) ?_); simp -dsimp only [push_cast, Int.ofNat_eq_natCast, ↓reduceIte, Nat.reduceAdd, Nat.reduceMul, Nat.reduceSub, Nat.reduceLeDiff, Nat.reduceEqDiff, Nat.reduceBEq, Int.reduceToNat, Nat.reduceLT, Int.reduceEq, Int.reduceLT, Int.reduceLE, Int.reduceAdd, Int.reduceSub, Int.reduceMul, reduceCtorEq, Bool.not_false, Bool.not_true, Bool.true_beq, Bool.false_beq, beq_self_eq_true, Bool.true_and]
            (first | refine call (hcl) ?_ | refine callP (hcl) ?_); simp -dsimp only [push_cast, Int.ofNat_eq_natCast, ↓reduceIte, Nat.reduceAdd, Nat.reduceMul, Nat.reduceSub, Nat.reduceLeDiff, Nat.reduceEqDiff, Nat.reduceBEq, Int.reduceToNat, Nat.reduceLT, Int.reduceEq, Int.reduceLT, Int.reduceLE, Int.reduceAdd, Int.reduceSub, Int.reduceMul, reduceCtorEq, Bool.not_false, Bool.not_true, Bool.true_beq, Bool.false_beq, beq_self_eq_true, Bool.true_and]
            (first | refine call (hwr) ?_ | refine callP (hwr) ?_); simp -dsimp only [push_cast, Int.ofNat_eq_natCast, ↓reduceIte, Nat.reduceAdd, Nat.reduceMul, Nat.reduceSub, Nat.reduceLeDiff, Nat.reduceEqDiff, Nat.reduceBEq, Int.reduceToNat, Nat.reduceLT, Int.reduceEq, Int.reduceLT, Int.reduceLE, Int.reduceAdd, Int.reduceSub, Int.reduceMul, reduceCtorEq, Bool.not_false, Bool.not_true, Bool.true_beq, Bool.false_beq, beq_self_eq_true, Bool.true_and]
            have hwl := wrongV_len (K := K) (O := O) hso
            by_cases hwv : wrongV K O ops = []
            · rw [if_neg (by simpa using hwv)] at hrd
              simp -dsimp only [push_cast, Int.ofNat_eq_natCast, ↓reduceIte, Nat.reduceAdd, Nat.reduceMul, Nat.reduceSub, Nat.reduceLeDiff, Nat.reduceEqDiff, Nat.reduceBEq, Int.reduceToNat, Nat.reduceLT, Int.reduceEq, Int.reduceLT, Int.reduceLE, Int.reduceAdd, Int.reduceSub, Int.reduceMul, reduceCtorEq, Bool.not_false, Bool.not_true, Bool.true_beq, Bool.false_beq, beq_self_eq_true, Bool.true_and, hwv]
              exact ⟨[.inl 0], rfl, rfl, by simp -dsimp only [WeakTm, WeakBx, CLe, CLeL, push_cast, Int.ofNat_eq_natCast, ↓reduceIte, Nat.reduceAdd, Nat.reduceMul, Nat.reduceSub, Nat.reduceLeDiff, Nat.reduceEqDiff, Nat.reduceBEq, Int.reduceToNat, Nat.reduceLT, Int.reduceEq, Int.reduceLT, Int.reduceLE, Int.reduceAdd, Int.reduceSub, Int.reduceMul, reduceCtorEq, Bool.not_false, Bool.not_true, Bool.true_beq, Bool.false_beq, beq_self_eq_true, Bool.true_and, hrd]⟩
            · rw [if_pos hwv] at hrd
              simp -dsimp only [push_cast, Int.ofNat_eq_natCast, ↓reduceIte, Nat.reduceAdd, Nat.reduceMul, Nat.reduceSub, Nat.reduceLeDiff, Nat.reduceEqDiff, Nat.reduceBEq, Int.reduceToNat, Nat.reduceLT, Int.reduceEq, Int.reduceLT, Int.reduceLE, Int.reduceAdd, Int.reduceSub, Int.reduceMul, reduceCtorEq, Bool.not_false, Bool.not_true, Bool.true_beq, Bool.false_beq, beq_self_eq_true, Bool.true_and, hwv]
              (first | refine call (line2_fun w (wrongV K O ops) (by omega) (by omega)) ?_ | refine callP (line2_fun w (wrongV K O ops) (by omega) (by omega)) ?_); simp -dsimp only [push_cast, Int.ofNat_eq_natCast, ↓reduceIte, Nat.reduceAdd, Nat.reduceMul, Nat.reduceSub, Nat.reduceLeDiff, Nat.reduceEqDiff, Nat.reduceBEq, Int.reduceToNat, Nat.reduceLT, Int.reduceEq, Int.reduceLT, Int.reduceLE, Int.reduceAdd, Int.reduceSub, Int.reduceMul, reduceCtorEq, Bool.not_false, Bool.not_true, Bool.true_beq, Bool.false_beq, beq_self_eq_true, Bool.true_and]
              exact ⟨[.inr (9, 1)], rfl, rfl, by simp -dsimp only [WeakTm, WeakBx, CLe, CLeL, push_cast, Int.ofNat_eq_natCast, ↓reduceIte, Nat.reduceAdd, Nat.reduceMul, Nat.reduceSub, Nat.reduceLeDiff, Nat.reduceEqDiff, Nat.reduceBEq, Int.reduceToNat, Nat.reduceLT, Int.reduceEq, Int.reduceLT, Int.reduceLE, Int.reduceAdd, Int.reduceSub, Int.reduceMul, reduceCtorEq, Bool.not_false, Bool.not_true, Bool.true_beq, Bool.false_beq, beq_self_eq_true, Bool.true_and, hrd, noCmd, List.append_assoc, List.cons_append, List.nil_append] <;> rfl⟩
          · have hqb := quoteL_le bad
            have hrt : readTail K w (s, n, bad) r = (noCmd, w ++ [58, 32, 105, 110, 118, 97, 108, 105, 100, 32, 111, 112, 116, 105, 111, 110, 32] ++ quoteL bad) := by
              unfold readTail; rw [if_pos (by simpa using hbad)]
            rw [hrt] at hrd
            rw [if_neg hbad] at hopt
            dsimp only at hopt
            simp -dsimp only [push_cast, Int.ofNat_eq_natCast, ↓reduceIte, Nat.reduceAdd, Nat.reduceMul, Nat.reduceSub, Nat.reduceLeDiff, Nat.reduceEqDiff, Nat.reduceBEq, Int.reduceToNat, Nat.reduceLT, Int.reduceEq, Int.reduceLT, Int.reduceLE, Int.reduceAdd, Int.reduceSub, Int.reduceMul, reduceCtorEq, Bool.not_false, Bool.not_true, Bool.true_beq, Bool.false_beq, beq_self_eq_true, Bool.true_and, hp1, hK0]
            (try simp only [List.length_append, List.length_cons, List.length_nil, List.length_map, List.length_take, List.length_drop]); repeat (refine And.intro (by omega) ?_)
            (first | refine call (hopt) ?_ | refine callP (hopt) ?_); simp -dsimp only [push_cast, Int.ofNat_eq_natCast, ↓reduceIte, Nat.reduceAdd, Nat.reduceMul, Nat.reduceSub, Nat.reduceLeDiff, Nat.reduceEqDiff, Nat.reduceBEq, Int.reduceToNat, Nat.reduceLT, Int.reduceEq, Int.reduceLT, Int.reduceLE, Int.reduceAdd, Int.reduceSub, Int.reduceMul, reduceCtorEq, Bool.not_false, Bool.not_true, Bool.true_beq, Bool.false_beq, beq_self_eq_true, Bool.true_and, hbad]
            (first | refine call ((quote_fun bad (by omega)).glob0 (G' := G3)) ?_ | refine callP ((quote_fun bad (by omega)).glob0 (G' := G3)) ?_); simp -dsimp only [push_cast, Int.ofNat_eq_natCast, ↓reduceIte, Nat.reduceAdd, Nat.reduceMul, Nat.reduceSub, Nat.reduceLeDiff, Nat.reduceEqDiff, Nat.reduceBEq, Int.reduceToNat, Nat.reduceLT, Int.reduceEq, Int.reduceLT, Int.reduceLE, Int.reduceAdd, Int.reduceSub, Int.reduceMul, reduceCtorEq, Bool.not_false, Bool.not_true, Bool.true_beq, Bool.false_beq, beq_self_eq_true, Bool.true_and]
            (try simp only [List.length_append, List.length_cons, List.length_nil, List.length_map, List.length_take, List.length_drop]); repeat (refine And.intro (by omega) ?_)
            (first | refine call (line2_fun w _ (by omega) (by simp only [List.length_cons]; omega)) ?_ | refine callP (line2_fun w _ (by omega) (by simp only [List.length_cons]; omega)) ?_); simp -dsimp only [push_cast, Int.ofNat_eq_natCast, ↓reduceIte, Nat.reduceAdd, Nat.reduceMul, Nat.reduceSub, Nat.reduceLeDiff, Nat.reduceEqDiff, Nat.reduceBEq, Int.reduceToNat, Nat.reduceLT, Int.reduceEq, Int.reduceLT, Int.reduceLE, Int.reduceAdd, Int.reduceSub, Int.reduceMul, reduceCtorEq, Bool.not_false, Bool.not_true, Bool.true_beq, Bool.false_beq, beq_self_eq_true, Bool.true_and]
            exact ⟨[.inr (9, 1)], rfl, rfl, by simp -dsimp only [WeakTm, WeakBx, CLe, CLeL, push_cast, Int.ofNat_eq_natCast, ↓reduceIte, Nat.reduceAdd, Nat.reduceMul, Nat.reduceSub, Nat.reduceLeDiff, Nat.reduceEqDiff, Nat.reduceBEq, Int.reduceToNat, Nat.reduceLT, Int.reduceEq, Int.reduceLT, Int.reduceLE, Int.reduceAdd, Int.reduceSub, Int.reduceMul, reduceCtorEq, Bool.not_false, Bool.not_true, Bool.true_beq, Bool.false_beq, beq_self_eq_true, Bool.true_and, hrd, noCmd, List.append_assoc, List.cons_append, List.nil_append] <;> rfl⟩
end Go.Proofs.YtphiahlodjblcaaDoor.Vcg
