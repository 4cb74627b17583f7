/- Are two lists of entries the same? The reference's way and the library's. -/
import Derived.Test.YteaemnjomlcfcaaTabWalk2
import Derived.Laws.StructEq
import Derived.WalkLawsBesides
import Derived.WalkSpells
import Derived.Deep.QuietTactic
import Derived.BigQuiet
set_option linter.unusedVariables false
set_option linter.unusedSimpArgs false
namespace Go.Proofs.Yteaemnjomlcfcaa.Tab
open Go.RowKit Go.Proofs.Yteaemnjomlcfcaa.Kit
theorem ent_neq (x y : Ent) (w : World) : Sem.run Try.prog (binOp .neq 49 (.agg #[.string x.name, .int .i64 x.ino]) (.agg #[.string y.name, .int .i64 y.ino])) w = .ok (.bool (!decide (x = y))) w := by
  have u3 := Try.underlying3
  have a3 := Try.isAgg3
  have z3 := Try.sizeOf3
  have hS : Try.prog.underlying 49 = some (.struct (Try.prog.fieldsOf 49)) := by kernel_rfl
  have hp : Try.prog.stoodInHeld 49 = false := by kernel_rfl
  have h9 := Try.underlying9
  have a9 := Try.isAgg9
  have z9 := Try.sizeOf9
  rw [run_neq_struct, show (10000 : Nat) = 9999 + 1 from rfl, run_equalIn_agg w 9999 49 _ _ hS hp]
  simp only [Program.fieldsOf, Try.underlying49]
  obtain ⟨xn, xi⟩ := x
  obtain ⟨yn, yi⟩ := y
  go_simp
  by_cases h1 : xn = yn <;> by_cases h2 : xi = yi
  · subst h1 h2; simp
  · subst h1; simp [h2]
  · have := seq_false h1; subst h2; simp [h1]; simpa using this
  · simp [h1, h2, seq_false h1]
theorem ent_guard (xs ys : Array Value) (x y : Operand) (w : World) : (eqGuard .neq 49 x y (.agg xs) (.agg ys)).run Try.prog w = .ok () w := run_eqGuard_agg w .neq 49 x y xs ys (by kernel_rfl)
theorem esame_len (xs ys : List Ent) (a b : Option Addr) (c d : Nat) (w : World) (hS : Ents w a c xs) (hT : Ents w b d ys) (h : xs.length ≠ ys.length) :
    Calls Try.prog 26 #[.slice a xs.length c, .slice b ys.length d] w fun e w' => e = .returned (.bool (decide (xs = ys))) ∧ Below w.heap.size w w' := by
  have hd := Lib.hid (show decide (xs = ys) = false by rw [decide_eq_false_iff_not]; rintro rfl; exact h rfl)
  have hn : ((xs.length : Int) != (ys.length : Int)) = true := by rw [bne_iff_ne]; omega
  obtain ⟨l1, l2, l3⟩ := hS.len
  obtain ⟨m1, m2, m3⟩ := hT.len
  clear hS hT
  go_enter Try.func26, Try.ntmps26
  go_wp2
  go_ret
  exact ⟨ret_bool hd.out.symm, Below.refl _ _⟩
set_option maxHeartbeats 4000000 in
set_option maxRecDepth 100000 in
theorem esame_eq (xs ys : List Ent) (a b : Option Addr) (c d : Nat) (w : World) (hS : Ents w a c xs) (hT : Ents w b d ys) (h : xs.length = ys.length) :
    Calls Try.prog 26 #[.slice a xs.length c, .slice b ys.length d] w fun e w' => e = .returned (.bool (decide (xs = ys))) ∧ Below w.heap.size w w' := by
  have HS := Lib.hid hS
  have HT := Lib.hid hT
  have hl := Lib.hid h
  have hn : ((xs.length : Int) != (ys.length : Int)) = false := by rw [bne_eq_false_iff_eq]; omega
  have hlle : xs.length ≤ ys.length := by omega
  obtain ⟨l1, l2, l3⟩ := hS.len
  obtain ⟨m1, m2, m3⟩ := hT.len
  clear hS hT h
  have hneq := ent_neq
  have hgd := ent_guard
  go_enter Try.func26, Try.ntmps26
  go_wp2
  go_loopw [5] (fun s5 wr => ∃ k : Nat, k ≤ xs.length ∧ s5 = .int .i64 k ∧ Hid (∀ j (h : j < xs.length) (h' : j < ys.length), j < k → xs[j] = ys[j]) ∧ ∃ n, wr = w.drewN n) (fun s5 _ => xs.length - (intOf s5).toNat)
  case atStart => exact ⟨0, by omega, rfl, Lib.hid fun j h _ hj => absurd hj (Nat.not_lt_zero _), 0, rfl⟩
  case round =>
    obtain ⟨k, hk, rfl, I, n, rfl⟩ := hrel
    by_cases hlt : k < xs.length
    · have hlt2 : k < ys.length := by omega
      obtain ⟨b1, o1, rfl, hb1, c0, c1⟩ := HS.out.at k hlt
      obtain ⟨b2, o2, rfl, hb2, d0, d1⟩ := HT.out.at k hlt2
      by_cases hxy : xs[k] = ys[k]
      · have HX := Lib.hid hxy
        have hdc : decide (xs[k] = ys[k]) = true := decide_eq_true hxy
        obtain ⟨x, hx⟩ : ∃ x, x = xs[k] := ⟨_, rfl⟩
        obtain ⟨y, hy⟩ : ∃ y, y = ys[k] := ⟨_, rfl⟩
        rw [← hx, ← hy] at hdc
        rw [← hx] at c0 c1
        rw [← hy] at d0 d1
        have hq := hneq x y
        rw [hdc] at hq
        clear hx hy hxy hneq hdc
        go_wp2
        go_quiet (fail)
        go_wp2
        go_roundw
        case rel => exact ⟨k + 1, by omega, by go_num, Lib.hid fun j h h' hj => by
          by_cases h1 : j = k
          · subst h1; exact HX.out
          · exact I.out j h h' (by omega), _, rfl⟩
        case measure => simp [intOf]; omega
      · have hf := Lib.hid (show decide (xs = ys) = false by rw [decide_eq_false_iff_not]; rintro rfl; exact hxy rfl)
        have hdc : decide (xs[k] = ys[k]) = false := decide_eq_false hxy
        obtain ⟨x, hx⟩ : ∃ x, x = xs[k] := ⟨_, rfl⟩
        obtain ⟨y, hy⟩ : ∃ y, y = ys[k] := ⟨_, rfl⟩
        rw [← hx, ← hy] at hdc
        rw [← hx] at c0 c1
        rw [← hy] at d0 d1
        have hq := hneq x y
        rw [hdc] at hq
        clear hx hy hxy hneq hdc
        go_wp2
        go_quiet (fail)
        go_wp2
        go_ret
        exact ⟨ret_bool hf.out.symm, bdrewN (bdrewN (Below.refl _ _) _) _⟩
    · have hf := Lib.hid (show decide (xs = ys) = true from decide_eq_true (List.ext_getElem hl.out fun j h1 h2 => I.out j h1 h2 (by omega)))
      go_wp2
      go_ret
      exact ⟨ret_bool hf.out.symm, bdrewN (Below.refl _ _) _⟩
theorem esame_walk (xs ys : List Ent) (a b : Option Addr) (c d : Nat) (w : World) (hS : Ents w a c xs) (hT : Ents w b d ys) :
    Calls Try.prog 26 #[.slice a xs.length c, .slice b ys.length d] w fun e w' => e = .returned (.bool (decide (xs = ys))) ∧ Below w.heap.size w w' := by
  by_cases h : xs.length = ys.length
  · exact esame_eq xs ys a b c d w hS hT h
  · exact esame_len xs ys a b c d w hS hT h
theorem eequal_len (xs ys : List Ent) (a b : Option Addr) (c d : Nat) (w : World) (hS : Ents w a c xs) (hT : Ents w b d ys) (h : xs.length ≠ ys.length) :
    Calls Try.prog 37 #[.slice a xs.length c, .slice b ys.length d] w fun e w' => e = .returned (.bool (decide (xs = ys))) ∧ Below w.heap.size w w' := by
  have hd := Lib.hid (show decide (xs = ys) = false by rw [decide_eq_false_iff_not]; rintro rfl; exact h rfl)
  have hn : ((xs.length : Int) != (ys.length : Int)) = true := by rw [bne_iff_ne]; omega
  obtain ⟨l1, l2, l3⟩ := hS.len
  obtain ⟨m1, m2, m3⟩ := hT.len
  clear hS hT
  go_enter Try.func37, Try.ntmps37
  go_wp2
  go_ret
  exact ⟨ret_bool hd.out.symm, Below.refl _ _⟩
set_option maxHeartbeats 4000000 in
set_option maxRecDepth 100000 in
theorem eequal_eq (xs ys : List Ent) (a b : Option Addr) (c d : Nat) (w : World) (hS : Ents w a c xs) (hT : Ents w b d ys) (h : xs.length = ys.length) :
    Calls Try.prog 37 #[.slice a xs.length c, .slice b ys.length d] w fun e w' => e = .returned (.bool (decide (xs = ys))) ∧ Below w.heap.size w w' := by
  have HS := Lib.hid hS
  have HT := Lib.hid hT
  have hl := Lib.hid h
  have hn : ((xs.length : Int) != (ys.length : Int)) = false := by rw [bne_eq_false_iff_eq]; omega
  have hlle : xs.length ≤ ys.length := by omega
  obtain ⟨l1, l2, l3⟩ := hS.len
  obtain ⟨m1, m2, m3⟩ := hT.len
  clear hS hT h
  have hneq := ent_neq
  have hgd := ent_guard
  go_enter Try.func37, Try.ntmps37
  go_wp2
  go_loopw [13] (fun s13 wr => ∃ k : Nat, k ≤ xs.length ∧ s13 = .int .i64 k ∧ Hid (∀ j (h : j < xs.length) (h' : j < ys.length), j < k → xs[j] = ys[j]) ∧ ∃ n, wr = w.drewN n) (fun s13 _ => xs.length - (intOf s13).toNat)
  case atStart => exact ⟨0, by omega, rfl, Lib.hid fun j h _ hj => absurd hj (Nat.not_lt_zero _), 0, rfl⟩
  case round =>
    obtain ⟨k, hk, rfl, I, n, rfl⟩ := hrel
    by_cases hlt : k < xs.length
    · have hlt2 : k < ys.length := by omega
      obtain ⟨b1, o1, rfl, hb1, c0, c1⟩ := HS.out.at k hlt
      obtain ⟨b2, o2, rfl, hb2, d0, d1⟩ := HT.out.at k hlt2
      by_cases hxy : xs[k] = ys[k]
      · have HX := Lib.hid hxy
        have hdc : decide (xs[k] = ys[k]) = true := decide_eq_true hxy
        obtain ⟨x, hx⟩ : ∃ x, x = xs[k] := ⟨_, rfl⟩
        obtain ⟨y, hy⟩ : ∃ y, y = ys[k] := ⟨_, rfl⟩
        rw [← hx, ← hy] at hdc
        rw [← hx] at c0 c1
        rw [← hy] at d0 d1
        have hq := hneq x y
        rw [hdc] at hq
        clear hx hy hxy hneq hdc
        go_wp2
        go_quiet (fail)
        go_wp2
        go_roundw
        case rel => exact ⟨k + 1, by omega, by go_num, Lib.hid fun j h h' hj => by
          by_cases h1 : j = k
          · subst h1; exact HX.out
          · exact I.out j h h' (by omega), _, rfl⟩
        case measure => simp [intOf]; omega
      · have hf := Lib.hid (show decide (xs = ys) = false by rw [decide_eq_false_iff_not]; rintro rfl; exact hxy rfl)
        have hdc : decide (xs[k] = ys[k]) = false := decide_eq_false hxy
        obtain ⟨x, hx⟩ : ∃ x, x = xs[k] := ⟨_, rfl⟩
        obtain ⟨y, hy⟩ : ∃ y, y = ys[k] := ⟨_, rfl⟩
        rw [← hx, ← hy] at hdc
        rw [← hx] at c0 c1
        rw [← hy] at d0 d1
        have hq := hneq x y
        rw [hdc] at hq
        clear hx hy hxy hneq hdc
        go_wp2
        go_quiet (fail)
        go_wp2
        go_ret
        exact ⟨ret_bool hf.out.symm, bdrewN (bdrewN (Below.refl _ _) _) _⟩
    · have hf := Lib.hid (show decide (xs = ys) = true from decide_eq_true (List.ext_getElem hl.out fun j h1 h2 => I.out j h1 h2 (by omega)))
      go_wp2
      go_ret
      exact ⟨ret_bool hf.out.symm, bdrewN (Below.refl _ _) _⟩
theorem eequal_walk (xs ys : List Ent) (a b : Option Addr) (c d : Nat) (w : World) (hS : Ents w a c xs) (hT : Ents w b d ys) :
    Calls Try.prog 37 #[.slice a xs.length c, .slice b ys.length d] w fun e w' => e = .returned (.bool (decide (xs = ys))) ∧ Below w.heap.size w w' := by
  by_cases h : xs.length = ys.length
  · exact eequal_eq xs ys a b c d w hS hT h
  · exact eequal_len xs ys a b c d w hS hT h
end Go.Proofs.Yteaemnjomlcfcaa.Tab
