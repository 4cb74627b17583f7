/- Are two tables alike? The program's way and the reference's. (printed by gen_tab6.py) -/
import Derived.Test.YteaemnjomlcfcaaTabWalk5
set_option linter.unusedVariables false
set_option linter.unusedSimpArgs false
namespace Go.Proofs.Yteaemnjomlcfcaa.Tab
open Go.RowKit Go.Proofs.Yteaemnjomlcfcaa.Kit
set_option maxHeartbeats 4000000 in
set_option maxRecDepth 100000 in
theorem tsame_walk (mi mb nx mi2 mb2 nx2 : Int) (xs ys : List Nod) (a b : Option Addr) (c d : Nat) (w : World) (hS : Nods w a c xs) (hT : Nods w b d ys) :
    Calls Try.prog 23 #[.agg #[.int .i64 mi, .int .i64 mb, .int .i64 nx, .slice a xs.length c], .agg #[.int .i64 mi2, .int .i64 mb2, .int .i64 nx2, .slice b ys.length d]] w fun e w' =>
      e = .returned (.bool ((mi == mi2) && (mb == mb2) && (nx == nx2) && likes xs ys)) ∧ Below w.heap.size w w' := by
  have hc := fun W (hW : Below w.heap.size w W) => eqfunc_walk xs ys a b c d W (hS.below hW (Nat.le_refl _)) (hT.below hW (Nat.le_refl _))
  have HC := Lib.hid hc
  have hB1 := ((Below.refl w.heap.size w).alloc (Nat.le_refl _) (Obj.cells #[.int .i64 mi, .int .i64 mb, .int .i64 nx, .slice a xs.length c] 25)).alloc (by simp) (Obj.cells #[.int .i64 mi2, .int .i64 mb2, .int .i64 nx2, .slice b ys.length d] 25)
  obtain ⟨r, hr⟩ : ∃ r, r = ((mi == mi2) && (mb == mb2) && (nx == nx2) && likes xs ys) := ⟨_, rfl⟩
  rw [← hr]
  obtain ⟨l, hl⟩ : ∃ l, l = likes xs ys := ⟨_, rfl⟩
  rw [← hl] at hr HC
  have HR := Lib.hid hr
  clear hc hS hT hr hl
  cases h0 : (mi == mi2) with
  | false =>
    have hf := Lib.hid (show r = false by rw [HR.out, h0]; simp)
    clear HR
    go_enter Try.func23, Try.ntmps23
    go_wp2
    go_ret
    exact ⟨ret_bool hf.out.symm, hB1⟩
  | true =>
    cases h1 : (mb == mb2) with
    | false =>
      have hf := Lib.hid (show r = false by rw [HR.out, h1]; simp)
      clear HR
      go_enter Try.func23, Try.ntmps23
      go_wp2
      go_ret
      exact ⟨ret_bool hf.out.symm, hB1⟩
    | true =>
      cases h2 : (nx == nx2) with
      | false =>
        have hf := Lib.hid (show r = false by rw [HR.out, h2]; simp)
        clear HR
        go_enter Try.func23, Try.ntmps23
        go_wp2
        go_ret
        exact ⟨ret_bool hf.out.symm, hB1⟩
      | true =>
        have hf := Lib.hid (show r = l by rw [HR.out, h0, h1, h2]; simp)
        clear HR
        go_enter Try.func23, Try.ntmps23
        go_wp2_with fail
        refine (HC.out _ hB1).mono ?_
        rintro e w1 ⟨rfl, hB⟩
        go_wp2
        go_ret
        exact ⟨ret_bool hf.out.symm, hB1.trans (hB.mono hB1.size)⟩
set_option maxHeartbeats 4000000 in
set_option maxRecDepth 100000 in
theorem rsame_walk (mi mb nx mi2 mb2 nx2 : Int) (xs ys : List Nod) (a b : Option Addr) (c d : Nat) (w : World) (hS : Nods w a c xs) (hT : Nods w b d ys) :
    Calls Try.prog 11 #[.agg #[.int .i64 mi, .int .i64 mb, .int .i64 nx, .slice a xs.length c], .agg #[.int .i64 mi2, .int .i64 mb2, .int .i64 nx2, .slice b ys.length d]] w fun e w' =>
      e = .returned (.bool ((mi == mi2) && (mb == mb2) && (nx == nx2) && likes xs ys)) ∧ Below w.heap.size w w' := by
  have hc := fun W (hW : Below w.heap.size w W) => ones_walk xs ys a b c d W (hS.below hW (Nat.le_refl _)) (hT.below hW (Nat.le_refl _))
  have HC := Lib.hid hc
  have hB1 := ((Below.refl w.heap.size w).alloc (Nat.le_refl _) (Obj.cells #[.int .i64 mi, .int .i64 mb, .int .i64 nx, .slice a xs.length c] 25)).alloc (by simp) (Obj.cells #[.int .i64 mi2, .int .i64 mb2, .int .i64 nx2, .slice b ys.length d] 25)
  obtain ⟨r, hr⟩ : ∃ r, r = ((mi == mi2) && (mb == mb2) && (nx == nx2) && likes xs ys) := ⟨_, rfl⟩
  rw [← hr]
  obtain ⟨l, hl⟩ : ∃ l, l = likes xs ys := ⟨_, rfl⟩
  rw [← hl] at hr HC
  have HR := Lib.hid hr
  clear hc hS hT hr hl
  cases h0 : (mi == mi2) with
  | false =>
    have hf := Lib.hid (show r = false by rw [HR.out, h0]; simp)
    clear HR
    go_enter Try.func11, Try.ntmps11
    go_wp2
    go_ret
    exact ⟨ret_bool hf.out.symm, hB1⟩
  | true =>
    cases h1 : (mb == mb2) with
    | false =>
      have hf := Lib.hid (show r = false by rw [HR.out, h1]; simp)
      clear HR
      go_enter Try.func11, Try.ntmps11
      go_wp2
      go_ret
      exact ⟨ret_bool hf.out.symm, hB1⟩
    | true =>
      cases h2 : (nx == nx2) with
      | false =>
        have hf := Lib.hid (show r = false by rw [HR.out, h2]; simp)
        clear HR
        go_enter Try.func11, Try.ntmps11
        go_wp2
        go_ret
        exact ⟨ret_bool hf.out.symm, hB1⟩
      | true =>
        have hf := Lib.hid (show r = l by rw [HR.out, h0, h1, h2]; simp)
        clear HR
        go_enter Try.func11, Try.ntmps11
        go_wp2_with fail
        refine (HC.out _ hB1).mono ?_
        rintro e w1 ⟨rfl, hB⟩
        go_wp2
        go_ret
        exact ⟨ret_bool hf.out.symm, hB1.trans (hB.mono hB1.size)⟩
end Go.Proofs.Yteaemnjomlcfcaa.Tab
