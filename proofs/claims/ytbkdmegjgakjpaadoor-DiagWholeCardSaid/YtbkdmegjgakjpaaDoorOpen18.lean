/- What layer 18's tables hold, as listed; arguments of its laws. No condition. -/
import Derived.Test.YtbkdmegjgakjpaaDoorDiag6
import Derived.Test.YtbkdmegjgakjpaaDoorRows
set_option linter.unusedVariables false
namespace Go.Proofs.YtbkdmegjgakjpaaDoor.Vcg
open Go.RowKit
theorem diagWhole_any (a b c : List UInt8) {n m : Int} (hn : (Lit.int .u8 n).wf = true) (hm : (Lit.int .u8 m).wf = true) : Fun Tryd.prog G2 5 [.sc (.int .u8 n), .sc (.int .u8 m), .str a, .str b, .str c] (boolC true) 0 := by
  have h : 0 ≤ n ∧ n ≤ 255 := by simpa [Lit.wf, IntKind.min, IntKind.max, IntKind.signed, IntKind.bits] using hn
  have h' : 0 ≤ m ∧ m ≤ 255 := by simpa [Lit.wf, IntKind.min, IntKind.max, IntKind.signed, IntKind.bits] using hm
  obtain ⟨k, rfl⟩ : ∃ k : Nat, n = (k : Int) := ⟨n.toNat, by omega⟩
  obtain ⟨l, rfl⟩ : ∃ l : Nat, m = (l : Int) := ⟨m.toNat, by omega⟩
  exact diagWholeLaw_fun k l a b c (by omega) (by omega)
theorem glob2 {W : World} {l : List (String × DataW Unit)} (h : laidMetH Tryd.prog l W) (hp : (l.filter fun x => x.2.handleName?.isSome) = []) (hm1 : ("drayman/diag.phrases", Rows.laid_drayman_diag_phrases) ∈ l) (hm2 : ("drayman/args.kinds", Rows.laid_drayman_args_kinds) ∈ l) (hm3 : ("drayman/errs.messages", Rows.laid_drayman_errs_messages) ∈ l) : GlobOk G2 (env0 W) := fun g cs hc => by
  unfold G2 at hc
  split at hc
  · rename_i hg
    subst hg
    cases hc
    exact repCells_laid (t := 48) h hp hm1 (by kernel_rfl) (by kernel_rfl) (m := 4) (vs := phr.map fun l => Value.string ⟨l.toArray⟩) (by kernel_rfl) (by kernel_rfl) (by kernel_rfl)
  · split at hc
    · rename_i hg
      subst hg
      cases hc
      exact repCells_laid (t := 58) h hp hm2 (by kernel_rfl) (by kernel_rfl) (m := 4) (by kernel_rfl) (by kernel_rfl) (by kernel_rfl)
    · split at hc
      · rename_i hg
        subst hg
        cases hc
        exact repCells_laid (t := 91) h hp hm3 (by kernel_rfl) (by kernel_rfl) (m := 4) (vs := msgs.map fun l => Value.string ⟨l.toArray⟩) (by kernel_rfl) (by kernel_rfl) (by kernel_rfl)
      · cases hc
end Go.Proofs.YtbkdmegjgakjpaaDoor.Vcg
