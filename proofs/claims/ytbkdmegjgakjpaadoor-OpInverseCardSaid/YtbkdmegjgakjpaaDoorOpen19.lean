/- How operations, as arguments, are opened; what op.has holds, as listed. No condition. -/
import Derived.Test.YtbkdmegjgakjpaaDoorLaw19b
import Derived.Test.YtbkdmegjgakjpaaDoorRows
set_option linter.unusedVariables false
namespace Go.Proofs.YtbkdmegjgakjpaaDoor.Vcg
open Go.RowKit Go.ChangeMaps Go.ChangeShapes Go.WideShapes Go.Deep Go.Joins
section
variable {H : Type} {enc : TypeId × Value → H} {W : World}
theorem opn_op : OpnRow enc Tryd.prog W 30 5 fun row => ∃ o : OpV, row = opL o ∧ True := fun fuel cs x hx => by
  obtain ⟨row, ⟨hl, hq⟩, h1, h2, h3⟩ := OpnRow.struct (W := W) (enc := enc) (Qs := fun j c => match j with | 0 => ∃ n, c = .sc (.int .i64 n) ∧ (Lit.int .i64 n).wf = true | 1 => ∃ n, c = .sc (.int .i64 n) ∧ (Lit.int .i64 n).wf = true | 2 => ∃ l : List UInt8, c = .str l ∧ l.length ≤ maxLen | 3 => ∃ l : List UInt8, c = .str l ∧ l.length ≤ maxLen | 4 => ∃ l : List UInt8, c = .str l ∧ l.length ≤ maxLen | _ => True) Tryd.underlying30 (by kernel_rfl) (by kernel_rfl) (fun j f hj => by
    match j, hj with
    | 0, hj => cases hj; exact Opn.int Tryd.underlying3
    | 1, hj => cases hj; exact Opn.int Tryd.underlying3
    | 2, hj => cases hj; exact Opn.str Tryd.underlying9
    | 3, hj => cases hj; exact Opn.str Tryd.underlying9
    | 4, hj => cases hj; exact Opn.str Tryd.underlying9
    | j + 5, hj => simp at hj) fuel cs x hx
  match row, h1, hq, h3 with
  | [c0, c1, c2, c3, c4], _, hq, h3 =>
    obtain ⟨k, rfl, _⟩ := hq 0 c0 rfl
    obtain ⟨s, rfl, _⟩ := hq 1 c1 rfl
    obtain ⟨a, rfl, _⟩ := hq 2 c2 rfl
    obtain ⟨b, rfl, _⟩ := hq 3 c3 rfl
    obtain ⟨d, rfl, _⟩ := hq 4 c4 rfl
    exact ⟨_, ⟨⟨k, s, a, b, d⟩, rfl, trivial⟩, rfl, h2, h3⟩
theorem ops_of_rows : ∀ {rows : List (List C)}, (∀ r ∈ rows, ∃ o : OpV, r = opL o ∧ True) → ∃ xs : List OpV, rows = opsC xs
  | [], _ => ⟨[], rfl⟩
  | r :: rows, h => by
    obtain ⟨xs, rfl⟩ := ops_of_rows fun r' hr => h r' (List.mem_cons_of_mem _ hr)
    obtain ⟨o, rfl, _⟩ := h r List.mem_cons_self
    exact ⟨o :: xs, rfl⟩
theorem opn_ops : Opn enc Tryd.prog W 32 fun c => ∃ xs : List OpV, c = .sl 5 (opsC xs) ∧ True := fun fuel cs x hx => by
  obtain ⟨v, c, rfl, ⟨rows, rfl, hl, hr⟩, h1, h2⟩ := Opn.slice (W := W) (enc := enc) Tryd.underlying32 (show Tryd.prog.cellsOf 30 = 5 by kernel_rfl) (by decide) opn_op fuel cs x hx
  obtain ⟨xs, rfl⟩ := ops_of_rows hr
  exact ⟨v, _, rfl, ⟨xs, rfl, trivial⟩, h1, h2⟩
end
theorem opInverse_any (l : List OpV) {n : Int} (hw : (Lit.int .u8 n).wf = true) : Fun Tryd.prog G1 9 [.sl 5 (opsC l), .sc (.int .u8 n)] (boolC true) 0 := by
  have h : 0 ≤ n ∧ n ≤ 255 := by simpa [Lit.wf, IntKind.min, IntKind.max, IntKind.signed, IntKind.bits] using hw
  obtain ⟨k, rfl⟩ : ∃ k : Nat, n = (k : Int) := ⟨n.toNat, by omega⟩
  exact opInverseLaw_fun l k (by omega)
theorem glob1 {W : World} {l : List (String × DataW Unit)} (h : laidMetH Tryd.prog l W) (hp : (l.filter fun x => x.2.handleName?.isSome) = []) (hm : ("drayman/op.has", Rows.laid_drayman_op_has) ∈ l) : GlobOk G1 (env0 W) := fun g cs hc => by
  unfold G1 at hc
  split at hc
  · rename_i hg
    subst hg
    cases hc
    exact repCells_laid (t := 52) h hp hm (by kernel_rfl) (by kernel_rfl) (m := 4) (by kernel_rfl) (by kernel_rfl) (by kernel_rfl)
  · cases hc
end Go.Proofs.YtbkdmegjgakjpaaDoor.Vcg
