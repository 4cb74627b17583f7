/- How commands, as arguments, are opened; what args.kinds holds, as listed. No condition. -/
import Derived.Test.YtphiahlodjblcaaDoorLaw17
import Derived.Test.YtphiahlodjblcaaDoorRows
set_option linter.unusedVariables false
namespace Go.Proofs.YtphiahlodjblcaaDoor.Vcg
open Go.RowKit Go.ChangeMaps Go.ChangeShapes Go.WideShapes Go.Deep Go.Joins
section
variable {H : Type} {enc : TypeId × Value → H} {W : World}
abbrev cmdL (c : CmdV) : List C := [.sc (.int .i64 c.kind), .str c.opts, .sl 1 (strs c.operands)]
theorem opn_strs1 : Opn enc Tryd.prog W 22 fun c => ∃ xs : List (List UInt8), c = .sl 1 (strs xs) ∧ True := fun fuel cs x hx => by
  obtain ⟨v, c, e, ⟨xs, hc, _⟩, h1, h2⟩ := opn_strs (W := W) (enc := enc) fuel cs x hx
  exact ⟨v, c, e, ⟨xs, hc, trivial⟩, h1, h2⟩
theorem opn_cmd : OpnRow enc Tryd.prog W 26 3 fun row => ∃ o : CmdV, row = cmdL o ∧ o.opts.length ≤ maxLen := fun fuel cs x hx => by
  obtain ⟨row, ⟨hl, hq⟩, h1, h2, h3⟩ := OpnRow.struct (W := W) (enc := enc) (Qs := fun j c => match j with | 0 => ∃ n, c = .sc (.int .i64 n) ∧ (Lit.int .i64 n).wf = true | 1 => ∃ l : List UInt8, c = .str l ∧ l.length ≤ maxLen | 2 => ∃ xs : List (List UInt8), c = .sl 1 (strs xs) ∧ True | _ => True) Tryd.underlying26 (by kernel_rfl) (by kernel_rfl) (fun j f hj => by
    match j, hj with
    | 0, hj => cases hj; exact Opn.int Tryd.underlying3
    | 1, hj => cases hj; exact Opn.str Tryd.underlying9
    | 2, hj => cases hj; exact opn_strs1
    | j + 3, hj => simp at hj) fuel cs x hx
  match row, h1, hq, h3 with
  | [c0, c1, c2], _, hq, h3 =>
    obtain ⟨k, rfl, _⟩ := hq 0 c0 rfl
    obtain ⟨s, rfl, hs⟩ := hq 1 c1 rfl
    obtain ⟨xs, rfl, _⟩ := hq 2 c2 rfl
    exact ⟨_, ⟨⟨k, s, xs⟩, rfl, hs⟩, rfl, h2, h3⟩
end
theorem argsNames_any (k : Int) (c : CmdV) {n : Int} (hc : c.opts.length ≤ maxLen) (hw : (Lit.int .u8 n).wf = true) : Fun Tryd.prog G3 4 [.sc (.int .i64 k), .agg (cmdL c), .sc (.int .u8 n)] (boolC true) 0 := by
  have h : 0 ≤ n ∧ n ≤ 255 := by simpa [Lit.wf, IntKind.min, IntKind.max, IntKind.signed, IntKind.bits] using hw
  obtain ⟨x, rfl⟩ : ∃ x : UInt8, n = (x.toNat : Int) := ⟨UInt8.ofNat n.toNat, by rw [UInt8.toNat_ofNat_of_lt' (by show _ < 256; omega)]; omega⟩
  exact argsNames_fun k c.kind c.opts c.operands x (by unfold maxLen at hc; omega)
theorem glob3 {W : World} {l : List (String × DataW Unit)} (h : laidMetH Tryd.prog l W) (hp : (l.filter fun x => x.2.handleName?.isSome) = []) (hm : ("drayman/args.kinds", Rows.laid_drayman_args_kinds) ∈ l) : GlobOk G3 (env0 W) := fun g cs hc => by
  unfold G3 at hc
  split at hc
  · rename_i hg
    subst hg
    cases hc
    exact repCells_laid (t := 40) h hp hm (by kernel_rfl) (by kernel_rfl) (m := 4) (by kernel_rfl) (by kernel_rfl) (by kernel_rfl)
  · cases hc
end Go.Proofs.YtphiahlodjblcaaDoor.Vcg
