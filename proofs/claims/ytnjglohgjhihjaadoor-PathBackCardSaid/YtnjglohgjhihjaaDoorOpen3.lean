/- How a path's parts, as an argument, are opened. No condition. -/
import Derived.Test.YtnjglohgjhihjaaDoorOpen
import Derived.Test.YtnjglohgjhihjaaDoorLaw3b
set_option linter.unusedVariables false
namespace Go.Proofs.YtnjglohgjhihjaaDoor.Vcg
open Go.RowKit Go.ChangeMaps Go.ChangeShapes Go.WideShapes Go.Deep Go.Joins
variable {H : Type} {enc : TypeId × Value → H} {W : World}
theorem opn_path : OpnRow enc Tryd.prog W 58 3 fun row => ∃ (a : Bool) (xs : List (List UInt8)) (s : Bool), row = [boolC a, .sl 1 (strs xs), boolC s] ∧ xs.length ≤ maxLen ∧ ∀ x ∈ xs, x.length ≤ maxLen := fun fuel cs x hx => by
  obtain ⟨row, ⟨hl, hq⟩, h1, h2, h3⟩ := OpnRow.struct (W := W) (enc := enc) (Qs := fun j c => match j with | 0 => ∃ b, c = .sc (.bool b) | 1 => ∃ xs : List (List UInt8), c = .sl 1 (strs xs) ∧ xs.length ≤ maxLen ∧ ∀ x ∈ xs, x.length ≤ maxLen | 2 => ∃ b, c = .sc (.bool b) | _ => True) Tryd.underlying58 (by kernel_rfl) (by kernel_rfl) (fun j f hj => by
    match j, hj with
    | 0, hj => cases hj; exact Opn.bool Tryd.underlying4
    | 1, hj => cases hj; exact opn_strs
    | 2, hj => cases hj; exact Opn.bool Tryd.underlying4
    | j + 3, hj => simp at hj) fuel cs x hx
  match row, h1, hq, h3 with
  | [c0, c1, c2], _, hq, h3 =>
    obtain ⟨a, rfl⟩ := hq 0 c0 rfl
    obtain ⟨xs, rfl, hw⟩ := hq 1 c1 rfl
    obtain ⟨s, rfl⟩ := hq 2 c2 rfl
    exact ⟨_, ⟨a, xs, s, rfl, hw⟩, rfl, h2, h3⟩
theorem pathMay_any (s : List UInt8) {n : Int} (hw : (Lit.int .u16 n).wf = true) : Fun Tryd.prog G0 9 [.str s, .sc (.int .u16 n)] (boolC true) 0 := by
  have h : 0 ≤ n ∧ n ≤ 65535 := by simpa [Lit.wf, IntKind.min, IntKind.max, IntKind.signed, IntKind.bits] using hw
  obtain ⟨k, rfl⟩ : ∃ k : Nat, n = (k : Int) := ⟨n.toNat, by omega⟩
  exact pathMay_fun s k (by omega)
end Go.Proofs.YtnjglohgjhihjaaDoor.Vcg
