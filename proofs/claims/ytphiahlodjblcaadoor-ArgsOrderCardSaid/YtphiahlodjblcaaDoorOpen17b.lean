/- How a slice of bytes, as an argument, is opened; ArgsOrder at whatever argument. No condition. -/
import Derived.Test.YtphiahlodjblcaaDoorLaw17c
import Derived.Test.YtphiahlodjblcaaDoorOpen17
set_option linter.unusedVariables false
namespace Go.Proofs.YtphiahlodjblcaaDoor.Vcg
open Go.RowKit Go.ChangeMaps Go.ChangeShapes Go.WideShapes Go.Deep Go.Joins
theorem u8s_of_rows : ∀ {rows : List (List C)}, (∀ r ∈ rows, ∃ c, r = [c] ∧ ∃ n, c = .sc (.int .u8 n) ∧ (Lit.int .u8 n).wf = true) → ∃ xs : List UInt8, rows = u8R xs
  | [], _ => ⟨[], rfl⟩
  | r :: rows, h => by
    obtain ⟨xs, rfl⟩ := u8s_of_rows fun r' hr => h r' (List.mem_cons_of_mem _ hr)
    obtain ⟨c, rfl, n, rfl, hw⟩ := h r List.mem_cons_self
    have hb : 0 ≤ n ∧ n ≤ 255 := by simpa [Lit.wf, IntKind.min, IntKind.max, IntKind.signed, IntKind.bits] using hw
    refine ⟨UInt8.ofNat n.toNat :: xs, ?_⟩
    simp only [u8R, List.map_cons, u8C]
    rw [UInt8.toNat_ofNat_of_lt' (by show _ < 256; omega), Int.toNat_of_nonneg hb.1]
section
variable {H : Type} {enc : TypeId × Value → H} {W : World}
theorem opn_u8s : Opn enc Tryd.prog W 34 fun c => ∃ xs : List UInt8, c = .sl 1 (u8R xs) ∧ xs.length ≤ maxLen := fun fuel cs x hx => by
  obtain ⟨v, c, rfl, ⟨rows, rfl, hl, hr⟩, h1, h2⟩ := Opn.slice (W := W) (enc := enc) Tryd.underlying34 (show Tryd.prog.cellsOf 5 = 1 by kernel_rfl) (Nat.zero_lt_one) (OpnRow.one (Opn.int Tryd.underlying5)) fuel cs x hx
  obtain ⟨xs, rfl⟩ := u8s_of_rows hr
  exact ⟨v, _, rfl, ⟨xs, rfl, by simpa using hl⟩, h1, h2⟩
end
theorem argsOrder_any {n : Int} (hw : (Lit.int .u8 n).wf = true) (ls : List UInt8) (ops : List (List UInt8)) (hls : ls.length ≤ maxLen) : Fun Tryd.prog G3 5 [.sc (.int .u8 n), .sl 1 (u8R ls), .sl 1 (strs ops)] (boolC true) 0 := by
  have h : 0 ≤ n ∧ n ≤ 255 := by simpa [Lit.wf, IntKind.min, IntKind.max, IntKind.signed, IntKind.bits] using hw
  obtain ⟨k, rfl⟩ : ∃ k : Nat, n = (k : Int) := ⟨n.toNat, by omega⟩
  exact argsOrder_fun k (by omega) ls ops (by unfold maxLen at hls; omega)
end Go.Proofs.YtphiahlodjblcaaDoor.Vcg
