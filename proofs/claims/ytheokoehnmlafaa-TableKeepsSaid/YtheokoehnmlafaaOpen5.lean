/- How tables and their inodes, as arguments, are opened. No condition. -/
import Derived.Test.YtheokoehnmlafaaLaw5
import Derived.Test.YtheokoehnmlafaaOpenG
import Derived.Test.YtheokoehnmlafaaRows
set_option linter.unusedVariables false
namespace Go.Proofs.Ytheokoehnmlafaa.Vcg
open Go.RowKit Go.ChangeMaps Go.ChangeShapes Go.WideShapes Go.Deep Go.Joins
def G5 : Globs := fun _ => none
theorem rows_of {α : Type} {f : α → List C} {q : α → Prop} : ∀ {rows : List (List C)}, (∀ r ∈ rows, ∃ a, r = f a ∧ q a) → ∃ xs : List α, rows = xs.map f ∧ ∀ x ∈ xs, q x
  | [], _ => ⟨[], rfl, fun x h => by cases h⟩
  | r :: rows, h => by
    obtain ⟨xs, rfl, hq⟩ := rows_of fun r' hr => h r' (List.mem_cons_of_mem _ hr)
    obtain ⟨o, rfl, ho⟩ := h r List.mem_cons_self
    exact ⟨o :: xs, rfl, fun x hx => by
      rcases List.mem_cons.1 hx with rfl | hx
      · exact ho
      · exact hq x hx⟩
section
variable {H : Type} {enc : TypeId × Value → H} {W : World}
theorem opn_u8s : Opn enc Try.prog W 23 fun c => ∃ xs : List UInt8, c = .sl 1 (bytesC xs) ∧ xs.length ≤ maxLen := fun fuel cs x hx => by
  obtain ⟨v, c, rfl, ⟨rows, rfl, hl, hr⟩, h1, h2⟩ := Opn.slice (W := W) (enc := enc) Try.underlying23 (show Try.prog.cellsOf 5 = 1 by kernel_rfl) (Nat.zero_lt_one) (OpnRow.one (Opn.int Try.underlying5)) fuel cs x hx
  obtain ⟨xs, rfl, _⟩ := rows_of (f := fun b : UInt8 => [C.sc (.int .u8 (b.toNat : Int))]) (q := fun _ => True) (rows := rows) fun r hr' => by
    obtain ⟨c, rfl, n, rfl, hw⟩ := hr r hr'
    have hb : 0 ≤ n ∧ n ≤ 255 := by simpa [Lit.wf, IntKind.min, IntKind.max, IntKind.signed, IntKind.bits] using hw
    refine ⟨UInt8.ofNat n.toNat, ?_, trivial⟩
    rw [UInt8.toNat_ofNat_of_lt' (by show _ < 256; omega), Int.toNat_of_nonneg hb.1]
  exact ⟨v, _, rfl, ⟨xs, rfl, by simpa using hl⟩, h1, h2⟩
theorem opn_ent : OpnRow enc Try.prog W 52 2 fun row => ∃ o : EntV, row = entC o ∧ o.name.length ≤ maxLen := fun fuel cs x hx => by
  obtain ⟨row, ⟨hl, hq⟩, h1, h2, h3⟩ := OpnRow.struct (W := W) (enc := enc) (Qs := fun j c => match j with | 0 => ∃ l : List UInt8, c = .str l ∧ l.length ≤ maxLen | 1 => ∃ n, c = .sc (.int .i64 n) ∧ (Lit.int .i64 n).wf = true | _ => True) Try.underlying52 (by kernel_rfl) (by kernel_rfl) (fun j f hj => by
    match j, hj with
    | 0, hj => cases hj; exact Opn.str Try.underlying9
    | 1, hj => cases hj; exact Opn.int Try.underlying3
    | j + 2, hj => simp at hj) fuel cs x hx
  match row, h1, hq, h3 with
  | [c0, c1], _, hq, h3 =>
    obtain ⟨a, rfl, ha⟩ := hq 0 c0 rfl
    obtain ⟨k, rfl, _⟩ := hq 1 c1 rfl
    exact ⟨_, ⟨⟨a, k⟩, rfl, ha⟩, rfl, h2, h3⟩
theorem opn_ents : Opn enc Try.prog W 28 fun c => ∃ xs : List EntV, c = .sl 2 (entsC xs) ∧ xs.length ≤ maxLen ∧ ∀ x ∈ xs, x.name.length ≤ maxLen := fun fuel cs x hx => by
  obtain ⟨v, c, rfl, ⟨rows, rfl, hl, hr⟩, h1, h2⟩ := Opn.slice (W := W) (enc := enc) Try.underlying28 (show Try.prog.cellsOf 52 = 2 by kernel_rfl) (by decide) opn_ent fuel cs x hx
  obtain ⟨xs, rfl, hq⟩ := rows_of hr
  exact ⟨v, _, rfl, ⟨xs, rfl, by simpa using hl, hq⟩, h1, h2⟩
/-- what is known of an inode that is handed in -/
def nodOk (x : NodV) : Prop := x.data.length ≤ maxLen ∧ x.es.length ≤ maxLen ∧ ∀ e ∈ x.es, e.name.length ≤ maxLen
theorem opn_inode : OpnRow enc Try.prog W 30 6 fun row => ∃ o : NodV, row = nodC o ∧ nodOk o := fun fuel cs x hx => by
  obtain ⟨row, ⟨hl, hq⟩, h1, h2, h3⟩ := OpnRow.struct (W := W) (enc := enc) (Qs := fun j c => match j with | 0 => ∃ n, c = .sc (.int .i64 n) ∧ (Lit.int .i64 n).wf = true | 1 => ∃ n, c = .sc (.int .i64 n) ∧ (Lit.int .i64 n).wf = true | 2 => ∃ n, c = .sc (.int .i64 n) ∧ (Lit.int .i64 n).wf = true | 3 => ∃ l : List UInt8, c = .str l ∧ l.length ≤ maxLen | 4 => ∃ n, c = .sc (.int .i64 n) ∧ (Lit.int .i64 n).wf = true | 5 => ∃ xs : List EntV, c = .sl 2 (entsC xs) ∧ xs.length ≤ maxLen ∧ ∀ x ∈ xs, x.name.length ≤ maxLen | _ => True) Try.underlying30 (by kernel_rfl) (by kernel_rfl) (fun j f hj => by
    match j, hj with
    | 0, hj => cases hj; exact Opn.int Try.underlying3
    | 1, hj => cases hj; exact Opn.int Try.underlying3
    | 2, hj => cases hj; exact Opn.int Try.underlying3
    | 3, hj => cases hj; exact Opn.str Try.underlying9
    | 4, hj => cases hj; exact Opn.int Try.underlying3
    | 5, hj => cases hj; exact opn_ents
    | j + 6, hj => simp at hj) fuel cs x hx
  match row, h1, hq, h3 with
  | [c0, c1, c2, c3, c4, c5], _, hq, h3 =>
    obtain ⟨a, rfl, _⟩ := hq 0 c0 rfl
    obtain ⟨b, rfl, _⟩ := hq 1 c1 rfl
    obtain ⟨c, rfl, _⟩ := hq 2 c2 rfl
    obtain ⟨d, rfl, hd⟩ := hq 3 c3 rfl
    obtain ⟨e, rfl, _⟩ := hq 4 c4 rfl
    obtain ⟨f, rfl, hf⟩ := hq 5 c5 rfl
    exact ⟨_, ⟨⟨a, b, c, d, e, f⟩, rfl, hd, hf⟩, rfl, h2, h3⟩
theorem opn_nods : Opn enc Try.prog W 22 fun c => ∃ xs : List NodV, c = .sl 6 (nodsC xs) ∧ xs.length ≤ maxLen ∧ ∀ x ∈ xs, nodOk x := fun fuel cs x hx => by
  obtain ⟨v, c, rfl, ⟨rows, rfl, hl, hr⟩, h1, h2⟩ := Opn.slice (W := W) (enc := enc) Try.underlying22 (show Try.prog.cellsOf 30 = 6 by kernel_rfl) (by decide) opn_inode fuel cs x hx
  obtain ⟨xs, rfl, hq⟩ := rows_of hr
  exact ⟨v, _, rfl, ⟨xs, rfl, by simpa using hl, hq⟩, h1, h2⟩
theorem opn_fs : OpnRow enc Try.prog W 26 4 fun row => ∃ f : FsV, row = fsC f ∧ f.xs.length ≤ maxLen ∧ ∀ x ∈ f.xs, nodOk x := fun fuel cs x hx => by
  obtain ⟨row, ⟨hl, hq⟩, h1, h2, h3⟩ := OpnRow.struct (W := W) (enc := enc) (Qs := fun j c => match j with | 0 => ∃ n, c = .sc (.int .i64 n) ∧ (Lit.int .i64 n).wf = true | 1 => ∃ n, c = .sc (.int .i64 n) ∧ (Lit.int .i64 n).wf = true | 2 => ∃ n, c = .sc (.int .i64 n) ∧ (Lit.int .i64 n).wf = true | 3 => ∃ xs : List NodV, c = .sl 6 (nodsC xs) ∧ xs.length ≤ maxLen ∧ ∀ x ∈ xs, nodOk x | _ => True) Try.underlying26 (by kernel_rfl) (by kernel_rfl) (fun j f hj => by
    match j, hj with
    | 0, hj => cases hj; exact Opn.int Try.underlying3
    | 1, hj => cases hj; exact Opn.int Try.underlying3
    | 2, hj => cases hj; exact Opn.int Try.underlying3
    | 3, hj => cases hj; exact opn_nods
    | j + 4, hj => simp at hj) fuel cs x hx
  match row, h1, hq, h3 with
  | [c0, c1, c2, c3], _, hq, h3 =>
    obtain ⟨a, rfl, _⟩ := hq 0 c0 rfl
    obtain ⟨b, rfl, _⟩ := hq 1 c1 rfl
    obtain ⟨c, rfl, _⟩ := hq 2 c2 rfl
    obtain ⟨d, rfl, hd⟩ := hq 3 c3 rfl
    exact ⟨_, ⟨⟨a, b, c, d⟩, rfl, hd⟩, rfl, h2, h3⟩
end
theorem tableHolds_any (xs : List NodV) (b : List UInt8) (h : xs.length ≤ maxLen ∧ ∀ x ∈ xs, nodOk x) : Fun Try.prog G5 3 [.sl 6 (nodsC xs), .sl 1 (bytesC b)] (.sc (.bool true)) 0 :=
  holds5 xs b fun x hx => (h.2 x hx).2.1
end Go.Proofs.Ytheokoehnmlafaa.Vcg
