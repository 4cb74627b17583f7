/- The program's path functions but May and Plain, as what they answer. No condition but bounds that each states. -/
import Derived.Test.YtphiahlodjblcaaDoorPath2
set_option linter.unusedVariables false
set_option linter.unusedSimpArgs false
namespace Go.Proofs.YtphiahlodjblcaaDoor.Vcg
open Go.RowKit
theorem toL_str (l : List UInt8) : (ByteArray.mk l.toArray).data.toList = l := by simp
theorem join_fun (xs : List (List UInt8)) (sep : List UInt8) (hx : xs.length ≤ 1000001) (hl : (Lib.join xs sep).length ≤ 100000000) : Fun Tryd.prog G0 27 [.sl 1 (strs xs), .str sep] (.str (Lib.join xs sep)) 0 := by
  refine Fun.wrap (by kernel_rfl) fun R vs h => ?_
  obtain ⟨v1, us1, rfl, h1, h⟩ := repL_cons.1 h
  obtain ⟨v2, us2, rfl, h2, h⟩ := repL_cons.1 h
  rw [repL_nil] at h
  subst h
  rw [rep_str] at h2
  subst h2
  obtain ⟨a, cap, rfl, hc1, hc2, hr⟩ := rep_sl.1 h1
  have hlen : (strs xs).length = xs.length := by simp
  have hmap : (xs.map fun x => ByteArray.mk x.toArray).map (·.data.toList) = xs := by
    rw [List.map_map]
    conv => rhs; rw [← List.map_id xs]
    exact List.map_congr_left fun x _ => by simp
  rcases hr with hr | ⟨b, o, rfl, hr⟩
  · have : xs = [] := by simpa using hr
    subst this
    refine (Tryd.strings_Join_none a cap ⟨sep.toArray⟩ R.w).mono ?_
    rintro e w' ⟨rfl, rfl⟩
    exact ⟨_, rfl, Below.refl _ _, fun R' _ => rep_str.2 (by simp [Lib.join])⟩
  · by_cases hx0 : xs = []
    · subst hx0
      refine (Tryd.strings_Join_none _ cap ⟨sep.toArray⟩ R.w).mono ?_
      rintro e w' ⟨rfl, rfl⟩
      exact ⟨_, rfl, Below.refl _ _, fun R' _ => rep_str.2 (by simp [Lib.join])⟩
    · have hcells : ∀ (j : Nat) x, (xs.map fun x => ByteArray.mk x.toArray)[j]? = some x → R.w.cell? ⟨b, o + j, none⟩ = some (.string x) := fun j x hj => by
        rw [List.getElem?_map] at hj
        cases hq : xs[j]? with
        | none => rw [hq] at hj; cases hj
        | some y =>
          rw [hq] at hj; cases hj
          obtain ⟨_, g⟩ := repRows_get hr j [.str y] (by rw [List.getElem?_map, hq]; rfl)
          obtain ⟨⟨v, g1, _, g2, _⟩, _⟩ := repCells_cons.1 g
          rw [rep_str] at g2
          subst g2
          simpa using g1
      have hb : b < R.w.heap.size := by
        cases xs with
        | nil => exact absurd rfl hx0
        | cons x r =>
          exact cell_lt (hcells 0 ⟨x.toArray⟩ rfl)
      have hj := Tryd.strings_Join b o cap (xs.map fun x => ByteArray.mk x.toArray) ⟨sep.toArray⟩ R.w hcells hb (by simp; omega) (by simpa using hc1) (by rw [hmap]; simp; omega)
      rw [hmap] at hj
      simp only [List.length_map] at hj
      rw [hlen]
      refine hj.mono ?_
      rintro e w' ⟨rfl, hbl⟩
      exact ⟨_, rfl, hbl, fun R' _ => rep_str.2 (by simp)⟩
end Go.Proofs.YtphiahlodjblcaaDoor.Vcg
