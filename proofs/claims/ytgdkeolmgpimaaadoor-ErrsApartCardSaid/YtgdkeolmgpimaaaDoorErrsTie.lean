/- What the row's list gives: the table of messages holds its fourteen texts. Condition: the variable reads as listed. -/
import Derived.Test.YtgdkeolmgpimaaaDoorErrsLaws
import Derived.Test.YtgdkeolmgpimaaaDoorRows
import Derived.Lib.LaidTab
namespace Go.Proofs.YtgdkeolmgpimaaaDoor
open Go.RowKit
namespace ErrsTie
open Kit ErrsPlain ErrsWalk ErrsLaws
theorem cells_of_strs {H : Type} {enc : TypeId × Value → H} {P : Program} {w : World} {base : Nat} {sp : Nat → Bool} {held : Bool} {fuel : Nat} {t e : TypeId} {n : Nat} {cs : List Value} {ss : List ByteArray} {p : List MemPlace}
    (ht : P.underlying t = some (.array n e)) (he : P.underlying e = some .string) (hce : P.cellsOf e = 1) (hct : P.cellsOf t = n)
    (h : DataW.trod enc P w base sp held fuel t cs = some (.agg (ss.map fun s => .lit (.string s.data.toList)), p)) : cs = ss.map Value.string := by
  cases fuel with
  | zero => simp [DataW.trod] at h
  | succ fuel =>
    simp only [DataW.trod, ht, hce, hct, Nat.mul_one] at h
    split at h
    · rename_i hl
      obtain ⟨xs, hm, hx⟩ := Option.map_eq_some_iff.1 h
      have hxs : xs.map (·.1) = ss.map fun s => (DataW.lit (.string s.data.toList) : DataW H) := by
        have := congrArg Prod.fst hx
        simpa using this
      have hxl : xs.length = n := by simpa using Lib.mapM_length hm
      have hzl : ss.length = n := by
        have := congrArg List.length hxs
        simp at this
        omega
      apply List.ext_getElem?
      intro i
      by_cases hi : i < n
      · obtain ⟨b, hb, hf⟩ := Lib.mapM_at hm i i (by simp [hi])
        obtain ⟨z, hc, rfl, _⟩ := DataW.trod_string he hf
        have h1 : cs[i]? = some (.string z) := by
          have := congrArg (·[0]?) hc
          simpa [List.getElem?_take, List.getElem?_drop] using this
        have h2 : (xs.map (·.1))[i]? = some (DataW.lit (.string z.data.toList) : DataW H) := by simp [hb]
        rw [hxs] at h2
        simp only [List.getElem?_map, Option.map_eq_some_iff, DataW.lit.injEq, Lit.string.injEq] at h2
        obtain ⟨z', hz', e'⟩ := h2
        have e2 : z' = z := toL_inj e'
        subst e2
        simp [h1, hz']
      · rw [List.getElem?_eq_none (by omega), List.getElem?_eq_none (by simp; omega)]
    · cases h
theorem gTab : Tryd.prog.globalNamed "drayman/errs.messages" = some 0 := by kernel_rfl
theorem gTabType : (Tryd.prog.globals[0]?).map (·.type) = some 35 := by kernel_rfl
theorem cellsArr : Tryd.prog.cellsOf 35 = 14 := by kernel_rfl
theorem cellsStr : Tryd.prog.cellsOf 9 = 1 := by kernel_rfl
theorem tab_of_head {W : World} {rest : List (String × DataW Unit)} (h : laidMet Tryd.prog (("drayman/errs.messages", Rows.laid_drayman_errs_messages) :: rest) W) : Tab W := by
  obtain ⟨ps, ⟨g', t', cs, fuel, p, q, hg', ht', hvar, hd, _, _⟩, _⟩ := h
  obtain rfl := Option.some.inj (gTab.symm.trans hg')
  obtain rfl := Option.some.inj (gTabType.symm.trans ht')
  have hd' : Rows.laid_drayman_errs_messages = (.agg (tab.map fun s => .lit (.string s.data.toList)) : DataW Unit) := rfl
  rw [hd'] at hd
  have hcs := cells_of_strs Tryd.underlying35 Tryd.underlying9 cellsStr cellsArr hd
  simp only [World.var?, gTab, Option.bind_some] at hvar
  split at hvar
  · rename_i c t fr heq
    simp only [Option.some.injEq] at hvar
    subst hvar
    refine ⟨t, fr, ?_⟩
    rw [heq]
    have : c = cellsTab := Array.toList_inj.1 hcs
    rw [this]
  · cases hvar
end ErrsTie
end Go.Proofs.YtgdkeolmgpimaaaDoor
