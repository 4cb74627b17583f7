/- A few bytes, sorted in place: the library's way. No condition. -/
import Derived.Test.YtphiahlodjblcaaDoorPathN
import Derived.Sort.WalkA
set_option linter.unusedVariables false
set_option linter.unusedSimpArgs false
namespace Go.Proofs.YtphiahlodjblcaaDoor.Vcg
open Go.RowKit Go.Sort
theorem isNaN_calls (x : Int) (w : World) : Calls Tryd.prog 61 #[.int .u8 x] w fun e w' => e = .returned (.bool false) ∧ w' = w := by
  go_enter Tryd.func61, Tryd.ntmps61
  go_wp2
  go_ret
  exact ⟨by simp, rfl⟩
theorem less_calls (x y : Int) (w : World) : Calls Tryd.prog 51 #[.int .u8 x, .int .u8 y] w fun e w' => e = .returned (.bool (Sort.ltInt x y)) ∧ w' = w := by
  go_enter Tryd.func51, Tryd.ntmps51
  go_wp2_with (go_at_call 61; refine (isNaN_calls _ _).mono ?_; rintro e w' ⟨rfl, rfl⟩)
  go_ret
  exact ⟨rfl, rfl⟩
theorem ins_calls (blk off cap a b : Nat) (d : Array Int) (w : World) (hH : Holds (Value.int .u8) w blk off d) (hab : a ≤ b) (hb : b ≤ d.size) (hsz : d.size < 4611686018427387904) :
    Calls Tryd.prog 45 #[.slice (some ⟨blk, off, none⟩) d.size cap, .int .i64 a, .int .i64 b] w fun e w' =>
      e = .returned (.tuple #[]) ∧ ∃ n, w' = putRow (Value.int .u8) (Sort.ahead w n) blk off (Sort.insertionSort ltInt d a b) := by
  go_enter Tryd.func45, Tryd.ntmps45
  go_wp2
  go_loopw [6] (fun vi wr => ∃ (i n : Nat) (dk : Array Int), vi = .int .i64 i ∧ a < i ∧ i ≤ b + 1 ∧ dk.size = d.size ∧ wr = putRow (Value.int .u8) (Sort.ahead w n) blk off dk ∧
      insOuter ltInt a b i dk = insOuter ltInt a b (a + 1) d) (fun vi _ => b + 1 - (intOf vi).toNat)
  case atStart => exact ⟨a + 1, 0, d, by go_num, by omega, by omega, rfl, (putRow_self _ _ _ _ _ hH).symm, rfl⟩
  case round =>
    obtain ⟨i, n, dk, rfl, hai, hib, hsk, hwr, hO⟩ := hrel
    have HO : Hid (insOuter ltInt a b i dk = insOuter ltInt a b (a + 1) d) := hO
    clear hO
    go_wp2
    · -- i < b: the inner loop
      go_loopw [7] (fun vj wr2 => ∃ (j m : Nat) (dj : Array Int), vj = .int .i64 j ∧ a ≤ j ∧ j ≤ i ∧ dj.size = d.size ∧ wr2 = putRow (Value.int .u8) (Sort.ahead w m) blk off dj ∧
          insInner ltInt a j dj = insInner ltInt a i dk) (fun vj _ => (intOf vj).toNat)
      case atStart => exact ⟨i, n, dk, rfl, by omega, Nat.le_refl _, hsk, rfl, rfl⟩
      case round =>
        obtain ⟨j, m, dj, rfl, haj, hji, hsj, hw2, hI⟩ := hrel
        have hlt : i < b := by assumption
        -- the row's contents under a name of their own (the authors' find: with 'j < d.size' at hand the walk's simp turns 'dj[j]!' into 'dj[j]'); its two families: Derived/CellFam.lean serves every load and store from them
        obtain ⟨G, hG⟩ : ∃ G : Nat → Int, ∀ t, G t = dj[t]! := ⟨fun t => dj[t]!, fun _ => rfl⟩
        have hcw : ∀ t, t < d.size → wr.cell? ⟨blk, off + t, none⟩ = some (.int .u8 (G t)) := fun t ht => by
          rw [hw2, hG]; exact cell?_putRow _ _ _ _ d dj (holds_ahead _ _ _ _ _ _ hH) hsj t (by omega)
        have hfw : ∀ t, t < d.size → wr.frozen? ⟨blk, off + t, none⟩ = false := fun t ht => by
          rw [hw2, frozen?_putRow]; exact ((holds_ahead _ _ m _ _ _ hH) t ht).2
        have HW : Hid (wr = putRow (Value.int .u8) (Sort.ahead w m) blk off dj) := hw2
        have HG : Hid (∀ t, G t = dj[t]!) := hG
        have HI : Hid (insInner ltInt a j dj = insInner ltInt a i dk) := hI
        clear hw2 hG hI hH
        -- out of the inner loop: dj is what the inner loop makes of dk: the outer round's end
        have out : (j ≤ a ∨ ltInt dj[j]! dj[j - 1]! = false) → ∀ q, ∃ i' n' dk', Value.int .i64 ((i : Int) + 1) = .int .i64 (i' : Nat) ∧ a < i' ∧ i' ≤ b + 1 ∧ dk'.size = d.size ∧
            wr.drewN q = putRow (Value.int .u8) (Sort.ahead w n') blk off dk' ∧ insOuter ltInt a b i' dk' = insOuter ltInt a b (a + 1) d := fun hs q =>
          ⟨i + 1, m + q, dj, by go_num, by omega, by omega, hsj, by rw [HW.out]; exact putRow_drewN _ _ _ _ _ _ _,
            by rw [← HO.out, insOuter_go _ _ _ _ _ hlt, ← HI.out, insInner_stop _ _ _ _ hs]⟩
        have OUT : Hid _ := out
        clear out
        go_wp2
        by_cases hja : a < j
        · go_quiet (first | (go_at_call 51; refine Calls.quiet_of_same (less_calls _ _ _)))
          go_wp2
          · -- Less: the swap, j--
            have hl : ltInt (G j) (G (j - 1)) = true := by assumption
            go_region
            all_goals go_wp2
            go_roundw
            case rel =>
              refine ⟨j - 1, m + (nq + 1), swp dj j (j - 1), by congr 1; omega, by omega, by omega, by rw [size_swp]; exact hsj, ?_, ?_⟩
              · rw [HW.out, HG.out, HG.out]
                exact swap_worldA _ w m (nq + 1) blk off dj j (j - 1) (by omega) (by omega)
              · rw [← HI.out, insInner_go ltInt a j dj hja (by rw [← HG.out, ← HG.out]; exact hl)]
            case measure => simp [intOf]; omega
          · -- not Less
            have hl : ltInt (G j) (G (j - 1)) = false := by assumption
            go_roundw
            case rel => exact OUT.out (Or.inr (by rw [← HG.out, ← HG.out]; exact hl)) nq
            case measure => simp [intOf]; omega
        · go_quiet (first | (go_at_call 51; refine Calls.quiet_of_same (less_calls _ _ _)))
          go_wp2
          go_roundw
          case rel => exact OUT.out (Or.inl (by omega)) nq
          case measure => simp [intOf]; omega
    · -- the outer loop is at its end
      have hge : ¬ i < b := by assumption
      go_end0
      exact ⟨rfl, n, by unfold Sort.insertionSort; rw [← HO.out, insOuter_stop _ _ _ _ _ hge]⟩
abbrev u8C (b : UInt8) : C := .sc (.int .u8 (b.toNat : Int))
/-- a box of bytes, and room behind them -/
abbrev boxB (l : List UInt8) (m : Nat) : List C := l.map u8C ++ List.replicate m .any
abbrev sortB (l : List UInt8) : List UInt8 := l.mergeSort fun a b => decide (a ≤ b)
abbrev intsOf (l : List UInt8) : Array Int := (l.map fun b => (b.toNat : Int)).toArray
theorem sort_ints (l : List UInt8) : Sort.insertionSort ltInt (intsOf l) 0 l.length = intsOf (sortB l) := by
  obtain ⟨h1, h2⟩ := insertionSort_holds swo_ltInt (intsOf l) 0 l.length (Nat.zero_le _) (by simp)
  have hsz : (intsOf l).size = l.length := by simp
  rw [← hsz] at h1 h2 ⊢
  have h := sorted_unique_holds swo_ltInt (fun x y hx hy => by simp only [ltInt, decide_eq_false_iff_not] at hx hy; omega) _ _ h1 h2
  apply Array.toList_inj.1
  rw [h]
  show List.mergeSort (l.map fun b => (b.toNat : Int)) _ = (sortB l).map _
  rw [List.map_mergeSort (s := fun x y => !ltInt y x)]
  intro a _ b _
  simp only [ltInt]
  by_cases hab : a ≤ b
  · have : a.toNat ≤ b.toNat := hab
    simp [hab]; omega
  · have : ¬ a.toNat ≤ b.toNat := hab
    simp [hab]; omega
/-- a call that turns a box of bytes -/
theorem FunB.ofRow {P : Program} {G : Globs} {f : FuncId} {l l' : List UInt8} {m c : Nat} {rest : List C} {vr : List Value} (he : entersB P f = true) (hl : l'.length = l.length)
    (hrest : ∀ (R : Env) (L : Loc) vs, RepL R L rest vs → vs = vr)
    (h : ∀ (b : Nat) (w : World), Holds (Value.int .u8) w b 0 (intsOf l) → b < w.heap.size → Calls P f (.slice (some ⟨b, 0, none⟩) l.length c :: vr).toArray w fun e w' => e = .returned (.tuple #[]) ∧ ∃ n, w' = putRow (Value.int .u8) (Sort.ahead w n) b 0 (intsOf l')) :
    FunB P G f (.bs 0 0 1 l.length c :: rest) [boxB l m] 0 (.tup []) [boxB l' m] 0 := by
  refine ⟨he, Nat.le_refl _, fun R L vs hG hB hO hT hF hFT hvs => ?_⟩
  obtain ⟨v, us, rfl, hv, hus⟩ := repL_cons.1 hvs
  have := hrest _ _ _ hus
  subst this
  obtain ⟨b, hb, rfl⟩ := rep_bs.1 hv
  obtain ⟨bv, ty, e1, e2, e3, e4⟩ := hB.box 0 b (boxB l m) hb rfl
  have hlen := hB.len
  have hβ : L.β = [b] := by
    match hq : L.β, hlen with
    | [x], _ => rw [hq] at hb; simp at hb; rw [hb]
  have hvl := repL_length e2
  have hcell : ∀ j, j < l.length → bv[j]? = some (.int .u8 ((l.getD j 0).toNat : Int)) := fun j hj => by
    obtain ⟨v, h1, h2⟩ := repL_get e2 j (u8C (l.getD j 0)) (by
      show (l.map u8C ++ _)[j]? = _
      rw [List.getElem?_append_left (by simpa using hj), List.getElem?_map, List.getElem?_eq_getElem hj]
      simp [List.getD_eq_getElem?_getD, List.getElem?_eq_getElem hj])
    rw [rep_sc] at h2
    subst h2
    simpa using h1
  have hH : Holds (Value.int .u8) R.w b 0 (intsOf l) := fun j hj => by
    have hj' : j < l.length := by simpa using hj
    refine ⟨?_, frozen_of_row _ _ _ _ _ e1⟩
    rw [Nat.zero_add, cell_of_row R.w b j bv ty (0, 0) e1, hcell j hj']
    congr 2
    rw [getElem!_pos (intsOf l) j hj]
    simp [List.getD_eq_getElem?_getD, List.getElem?_eq_getElem hj']
  refine (h b R.w hH (heap_lt e1)).mono ?_
  rintro e w' ⟨rfl, n, rfl⟩
  have hheap : ∀ k, (putRow (Value.int .u8) (Sort.ahead R.w n) b 0 (intsOf l')).heap[k]? = if k = b then some (.cells (putCells (Value.int .u8) 0 (intsOf l') bv) ty (0, 0)) else R.w.heap[k]? := fun k => by
    simp only [putRow, mapBlock, Array.getElem?_modify, heap_ahead]
    by_cases hk : b = k
    · subst hk
      rw [if_pos rfl, if_pos rfl, e1]; rfl
    · rw [if_neg hk, if_neg (fun e => hk e.symm)]
  have hext : Ext R ⟨putRow (Value.int .u8) (Sort.ahead R.w n) b 0 (intsOf l'), R.M, R.F⟩ := ⟨fun b' o v hc hm => ⟨by
    have hne : b' ≠ b := fun e => hm (e ▸ e4 o)
    rw [World.cell?] at hc ⊢
    rw [hheap b', if_neg hne]; exact hc, hm⟩⟩
  have hsz := size_putRow (Value.int .u8) (Sort.ahead R.w n) b 0 (intsOf l')
  rw [heap_ahead] at hsz
  refine ⟨_, ⟨_, R.M, R.F⟩, L, rfl, rfl, ⟨rfl, rfl, rfl, Nat.le_of_eq hsz.symm, rfl, hext, fun k hk => ?_⟩, ⟨by simpa using hlen, hB.nodup, fun i b' cs hi hc => ?_⟩, ⟨fun id e k v ht => ?_, hO.apart⟩, ⟨[], by simp, fun b hb => by cases hb⟩, fun id _ => hT id (Nat.zero_le _), rep_tup.2 ⟨#[], rfl, repL_nil.2 rfl⟩⟩
  · by_cases hkb : k = b
    · subst hkb
      exact .inr ⟨.inr (.inl (List.mem_of_getElem? hb)), hFT _ (.inl (List.mem_of_getElem? hb)), _, _, _, e1⟩
    · exact .inl ⟨(hheap k).trans (if_neg hkb), fun o => Iff.rfl⟩
  · rw [hβ] at hi
    match i, hi, hc with
    | 0, hi, hc =>
      simp at hi hc
      subst hi hc
      have hps : (putCells (Value.int .u8) 0 (intsOf l') bv).size = bv.size := by simp [putCells]
      have hget : ∀ j, (putCells (Value.int .u8) 0 (intsOf l') bv)[j]? = (bv[j]?).map fun x => if j < l'.length then .int .u8 (((l'.getD j 0).toNat : Int)) else x := fun j => by
        simp only [putCells, Array.getElem?_mapIdx]
        cases bv[j]? with
        | none => rfl
        | some x =>
          simp only [Option.map_some, Option.some.injEq, Nat.zero_le, true_and, Nat.zero_add, Nat.sub_zero]
          by_cases hj : j < l'.length
          · rw [if_pos (by simpa using hj), if_pos hj, getElem!_pos (intsOf l') j (by simpa using hj)]
            simp [List.getD_eq_getElem?_getD, List.getElem?_eq_getElem hj]
          · rw [if_neg (by simpa using hj), if_neg hj]
      refine ⟨_, ty, (hheap _).trans (if_pos rfl), repL_of_get ?_ fun j c v hc hv => ?_, fun v hv => ?_, e4⟩
      · simp [hps, hl] at hvl ⊢; omega
      · have hv : (putCells (Value.int .u8) 0 (intsOf l') bv)[j]? = some v := by simpa using hv
        rw [hget] at hv
        rcases Nat.lt_or_ge j l'.length with hj | hj
        · rw [List.getElem?_append_left (by simpa using hj), List.getElem?_map, List.getElem?_eq_getElem hj] at hc
          cases hc
          cases hq : bv[j]? with
          | none => rw [hq] at hv; cases hv
          | some x =>
            rw [hq] at hv
            simp only [Option.map_some, if_pos hj, Option.some.injEq] at hv
            rw [rep_sc, ← hv]
            simp [List.getD_eq_getElem?_getD, List.getElem?_eq_getElem hj]
        · rw [List.getElem?_append_right (by simpa using hj)] at hc
          rw [List.getElem?_replicate] at hc
          split at hc
          · cases hc; unfold Rep; trivial
          · cases hc
      · obtain ⟨j, hj, rfl⟩ := List.getElem_of_mem hv
        have hj' : j < (putCells (Value.int .u8) 0 (intsOf l') bv).size := by simpa using hj
        have := hget j
        rw [Array.getElem?_eq_getElem hj', Array.getElem?_eq_getElem (by omega)] at this
        simp only [Option.map_some, Option.some.injEq] at this
        simp only [Array.getElem_toList]
        rw [this]
        split
        · rfl
        · exact e3 _ (by simp)
  · rcases hO.own id e k v ht with q | ⟨g, n', cap, cur, q1, q2, q3, q4, q5, q6, q7, q8⟩
    · exact .inl q
    · rw [hT id (Nat.zero_le _)] at ht; cases ht
theorem ins_fun (l : List UInt8) (m c : Nat) (hl : l.length ≤ 12) : FunB Tryd.prog G0 45 [.bs 0 0 1 l.length c, .sc (.int .i64 0), .sc (.int .i64 l.length)] [boxB l m] 0 (.tup []) [boxB (sortB l) m] 0 := by
  refine FunB.ofRow (vr := [.int .i64 0, .int .i64 l.length]) rfl (by simp) (fun R L vs h => ?_) fun b w hH hb => ?_
  · obtain ⟨v, us, rfl, h1, h2⟩ := repL_cons.1 h
    obtain ⟨v2, us2, rfl, h3, h4⟩ := repL_cons.1 h2
    rw [rep_sc] at h1 h3; rw [repL_nil] at h4
    subst h1 h3 h4; rfl
  · have hsz : (intsOf l).size = l.length := by simp
    have h := ins_calls b 0 c 0 l.length (intsOf l) w hH (Nat.zero_le _) (by omega) (by omega)
    rw [hsz, sort_ints] at h
    exact h
end Go.Proofs.YtphiahlodjblcaaDoor.Vcg
