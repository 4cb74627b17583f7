/- What the proof of ShapeHas leans on, part 4: Slc0 Slc1 TabV Tab1 OpenG OpenT Tab2 TabR Snd1 Snd2 Snd3 Snd4 Snd5 PathN Ref1 Shelf Path1 Path2 Path3 Path4 May1 May2 May3 Path5 Ref3 Snd6 Snd7 Ref8 Wlk1 Wlk2 Tree1 Tree2 Tree3 Tree4 Tree5 Shp1. No condition beyond what each theorem states. -/
import Derived.Test.YtdmfififkcnecaaDoorShapeHasKc
import Derived.Lib.Overlaps
import Derived.Laws.Externs
import Derived.WalkKit
import Derived.ProofKit
import Derived.Deep.Slices
import Derived.Deep.Fields
import Derived.ChangeSame
import Derived.ChangeOld
import Derived.Lib.SmallJoins
import Derived.Test.YtdmfififkcnecaaDoorRows
import Derived.Shelf.Strings.Builder1
import Derived.Shelf.Strings.Builder2
import Derived.Shelf.Strings.OnBuilder
import Derived.Shelf.Small.Wraps
import Derived.Shelf.Strings.BuilderF
import Derived.Shelf.Strings.Search1
import Derived.Shelf.Strings.Search2
import Derived.Shelf.Strings.Search3
import Derived.Shelf.LaysM
import Derived.Shelf.Strings.Shaped
import Derived.Shelf.Strings.Prefix
import Derived.Shelf.Unicode.Decode
import Derived.Shelf.Unicode.DecodeSlow
import Derived.Shelf.Unicode.DecodeAny
import Derived.Ground.Names2Prog
import Derived.Shelf.Slices.SearchI
import Derived.Test.YtdmfififkcnecaaDoorProg
import Derived.Laws.Runes
import Derived.Laws.RangeString
import Derived.Deep.LoopGhost
import Derived.Lib.QuoteLoop
import Derived.Lib.IndexAny
section
set_option linter.unusedVariables false
set_option linter.unusedSimpArgs false
namespace Go.Proofs.YtdmfififkcnecaaDoor.Vcg
open Go.RowKit
/-- a cell that reads as itself wherever it lies, and leans on no box -/
def C.stayB : C → Bool
  | .sc _ | .str _ | .sl _ _ | .tight _ _ | .row _ | .any => true
  | _ => false
theorem stay_frz {c : C} (h : c.stayB = true) : c.frz = c := by cases c <;> simp [C.stayB] at h <;> simp [C.frz]
theorem stay_re {c : C} {fp fo : Nat → Option Nat} (h : c.stayB = true) : c.re fp fo = c := by cases c <;> simp [C.stayB] at h <;> simp [C.re]
theorem stay_dg {c : C} {id : Nat} (h : c.stayB = true) : c.dg id = c := by cases c <;> simp [C.stayB] at h <;> simp [C.dg]
theorem stay_sh {c : C} {n : Nat} (h : c.stayB = true) : c.sh n = c := by cases c <;> simp [C.stayB] at h <;> simp [C.sh]
theorem stay_le {c : C} {src : Src} {n : Nat} (h : c.stayB = true) : CLe src n c c := by cases c <;> simp [C.stayB] at h <;> simp [CLe]
theorem stays_frz : ∀ {cs : List C}, (cs.all C.stayB) = true → C.frzL cs = cs
  | [], _ => by simp [C.frzL]
  | c :: r, h => by
    simp only [List.all_cons, Bool.and_eq_true] at h
    rw [C.frzL, stay_frz h.1, stays_frz h.2]
theorem stays_re {fp fo : Nat → Option Nat} : ∀ {cs : List C}, (cs.all C.stayB) = true → C.reL fp fo cs = cs
  | [], _ => by simp [C.reL]
  | c :: r, h => by
    simp only [List.all_cons, Bool.and_eq_true] at h
    rw [C.reL, stay_re h.1, stays_re h.2]
theorem stays_dg {id : Nat} : ∀ {cs : List C}, (cs.all C.stayB) = true → C.dgL id cs = cs
  | [], _ => by simp [C.dgL]
  | c :: r, h => by
    simp only [List.all_cons, Bool.and_eq_true] at h
    rw [C.dgL, stay_dg h.1, stays_dg h.2]
theorem stays_le {src : Src} {n : Nat} : ∀ {cs : List C}, (cs.all C.stayB) = true → CLeL src n cs cs
  | [], _ => by simp [CLeL]
  | c :: r, h => by
    simp only [List.all_cons, Bool.and_eq_true] at h
    rw [CLeL]
    exact ⟨stay_le h.1, stays_le h.2⟩
theorem le_anyC {src : Src} {n : Nat} (c : C) : CLe src n c .any := by cases c <;> simp [CLe]
theorem le_anys {src : Src} {n : Nat} : ∀ {cs : List C} {m : Nat}, cs.length = m → CLeL src n cs (List.replicate m .any)
  | [], _, h => by subst h; simp [CLeL]
  | c :: r, _, h => by
    subst h
    rw [List.length_cons, List.replicate_succ, CLeL]
    exact ⟨le_anyC c, le_anys rfl⟩
theorem le_app {src : Src} {n : Nat} : ∀ {a b c d : List C}, CLeL src n a c → CLeL src n b d → CLeL src n (a ++ b) (c ++ d)
  | [], b, [], d, _, h => h
  | [], b, x :: c, d, h, _ => by simp [CLeL] at h
  | x :: a, b, [], d, h, _ => by simp [CLeL] at h
  | x :: a, b, y :: c, d, h, h' => by
    rw [List.cons_append, List.cons_append, CLeL]
    rw [CLeL] at h
    exact ⟨h.1, le_app h.2 h'⟩
/-- a list, in a box with room -/
def boxR (k : Nat) (rows : List (List C)) (c : Nat) : List C := rows.flatten ++ List.replicate ((c - rows.length) * k) .any
theorem flat_len {k : Nat} : ∀ {rows : List (List C)}, (∀ r ∈ rows, r.length = k) → rows.flatten.length = rows.length * k
  | [], _ => by simp
  | r :: rs, h => by
    rw [List.flatten_cons, List.length_append, h r List.mem_cons_self, flat_len fun x hx => h x (List.mem_cons_of_mem _ hx), List.length_cons, Nat.succ_mul, Nat.add_comm]
theorem boxR_len {k c : Nat} {rows : List (List C)} (h : ∀ r ∈ rows, r.length = k) (hc : rows.length ≤ c) : (boxR k rows c).length = c * k := by
  unfold boxR
  rw [List.length_append, flat_len h, List.length_replicate, ← Nat.add_mul]
  congr 1; omega
abbrev staysR (rows : List (List C)) : Prop := ∀ r ∈ rows, (r.all C.stayB) = true
theorem stays_flat {rows : List (List C)} (h : staysR rows) : (rows.flatten.all C.stayB) = true := by
  rw [List.all_eq_true]
  intro c hc
  obtain ⟨r, hr, hc⟩ := List.mem_flatten.1 hc
  exact List.all_eq_true.1 (h r hr) c hc
theorem stays_box {k c : Nat} {rows : List (List C)} (h : staysR rows) : ((boxR k rows c).all C.stayB) = true := by
  unfold boxR
  rw [List.all_append, stays_flat h, Bool.true_and, List.all_eq_true]
  intro c hc
  obtain ⟨_, rfl⟩ := List.mem_replicate.1 hc
  rfl
theorem take_flat {k n : Nat} : ∀ {rows : List (List C)}, (∀ r ∈ rows, r.length = k) → rows.flatten.take (n * k) = (rows.take n).flatten := by
  induction n with
  | zero => intro rows _; simp
  | succ n ih =>
    intro rows h
    cases rows with
    | nil => simp
    | cons r rs =>
      have hr := h r List.mem_cons_self
      rw [List.take_succ_cons, List.flatten_cons, List.flatten_cons, List.take_append, List.take_of_length_le (by rw [hr, Nat.succ_mul]; omega), hr, show (n + 1) * k - k = n * k by rw [Nat.succ_mul]; omega, ih fun x hx => h x (List.mem_cons_of_mem _ hx)]
theorem drop_flat {k n : Nat} : ∀ {rows : List (List C)}, (∀ r ∈ rows, r.length = k) → rows.flatten.drop (n * k) = (rows.drop n).flatten := by
  induction n with
  | zero => intro rows _; simp
  | succ n ih =>
    intro rows h
    cases rows with
    | nil => simp
    | cons r rs =>
      have hr := h r List.mem_cons_self
      rw [List.drop_succ_cons, List.flatten_cons, List.drop_append, List.drop_of_length_le (by rw [hr, Nat.succ_mul]; omega), hr, List.nil_append, show (n + 1) * k - k = n * k by rw [Nat.succ_mul]; omega, ih fun x hx => h x (List.mem_cons_of_mem _ hx)]
/-- what stands at a box's beginning is known: the box says at least this -/
theorem le_boxR {src : Src} {m k c : Nat} {rows : List (List C)} {cs : List C} (hk : ∀ r ∈ rows, r.length = k) (hs : staysR rows) (hc : rows.length ≤ c) (hl : cs.length = c * k) (ht : cs.take (rows.length * k) = rows.flatten) : CLeL src m cs (boxR k rows c) := by
  have h1 : cs = rows.flatten ++ cs.drop (rows.length * k) := by rw [← ht, List.take_append_drop]
  rw [h1]
  unfold boxR
  refine le_app (stays_le (stays_flat hs)) (le_anys ?_)
  rw [List.length_drop, hl, ← Nat.sub_mul]
theorem spl_len {cs xs : List C} {p : Nat} (h : p + xs.length ≤ cs.length) : (spl cs p xs).length = cs.length := by
  simp [spl]; omega
/-- put in by shifting what is behind -/
theorem spl_shift {cs L X : List C} {p q : Nat} (hp : p ≤ L.length) (hq : q = p + X.length) (hL : cs.take L.length = L) (hc : L.length + X.length ≤ cs.length) :
    (spl (spl cs q (L.drop p)) p X).take (L.length + X.length) = L.take p ++ (X ++ L.drop p) := by
  subst hq
  apply List.ext_getElem?
  intro j
  have hcur : ∀ j, j < L.length → cs[j]? = L[j]? := fun j hj => by
    have h := congrArg (fun l => l[j]?) hL
    simp only [List.getElem?_take, if_pos hj] at h
    exact h
  simp only [spl, List.getElem?_take, List.getElem?_append, List.getElem?_drop, List.length_take, List.length_append, List.length_drop]
  repeat' (first | split | omega)
  all_goals (first | rfl | omega | exact (List.getElem?_eq_none (by omega)).symm | (congr 1; omega) | (rw [hcur _ (by omega)]; first | done | (congr 1; omega)) | (symm; rw [List.getElem?_eq_none]; simp; omega) | (rw [List.getElem?_eq_none]; simp; omega) | skip)
/-- put in by copying into what is longer -/
theorem spl_grow {cs L X : List C} {p q : Nat} (hp : p ≤ L.length) (hq : q = p + X.length) (hL : cs.take p = L.take p) (hc : L.length + X.length ≤ cs.length) :
    (spl (spl cs p X) q (L.drop p)).take (L.length + X.length) = L.take p ++ (X ++ L.drop p) := by
  subst hq
  apply List.ext_getElem?
  intro j
  have hcur : ∀ j, j < p → cs[j]? = L[j]? := fun j hj => by
    have h := congrArg (fun l => l[j]?) hL
    simp only [List.getElem?_take, if_pos hj] at h
    exact h
  simp only [spl, List.getElem?_take, List.getElem?_append, List.getElem?_drop, List.length_take, List.length_append, List.length_drop]
  repeat' (first | split | omega)
  all_goals (first | rfl | omega | exact (List.getElem?_eq_none (by omega)).symm | (congr 1; omega) | (rw [hcur _ (by omega)]; first | done | (congr 1; omega)) | (symm; rw [List.getElem?_eq_none]; simp; omega) | (rw [List.getElem?_eq_none]; simp; omega) | skip)
/-- taken out by shifting what is behind -/
theorem spl_cut {cs L Z : List C} {p q n : Nat} (hq : q ≤ L.length) (hpq : p ≤ q) (hL : cs.take L.length = L) (hn : n = p + (L.length - q)) (hc : L.length ≤ cs.length) (hz : n + Z.length ≤ cs.length) :
    (spl (spl cs p (L.drop q)) n Z).take n = L.take p ++ L.drop q := by
  subst hn
  apply List.ext_getElem?
  intro j
  have hcur : ∀ j, j < L.length → cs[j]? = L[j]? := fun j hj => by
    have h := congrArg (fun l => l[j]?) hL
    simp only [List.getElem?_take, if_pos hj] at h
    exact h
  simp only [spl, List.getElem?_take, List.getElem?_append, List.getElem?_drop, List.length_take, List.length_append, List.length_drop]
  repeat' (first | split | omega)
  all_goals (first | rfl | omega | exact (List.getElem?_eq_none (by omega)).symm | (congr 1; omega) | (rw [hcur _ (by omega)]; first | done | (congr 1; omega)) | (symm; rw [List.getElem?_eq_none]; simp; omega) | (rw [List.getElem?_eq_none]; simp; omega) | skip)
/-- a slice of an owner's and one over a box don't overlap -/
theorem ovl_ext {P : Program} {f : FuncId} {fn : Func} {t e tR : TypeId} {s1 b1 k by' : Nat} {kd : LK} {z1 z : Option (List Value)} (hf : P.funcs[f]? = some fn) (hname : (fn.name == "runtime.NumGoroutine") = false) (hb : fn.body.isNone = true) (hn : Extern.findNext fn = none)
    (he : Extern.find fn = some (Extern.SlicesOverlaps.overlaps #[t, t] #[tR])) (hl : lay P t = some ⟨.slice e, s1, b1, z1⟩) (hle : lay P e = some ⟨kd, k, by', z⟩) {id e' k' i off n c : Nat} {rows bx : List (List C)} {cs : List C} (hbx : bx[i]? = some cs) (hcs : cs ≠ []) (hrows : rows ≠ []) (hn0 : 0 < n) :
    ExtC P f [.own id e' k' rows, .bs i off k n c] bx (.sc (.bool false)) := by
  intro B R L vs hB hO hr
  obtain ⟨v1, us, rfl, h1, hr⟩ := repL_cons.1 hr
  obtain ⟨v2, us, rfl, h2, hr⟩ := repL_cons.1 hr
  rw [repL_nil] at hr
  subst hr
  refine ⟨.bool false, ?_, rep_sc.2 rfl⟩
  rw [run_callFunc_extern hf hname hb hn he]
  have ht := lay_slice hl rfl
  have hz : ∀ w, (Go.sizeOf e).run P w = .ok k w := fun w => lay_sizeOf hle w
  obtain ⟨hT, a, cap, hv1, _⟩ := rep_own.1 h1
  obtain ⟨b, hbi, ad, rfl, had⟩ := rep_bs.1 h2
  obtain ⟨us, ty, e1, e2, e3, e4⟩ := hB.box i b cs hbi hbx
  have hsz : us.size ≠ 0 := by
    have := repL_length e2
    simp only [Array.length_toList] at this
    rw [this]
    exact fun h => hcs (List.eq_nil_of_length_eq_zero h)
  rcases hO.own id e' k' v1 hT with hnil | ⟨g, n', cap', cur, ty', q1, q2, q3, q4, q5, q6, q7, q8⟩ | ⟨_, _, _, _, hmap, _⟩
  rotate_right
  · rw [hv1] at hmap; unfold mapV at hmap; cases hmap
  · rw [hnil] at hv1
    obtain ⟨_, h0, _⟩ := Value.slice.inj hv1
    exact absurd (List.eq_nil_of_length_eq_zero h0.symm) hrows
  · rw [q1]
    obtain rfl := had (by omega)
    have hne : g ≠ b := fun h => q7 (h ▸ List.mem_of_getElem? hbi)
    rw [Lib.run_overlaps_apart R.w t tR e ht k hz ⟨g, 0, none⟩ ⟨b, off, none⟩ n' cap' n c hne ty' ty cur.size us.size (by simp [World.shape?, q3]) (by simp [World.shape?, e1]) hsz (frozen_of_row R.w g 0 _ _ q3) (frozen_of_row R.w g _ _ _ q3)]
    rfl
theorem rep_flat_len {m k : Nat} {z : List C} (hz : z.length = k) : (List.replicate m z).flatten.length = m * k := by
  have h := flat_len (k := k) (rows := List.replicate m z) fun r hr => by rw [(List.mem_replicate.1 hr).2]; exact hz
  rw [h, List.length_replicate]
section
variable {P : Program} {t tn e s1 b1 s2 b2 k by' m i off n cap nx lg : Nat} {kd : LK} {kn kq : IntKind} {z1 z2 z3 : Option (List Value)} {z : List Value} {cs xs : List C} {bx : List (List C)} {tm : List (Nat × C)} {d : C} {q : Int} {K3 : C → St → Prop}
/-- an append of zeros, what stands in the new box being told by what is needed of it -/
theorem appZ' (hl : lay P t = some ⟨.slice e, s1, b1, z1⟩) (hln : lay P tn = some ⟨.int kn, s2, b2, z2⟩) (hle : lay P e = some ⟨kd, k, by', some z⟩) (hz : z.length = k) (hk : 0 < k) (h1 : (z.all Value.oneCell') = true)
    (hb : bx[i]? = some cs) (hfit : off + cap * k ≤ cs.length) (hn : n ≤ cap) (hq : 0 < q) (h63 : (n : Int) + q ≤ 9223372036854775807) (hby : ((n : Int) + q) * by' ≤ 140737488355328) (hg : (cap : Int) < n + q)
    (hK : ∀ c' B, n + q.toNat ≤ c' → c' ≤ 9223372036854775807 → B.length = c' * k → B.take (n * k) = (cs.drop off).take (n * k) → K3 (.bs bx.length 0 k (n + q.toNat) c') ⟨tm, bx ++ [B], nx, lg⟩) : baAppZ P t tn (.bs i off k n cap) (.sc (.int kq q)) ⟨tm, bx, nx, lg⟩ K3 ⟨⟩ := by
  have hnk : n * k ≤ cap * k := Nat.mul_le_mul_right _ hn
  refine appZ hl hln hle hz hk h1 hb hfit hn hq h63 hby hg fun c' g1 g2 => hK c' _ g1 g2 ?_ ?_
  · rw [List.length_append, List.length_append, rep_flat_len (k := k) (by simpa using hz), List.length_replicate, List.length_take, List.length_drop, Nat.min_eq_left (by omega), ← Nat.add_mul, ← Nat.add_mul]
    congr 1; omega
  · rw [List.append_assoc, List.take_left' (by rw [List.length_take, List.length_drop]; omega)]
theorem copyB' (hl : lay P t = some ⟨.slice e, s1, b1, z1⟩) (hle : lay P e = some ⟨kd, k, by', z3⟩) (hx : d.xs? k bx = some (m, xs)) (hb : bx[i]? = some cs) (hxl : xs.length = m * k) (hfit : off + n * k ≤ cs.length)
    (hK : ∀ B, B = spl cs off (xs.take (min m n * k)) → B.length = cs.length → K3 (.sc (.int .i64 ((min m n : Nat) : Int))) ⟨tm, bx.set i B, nx, lg⟩) : baCopy P t (.bs i off k n cap) d ⟨tm, bx, nx, lg⟩ K3 ⟨⟩ :=
  copyB hl hle hx hb hxl hfit (hK _ rfl (by
    have h1 : min m n * k ≤ n * k := Nat.mul_le_mul_right _ (Nat.min_le_right _ _)
    exact spl_len (by rw [List.length_take]; omega)))
theorem clearB' (hl : lay P t = some ⟨.slice e, s1, b1, z1⟩) (hle : lay P e = some ⟨kd, k, by', some z⟩) (hb : bx[i]? = some cs) (hz : z.length = k) (hk : 0 < k) (h1 : (z.all Value.oneCell') = true) (hfit : off + n * k ≤ cs.length)
    (hK : ∀ B Z, B = spl cs off Z → Z.length = n * k → B.length = cs.length → K3 .any ⟨tm, bx.set i B, nx, lg⟩) : baClear P t (.bs i off k n cap) ⟨tm, bx, nx, lg⟩ K3 ⟨⟩ := by
  have hZ : (List.replicate n (z.map ofConst)).flatten.length = n * k := rep_flat_len (by simpa using hz)
  exact clearB hl hle hb hz hk h1 hfit (hK _ _ rfl hZ (spl_len (by omega)))
end
theorem xs_box {k i off n c : Nat} {bx : List (List C)} {cs : List C} (hb : bx[i]? = some cs) (h : off + n * k ≤ cs.length) : C.xs? k bx (.bs i off k n c) = some (n, (cs.drop off).take (n * k)) := by
  simp [C.xs?, hb, h]
theorem box_part {k c i : Nat} {rows : List (List C)} (hk : ∀ r ∈ rows, r.length = k) (hi : i ≤ rows.length) : ((boxR k rows c).drop (i * k)).take ((rows.length - i) * k) = rows.flatten.drop (i * k) := by
  have hf := flat_len hk
  have h1 : i * k ≤ rows.length * k := Nat.mul_le_mul_right _ hi
  unfold boxR
  rw [List.drop_append_of_le_length (by omega), List.take_left' (by rw [List.length_drop, hf, Nat.sub_mul])]
theorem ins_flat {k i : Nat} {rows : List (List C)} {x : List C} (hk : ∀ r ∈ rows, r.length = k) : rows.flatten.take (i * k) ++ (x ++ rows.flatten.drop (i * k)) = (rows.take i ++ x :: rows.drop i).flatten := by
  rw [take_flat hk, drop_flat hk]; simp
theorem frOk_one {bx : List (List C)} {i e k c : Nat} {rows : List (List C)} {cs : List C} (hb : bx[i]? = some cs) (hc : 0 < c) (h1 : rows.length ≤ c) (h2 : c ≤ 9223372036854775807) (hl : cs.length = c * k) (hk : ∀ r ∈ rows, r.length = k) (hs : (cs.all C.stayB) = true) (ht : cs.take (rows.length * k) = rows.flatten) :
    frOk [(i, e, k, rows, c)] bx := by
  refine ⟨by simp, fun x hx => ?_⟩
  rw [List.mem_singleton] at hx
  subst hx
  exact ⟨cs, hb, hc, h1, by unfold maxLen; exact h2, hl, hk, by rw [stays_frz hs]; exact ht⟩
theorem boxR_take {k c : Nat} {rows : List (List C)} (hk : ∀ r ∈ rows, r.length = k) : (boxR k rows c).take (rows.length * k) = rows.flatten := by
  unfold boxR; rw [List.take_left' (flat_len hk)]
theorem frOk_box {bx : List (List C)} {i e k c : Nat} {rows : List (List C)} (hb : bx[i]? = some (boxR k rows c)) (hc : 0 < c) (h1 : rows.length ≤ c) (h2 : c ≤ 9223372036854775807) (hk : ∀ r ∈ rows, r.length = k) (hs : staysR rows) : frOk [(i, e, k, rows, c)] bx :=
  frOk_one hb hc h1 h2 (boxR_len hk h1) hk (stays_box hs) (boxR_take hk)
/-- an element over another one -/
theorem boxR_set {k c i : Nat} {rows : List (List C)} {row : List C} (hk : ∀ r ∈ rows, r.length = k) (hr : row.length = k) (hi : i < rows.length) : (boxR k rows c).take (i * k) ++ row ++ (boxR k rows c).drop (i * k + k) = boxR k (rows.set i row) c := by
  have hf := flat_len hk
  have h1 : (i + 1) * k ≤ rows.length * k := Nat.mul_le_mul_right _ hi
  rw [Nat.succ_mul] at h1
  unfold boxR
  rw [List.take_append_of_le_length (by omega), List.drop_append_of_le_length (by omega), ← Nat.succ_mul, take_flat hk, drop_flat hk, List.length_set, ← List.append_assoc]
  congr 1
  rw [List.set_eq_take_append_cons_drop, if_pos hi]
  simp
/-- rows that say less -/
def RLe : List (List C) → List (List C) → Prop
  | [], [] => True
  | a :: r, b :: s => CLeL [] 0 a b ∧ RLe r s
  | _, _ => False
theorem RLe.len : ∀ {a b : List (List C)}, RLe a b → a.length = b.length
  | [], [], _ => rfl
  | _ :: r, _ :: s, h => by rw [List.length_cons, List.length_cons, RLe.len h.2]
theorem CLeL.len {src : Src} {n : Nat} : ∀ {a b : List C}, CLeL src n a b → a.length = b.length
  | [], [], _ => rfl
  | [], _ :: _, h => by simp [CLeL] at h
  | _ :: _, [], h => by simp [CLeL] at h
  | _ :: r, _ :: s, h => by
    rw [CLeL] at h
    rw [List.length_cons, List.length_cons, CLeL.len h.2]
theorem rep_less0 {R : Env} {c d : C} {v : Value} (h : CLe [] 0 c d) (hr : Rep R noLoc c v) : Rep R noLoc d v := by
  refine Rep.ext (Ext.refl R) (T := lessLoc [] 0 noLoc) ⟨fun i b hb => ?_, fun id x hx => ?_⟩ _ _ (Rep.less _ _ _ h hr)
  · simp at hb
  · have hx : srcT [] noLoc.T id = some x := hx
    simp [srcT] at hx
theorem repCells_le {R : Env} {b : Nat} : ∀ {cs ds : List C} {o : Nat}, CLeL [] 0 cs ds → RepCells R cs b o → RepCells R ds b o
  | [], [], _, _, h => h
  | [], _ :: _, _, h, _ => by simp [CLeL] at h
  | _ :: _, [], _, h, _ => by simp [CLeL] at h
  | c :: r, d :: s, o, h, hr => by
    rw [CLeL] at h
    obtain ⟨⟨v, h1, h2, h3, h4⟩, h5⟩ := repCells_cons.1 hr
    exact repCells_cons.2 ⟨⟨v, h1, h2, rep_less0 h.1 h3, h4⟩, repCells_le h.2 h5⟩
theorem repRows_le {R : Env} {k b : Nat} : ∀ {a c : List (List C)} {o : Nat}, RLe a c → RepRows R a k b o → RepRows R c k b o
  | [], [], _, _, h => h
  | x :: r, y :: s, o, h, hr => by
    unfold RepRows at hr ⊢
    exact ⟨(CLeL.len h.1).symm.trans hr.1, repCells_le h.1 hr.2.1, repRows_le h.2 hr.2.2⟩
theorem rep_own_le {R : Env} {L : Loc} {id e k : Nat} {a c : List (List C)} {v : Value} (h : RLe a c) (hr : Rep R L (.own id e k a) v) : Rep R L (.own id e k c) v := by
  obtain ⟨h1, ad, cap, h2, h3, h4, h5⟩ := rep_own.1 hr
  refine rep_own.2 ⟨h1, ad, cap, by rw [h2, h.len], by rw [← h.len]; exact h3, h4, ?_⟩
  rcases h5 with h5 | ⟨b, o, h5, h6⟩
  · subst h5
    have := h.len
    exact .inl (List.eq_nil_of_length_eq_zero (by simpa using this.symm))
  · exact .inr ⟨b, o, h5, repRows_le h h6⟩
/-- an answer that says less -/
theorem Fun.res {P : Program} {G : Globs} {f : FuncId} {args : List C} {r r' : C} {n : Nat} (hf : Fun P G f args r n) (h : ∀ R L v, Rep R L r v → Rep R L r' v) : Fun P G f args r' n :=
  ⟨hf.1, fun R vs hg ha => (hf.2 R vs hg ha).mono fun e w' ⟨v, R', L', h1, h2, h3, h4⟩ => ⟨v, R', L', h1, h2, h3, h _ _ _ h4⟩⟩
theorem rep_agg_le {R : Env} {L : Loc} {cs ds : List C} {v : Value} (h : ∀ vs, RepL R L cs vs → RepL R L ds vs) (hr : Rep R L (.agg cs) v) : Rep R L (.agg ds) v := by
  obtain ⟨vs, h1, h2⟩ := rep_agg.1 hr
  exact rep_agg.2 ⟨vs, h1, h _ h2⟩
theorem rep_tup_le {R : Env} {L : Loc} {cs ds : List C} {v : Value} (h : ∀ vs, RepL R L cs vs → RepL R L ds vs) (hr : Rep R L (.tup cs) v) : Rep R L (.tup ds) v := by
  obtain ⟨vs, h1, h2⟩ := rep_tup.1 hr
  exact rep_tup.2 ⟨vs, h1, h _ h2⟩
theorem repL_head_le {R : Env} {L : Loc} {c d : C} {cs ds : List C} {vs : List Value} (h : ∀ v, Rep R L c v → Rep R L d v) (h' : ∀ vs, RepL R L cs vs → RepL R L ds vs) (hr : RepL R L (c :: cs) vs) : RepL R L (d :: ds) vs := by
  obtain ⟨v, us, rfl, h1, h2⟩ := repL_cons.1 hr
  exact repL_cons.2 ⟨v, us, rfl, h _ h1, h' _ h2⟩
end Go.Proofs.YtdmfififkcnecaaDoor.Vcg
end
section
set_option linter.unusedVariables false
set_option maxRecDepth 20000
set_option linter.unusedSimpArgs false
namespace Go.Proofs.YtdmfififkcnecaaDoor.Vcg
open Go.RowKit
/-- what Clone answers: a box of its own, or nothing -/
def cloneP (k : Nat) (rows : List (List C)) (r : C) (bx' : List (List C)) (n : Nat) : Prop :=
  n = 0 ∧ ((rows ≠ [] ∧ ∃ c, rows.length ≤ c ∧ c ≤ 9223372036854775807 ∧ r = .bs 1 0 k rows.length c ∧ bx' = [[], boxR k rows c]) ∨ (rows = [] ∧ (r = .sc (.slice none 0 0) ∧ bx' = [] ∨ r = .bs 0 0 k 0 0 ∧ bx' = [[]])))
/-- what Insert answers: the box, or a new one -/
def insP (k m : Nat) (ins : List (List C)) (r : C) (bx' : List (List C)) (n : Nat) : Prop :=
  n = 0 ∧ ∃ c, ins.length ≤ c ∧ c ≤ 9223372036854775807 ∧ (r = .bs 0 0 k ins.length c ∧ bx' = [boxR k ins c] ∨ r = .bs 1 0 k ins.length c ∧ bx' = [List.replicate m .any, boxR k ins c])
section
variable {G : Globs}
end
end Go.Proofs.YtdmfififkcnecaaDoor.Vcg
end
section
set_option linter.unusedVariables false
namespace Go.Proofs.YtdmfififkcnecaaDoor.Vcg
structure EntV where
  name : List UInt8
  ino : Int
deriving DecidableEq, Inhabited
structure NodV where
  ino : Int
  kind : Int
  links : Int
  data : List UInt8
  parent : Int
  es : List EntV
deriving DecidableEq, Inhabited
/-- do the inodes rise? -/
def Rises (xs : List NodV) : Prop := xs.Pairwise fun a b => a.ino < b.ino
/-- the table with x, without n, the inode of n -/
def hasV (n : Int) (xs : List NodV) : Bool := xs.any fun x => x.ino == n
def rankV (n : Int) (xs : List NodV) : Nat := (xs.filter fun x => decide (x.ino < n)).length
def dropV (n : Int) (xs : List NodV) : List NodV := xs.filter fun x => x.ino != n
def getV (n : Int) (xs : List NodV) : Option NodV := xs.find? fun x => x.ino == n
def putV (x : NodV) : List NodV → List NodV
  | [] => [x]
  | y :: r => if x.ino < y.ino then x :: y :: r else y :: putV x r
def setV (x : NodV) (xs : List NodV) : List NodV := putV x (dropV x.ino xs)
theorem rank_at (n : Int) : ∀ (xs : List NodV) (i : Nat), i ≤ xs.length → (∀ t (h : t < xs.length), t < i → xs[t].ino < n) → (∀ t (h : t < xs.length), i ≤ t → n ≤ xs[t].ino) → rankV n xs = i
  | [], i, h, _, _ => by simp at h; simp [rankV, h]
  | x :: r, 0, _, _, h2 => by
    have hx : n ≤ x.ino := h2 0 (by simp) (Nat.le_refl _)
    have ih := rank_at n r 0 (Nat.zero_le _) (fun t h h' => absurd h' (Nat.not_lt_zero _)) (fun t h _ => h2 (t + 1) (by simp; omega) (Nat.zero_le _))
    unfold rankV at ih ⊢
    rw [List.filter_cons_of_neg (by simp; omega)]
    exact ih
  | x :: r, i + 1, h, h1, h2 => by
    have hx : x.ino < n := h1 0 (by simp) (Nat.succ_pos _)
    have ih := rank_at n r i (by simpa using h) (fun t h h' => h1 (t + 1) (by simp; omega) (by omega)) (fun t h h' => h2 (t + 1) (by simp; omega) (by omega))
    unfold rankV at ih ⊢
    rw [List.filter_cons_of_pos (by simp; omega), List.length_cons, ih]
theorem has_at (n : Int) (xs : List NodV) (i : Nat) (hi : i < xs.length) (h1 : ∀ t (h : t < xs.length), t < i → xs[t].ino < n) (h2 : n ≤ xs[i].ino) (hR : Rises xs) : hasV n xs = decide (xs[i].ino = n) := by
  by_cases h : xs[i].ino = n
  · rw [decide_eq_true h]
    exact List.any_eq_true.2 ⟨xs[i], List.getElem_mem hi, by simp [h]⟩
  · rw [decide_eq_false h]
    apply Bool.eq_false_iff.2
    intro hh
    obtain ⟨y, hy, e⟩ := List.any_eq_true.1 hh
    obtain ⟨t, ht, rfl⟩ := List.getElem_of_mem hy
    have e : xs[t].ino = n := by simpa using e
    rcases Nat.lt_trichotomy t i with h3 | h3 | h3
    · have := h1 t ht h3; omega
    · subst h3; exact h e
    · have := (List.pairwise_iff_getElem.1 hR) i t hi ht h3; omega
theorem has_end (n : Int) (xs : List NodV) (h1 : ∀ t (h : t < xs.length), xs[t].ino < n) : hasV n xs = false := by
  apply Bool.eq_false_iff.2
  intro hh
  obtain ⟨y, hy, e⟩ := List.any_eq_true.1 hh
  obtain ⟨t, ht, rfl⟩ := List.getElem_of_mem hy
  have e : xs[t].ino = n := by simpa using e
  have := h1 t ht
  omega
theorem get_none {n : Int} {xs : List NodV} (h : hasV n xs = false) : getV n xs = none := by
  unfold getV hasV at *
  rw [List.find?_eq_none]
  intro x hx hh
  rw [List.any_eq_false] at h
  exact h x hx hh
theorem rank_parts (n : Int) (xs : List NodV) (hR : Rises xs) : ∃ i, i ≤ xs.length ∧ (∀ t (h : t < xs.length), t < i → xs[t].ino < n) ∧ (∀ t (h : t < xs.length), i ≤ t → n ≤ xs[t].ino) := by
  induction xs with
  | nil => exact ⟨0, Nat.le_refl _, fun t h => absurd h (Nat.not_lt_zero _), fun t h => absurd h (Nat.not_lt_zero _)⟩
  | cons x r ih =>
    by_cases hx : x.ino < n
    · obtain ⟨i, h1, h2, h3⟩ := ih (List.pairwise_cons.1 hR).2
      refine ⟨i + 1, by simp; omega, fun t h ht => ?_, fun t h ht => ?_⟩
      · cases t with
        | zero => exact hx
        | succ t => exact h2 t (by simpa using h) (by omega)
      · cases t with
        | zero => omega
        | succ t => exact h3 t (by simpa using h) (by omega)
    · refine ⟨0, Nat.zero_le _, fun t h ht => absurd ht (Nat.not_lt_zero _), fun t h _ => ?_⟩
      cases t with
      | zero => simp; omega
      | succ t =>
        have := (List.pairwise_cons.1 hR).1 (r[t]'(by simpa using h)) (List.getElem_mem _)
        simp; omega
theorem rank_le (n : Int) (xs : List NodV) : rankV n xs ≤ xs.length := List.length_filter_le _ _
theorem rank_lt {n : Int} {xs : List NodV} (hR : Rises xs) : (∀ t (h : t < xs.length), t < rankV n xs → xs[t].ino < n) ∧ (∀ t (h : t < xs.length), rankV n xs ≤ t → n ≤ xs[t].ino) := by
  obtain ⟨i, h1, h2, h3⟩ := rank_parts n xs hR
  rw [rank_at n xs i h1 h2 h3]
  exact ⟨h2, h3⟩
theorem has_rank {n : Int} {xs : List NodV} (hR : Rises xs) (h : hasV n xs = true) : ∃ hlt : rankV n xs < xs.length, xs[rankV n xs].ino = n := by
  obtain ⟨h2, h3⟩ := rank_lt (n := n) hR
  by_cases hlt : rankV n xs < xs.length
  · refine ⟨hlt, ?_⟩
    have := has_at n xs _ hlt h2 (h3 _ hlt (Nat.le_refl _)) hR
    rw [h] at this
    exact of_decide_eq_true this.symm
  · have := has_end n xs (fun t h => h2 t h (by omega))
    rw [h] at this; cases this
theorem get_rank {n : Int} {xs : List NodV} (hR : Rises xs) (h : hasV n xs = true) : ∃ hlt : rankV n xs < xs.length, getV n xs = some xs[rankV n xs] := by
  obtain ⟨hlt, he⟩ := has_rank hR h
  refine ⟨hlt, ?_⟩
  obtain ⟨h2, h3⟩ := rank_lt (n := n) hR
  unfold getV
  rw [List.find?_eq_some_iff_getElem]
  exact ⟨by simp [he], _, hlt, rfl, fun j hj => by have := h2 j (by omega) hj; simp; omega⟩
theorem rises_cons {y : NodV} {r : List NodV} : Rises (y :: r) ↔ (∀ z ∈ r, y.ino < z.ino) ∧ Rises r := List.pairwise_cons
theorem rank_cons_lt {n : Int} {y : NodV} {r : List NodV} (h : y.ino < n) : rankV n (y :: r) = rankV n r + 1 := by
  unfold rankV
  rw [List.filter_cons_of_pos (by simpa using h), List.length_cons]
theorem rank_zero {n : Int} {xs : List NodV} (h : ∀ z ∈ xs, n ≤ z.ino) : rankV n xs = 0 := by
  unfold rankV
  rw [List.length_eq_zero_iff, List.filter_eq_nil_iff]
  intro z hz
  have := h z hz
  simp; omega
theorem drop_not {n : Int} {xs : List NodV} (h : hasV n xs = false) : dropV n xs = xs := by
  unfold dropV
  rw [List.filter_eq_self]
  intro z hz
  unfold hasV at h
  rw [List.any_eq_false] at h
  have := h z hz
  simpa using this
theorem has_cons_lt {n : Int} {y : NodV} {r : List NodV} (h : y.ino < n) : hasV n (y :: r) = hasV n r := by
  unfold hasV
  rw [List.any_cons, show (y.ino == n) = false by rw [beq_eq_false_iff_ne]; omega, Bool.false_or]
theorem has_big {n : Int} {xs : List NodV} (h : ∀ z ∈ xs, n < z.ino) : hasV n xs = false := by
  unfold hasV
  rw [List.any_eq_false]
  intro z hz
  have := h z hz
  simp; omega
theorem drop_cons_ne {n : Int} {y : NodV} {r : List NodV} (h : y.ino ≠ n) : dropV n (y :: r) = y :: dropV n r := by
  unfold dropV
  rw [List.filter_cons_of_pos (by simpa using h)]
theorem drop_cons_eq {n : Int} {y : NodV} {r : List NodV} (h : y.ino = n) : dropV n (y :: r) = dropV n r := by
  unfold dropV
  rw [List.filter_cons_of_neg (by simpa using h)]
theorem drop_has {n : Int} : ∀ {xs : List NodV}, Rises xs → hasV n xs = true → xs.take (rankV n xs) ++ xs.drop (rankV n xs + 1) = dropV n xs
  | [], _, h => by cases h
  | y :: r, hR, h => by
    obtain ⟨h1, h2⟩ := rises_cons.1 hR
    by_cases hy : y.ino < n
    · rw [rank_cons_lt hy, List.take_succ_cons, List.drop_succ_cons, List.cons_append, drop_has h2 (by rwa [has_cons_lt hy] at h), drop_cons_ne (by omega)]
    · have hr0 : rankV n (y :: r) = 0 := rank_zero fun z hz => by
        rcases List.mem_cons.1 hz with rfl | hz
        · omega
        · have := h1 z hz; omega
      by_cases he : y.ino = n
      · rw [hr0, drop_cons_eq he, drop_not (has_big fun z hz => by have := h1 z hz; omega)]; rfl
      · exfalso
        rw [has_big fun z hz => by
          rcases List.mem_cons.1 hz with rfl | hz
          · omega
          · have := h1 z hz; omega] at h
        cases h
theorem put_lt {x y : NodV} {r : List NodV} (h : y.ino < x.ino) : putV x (y :: r) = y :: putV x r := by
  rw [putV, if_neg (by omega)]
theorem put_ge {x : NodV} {xs : List NodV} (h : ∀ z ∈ xs, x.ino < z.ino) : putV x xs = x :: xs := by
  cases xs with
  | nil => rfl
  | cons y r => rw [putV, if_pos (h y List.mem_cons_self)]
theorem set_cons_lt {x y : NodV} {r : List NodV} (h : y.ino < x.ino) : setV x (y :: r) = y :: setV x r := by
  unfold setV
  rw [drop_cons_ne (by omega), put_lt h]
theorem set_has {x : NodV} : ∀ {xs : List NodV}, Rises xs → hasV x.ino xs = true → xs.set (rankV x.ino xs) x = setV x xs
  | [], _, h => by cases h
  | y :: r, hR, h => by
    obtain ⟨h1, h2⟩ := rises_cons.1 hR
    by_cases hy : y.ino < x.ino
    · rw [rank_cons_lt hy, List.set_cons_succ, set_has h2 (by rwa [has_cons_lt hy] at h), set_cons_lt hy]
    · have hr0 : rankV x.ino (y :: r) = 0 := rank_zero fun z hz => by
        rcases List.mem_cons.1 hz with rfl | hz
        · omega
        · have := h1 z hz; omega
      by_cases he : y.ino = x.ino
      · unfold setV
        rw [hr0, drop_cons_eq he, drop_not (has_big fun z hz => by have := h1 z hz; omega), put_ge fun z hz => by have := h1 z hz; omega]; rfl
      · exfalso
        rw [has_big fun z hz => by
          rcases List.mem_cons.1 hz with rfl | hz
          · omega
          · have := h1 z hz; omega] at h
        cases h
theorem set_not {x : NodV} : ∀ {xs : List NodV}, Rises xs → hasV x.ino xs = false → xs.take (rankV x.ino xs) ++ x :: xs.drop (rankV x.ino xs) = setV x xs
  | [], _, _ => rfl
  | y :: r, hR, h => by
    obtain ⟨h1, h2⟩ := rises_cons.1 hR
    by_cases hy : y.ino < x.ino
    · rw [rank_cons_lt hy, List.take_succ_cons, List.drop_succ_cons, List.cons_append, set_not h2 (by rwa [has_cons_lt hy] at h), set_cons_lt hy]
    · have hne : y.ino ≠ x.ino := by
        intro e
        unfold hasV at h
        rw [List.any_cons, e] at h
        simp at h
      have hr0 : rankV x.ino (y :: r) = 0 := rank_zero fun z hz => by
        rcases List.mem_cons.1 hz with rfl | hz
        · omega
        · have := h1 z hz; omega
      unfold setV
      rw [hr0, drop_not h, put_ge fun z hz => by
        rcases List.mem_cons.1 hz with rfl | hz
        · omega
        · have := h1 z hz; omega]
      rfl
theorem drop_sub {n : Int} {xs : List NodV} : ∀ x ∈ dropV n xs, x ∈ xs := fun x h => (List.mem_filter.1 h).1
theorem put_mem {x : NodV} : ∀ {xs : List NodV} {z : NodV}, z ∈ putV x xs ↔ z = x ∨ z ∈ xs
  | [], z => by simp [putV]
  | y :: r, z => by
    rw [putV]
    split
    · simp
    · rw [List.mem_cons, put_mem, List.mem_cons]
      constructor
      · rintro (h | h | h) <;> simp [h]
      · rintro (h | h | h) <;> simp [h]
theorem set_mem {x : NodV} {xs : List NodV} {z : NodV} (h : z ∈ setV x xs) : z = x ∨ z ∈ xs := by
  rcases put_mem.1 h with h | h
  · exact .inl h
  · exact .inr (drop_sub _ h)
theorem drop_rises {n : Int} {xs : List NodV} (h : Rises xs) : Rises (dropV n xs) := List.Pairwise.filter _ h
theorem put_rises {x : NodV} : ∀ {xs : List NodV}, Rises xs → (∀ z ∈ xs, z.ino ≠ x.ino) → Rises (putV x xs)
  | [], _, _ => by simp [putV, Rises]
  | y :: r, h, hne => by
    obtain ⟨h1, h2⟩ := rises_cons.1 h
    have hy := hne y List.mem_cons_self
    rw [putV]
    split
    · next hlt =>
      refine rises_cons.2 ⟨fun z hz => ?_, h⟩
      rcases List.mem_cons.1 hz with rfl | hz
      · exact hlt
      · have := h1 z hz; omega
    · next hlt =>
      refine rises_cons.2 ⟨fun z hz => ?_, put_rises h2 fun z hz => hne z (List.mem_cons_of_mem _ hz)⟩
      rcases put_mem.1 hz with rfl | hz
      · omega
      · exact h1 z hz
theorem set_rises {x : NodV} {xs : List NodV} (h : Rises xs) : Rises (setV x xs) := put_rises (drop_rises h) fun z hz => by
  have := (List.mem_filter.1 hz).2
  simpa using this
theorem put_len {x : NodV} : ∀ {xs : List NodV}, (putV x xs).length = xs.length + 1
  | [] => rfl
  | y :: r => by
    rw [putV]
    split
    · rfl
    · rw [List.length_cons, put_len, List.length_cons]
theorem drop_len {n : Int} {xs : List NodV} : (dropV n xs).length ≤ xs.length := List.length_filter_le _ _
theorem set_len {x : NodV} {xs : List NodV} : (setV x xs).length ≤ xs.length + 1 := by
  unfold setV
  rw [put_len]
  have := drop_len (n := x.ino) (xs := xs)
  omega
end Go.Proofs.YtdmfififkcnecaaDoor.Vcg
end
section
set_option linter.unusedVariables false
set_option maxRecDepth 20000
set_option linter.unusedSimpArgs false
namespace Go.Proofs.YtdmfififkcnecaaDoor.Vcg
open Go.RowKit
abbrev iC (n : Int) : C := .sc (.int .i64 n)
abbrev bC (b : Bool) : C := .sc (.bool b)
abbrev entC (e : EntV) : List C := [.str e.name, .sc (.int .i64 e.ino)]
abbrev entsC (es : List EntV) : List (List C) := es.map entC
abbrev nodC (x : NodV) : List C := [.sc (.int .i64 x.ino), .sc (.int .i64 x.kind), .sc (.int .i64 x.links), .str x.data, .sc (.int .i64 x.parent), .sl 2 (entsC x.es)]
abbrev nodsC (xs : List NodV) : List (List C) := xs.map nodC
structure FsV where
  maxI : Int
  maxB : Int
  next : Int
  xs : List NodV
deriving DecidableEq, Inhabited
abbrev fsC (f : FsV) : List C := [.sc (.int .i64 f.maxI), .sc (.int .i64 f.maxB), .sc (.int .i64 f.next), .sl 6 (nodsC f.xs)]
theorem nods_at (xs : List NodV) (i : Nat) (h : i < xs.length) : (nodsC xs)[i]? = some (nodC xs[i]) := by simp [List.getElem?_map, List.getElem?_eq_getElem h]
theorem ents_at (xs : List EntV) (i : Nat) (h : i < xs.length) : (entsC xs)[i]? = some (entC xs[i]) := by simp [List.getElem?_map, List.getElem?_eq_getElem h]
def zNod : NodV := ⟨0, 0, 0, [], 0, []⟩
def gotV (n : Int) (xs : List NodV) : NodV := (getV n xs).getD zNod
def cmpV (a b : Int) : Int := if a < b then -1 else if b < a then 1 else 0
section
variable {G : Globs}
theorem nan_fun (a : Int) : Fun Tryd.prog G 54 [.sc (.int .i64 a)] (.sc (.bool false)) 0 := by
  refine Fun.of (fun _ => []) (by kernel_rfl) Tryd.func54 rfl rfl (Nat.le_of_ble_eq_true rfl) (by kernel_rfl) ?_; dsimp only [Tryd.f54, List.append_eq, List.cons_append, List.nil_append]
  simp -dsimp only [push_cast, seval]
  exact ⟨[], rfl, rfl, by simp -dsimp only [WeakTm, WeakBx, CLe, CLeL, push_cast, seval]⟩
theorem cmp_fun (a b : Int) : Fun Tryd.prog G 45 [.sc (.int .i64 a), .sc (.int .i64 b)] (.sc (.int .i64 (cmpV a b))) 0 := by
  refine Fun.of (fun _ => []) (by kernel_rfl) Tryd.func45 rfl rfl (Nat.le_of_ble_eq_true rfl) (by kernel_rfl) ?_; dsimp only [Tryd.f45, List.append_eq, List.cons_append, List.nil_append]
  simp -dsimp only [push_cast, seval]
  (first | refine call (nan_fun a) ?_ | refine callP (nan_fun a) ?_); simp -dsimp only [push_cast, seval]
  (first | refine call (nan_fun b) ?_ | refine callP (nan_fun b) ?_); simp -dsimp only [push_cast, seval]
  refine br (fun h => ?_) (fun h => ?_)
  · have h := of_decide_eq_true h
    simp -dsimp only [push_cast, seval]
    exact ⟨[], rfl, rfl, by (simp -dsimp only [WeakTm, WeakBx, CLe, CLeL, push_cast, seval]; simp [cmpV, h])⟩
  · have h := of_decide_eq_false h
    simp -dsimp only [push_cast, seval]
    refine br (fun h1 => ?_) (fun h1 => ?_)
    · have h1 := of_decide_eq_true h1
      simp -dsimp only [push_cast, seval]
      exact ⟨[], rfl, rfl, by (simp -dsimp only [WeakTm, WeakBx, CLe, CLeL, push_cast, seval]; simp [cmpV, h, h1])⟩
    · have h1 := of_decide_eq_false h1
      simp -dsimp only [push_cast, seval]
      exact ⟨[], rfl, rfl, by (simp -dsimp only [WeakTm, WeakBx, CLe, CLeL, push_cast, seval]; simp [cmpV, h, h1])⟩
theorem at1_fun (x : NodV) (n : Int) : Fun Tryd.prog G 44 [.agg (nodC x), .sc (.int .i64 n)] (.sc (.int .i64 (cmpV x.ino n))) 0 := by
  refine Fun.of (fun _ => []) (by kernel_rfl) Tryd.func44 rfl rfl (Nat.le_of_ble_eq_true rfl) (by kernel_rfl) ?_; dsimp only [Tryd.f44, List.append_eq, List.cons_append, List.nil_append]
  simp -dsimp only [push_cast, seval]
  (first | refine call (cmp_fun x.ino n) ?_ | refine callP (cmp_fun x.ino n) ?_); simp -dsimp only [push_cast, seval]
  exact ⟨[], rfl, rfl, by simp -dsimp only [WeakTm, WeakBx, CLe, CLeL, push_cast, seval]⟩
theorem bsearch_fun (xs : List NodV) (n : Int) (hl : xs.length ≤ 100000) (hR : Rises xs) :
    Fun Tryd.prog G 43 [.sl 6 (nodsC xs), .sc (.int .i64 n), .clo (.func 44) [] []] (.tup [.sc (.int .i64 (rankV n xs : Nat)), .sc (.bool (hasV n xs))]) 0 := by
  refine Fun.of (fun _ => []) (by kernel_rfl) Tryd.func43 rfl rfl (Nat.le_of_ble_eq_true rfl) (by kernel_rfl) ?_; dsimp only [Tryd.f43, List.append_eq, List.cons_append, List.nil_append]
  simp -dsimp only [push_cast, seval]
  refine loop (fun p : Nat × Nat => ⟨[(0, .sl 6 (nodsC xs)), (1, .sc (.int .i64 n)), (2, .clo (.func 44) [] []), (8, .sc (.int .i64 (xs.length : Nat))), (9, .sc (.int .i64 p.1)), (10, .sc (.int .i64 p.2))], [], 0, 0⟩)
    (fun p => p.1 ≤ p.2 ∧ p.2 ≤ xs.length ∧ (∀ t (h : t < xs.length), t < p.1 → xs[t].ino < n) ∧ ∀ t (h : t < xs.length), p.2 ≤ t → n ≤ xs[t].ino) (fun p => p.2 - p.1) (0, xs.length) ⟨Nat.zero_le _, Nat.le_refl _, fun t _ h => by (simp at h), fun t h h' => by (dsimp only at h'; omega)⟩ ?_ ?_
  · exact Weak.mk [] rfl rfl (Nat.le_refl _) rfl (by simp -dsimp only [WeakTm, WeakBx, CLe, CLeL, push_cast, seval, List.length_map]) (by simp -dsimp only [WeakTm, WeakBx, CLe, CLeL, push_cast, seval])
  · rintro ⟨i, j⟩ ⟨h1, h2, h3, h4⟩
    dsimp only at h1 h2 h3 h4 ⊢
    by_cases h : i < j
    · obtain ⟨m, hm⟩ : ∃ m, m = (i + j) / 2 := ⟨_, rfl⟩
      have hmi : ((i : Int) + (j : Int)) / 2 = (m : Int) := by omega
      have hml : m < xs.length := by omega
      have hat := nods_at xs m hml
      simp -dsimp only [push_cast, seval, h, hmi, hat]
      (try simp only [List.length_append, List.length_cons, List.length_nil, List.length_map, List.length_take, List.length_drop]); repeat (refine And.intro (by omega) ?_)
      (first | refine call (at1_fun xs[m] n) ?_ | refine callP (at1_fun xs[m] n) ?_); simp -dsimp only [push_cast, seval]
      by_cases hc : xs[m].ino < n
      · have hcv : cmpV xs[m].ino n = -1 := by simp [cmpV, hc]
        simp -dsimp only [push_cast, seval, hcv]
        (try simp only [List.length_append, List.length_cons, List.length_nil, List.length_map, List.length_take, List.length_drop]); repeat (refine And.intro (by omega) ?_)
        refine ⟨(m + 1, j), ⟨by omega, h2, fun t ht hlt => ?_, h4⟩, by dsimp only; omega, Weak.mk [] rfl rfl (Nat.le_refl _) rfl (by simp -dsimp only [WeakTm, WeakBx, CLe, CLeL, push_cast, seval]) (by simp -dsimp only [WeakTm, WeakBx, CLe, CLeL, push_cast, seval])⟩
        dsimp only at hlt
        rcases Nat.lt_or_ge t m with q | q
        · have := (List.pairwise_iff_getElem.1 hR) t m ht hml q; omega
        · have : t = m := by omega
          subst this; exact hc
      · have hcv : (cmpV xs[m].ino n < 0) = False := eq_false (by unfold cmpV; rw [if_neg hc]; split <;> omega)
        simp -dsimp only [push_cast, seval, hcv]
        (try simp only [List.length_append, List.length_cons, List.length_nil, List.length_map, List.length_take, List.length_drop]); repeat (refine And.intro (by omega) ?_)
        refine ⟨(i, m), ⟨by omega, by omega, h3, fun t ht hge => ?_⟩, by dsimp only; omega, Weak.mk [] rfl rfl (Nat.le_refl _) rfl (by simp -dsimp only [WeakTm, WeakBx, CLe, CLeL, push_cast, seval]) (by simp -dsimp only [WeakTm, WeakBx, CLe, CLeL, push_cast, seval])⟩
        dsimp only at hge
        rcases Nat.lt_or_ge m t with q | q
        · have := (List.pairwise_iff_getElem.1 hR) m t hml ht q; omega
        · have : t = m := by omega
          subst this; omega
    · have hij : i = j := by omega
      subst hij
      have hrk := rank_at n xs i h2 h3 h4
      simp -dsimp only [push_cast, seval, h]
      refine br (fun hx => ?_) (fun hx => ?_)
      · have hx : i < xs.length := by simpa using hx
        have hat := nods_at xs i hx
        have hh := has_at n xs i hx h3 (h4 i hx (Nat.le_refl _)) hR
        simp -dsimp only [push_cast, seval, hx, hat]
        (try simp only [List.length_append, List.length_cons, List.length_nil, List.length_map, List.length_take, List.length_drop]); repeat (refine And.intro (by omega) ?_)
        (first | refine call (at1_fun xs[i] n) ?_ | refine callP (at1_fun xs[i] n) ?_); simp -dsimp only [push_cast, seval]
        have hcv : decide (cmpV xs[i].ino n = 0) = hasV n xs := by
          rw [hh]
          have := h4 i hx (Nat.le_refl _)
          unfold cmpV
          rw [if_neg (by omega)]
          split
          · rw [decide_eq_false (by omega), decide_eq_false (by omega)]
          · rw [decide_eq_true (by rfl), decide_eq_true (by omega)]
        simp -dsimp only [push_cast, seval, hcv]
        exact ⟨[], rfl, rfl, by simp -dsimp only [WeakTm, WeakBx, CLe, CLeL, push_cast, seval, hrk]⟩
      · have hx : ¬ i < xs.length := by simpa using hx
        have hh := has_end n xs fun t ht => h3 t ht (by omega)
        simp -dsimp only [push_cast, seval, hx]
        exact ⟨[], rfl, rfl, by simp -dsimp only [WeakTm, WeakBx, CLe, CLeL, push_cast, seval, hrk, hh]⟩
theorem at_fun (f : FsV) (n : Int) (hl : f.xs.length ≤ 100000) (hR : Rises f.xs) : Fun Tryd.prog G 33 [.agg (fsC f), .sc (.int .i64 n)] (.tup [.sc (.int .i64 (rankV n f.xs : Nat)), .sc (.bool (hasV n f.xs))]) 0 := by
  refine Fun.of (fun _ => []) (by kernel_rfl) Tryd.func33 rfl rfl (Nat.le_of_ble_eq_true rfl) (by kernel_rfl) ?_; dsimp only [Tryd.f33, List.append_eq, List.cons_append, List.nil_append]
  simp -dsimp only [push_cast, seval]
  (first | refine call (bsearch_fun f.xs n hl hR) ?_ | refine callP (bsearch_fun f.xs n hl hR) ?_); simp -dsimp only [push_cast, seval]
  exact ⟨[], rfl, rfl, by simp -dsimp only [WeakTm, WeakBx, CLe, CLeL, push_cast, seval]⟩
end
end Go.Proofs.YtdmfififkcnecaaDoor.Vcg
end
section
set_option linter.unusedVariables false
namespace Go.Proofs.YtdmfififkcnecaaDoor.Vcg
open Go.RowKit Go.ChangeMaps Go.ChangeShapes Go.WideShapes Go.Deep Go.Joins
/-- the call's world: all of it stays -/
def env0 (W : World) : Env := ⟨W, fun _ _ => False, fun _ => False⟩
theorem Fun.answers {P : Program} {G : Globs} {f : FuncId} {args : List C} {u : Value} {n : Nat} (h : Fun P G f args (.sc u) n) {W : World} {vs : List Value} (hg : GlobOk G (env0 W)) (ha : RepL (env0 W) noLoc args vs) :
    Calls P f vs.toArray W fun e w' => e = .returned u ∧ Below W.heap.size W w' := by
  refine (h.2 (env0 W) vs hg ha).mono ?_
  rintro e w' ⟨v, R', L', rfl, rfl, st, hr⟩
  rw [rep_sc] at hr
  subst hr
  exact ⟨rfl, st.below⟩
theorem globOk_any {G : Globs} (h : ∀ g, G g = none) (R : Env) : GlobOk G R := fun g cs hc => by rw [h] at hc; cases hc
section
variable {H : Type} {enc : TypeId × Value → H} {P : Program} {W : World}
/-- one cell that reads at type t is opened as a C of which Q holds -/
def Opn (enc : TypeId × Value → H) (P : Program) (W : World) (t : TypeId) (Q : C → Prop) : Prop :=
  ∀ (fuel : Nat) (cs : List Value) (x : DataW H × List MemPlace), DataW.trod enc P W 0 (fun _ => true) true fuel t cs = some x → ∃ v c, cs = [v] ∧ Q c ∧ Rep (env0 W) noLoc c v ∧ v.oneCell' = true
/-- the same of k cells -/
def OpnRow (enc : TypeId × Value → H) (P : Program) (W : World) (t : TypeId) (k : Nat) (Q : List C → Prop) : Prop :=
  ∀ (fuel : Nat) (cs : List Value) (x : DataW H × List MemPlace), DataW.trod enc P W 0 (fun _ => true) true fuel t cs = some x →
    ∃ row, Q row ∧ row.length = k ∧ cs.length = k ∧ ∀ (j : Nat) c v, row[j]? = some c → cs[j]? = some v → Rep (env0 W) noLoc c v ∧ v.oneCell' = true
theorem Opn.int {t : TypeId} {k : IntKind} (ht : P.underlying t = some (.int k)) : Opn enc P W t fun c => ∃ n, c = .sc (.int k n) ∧ (Lit.int k n).wf = true := fun fuel cs x h => by
  obtain ⟨n, rfl, _, hw⟩ := DataW.trod_int ht h
  exact ⟨_, _, rfl, ⟨n, rfl, hw⟩, rep_sc.2 rfl, rfl⟩
theorem Opn.bool {t : TypeId} (ht : P.underlying t = some .bool) : Opn enc P W t fun c => ∃ b, c = .sc (.bool b) := fun fuel cs x h => by
  obtain ⟨n, rfl, _⟩ := DataW.trod_bool ht h
  exact ⟨_, _, rfl, ⟨n, rfl⟩, rep_sc.2 rfl, rfl⟩
theorem Opn.str {t : TypeId} (ht : P.underlying t = some .string) : Opn enc P W t fun c => ∃ l : List UInt8, c = .str l ∧ l.length ≤ maxLen := fun fuel cs x h => by
  obtain ⟨s, rfl, _, hs⟩ := DataW.trod_string ht h
  exact ⟨_, _, rfl, ⟨s.data.toList, rfl, by rw [Array.length_toList]; exact hs⟩, rep_str.2 (by cases s; simp), rfl⟩
theorem OpnRow.one {t : TypeId} {Q : C → Prop} (h : Opn enc P W t Q) : OpnRow enc P W t 1 fun row => ∃ c, row = [c] ∧ Q c := fun fuel cs x hx => by
  obtain ⟨v, c, rfl, hq, hr, ho⟩ := h fuel cs x hx
  refine ⟨[c], ⟨c, rfl, hq⟩, rfl, rfl, fun j c' v' h1 h2 => ?_⟩
  cases j with
  | zero => cases h1; cases h2; exact ⟨hr, ho⟩
  | succ j => cases h1
theorem list_of_opn {α : Type} {Q : Nat → α → Prop} : ∀ n : Nat, (∀ i, i < n → ∃ x, Q i x) → ∃ l : List α, l.length = n ∧ ∀ i (h : i < l.length), Q i l[i]
  | 0, _ => ⟨[], rfl, fun i h => absurd h (Nat.not_lt_zero _)⟩
  | n + 1, h => by
    obtain ⟨l, hl, hq⟩ := list_of_opn n fun i hi => h i (by omega)
    obtain ⟨x, hx⟩ := h n (by omega)
    refine ⟨l ++ [x], by simp [hl], fun i hi => ?_⟩
    rcases Nat.lt_or_ge i n with h1 | h1
    · rw [List.getElem_append_left (by omega)]; exact hq i (by omega)
    · have : i = n := by simp [hl] at hi; omega
      subst this
      rw [List.getElem_append_right (by omega)]
      simpa [hl] using hx
theorem OpnRow.struct {t : TypeId} {fs : Array Field} {Qs : Nat → C → Prop} (hs : P.underlying t = some (.struct fs)) (hone : oneCellFields P fs = true) (hC : P.cellsOf t = fs.size)
    (h : ∀ (j : Nat) f, fs[j]? = some f → Opn enc P W f.type (Qs j)) : OpnRow enc P W t fs.size fun row => row.length = fs.size ∧ ∀ (j : Nat) c, row[j]? = some c → Qs j c := fun fuel cs x hx => by
  obtain ⟨ys, n', hn', hy, hlen, hyl, hf⟩ := DataW.trod_struct hs hx
  rw [hC] at hlen
  obtain ⟨row, hl, hq⟩ := list_of_opn (Q := fun j (c : C) => Qs j c ∧ ∃ v, cs[j]? = some v ∧ Rep (env0 W) noLoc c v ∧ v.oneCell' = true) fs.size (fun j hj => by
    have hfj : fs[j]? = some fs[j] := Array.getElem?_eq_getElem hj
    obtain ⟨ho, hk⟩ := hone_of hone j _ hfj
    have h1 := hf j _ hfj
    rw [ho, hk] at h1
    have hone' : (cs.drop j).take 1 = [cs[j]'(by omega)] := by
      rw [List.drop_eq_getElem_cons (by omega)]
      rfl
    rw [hone', List.getElem?_eq_getElem (by omega)] at h1
    obtain ⟨v, c, e, hq, hr, hoc⟩ := h j _ hfj _ _ _ h1
    cases e
    exact ⟨c, hq, _, List.getElem?_eq_getElem (by omega), hr, hoc⟩)
  refine ⟨row, ⟨hl, fun j c hj => ?_⟩, hl, hlen, fun j c v h1 h2 => ?_⟩
  · obtain ⟨hj', rfl⟩ := List.getElem?_eq_some_iff.1 hj
    exact (hq j hj').1
  · obtain ⟨hj', rfl⟩ := List.getElem?_eq_some_iff.1 h1
    obtain ⟨_, v', e, hr, ho⟩ := hq j hj'
    rw [h2] at e; cases e
    exact ⟨hr, ho⟩
theorem Opn.slice {t e : TypeId} {k : Nat} {Q : List C → Prop} (ht : P.underlying t = some (.slice e)) (hC : P.cellsOf e = k) (hk : 0 < k) (h : OpnRow enc P W e k Q) : Opn enc P W t fun c => ∃ rows, c = .sl k rows ∧ rows.length ≤ maxLen ∧ ∀ r ∈ rows, Q r := fun fuel cs x hx => by
  rcases open_slice ht hx with h0 | ⟨a, len, cap, m, n, D, Pl, hcs, hb, hl, hm, hmm, hx, hi⟩
  · exact ⟨_, .sl k [], h0.1, ⟨[], rfl, Nat.zero_le _, fun r hr => by cases hr⟩, rep_sl.2 ⟨none, 0, rfl, Nat.le_refl _, Nat.zero_le _, .inl rfl⟩, rfl⟩
  · simp only [if_true] at hmm
    subst hmm
    obtain ⟨rows, hrl, hq⟩ := list_of_opn (Q := fun i (row : List C) => Q row ∧ row.length = k ∧ ∀ (j : Nat) c, row[j]? = some c → ∃ v, W.cell? (a.add (i * k + j)) = some v ∧ Rep (env0 W) noLoc c v ∧ v.oneCell' = true) len (fun i hlt => by
      obtain ⟨cs', hc, ht'⟩ := hi i (by omega)
      rw [hC] at hc
      obtain ⟨row, hq, hl1, hl2, hr⟩ := h _ _ _ ht'
      obtain ⟨_, hcl, hat⟩ := World.cells?_some hc
      refine ⟨row, hq, hl1, fun j c hj => ?_⟩
      have hjl : j < k := by have := (List.getElem?_eq_some_iff.1 hj).1; omega
      have hv : cs'[j]? = some (cs'[j]'(by omega)) := List.getElem?_eq_getElem (by omega)
      obtain ⟨hr1, hr2⟩ := hr j c _ hj hv
      refine ⟨_, ?_, hr1, hr2⟩
      rw [← Go.Deep.add_add, hat j hjl, hv])
    refine ⟨_, .sl k rows, hcs, ⟨rows, rfl, by omega, fun r hr => ?_⟩, ?_, rfl⟩
    · obtain ⟨i, hi', rfl⟩ := List.getElem_of_mem hr
      exact (hq i hi').1
    · refine rep_sl.2 ⟨some a, m, by rw [hrl], by omega, by omega, ?_⟩
      by_cases h0 : rows = []
      · exact .inl h0
      · have hpos : 0 < rows.length := List.length_pos_iff.2 h0
        obtain ⟨b, off, spot⟩ := a
        obtain ⟨_, hl0, h00⟩ := hq 0 hpos
        obtain ⟨v0, hc0, _⟩ := h00 0 ((rows[0]'hpos)[0]'(by omega)) (List.getElem?_eq_getElem _)
        have hspot : spot = none := by simpa [Addr.add] using World.cell?_spot hc0
        subst hspot
        refine .inr ⟨b, off, rfl, repRows_of_get fun i row hrow => ?_⟩
        obtain ⟨hi', rfl⟩ := List.getElem?_eq_some_iff.1 hrow
        obtain ⟨_, hlr, hcr⟩ := hq i hi'
        refine ⟨hlr, repCells_of_get fun j c hj => ?_⟩
        obtain ⟨v, h1, h2, h3⟩ := hcr j c hj
        rw [Addr.add_lit] at h1
        exact ⟨v, by rw [Nat.add_assoc]; exact h1, fun hf => hf, h2, h3⟩
/-- an argument of one cell -/
theorem Opn.arg {r : Reach} {b0 : Nat} {t : TypeId} {Q : C → Prop} {v : Value} {d : DataW H} {p : List MemPlace} (h : Opn enc P W t Q) (hv : v.cells = #[v]) (hd : DataW.Trod enc P W 0 (fun _ => true) true t v d p) : ∃ c, Q c ∧ Rep (env0 W) noLoc c v := by
  obtain ⟨fuel, hf⟩ := hd
  rw [hv] at hf
  obtain ⟨v', c, e, hq, hr, _⟩ := h _ _ _ hf
  cases e
  exact ⟨c, hq, hr⟩
/-- an argument that is a struct -/
theorem OpnRow.arg {r : Reach} {b0 : Nat} {t : TypeId} {fs : Array Field} {k : Nat} {Q : List C → Prop} {v : Value} {d : DataW H} {p : List MemPlace} (h : OpnRow enc P W t k Q) (hs : P.underlying t = some (.struct fs)) (hval : Value.okWide P W r b0 t v)
    (hd : DataW.Trod enc P W 0 (fun _ => true) true t v d p) : ∃ row, Q row ∧ Rep (env0 W) noLoc (.agg row) v := by
  obtain ⟨cs, rfl, hsz⟩ := okWide_struct hs hval
  obtain ⟨fuel, hf⟩ := hd
  obtain ⟨row, hq, h1, h2, hr⟩ := h _ _ _ hf
  refine ⟨row, hq, rep_agg.2 ⟨cs, rfl, repL_of_get ?_ fun i c v hc hv => (hr i c v hc hv).1⟩⟩
  have : cs.toList.length = k := h2
  omega
end
end Go.Proofs.YtdmfififkcnecaaDoor.Vcg
end
section
set_option linter.unusedVariables false
namespace Go.Proofs.YtdmfififkcnecaaDoor.Vcg
open Go.RowKit Go.ChangeMaps Go.ChangeShapes Go.WideShapes Go.Deep Go.Joins
theorem rows_of {α : Type} {f : α → List C} {q : α → Prop} : ∀ {rows : List (List C)}, (∀ r ∈ rows, ∃ a, r = f a ∧ q a) → ∃ xs : List α, rows = xs.map f ∧ ∀ x ∈ xs, q x
  | [], _ => ⟨[], rfl, fun x h => by cases h⟩
  | r :: rows, h => by
    obtain ⟨xs, rfl, hq⟩ := rows_of fun r' hr => h r' (List.mem_cons_of_mem _ hr)
    obtain ⟨o, rfl, ho⟩ := h r List.mem_cons_self
    exact ⟨o :: xs, rfl, fun x hx => by
      rcases List.mem_cons.1 hx with rfl | hx
      · exact ho
      · exact hq x hx⟩
section
variable {H : Type} {enc : TypeId × Value → H} {W : World}
theorem opn_u8s : Opn enc Tryd.prog W 92 fun c => ∃ xs : List UInt8, c = .sl 1 (bytesC xs) ∧ xs.length ≤ maxLen := fun fuel cs x hx => by
  obtain ⟨v, c, rfl, ⟨rows, rfl, hl, hr⟩, h1, h2⟩ := Opn.slice (W := W) (enc := enc) Tryd.underlying92 (show Tryd.prog.cellsOf 5 = 1 by kernel_rfl) (Nat.zero_lt_one) (OpnRow.one (Opn.int Tryd.underlying5)) fuel cs x hx
  obtain ⟨xs, rfl, _⟩ := rows_of (f := fun b : UInt8 => [C.sc (.int .u8 (b.toNat : Int))]) (q := fun _ => True) (rows := rows) fun r hr' => by
    obtain ⟨c, rfl, n, rfl, hw⟩ := hr r hr'
    have hb : 0 ≤ n ∧ n ≤ 255 := by simpa [Lit.wf, IntKind.min, IntKind.max, IntKind.signed, IntKind.bits] using hw
    refine ⟨UInt8.ofNat n.toNat, ?_, trivial⟩
    rw [UInt8.toNat_ofNat_of_lt' (by show _ < 256; omega), Int.toNat_of_nonneg hb.1]
  exact ⟨v, _, rfl, ⟨xs, rfl, by simpa using hl⟩, h1, h2⟩
theorem opn_ent : OpnRow enc Tryd.prog W 52 2 fun row => ∃ o : EntV, row = entC o ∧ o.name.length ≤ maxLen := fun fuel cs x hx => by
  obtain ⟨row, ⟨hl, hq⟩, h1, h2, h3⟩ := OpnRow.struct (W := W) (enc := enc) (Qs := fun j c => match j with | 0 => ∃ l : List UInt8, c = .str l ∧ l.length ≤ maxLen | 1 => ∃ n, c = .sc (.int .i64 n) ∧ (Lit.int .i64 n).wf = true | _ => True) Tryd.underlying52 (by kernel_rfl) (by kernel_rfl) (fun j f hj => by
    match j, hj with
    | 0, hj => cases hj; exact Opn.str Tryd.underlying9
    | 1, hj => cases hj; exact Opn.int Tryd.underlying3
    | j + 2, hj => simp at hj) fuel cs x hx
  match row, h1, hq, h3 with
  | [c0, c1], _, hq, h3 =>
    obtain ⟨a, rfl, ha⟩ := hq 0 c0 rfl
    obtain ⟨k, rfl, _⟩ := hq 1 c1 rfl
    exact ⟨_, ⟨⟨a, k⟩, rfl, ha⟩, rfl, h2, h3⟩
theorem opn_ents : Opn enc Tryd.prog W 31 fun c => ∃ xs : List EntV, c = .sl 2 (entsC xs) ∧ xs.length ≤ maxLen ∧ ∀ x ∈ xs, x.name.length ≤ maxLen := fun fuel cs x hx => by
  obtain ⟨v, c, rfl, ⟨rows, rfl, hl, hr⟩, h1, h2⟩ := Opn.slice (W := W) (enc := enc) Tryd.underlying31 (show Tryd.prog.cellsOf 52 = 2 by kernel_rfl) (by decide) opn_ent fuel cs x hx
  obtain ⟨xs, rfl, hq⟩ := rows_of hr
  exact ⟨v, _, rfl, ⟨xs, rfl, by simpa using hl, hq⟩, h1, h2⟩
/-- what is known of an inode that is handed in -/
def nodOk (x : NodV) : Prop := x.data.length ≤ maxLen ∧ x.es.length ≤ maxLen ∧ ∀ e ∈ x.es, e.name.length ≤ maxLen
theorem opn_inode : OpnRow enc Tryd.prog W 33 6 fun row => ∃ o : NodV, row = nodC o ∧ nodOk o := fun fuel cs x hx => by
  obtain ⟨row, ⟨hl, hq⟩, h1, h2, h3⟩ := OpnRow.struct (W := W) (enc := enc) (Qs := fun j c => match j with | 0 => ∃ n, c = .sc (.int .i64 n) ∧ (Lit.int .i64 n).wf = true | 1 => ∃ n, c = .sc (.int .i64 n) ∧ (Lit.int .i64 n).wf = true | 2 => ∃ n, c = .sc (.int .i64 n) ∧ (Lit.int .i64 n).wf = true | 3 => ∃ l : List UInt8, c = .str l ∧ l.length ≤ maxLen | 4 => ∃ n, c = .sc (.int .i64 n) ∧ (Lit.int .i64 n).wf = true | 5 => ∃ xs : List EntV, c = .sl 2 (entsC xs) ∧ xs.length ≤ maxLen ∧ ∀ x ∈ xs, x.name.length ≤ maxLen | _ => True) Tryd.underlying33 (by kernel_rfl) (by kernel_rfl) (fun j f hj => by
    match j, hj with
    | 0, hj => cases hj; exact Opn.int Tryd.underlying3
    | 1, hj => cases hj; exact Opn.int Tryd.underlying3
    | 2, hj => cases hj; exact Opn.int Tryd.underlying3
    | 3, hj => cases hj; exact Opn.str Tryd.underlying9
    | 4, hj => cases hj; exact Opn.int Tryd.underlying3
    | 5, hj => cases hj; exact opn_ents
    | j + 6, hj => simp at hj) fuel cs x hx
  match row, h1, hq, h3 with
  | [c0, c1, c2, c3, c4, c5], _, hq, h3 =>
    obtain ⟨a, rfl, _⟩ := hq 0 c0 rfl
    obtain ⟨b, rfl, _⟩ := hq 1 c1 rfl
    obtain ⟨c, rfl, _⟩ := hq 2 c2 rfl
    obtain ⟨d, rfl, hd⟩ := hq 3 c3 rfl
    obtain ⟨e, rfl, _⟩ := hq 4 c4 rfl
    obtain ⟨f, rfl, hf⟩ := hq 5 c5 rfl
    exact ⟨_, ⟨⟨a, b, c, d, e, f⟩, rfl, hd, hf⟩, rfl, h2, h3⟩
theorem opn_nods : Opn enc Tryd.prog W 22 fun c => ∃ xs : List NodV, c = .sl 6 (nodsC xs) ∧ xs.length ≤ maxLen ∧ ∀ x ∈ xs, nodOk x := fun fuel cs x hx => by
  obtain ⟨v, c, rfl, ⟨rows, rfl, hl, hr⟩, h1, h2⟩ := Opn.slice (W := W) (enc := enc) Tryd.underlying22 (show Tryd.prog.cellsOf 33 = 6 by kernel_rfl) (by decide) opn_inode fuel cs x hx
  obtain ⟨xs, rfl, hq⟩ := rows_of hr
  exact ⟨v, _, rfl, ⟨xs, rfl, by simpa using hl, hq⟩, h1, h2⟩
theorem opn_fs : OpnRow enc Tryd.prog W 24 4 fun row => ∃ f : FsV, row = fsC f ∧ f.xs.length ≤ maxLen ∧ ∀ x ∈ f.xs, nodOk x := fun fuel cs x hx => by
  obtain ⟨row, ⟨hl, hq⟩, h1, h2, h3⟩ := OpnRow.struct (W := W) (enc := enc) (Qs := fun j c => match j with | 0 => ∃ n, c = .sc (.int .i64 n) ∧ (Lit.int .i64 n).wf = true | 1 => ∃ n, c = .sc (.int .i64 n) ∧ (Lit.int .i64 n).wf = true | 2 => ∃ n, c = .sc (.int .i64 n) ∧ (Lit.int .i64 n).wf = true | 3 => ∃ xs : List NodV, c = .sl 6 (nodsC xs) ∧ xs.length ≤ maxLen ∧ ∀ x ∈ xs, nodOk x | _ => True) Tryd.underlying24 (by kernel_rfl) (by kernel_rfl) (fun j f hj => by
    match j, hj with
    | 0, hj => cases hj; exact Opn.int Tryd.underlying3
    | 1, hj => cases hj; exact Opn.int Tryd.underlying3
    | 2, hj => cases hj; exact Opn.int Tryd.underlying3
    | 3, hj => cases hj; exact opn_nods
    | j + 4, hj => simp at hj) fuel cs x hx
  match row, h1, hq, h3 with
  | [c0, c1, c2, c3], _, hq, h3 =>
    obtain ⟨a, rfl, _⟩ := hq 0 c0 rfl
    obtain ⟨b, rfl, _⟩ := hq 1 c1 rfl
    obtain ⟨c, rfl, _⟩ := hq 2 c2 rfl
    obtain ⟨d, rfl, hd⟩ := hq 3 c3 rfl
    exact ⟨_, ⟨⟨a, b, c, d⟩, rfl, hd⟩, rfl, h2, h3⟩
end
end Go.Proofs.YtdmfififkcnecaaDoor.Vcg
end
section
set_option linter.unusedVariables false
set_option maxRecDepth 20000
set_option linter.unusedSimpArgs false
namespace Go.Proofs.YtdmfififkcnecaaDoor.Vcg
open Go.RowKit
section
variable {G : Globs}
theorem get_fun (f : FsV) (n : Int) (hl : f.xs.length ≤ 100000) (hR : Rises f.xs) : Fun Tryd.prog G 19 [.agg (fsC f), .sc (.int .i64 n)] (.tup [.agg (nodC (gotV n f.xs)), .sc (.bool (hasV n f.xs))]) 0 := by
  refine Fun.of (fun _ => []) (by kernel_rfl) Tryd.func19 rfl rfl (Nat.le_of_ble_eq_true rfl) (by kernel_rfl) ?_; dsimp only [Tryd.f19, List.append_eq, List.cons_append, List.nil_append]
  simp -dsimp only [push_cast, seval]
  (first | refine call (at_fun f n hl hR) ?_ | refine callP (at_fun f n hl hR) ?_); simp -dsimp only [push_cast, seval]
  cases hh : hasV n f.xs with
  | false =>
    have hg : gotV n f.xs = zNod := by unfold gotV; rw [get_none hh]; rfl
    simp -dsimp only [push_cast, seval, hh]
    exact ⟨[], rfl, rfl, by simp -dsimp only [WeakTm, WeakBx, CLe, CLeL, push_cast, seval, hg, zNod]⟩
  | true =>
    obtain ⟨hlt, hg⟩ := get_rank hR hh
    have hg : gotV n f.xs = f.xs[rankV n f.xs] := by unfold gotV; rw [hg]; rfl
    have hat := nods_at f.xs _ hlt
    simp -dsimp only [push_cast, seval, hh, hat]
    (try simp only [List.length_append, List.length_cons, List.length_nil, List.length_map, List.length_take, List.length_drop]); repeat (refine And.intro (by omega) ?_)
    exact ⟨[], rfl, rfl, by simp -dsimp only [WeakTm, WeakBx, CLe, CLeL, push_cast, seval, hg]⟩
theorem nods_len {xs : List NodV} : ∀ r ∈ nodsC xs, r.length = 6 := fun r hr => by
  obtain ⟨x, _, rfl⟩ := List.mem_map.1 hr; rfl
theorem nods_stay {xs : List NodV} : staysR (nodsC xs) := fun r hr => by
  obtain ⟨x, _, rfl⟩ := List.mem_map.1 hr; rfl
theorem rep_root {R : Env} {L : Loc} {id e : Nat} {v : Value} (h : Rep R L (.own id e 6 [[.sc (.int .i64 1), .sc (.int .i64 2), .sc (.int .i64 0), .str [], .sc (.int .i64 1), .sc (.slice none 0 0)]]) v) : Rep R L (.own id e 6 (nodsC [⟨1, 2, 0, [], 1, []⟩])) v :=
  rep_own_le (by simp [RLe, CLeL, CLe]) h
theorem take_succ_eq {α : Type} {a b : List α} {i : Nat} (ha : i < a.length) (hb : i < b.length) (h : a.take i = b.take i) : (a.take (i + 1) = b.take (i + 1)) ↔ a[i] = b[i] := by
  rw [List.take_add_one, List.take_add_one, h, List.append_right_inj, List.getElem?_eq_getElem ha, List.getElem?_eq_getElem hb]
  simp
theorem ent_eq (a b : EntV) : (decide (a.name = b.name) && decide (a.ino = b.ino)) = decide (a = b) := by
  cases a; cases b; simp
theorem nod_eq (a b : NodV) : a = b ↔ a.ino = b.ino ∧ a.kind = b.kind ∧ a.links = b.links ∧ a.data = b.data ∧ a.parent = b.parent ∧ a.es = b.es := by
  cases a; cases b; simp
theorem fs_eq (a b : FsV) : a = b ↔ a.maxI = b.maxI ∧ a.maxB = b.maxB ∧ a.next = b.next ∧ a.xs = b.xs := by
  cases a; cases b; simp
end
end Go.Proofs.YtdmfififkcnecaaDoor.Vcg
end
section
set_option linter.unusedVariables false
set_option maxRecDepth 20000
set_option linter.unusedSimpArgs false
namespace Go.Proofs.YtdmfififkcnecaaDoor.Vcg
open Go.RowKit
section
variable {G : Globs}
/-- do the inodes rise up to a place? -/
theorem rises_take {xs : List NodV} {i : Nat} (hi : i < xs.length) (h0 : 0 < i) : Rises (xs.take (i + 1)) ↔ Rises (xs.take i) ∧ xs[i - 1].ino < xs[i].ino := by
  rw [List.take_add_one, List.getElem?_eq_getElem hi]
  unfold Rises
  rw [List.pairwise_append]
  simp only [Option.toList_some, List.pairwise_singleton, true_and, List.mem_singleton, forall_eq]
  constructor
  · rintro ⟨h1, h2⟩
    exact ⟨h1, h2 _ (List.mem_take_iff_getElem.2 ⟨i - 1, by omega, rfl⟩)⟩
  · rintro ⟨h1, h2⟩
    refine ⟨h1, fun a ha => ?_⟩
    obtain ⟨j, hj, rfl⟩ := List.mem_take_iff_getElem.1 ha
    rcases Nat.lt_or_ge j (i - 1) with q | q
    · have := (List.pairwise_iff_getElem.1 h1) j (i - 1) (by simp; omega) (by simp; omega) q
      simp at this
      omega
    · have : j = i - 1 := by omega
      subst this; exact h2
instance (xs : List NodV) : Decidable (Rises xs) := by unfold Rises; infer_instance
theorem rise_fun (f : FsV) (hl : f.xs.length ≤ 100000) : Fun Tryd.prog G 37 [.agg (fsC f)] (.sc (.bool (decide (Rises f.xs)))) 0 := by
  have hll : (nodsC f.xs).length = f.xs.length := List.length_map ..
  refine Fun.of (fun _ => []) (by kernel_rfl) Tryd.func37 rfl rfl (Nat.le_of_ble_eq_true rfl) (by kernel_rfl) ?_; dsimp only [Tryd.f37, List.append_eq, List.cons_append, List.nil_append]
  simp -dsimp only [push_cast, seval]
  refine loop (fun i : Nat => ⟨[(1, .ptr 0 0), (3, .sc (.int .i64 i))], [fsC f], 0, 0⟩) (fun i => 1 ≤ i ∧ Rises (f.xs.take i)) (fun i => f.xs.length - i) 1 ⟨Nat.le_refl _, by
    cases f.xs with
    | nil => exact List.Pairwise.nil
    | cons x r => exact List.pairwise_singleton _ _⟩ ?_ ?_
  · exact Weak.mk [] rfl rfl (Nat.zero_le _) rfl (by simp -dsimp only [WeakTm, WeakBx, CLe, CLeL, push_cast, seval]) (by simp -dsimp only [WeakTm, WeakBx, CLe, CLeL, push_cast, seval])
  · rintro i ⟨h1, h2⟩
    by_cases h : i < f.xs.length
    · have g1 := nods_at f.xs i h
      have g2 := nods_at f.xs (i - 1) (by omega)
      have e1 : (i : Int) - 1 = ((i - 1 : Nat) : Int) := by omega
      simp -dsimp only [push_cast, seval, hll, h, e1, g1, g2]
      by_cases hc : f.xs[i].ino ≤ f.xs[i - 1].ino
      · simp -dsimp only [push_cast, seval, hc]
        (try simp only [List.length_append, List.length_cons, List.length_nil, List.length_map, List.length_take, List.length_drop]); repeat (refine And.intro (by omega) ?_)
        have hn : ¬ Rises f.xs := fun hR => by
          have := (List.pairwise_iff_getElem.1 hR) (i - 1) i (by omega) h (by omega)
          omega
        exact ⟨[], rfl, rfl, by simp -dsimp only [WeakTm, WeakBx, CLe, CLeL, push_cast, seval, hn]⟩
      · simp -dsimp only [push_cast, seval, hc]
        (try simp only [List.length_append, List.length_cons, List.length_nil, List.length_map, List.length_take, List.length_drop]); repeat (refine And.intro (by omega) ?_)
        exact ⟨i + 1, ⟨by omega, (rises_take h (by omega)).2 ⟨h2, by omega⟩⟩, by omega, Weak.mk [] rfl rfl (Nat.zero_le _) rfl (by simp -dsimp only [WeakTm, WeakBx, CLe, CLeL, push_cast, seval]) (by simp -dsimp only [WeakTm, WeakBx, CLe, CLeL, push_cast, seval])⟩
    · simp -dsimp only [push_cast, seval, hll, h]
      rw [List.take_of_length_le (by omega)] at h2
      exact ⟨[], rfl, rfl, by simp -dsimp only [WeakTm, WeakBx, CLe, CLeL, push_cast, seval, h2]⟩
def smallN (x : NodV) : Prop := x.data.length ≤ 5000 ∧ x.es.length ≤ 40 ∧ ∀ e ∈ x.es, e.name.length ≤ 300
instance (x : NodV) : Decidable (smallN x) := by unfold smallN; infer_instance
def fewV (xs : List NodV) : Prop := xs.length ≤ 40 ∧ ∀ x ∈ xs, smallN x
instance (xs : List NodV) : Decidable (fewV xs) := by unfold fewV; infer_instance
theorem fewT_fun (f : FsV) : Fun Tryd.prog G 16 [.agg (fsC f)] (.sc (.bool (decide (fewV f.xs)))) 0 := by
  have hll : (nodsC f.xs).length = f.xs.length := List.length_map ..
  refine Fun.of (fun _ => []) (by kernel_rfl) Tryd.func16 rfl rfl (Nat.le_of_ble_eq_true rfl) (by kernel_rfl) ?_; dsimp only [Tryd.f16, List.append_eq, List.cons_append, List.nil_append]
  simp -dsimp only [push_cast, seval]
  refine loop (fun i : Nat => ⟨[(1, .ptr 0 0), (3, .sc (.int .i64 i))], [fsC f], 0, 0⟩) (fun i => i ≤ 100 ∧ ∀ t (h : t < f.xs.length), t < i → smallN f.xs[t]) (fun i => 100 - i) 0 ⟨Nat.zero_le _, fun t h h' => absurd h' (Nat.not_lt_zero _)⟩ ?_ ?_
  · exact Weak.mk [] rfl rfl (Nat.zero_le _) rfl (by simp -dsimp only [WeakTm, WeakBx, CLe, CLeL, push_cast, seval]) (by simp -dsimp only [WeakTm, WeakBx, CLe, CLeL, push_cast, seval])
  · rintro i ⟨h1, h2⟩
    have hend : ¬ (i < f.xs.length ∧ i < 100) → decide ((f.xs.length : Int) ≤ 40) = decide (fewV f.xs) := fun h => by
      rw [decide_eq_decide]
      constructor
      · intro hle
        refine ⟨by omega, fun x hx => ?_⟩
        obtain ⟨t, ht, rfl⟩ := List.getElem_of_mem hx
        exact h2 t ht (by omega)
      · intro h; have := h.1; omega
    by_cases h : i < f.xs.length
    · by_cases h100 : i < 100
      · have g1 := nods_at f.xs i h
        have h100' : (i : Int) < 100 := by omega
        have hbad : ¬ smallN f.xs[i] → ¬ fewV f.xs := fun hs hf => hs (hf.2 _ (List.getElem_mem h))
        by_cases hd : 5000 < (f.xs[i].data.length : Int)
        · have hn := hbad fun hs => by have := hs.1; omega
          simp -dsimp only [push_cast, seval, hll, h, h100', g1, hd]
          (try simp only [List.length_append, List.length_cons, List.length_nil, List.length_map, List.length_take, List.length_drop]); repeat (refine And.intro (by omega) ?_)
          exact ⟨[], rfl, rfl, by simp -dsimp only [WeakTm, WeakBx, CLe, CLeL, push_cast, seval, hn]⟩
        · by_cases he : 40 < (f.xs[i].es.length : Int)
          · have hn := hbad fun hs => by have := hs.2.1; omega
            simp -dsimp only [push_cast, seval, hll, h, h100', g1, hd, List.length_map, he]
            (try simp only [List.length_append, List.length_cons, List.length_nil, List.length_map, List.length_take, List.length_drop]); repeat (refine And.intro (by omega) ?_)
            exact ⟨[], rfl, rfl, by simp -dsimp only [WeakTm, WeakBx, CLe, CLeL, push_cast, seval, hn]⟩
          · simp -dsimp only [push_cast, seval, hll, h, h100', g1, hd, List.length_map, he]
            (try simp only [List.length_append, List.length_cons, List.length_nil, List.length_map, List.length_take, List.length_drop]); repeat (refine And.intro (by omega) ?_)
            refine loop (fun j : Nat => ⟨[(1, .ptr 0 0), (3, .sc (.int .i64 i)), (4, .ptr 1 0), (5, .sc (.int .i64 j))], [fsC f, nodC f.xs[i]], 0, 0⟩) (fun j => j ≤ f.xs[i].es.length ∧ ∀ t (h' : t < f.xs[i].es.length), t < j → f.xs[i].es[t].name.length ≤ 300) (fun j => f.xs[i].es.length - j) 0 ⟨Nat.zero_le _, fun t h h' => absurd h' (Nat.not_lt_zero _)⟩ ?_ ?_
            · exact Weak.mk [] rfl rfl (Nat.zero_le _) rfl (by simp -dsimp only [WeakTm, WeakBx, CLe, CLeL, push_cast, seval]) (by simp -dsimp only [WeakTm, WeakBx, CLe, CLeL, push_cast, seval])
            · rintro j ⟨h3, h4⟩
              by_cases hj : j < f.xs[i].es.length
              · have g2 := ents_at f.xs[i].es j hj
                by_cases hs : 300 < (f.xs[i].es[j].name.length : Int)
                · have hn := hbad fun hs' => by have := hs'.2.2 _ (List.getElem_mem hj); omega
                  simp -dsimp only [push_cast, seval, List.length_map, hj, g2, hs]
                  (try simp only [List.length_append, List.length_cons, List.length_nil, List.length_map, List.length_take, List.length_drop]); repeat (refine And.intro (by omega) ?_)
                  exact ⟨[], rfl, rfl, by simp -dsimp only [WeakTm, WeakBx, CLe, CLeL, push_cast, seval, hn]⟩
                · simp -dsimp only [push_cast, seval, List.length_map, hj, g2, hs]
                  (try simp only [List.length_append, List.length_cons, List.length_nil, List.length_map, List.length_take, List.length_drop]); repeat (refine And.intro (by omega) ?_)
                  refine ⟨j + 1, ⟨hj, fun t ht hlt => ?_⟩, by omega, Weak.mk [] rfl rfl (Nat.zero_le _) rfl (by simp -dsimp only [WeakTm, WeakBx, CLe, CLeL, push_cast, seval]) (by simp -dsimp only [WeakTm, WeakBx, CLe, CLeL, push_cast, seval])⟩
                  rcases Nat.lt_or_ge t j with q | q
                  · exact h4 t ht q
                  · have : t = j := by omega
                    subst this; omega
              · simp -dsimp only [push_cast, seval, List.length_map, hj]
                (try simp only [List.length_append, List.length_cons, List.length_nil, List.length_map, List.length_take, List.length_drop]); repeat (refine And.intro (by omega) ?_)
                refine ⟨i + 1, ⟨by omega, fun t ht hlt => ?_⟩, by omega, Weak.mk [] rfl rfl (Nat.zero_le _) rfl (by simp -dsimp only [WeakTm, WeakBx, CLe, CLeL, push_cast, seval]) (by simp -dsimp only [WeakTm, WeakBx, CLe, CLeL, push_cast, seval])⟩
                rcases Nat.lt_or_ge t i with q | q
                · exact h2 t ht q
                · have : t = i := by omega
                  subst this
                  refine ⟨by omega, by omega, fun e hee => ?_⟩
                  obtain ⟨u, hu, rfl⟩ := List.getElem_of_mem hee
                  exact h4 u hu (by omega)
      · have h100' : ((i : Int) < 100) = False := eq_false (by omega)
        have := hend (by omega)
        simp -dsimp only [push_cast, seval, hll, h, h100']
        exact ⟨[], rfl, rfl, by simp -dsimp only [WeakTm, WeakBx, CLe, CLeL, push_cast, seval, this]⟩
    · have := hend (by omega)
      simp -dsimp only [push_cast, seval, hll, h]
      exact ⟨[], rfl, rfl, by simp -dsimp only [WeakTm, WeakBx, CLe, CLeL, push_cast, seval, this]⟩
theorem rdrop_fun (f : FsV) (n : Int) (hl : f.xs.length ≤ 90000) :
    Fun Tryd.prog G 36 [.agg (fsC f), .sc (.int .i64 n)] (.agg [.sc (.int .i64 f.maxI), .sc (.int .i64 f.maxB), .sc (.int .i64 f.next), .own 0 33 6 (nodsC (dropV n f.xs))]) 1 := by
  have hll : (nodsC f.xs).length = f.xs.length := List.length_map ..
  refine Fun.of (fun _ => []) (by kernel_rfl) Tryd.func36 rfl rfl (Nat.le_of_ble_eq_true rfl) (by kernel_rfl) ?_; dsimp only [Tryd.f36, List.append_eq, List.cons_append, List.nil_append]
  simp -dsimp only [push_cast, seval]
  refine loop (fun i : Nat => ⟨[(1, .sc (.int .i64 n)), (2, .ptr 0 0), (4, .ptr 1 0), (5, .own 0 33 6 (nodsC (dropV n (f.xs.take i)))), (6, .sc (.int .i64 i))], [fsC f, [.sc (.int .i64 0), .sc (.int .i64 0), .sc (.int .i64 0), .sc (.slice none 0 0)]], 1, 0⟩) (fun i => i ≤ f.xs.length) (fun i => f.xs.length - i) 0 (Nat.zero_le _) ?_ ?_
  · exact Weak.mk [.inr (33, 6)] rfl rfl (Nat.zero_le _) rfl (by simp -dsimp only [WeakTm, WeakBx, CLe, CLeL, push_cast, seval, dropV, List.filter_nil]) (by simp -dsimp only [WeakTm, WeakBx, CLe, CLeL, push_cast, seval])
  · intro i h1
    by_cases h : i < f.xs.length
    · have g1 := nods_at f.xs i h
      have ht : dropV n (f.xs.take (i + 1)) = dropV n (f.xs.take i) ++ dropV n [f.xs[i]] := by
        unfold dropV; rw [List.take_add_one, List.getElem?_eq_getElem h, List.filter_append]; rfl
      have hle : (dropV n (f.xs.take i)).length ≤ i := Nat.le_trans drop_len (by simp; omega)
      by_cases hc : f.xs[i].ino = n
      · have ht : dropV n (f.xs.take (i + 1)) = dropV n (f.xs.take i) := by rw [ht, drop_cons_eq hc]; simp [dropV]
        simp -dsimp only [push_cast, seval, hll, h, g1, hc]
        (try simp only [List.length_append, List.length_cons, List.length_nil, List.length_map, List.length_take, List.length_drop]); repeat (refine And.intro (by omega) ?_)
        exact ⟨i + 1, h, by omega, Weak.mk [.inl 0] rfl rfl (Nat.zero_le _) rfl (by simp -dsimp only [WeakTm, WeakBx, CLe, CLeL, push_cast, seval, ht]) (by simp -dsimp only [WeakTm, WeakBx, CLe, CLeL, push_cast, seval])⟩
      · have ht : dropV n (f.xs.take (i + 1)) = dropV n (f.xs.take i) ++ [f.xs[i]] := by rw [ht, drop_cons_ne hc]; simp [dropV]
        simp -dsimp only [push_cast, seval, hll, h, g1, hc]
        (try simp only [List.length_append, List.length_cons, List.length_nil, List.length_map, List.length_take, List.length_drop]); repeat (refine And.intro (by omega) ?_)
        exact ⟨i + 1, h, by omega, Weak.mk [.inl 0] rfl rfl (Nat.zero_le _) rfl (by simp -dsimp only [WeakTm, WeakBx, CLe, CLeL, push_cast, seval, ht, List.map_append]) (by simp -dsimp only [WeakTm, WeakBx, CLe, CLeL, push_cast, seval])⟩
    · rw [List.take_of_length_le (by omega)]
      simp -dsimp only [push_cast, seval, hll, h]
      exact ⟨[.inl 0], rfl, rfl, by simp -dsimp only [WeakTm, WeakBx, CLe, CLeL, push_cast, seval]⟩
theorem rset_fun (f : FsV) (x : NodV) (hl : f.xs.length ≤ 90000) :
    Fun Tryd.prog G 25 [.agg (fsC f), .agg (nodC x)] (.agg [.sc (.int .i64 f.maxI), .sc (.int .i64 f.maxB), .sc (.int .i64 f.next), .own 0 33 6 (nodsC (setV x f.xs))]) 1 := by
  have hdl : (dropV x.ino f.xs).length ≤ 90000 := Nat.le_trans drop_len hl
  have hl2 : (nodsC (dropV x.ino f.xs)).length = (dropV x.ino f.xs).length := List.length_map ..
  refine Fun.of (fun _ => []) (by kernel_rfl) Tryd.func25 rfl rfl (Nat.le_of_ble_eq_true rfl) (by kernel_rfl) ?_; dsimp only [Tryd.f25, List.append_eq, List.cons_append, List.nil_append]
  simp -dsimp only [push_cast, seval]
  (first | refine call (rdrop_fun f x.ino hl) ?_ | refine callP (rdrop_fun f x.ino hl) ?_); simp -dsimp only [push_cast, seval]
  unfold setV
  generalize dropV x.ino f.xs = rest at hdl hl2
  refine loop (fun p : Nat × List NodV × Bool => ⟨[(2, .ptr 0 0), (3, .ptr 1 0), (4, .ptr 2 0), (5, .sl 6 (nodsC rest)), (6, .own 0 33 6 (nodsC p.2.1)), (7, .sc (.bool p.2.2)), (8, .sc (.int .i64 p.1))], [fsC f, nodC x, [.sc (.int .i64 0), .sc (.int .i64 0), .sc (.int .i64 0), .sc (.slice none 0 0)]], 1, 0⟩)
    (fun p => p.1 ≤ rest.length ∧ p.2.1.length ≤ p.1 + p.2.2.toNat ∧ putV x rest = p.2.1 ++ (if p.2.2 then rest.drop p.1 else putV x (rest.drop p.1))) (fun p => rest.length - p.1) (0, [], false) ⟨Nat.zero_le _, Nat.zero_le _, by simp⟩ ?_ ?_
  · exact Weak.mk [.inr (33, 6)] rfl rfl (Nat.zero_le _) rfl (by simp -dsimp only [WeakTm, WeakBx, CLe, CLeL, push_cast, seval]) (by simp -dsimp only [WeakTm, WeakBx, CLe, CLeL, push_cast, seval])
  · rintro ⟨i, out, d⟩ ⟨h1, h2, h3⟩
    dsimp only at h1 h2 h3 ⊢
    have hlo : (nodsC out).length = out.length := List.length_map ..
    by_cases h : i < rest.length
    · have g1 := nods_at rest i h
      rw [List.drop_eq_getElem_cons h] at h3
      cases d with
      | true =>
        simp only [Bool.toNat_true] at h2
        simp -dsimp only [push_cast, seval, hl2, h, g1]
        (try simp only [List.length_append, List.length_cons, List.length_nil, List.length_map, List.length_take, List.length_drop]); repeat (refine And.intro (by omega) ?_)
        exact ⟨(i + 1, out ++ [rest[i]], true), ⟨h, by simp; omega, by rw [h3]; simp⟩, by dsimp only; omega, Weak.mk [.inl 0] rfl rfl (Nat.zero_le _) rfl (by simp -dsimp only [WeakTm, WeakBx, CLe, CLeL, push_cast, seval, List.map_append]) (by simp -dsimp only [WeakTm, WeakBx, CLe, CLeL, push_cast, seval])⟩
      | false =>
        simp only [Bool.false_eq_true, if_false, putV] at h3
        simp only [Bool.toNat_false] at h2
        by_cases hc : x.ino < rest[i].ino
        · rw [if_pos hc] at h3
          simp -dsimp only [push_cast, seval, hl2, h, g1, hc]
          (try simp only [List.length_append, List.length_cons, List.length_nil, List.length_map, List.length_take, List.length_drop]); repeat (refine And.intro (by omega) ?_)
          exact ⟨(i + 1, out ++ [x] ++ [rest[i]], true), ⟨h, by simp; omega, by rw [h3]; simp⟩, by dsimp only; omega, Weak.mk [.inl 0] rfl rfl (Nat.zero_le _) rfl (by simp -dsimp only [WeakTm, WeakBx, CLe, CLeL, push_cast, seval, List.map_append]) (by simp -dsimp only [WeakTm, WeakBx, CLe, CLeL, push_cast, seval])⟩
        · rw [if_neg hc] at h3
          simp -dsimp only [push_cast, seval, hl2, h, g1, hc]
          (try simp only [List.length_append, List.length_cons, List.length_nil, List.length_map, List.length_take, List.length_drop]); repeat (refine And.intro (by omega) ?_)
          exact ⟨(i + 1, out ++ [rest[i]], false), ⟨h, by simp; omega, by rw [h3]; simp⟩, by dsimp only; omega, Weak.mk [.inl 0] rfl rfl (Nat.zero_le _) rfl (by simp -dsimp only [WeakTm, WeakBx, CLe, CLeL, push_cast, seval, List.map_append]) (by simp -dsimp only [WeakTm, WeakBx, CLe, CLeL, push_cast, seval])⟩
    · rw [List.drop_of_length_le (by omega)] at h3
      cases d with
      | true =>
        simp only [Bool.toNat_true] at h2
        have h3 : putV x rest = out := by rw [h3]; simp
        simp -dsimp only [push_cast, seval, hl2, h]
        exact ⟨[.inl 0], rfl, rfl, by simp -dsimp only [WeakTm, WeakBx, CLe, CLeL, push_cast, seval, h3]⟩
      | false =>
        simp only [Bool.toNat_false] at h2
        have h3 : putV x rest = out ++ [x] := by rw [h3]; simp [putV]
        simp -dsimp only [push_cast, seval, hl2, h]
        (try simp only [List.length_append, List.length_cons, List.length_nil, List.length_map, List.length_take, List.length_drop]); repeat (refine And.intro (by omega) ?_)
        exact ⟨[.inl 0], rfl, rfl, by simp -dsimp only [WeakTm, WeakBx, CLe, CLeL, push_cast, seval, h3, List.map_append]⟩
theorem rnew_fun (i b : Int) : Fun Tryd.prog G 15 [.sc (.int .i64 i), .sc (.int .i64 b)] (.agg [.sc (.int .i64 i), .sc (.int .i64 b), .sc (.int .i64 2), .own 0 33 6 (nodsC [⟨1, 2, 0, [], 1, []⟩])]) 1 := by
  refine Fun.res (r := .agg [.sc (.int .i64 i), .sc (.int .i64 b), .sc (.int .i64 2), .own 0 33 6 [[.sc (.int .i64 1), .sc (.int .i64 2), .sc (.int .i64 0), .str [], .sc (.int .i64 1), .sc (.slice none 0 0)]]]) ?_ fun R L v h =>
    rep_agg_le (fun vs => repL_head_le (fun v h => h) (fun vs => repL_head_le (fun v h => h) fun vs => repL_head_le (fun v h => h) fun vs => repL_head_le (fun v => rep_root) fun vs h => h)) h
  refine Fun.of (fun _ => []) (by kernel_rfl) Tryd.func15 rfl rfl (Nat.le_of_ble_eq_true rfl) (by kernel_rfl) ?_; dsimp only [Tryd.f15, List.append_eq, List.cons_append, List.nil_append]
  simp -dsimp only [push_cast, seval]
  exact ⟨[.inl 0], rfl, rfl, by simp -dsimp only [WeakTm, WeakBx, CLe, CLeL, push_cast, seval]⟩
end
end Go.Proofs.YtdmfififkcnecaaDoor.Vcg
end
section
set_option linter.unusedVariables false
set_option maxRecDepth 20000
set_option linter.unusedSimpArgs false
namespace Go.Proofs.YtdmfififkcnecaaDoor.Vcg
open Go.RowKit
section
variable {G : Globs}
theorem has_take {n : Int} {xs : List NodV} {i : Nat} (h : i < xs.length) : hasV n (xs.take (i + 1)) = (hasV n (xs.take i) || (xs[i].ino == n)) := by
  unfold hasV
  rw [List.take_add_one, List.getElem?_eq_getElem h, List.any_append]
  simp
theorem get_take {n : Int} {xs : List NodV} {i : Nat} (h : i < xs.length) (h0 : hasV n (xs.take i) = false) (he : xs[i].ino = n) : hasV n xs = true ∧ gotV n xs = xs[i] := by
  refine ⟨List.any_eq_true.2 ⟨xs[i], List.getElem_mem h, by simp [he]⟩, ?_⟩
  unfold gotV getV
  rw [List.find?_eq_some_iff_getElem (b := xs[i]) |>.2 ⟨by simp [he], i, h, rfl, fun j hj => ?_⟩]
  · rfl
  · unfold hasV at h0
    rw [List.any_eq_false] at h0
    have := h0 xs[j] (List.mem_take_iff_getElem.2 ⟨j, by omega, rfl⟩)
    simpa using this
theorem rget_fun (f : FsV) (n : Int) (hl : f.xs.length ≤ 100000) : Fun Tryd.prog G 21 [.agg (fsC f), .sc (.int .i64 n)] (.tup [.agg (nodC (gotV n f.xs)), .sc (.bool (hasV n f.xs))]) 0 := by
  have hll : (nodsC f.xs).length = f.xs.length := List.length_map ..
  refine Fun.of (fun _ => []) (by kernel_rfl) Tryd.func21 rfl rfl (Nat.le_of_ble_eq_true rfl) (by kernel_rfl) ?_; dsimp only [Tryd.f21, List.append_eq, List.cons_append, List.nil_append]
  simp -dsimp only [push_cast, seval]
  refine loop (fun i : Nat => ⟨[(1, .sc (.int .i64 n)), (2, .ptr 0 0), (4, .ptr 1 0), (6, .sc (.int .i64 i))], [fsC f, [.sc (.int .i64 0), .sc (.int .i64 0), .sc (.int .i64 0), .str [], .sc (.int .i64 0), .sc (.slice none 0 0)]], 0, 0⟩) (fun i => i ≤ f.xs.length ∧ hasV n (f.xs.take i) = false) (fun i => f.xs.length - i) 0 ⟨Nat.zero_le _, rfl⟩ ?_ ?_
  · exact Weak.mk [] rfl rfl (Nat.zero_le _) rfl (by simp -dsimp only [WeakTm, WeakBx, CLe, CLeL, push_cast, seval]) (by simp -dsimp only [WeakTm, WeakBx, CLe, CLeL, push_cast, seval])
  · rintro i ⟨h1, h2⟩
    by_cases h : i < f.xs.length
    · have g1 := nods_at f.xs i h
      by_cases he : f.xs[i].ino = n
      · obtain ⟨q1, q2⟩ := get_take h h2 he
        simp -dsimp only [push_cast, seval, hll, h, g1, he]
        (try simp only [List.length_append, List.length_cons, List.length_nil, List.length_map, List.length_take, List.length_drop]); repeat (refine And.intro (by omega) ?_)
        exact ⟨[], rfl, rfl, by simp -dsimp only [WeakTm, WeakBx, CLe, CLeL, push_cast, seval, q1, q2, he]⟩
      · have q := has_take (n := n) h
        rw [h2, show (f.xs[i].ino == n) = false from beq_eq_false_iff_ne.2 he] at q
        simp -dsimp only [push_cast, seval, hll, h, g1, he]
        (try simp only [List.length_append, List.length_cons, List.length_nil, List.length_map, List.length_take, List.length_drop]); repeat (refine And.intro (by omega) ?_)
        exact ⟨i + 1, ⟨h, q⟩, by omega, Weak.mk [] rfl rfl (Nat.zero_le _) rfl (by simp -dsimp only [WeakTm, WeakBx, CLe, CLeL, push_cast, seval]) (by simp -dsimp only [WeakTm, WeakBx, CLe, CLeL, push_cast, seval])⟩
    · rw [List.take_of_length_le (by omega)] at h2
      have hg : gotV n f.xs = zNod := by unfold gotV; rw [get_none h2]; rfl
      simp -dsimp only [push_cast, seval, hll, h]
      exact ⟨[], rfl, rfl, by simp -dsimp only [WeakTm, WeakBx, CLe, CLeL, push_cast, seval, hg, h2, zNod]⟩
/-- how many bytes the files have -/
def bytesV (xs : List NodV) : Nat := ((xs.filter fun x => decide (x.kind = 1)).map fun x => x.data.length).sum
theorem bytes_take {xs : List NodV} {i : Nat} (h : i < xs.length) : bytesV (xs.take (i + 1)) = bytesV (xs.take i) + if xs[i].kind = 1 then xs[i].data.length else 0 := by
  unfold bytesV
  rw [List.take_add_one, List.getElem?_eq_getElem h, List.filter_append, List.map_append, List.sum_append]
  by_cases hk : xs[i].kind = 1 <;> simp [hk]
theorem bytes_fun (f : FsV) (hf : fewV f.xs) : Fun Tryd.prog G 40 [.agg (fsC f)] (.sc (.int .i64 (bytesV f.xs : Nat))) 0 := by
  have hll : (nodsC f.xs).length = f.xs.length := List.length_map ..
  have h40 := hf.1
  have hb0 : bytesV [] = 0 := rfl
  refine Fun.of (fun _ => []) (by kernel_rfl) Tryd.func40 rfl rfl (Nat.le_of_ble_eq_true rfl) (by kernel_rfl) ?_; dsimp only [Tryd.f40, List.append_eq, List.cons_append, List.nil_append]
  simp -dsimp only [push_cast, seval]
  refine loop (fun i : Nat => ⟨[(1, .ptr 0 0), (3, .sc (.int .i64 (bytesV (f.xs.take i) : Nat))), (4, .sc (.int .i64 i))], [fsC f], 0, 0⟩) (fun i => i ≤ f.xs.length ∧ bytesV (f.xs.take i) ≤ i * 5000) (fun i => f.xs.length - i) 0 ⟨Nat.zero_le _, Nat.zero_le _⟩ ?_ ?_
  · exact Weak.mk [] rfl rfl (Nat.zero_le _) rfl (by simp -dsimp only [WeakTm, WeakBx, CLe, CLeL, push_cast, seval, hb0, List.take_zero]) (by simp -dsimp only [WeakTm, WeakBx, CLe, CLeL, push_cast, seval])
  · rintro i ⟨h1, h2⟩
    by_cases h : i < f.xs.length
    · have g1 := nods_at f.xs i h
      have hb := bytes_take h
      have hd := (hf.2 _ (List.getElem_mem h)).1
      by_cases hk : f.xs[i].kind = 1
      · rw [if_pos hk] at hb
        simp -dsimp only [push_cast, seval, hll, h, g1, hk]
        (try simp only [List.length_append, List.length_cons, List.length_nil, List.length_map, List.length_take, List.length_drop]); repeat (refine And.intro (by omega) ?_)
        exact ⟨i + 1, ⟨h, by omega⟩, by omega, Weak.mk [] rfl rfl (Nat.zero_le _) rfl (by simp -dsimp only [WeakTm, WeakBx, CLe, CLeL, push_cast, seval, hb]) (by simp -dsimp only [WeakTm, WeakBx, CLe, CLeL, push_cast, seval])⟩
      · rw [if_neg hk] at hb
        simp -dsimp only [push_cast, seval, hll, h, g1, hk]
        (try simp only [List.length_append, List.length_cons, List.length_nil, List.length_map, List.length_take, List.length_drop]); repeat (refine And.intro (by omega) ?_)
        exact ⟨i + 1, ⟨h, by omega⟩, by omega, Weak.mk [] rfl rfl (Nat.zero_le _) rfl (by simp -dsimp only [WeakTm, WeakBx, CLe, CLeL, push_cast, seval, hb]) (by simp -dsimp only [WeakTm, WeakBx, CLe, CLeL, push_cast, seval])⟩
    · rw [List.take_of_length_le (by omega)]
      simp -dsimp only [push_cast, seval, hll, h]
      exact ⟨[], rfl, rfl, by simp -dsimp only [WeakTm, WeakBx, CLe, CLeL, push_cast, seval]⟩
end
end Go.Proofs.YtdmfififkcnecaaDoor.Vcg
end
section
set_option linter.unusedVariables false
set_option maxRecDepth 20000
set_option linter.unusedSimpArgs false
namespace Go.Proofs.YtdmfififkcnecaaDoor.Vcg
open Go.RowKit
def firstV (f : FsV) : Prop := 1 ≤ f.maxI ∧ f.maxI ≤ 1073741824 ∧ 0 ≤ f.maxB ∧ f.maxB ≤ 1073741824 ∧ f.next ≤ 1099511627776 ∧ (∀ x ∈ f.xs, 1 ≤ x.ino ∧ x.ino < f.next) ∧ Rises f.xs ∧ hasV 1 f.xs = true ∧ (gotV 1 f.xs).kind = 2
instance (f : FsV) : Decidable (firstV f) := by unfold firstV; infer_instance
def thirdV (f : FsV) : Prop := ∀ x ∈ f.xs, ∀ e ∈ x.es, hasV e.ino f.xs = true
instance (f : FsV) : Decidable (thirdV f) := by unfold thirdV; infer_instance
def fitsV (f : FsV) : Prop := (f.xs.length : Int) ≤ f.maxI ∧ (bytesV f.xs : Int) ≤ f.maxB
instance (f : FsV) : Decidable (fitsV f) := by unfold fitsV; infer_instance
theorem mem_take_succ {α : Type} {l : List α} {i : Nat} (h : i < l.length) {P : α → Prop} (h1 : ∀ x ∈ l.take i, P x) (h2 : P l[i]) : ∀ x ∈ l.take (i + 1), P x := fun x hx => by
  rw [List.take_add_one, List.getElem?_eq_getElem h] at hx
  rcases List.mem_append.1 hx with hx | hx
  · exact h1 x hx
  · simp at hx; subst hx; exact h2
section
variable {G : Globs}
theorem first_fun (f : FsV) (hl : f.xs.length ≤ 100000) : Fun Tryd.prog G 26 [.agg (fsC f)] (.sc (.bool (decide (firstV f)))) 0 := by
  have hll : (nodsC f.xs).length = f.xs.length := List.length_map ..
  refine Fun.of (fun _ => []) (by kernel_rfl) Tryd.func26 rfl rfl (Nat.le_of_ble_eq_true rfl) (by kernel_rfl) ?_; dsimp only [Tryd.f26, List.append_eq, List.cons_append, List.nil_append]
  by_cases e0 : f.maxI < 1
  case pos =>
    have hn : ¬ firstV f := fun h => by have := h.1; omega
    simp -dsimp only [push_cast, seval, e0]
    exact ⟨[], rfl, rfl, by simp -dsimp only [WeakTm, WeakBx, CLe, CLeL, push_cast, seval, hn]⟩
  by_cases e1 : 1073741824 < f.maxI
  case pos =>
    have hn : ¬ firstV f := fun h => by have := h.2.1; omega
    simp -dsimp only [push_cast, seval, e0, e1]
    exact ⟨[], rfl, rfl, by simp -dsimp only [WeakTm, WeakBx, CLe, CLeL, push_cast, seval, hn]⟩
  by_cases e2 : f.maxB < 0
  case pos =>
    have hn : ¬ firstV f := fun h => by have := h.2.2.1; omega
    simp -dsimp only [push_cast, seval, e0, e1, e2]
    exact ⟨[], rfl, rfl, by simp -dsimp only [WeakTm, WeakBx, CLe, CLeL, push_cast, seval, hn]⟩
  by_cases e3 : 1073741824 < f.maxB
  case pos =>
    have hn : ¬ firstV f := fun h => by have := h.2.2.2.1; omega
    simp -dsimp only [push_cast, seval, e0, e1, e2, e3]
    exact ⟨[], rfl, rfl, by simp -dsimp only [WeakTm, WeakBx, CLe, CLeL, push_cast, seval, hn]⟩
  by_cases e4 : 1099511627776 < f.next
  case pos =>
    have hn : ¬ firstV f := fun h => by have := h.2.2.2.2.1; omega
    simp -dsimp only [push_cast, seval, e0, e1, e2, e3, e4]
    exact ⟨[], rfl, rfl, by simp -dsimp only [WeakTm, WeakBx, CLe, CLeL, push_cast, seval, hn]⟩
  simp -dsimp only [push_cast, seval, e0, e1, e2, e3, e4]
  refine loop (fun i : Nat => ⟨[(1, .ptr 0 0), (3, .sc (.int .i64 i))], [fsC f], 0, 0⟩) (fun i => i ≤ f.xs.length ∧ ∀ x ∈ f.xs.take i, 1 ≤ x.ino ∧ x.ino < f.next) (fun i => f.xs.length - i) 0 ⟨Nat.zero_le _, fun x hx => by simp at hx⟩ ?_ ?_
  · exact Weak.mk [] rfl rfl (Nat.zero_le _) rfl (by simp -dsimp only [WeakTm, WeakBx, CLe, CLeL, push_cast, seval]) (by simp -dsimp only [WeakTm, WeakBx, CLe, CLeL, push_cast, seval])
  · rintro i ⟨h1, h2⟩
    by_cases h : i < f.xs.length
    · have g1 := nods_at f.xs i h
      by_cases c1 : f.xs[i].ino < 1
      · have hn : ¬ firstV f := fun h' => by have := h'.2.2.2.2.2.1 _ (List.getElem_mem h); omega
        simp -dsimp only [push_cast, seval, hll, h, g1, c1]
        (try simp only [List.length_append, List.length_cons, List.length_nil, List.length_map, List.length_take, List.length_drop]); repeat (refine And.intro (by omega) ?_)
        exact ⟨[], rfl, rfl, by simp -dsimp only [WeakTm, WeakBx, CLe, CLeL, push_cast, seval, hn]⟩
      · by_cases c2 : f.next ≤ f.xs[i].ino
        · have hn : ¬ firstV f := fun h' => by have := h'.2.2.2.2.2.1 _ (List.getElem_mem h); omega
          simp -dsimp only [push_cast, seval, hll, h, g1, c1, c2]
          (try simp only [List.length_append, List.length_cons, List.length_nil, List.length_map, List.length_take, List.length_drop]); repeat (refine And.intro (by omega) ?_)
          exact ⟨[], rfl, rfl, by simp -dsimp only [WeakTm, WeakBx, CLe, CLeL, push_cast, seval, hn]⟩
        · simp -dsimp only [push_cast, seval, hll, h, g1, c1, c2]
          (try simp only [List.length_append, List.length_cons, List.length_nil, List.length_map, List.length_take, List.length_drop]); repeat (refine And.intro (by omega) ?_)
          exact ⟨i + 1, ⟨h, mem_take_succ h h2 (by omega)⟩, by omega, Weak.mk [] rfl rfl (Nat.zero_le _) rfl (by simp -dsimp only [WeakTm, WeakBx, CLe, CLeL, push_cast, seval]) (by simp -dsimp only [WeakTm, WeakBx, CLe, CLeL, push_cast, seval])⟩
    · rw [List.take_of_length_le (by omega)] at h2
      have hf : firstV f ↔ Rises f.xs ∧ hasV 1 f.xs = true ∧ (gotV 1 f.xs).kind = 2 := ⟨fun h => h.2.2.2.2.2.2, fun h => ⟨by omega, by omega, by omega, by omega, by omega, h2, h⟩⟩
      simp -dsimp only [push_cast, seval, hll, h]
      (first | refine call (rget_fun f 1 hl) ?_ | refine callP (rget_fun f 1 hl) ?_); simp -dsimp only [push_cast, seval]
      by_cases c1 : Rises f.xs
      · cases c2 : hasV 1 f.xs with
        | true =>
          (first | refine call (rise_fun f hl) ?_ | refine callP (rise_fun f hl) ?_); simp -dsimp only [push_cast, seval, decide_eq_true c1, c2]
          exact ⟨[], rfl, rfl, by simp -dsimp only [WeakTm, WeakBx, CLe, CLeL, push_cast, seval, hf, c1, c2]⟩
        | false =>
          have hn : ¬ firstV f := fun h => by have := (hf.1 h).2.1; rw [c2] at this; cases this
          (first | refine call (rise_fun f hl) ?_ | refine callP (rise_fun f hl) ?_); simp -dsimp only [push_cast, seval, decide_eq_true c1, c2]
          exact ⟨[], rfl, rfl, by simp -dsimp only [WeakTm, WeakBx, CLe, CLeL, push_cast, seval, hn]⟩
      · have hn : ¬ firstV f := fun h => c1 (hf.1 h).1
        (first | refine call (rise_fun f hl) ?_ | refine callP (rise_fun f hl) ?_); simp -dsimp only [push_cast, seval, decide_eq_false c1]
        exact ⟨[], rfl, rfl, by simp -dsimp only [WeakTm, WeakBx, CLe, CLeL, push_cast, seval, hn]⟩
theorem third_fun (f : FsV) (hf : fewV f.xs) : Fun Tryd.prog G 28 [.agg (fsC f)] (.sc (.bool (decide (thirdV f)))) 0 := by
  have hll : (nodsC f.xs).length = f.xs.length := List.length_map ..
  have h40 := hf.1
  refine Fun.of (fun i => if i = 7 then lateB 15 16 else []) (by kernel_rfl) Tryd.func28 rfl rfl (Nat.le_of_ble_eq_true rfl) (by kernel_rfl) ?_; dsimp only [Tryd.f28, List.append_eq, List.cons_append, List.nil_append]
  simp -dsimp only [push_cast, seval]
  refine loop (fun i : Nat => ⟨[(1, .ptr 0 0), (3, .sc (.int .i64 i))], [fsC f], 0, 0⟩) (fun i => i ≤ f.xs.length ∧ ∀ x ∈ f.xs.take i, ∀ e ∈ x.es, hasV e.ino f.xs = true) (fun i => f.xs.length - i) 0 ⟨Nat.zero_le _, fun x hx => by simp at hx⟩ ?_ ?_
  · exact Weak.mk [] rfl rfl (Nat.zero_le _) rfl (by simp -dsimp only [WeakTm, WeakBx, CLe, CLeL, push_cast, seval]) (by simp -dsimp only [WeakTm, WeakBx, CLe, CLeL, push_cast, seval])
  · rintro i ⟨h1, h2⟩
    by_cases h : i < f.xs.length
    · have g1 := nods_at f.xs i h
      have he := (hf.2 _ (List.getElem_mem h)).2.1
      have hle : (entsC f.xs[i].es).length = f.xs[i].es.length := List.length_map ..
      simp -dsimp only [push_cast, seval, hll, h]
      refine loop (fun k : Nat => ⟨[(1, .ptr 0 0), (3, .sc (.int .i64 i)), (4, .sc (.int .i64 k))], [fsC f], 0, 0⟩) (fun k => k ≤ f.xs[i].es.length ∧ ∀ e ∈ f.xs[i].es.take k, hasV e.ino f.xs = true) (fun k => f.xs[i].es.length - k) 0 ⟨Nat.zero_le _, fun x hx => by simp at hx⟩ ?_ ?_
      · exact Weak.mk [] rfl rfl (Nat.zero_le _) rfl (by simp -dsimp only [WeakTm, WeakBx, CLe, CLeL, push_cast, seval]) (by simp -dsimp only [WeakTm, WeakBx, CLe, CLeL, push_cast, seval])
      · rintro k ⟨h3, h4⟩
        by_cases hk : k < f.xs[i].es.length
        · have g2 := ents_at f.xs[i].es k hk
          simp -dsimp only [push_cast, seval, g1, hle, hk, g2]
          (try simp only [List.length_append, List.length_cons, List.length_nil, List.length_map, List.length_take, List.length_drop]); repeat (refine And.intro (by omega) ?_)
          (first | refine call (rget_fun f f.xs[i].es[k].ino (by omega)) ?_ | refine callP (rget_fun f f.xs[i].es[k].ino (by omega)) ?_); simp -dsimp only [push_cast, seval]
          cases hh : hasV f.xs[i].es[k].ino f.xs with
          | true =>
            simp -dsimp only [push_cast, seval, hh]
            (try simp only [List.length_append, List.length_cons, List.length_nil, List.length_map, List.length_take, List.length_drop]); repeat (refine And.intro (by omega) ?_)
            exact ⟨k + 1, ⟨hk, mem_take_succ hk h4 hh⟩, by omega, Weak.mk [] rfl rfl (Nat.zero_le _) rfl (by simp -dsimp only [WeakTm, WeakBx, CLe, CLeL, push_cast, seval]) (by simp -dsimp only [WeakTm, WeakBx, CLe, CLeL, push_cast, seval])⟩
          | false =>
            have hn : ¬ thirdV f := fun h' => by have := h' _ (List.getElem_mem h) _ (List.getElem_mem hk); rw [hh] at this; cases this
            simp -dsimp only [push_cast, seval, hh]
            exact ⟨[], rfl, rfl, by simp -dsimp only [WeakTm, WeakBx, CLe, CLeL, push_cast, seval, hn]⟩
        · rw [List.take_of_length_le (by omega)] at h4
          simp -dsimp only [push_cast, seval, g1, hle, hk]
          (try simp only [List.length_append, List.length_cons, List.length_nil, List.length_map, List.length_take, List.length_drop]); repeat (refine And.intro (by omega) ?_)
          exact ⟨i + 1, ⟨h, mem_take_succ h h2 h4⟩, by omega, Weak.mk [] rfl rfl (Nat.zero_le _) rfl (by simp -dsimp only [WeakTm, WeakBx, CLe, CLeL, push_cast, seval]) (by simp -dsimp only [WeakTm, WeakBx, CLe, CLeL, push_cast, seval])⟩
    · rw [List.take_of_length_le (by omega)] at h2
      have hn : thirdV f := h2
      simp -dsimp only [push_cast, seval, hll, h]
      exact ⟨[], rfl, rfl, by simp -dsimp only [WeakTm, WeakBx, CLe, CLeL, push_cast, seval, hn]⟩
theorem fits_fun (f : FsV) (hf : fewV f.xs) (hb : bytesV f.xs ≤ 1000000) : Fun Tryd.prog G 31 [.agg (fsC f), .sc (.int .i64 0), .sc (.int .i64 0)] (.sc (.bool (decide (fitsV f)))) 0 := by
  have hll : (nodsC f.xs).length = f.xs.length := List.length_map ..
  have h40 := hf.1
  refine Fun.of (fun _ => []) (by kernel_rfl) Tryd.func31 rfl rfl (Nat.le_of_ble_eq_true rfl) (by kernel_rfl) ?_; dsimp only [Tryd.f31, List.append_eq, List.cons_append, List.nil_append]
  by_cases c1 : f.maxI < f.xs.length
  · have hn : ¬ fitsV f := fun h => by have := h.1; omega
    simp -dsimp only [push_cast, seval, hll, c1]
    (try simp only [List.length_append, List.length_cons, List.length_nil, List.length_map, List.length_take, List.length_drop]); repeat (refine And.intro (by omega) ?_)
    exact ⟨[], rfl, rfl, by simp -dsimp only [WeakTm, WeakBx, CLe, CLeL, push_cast, seval, hn]⟩
  · have hn : fitsV f ↔ (bytesV f.xs : Int) ≤ f.maxB := ⟨fun h => h.2, fun h => ⟨by omega, h⟩⟩
    simp -dsimp only [push_cast, seval, hll, c1]
    (try simp only [List.length_append, List.length_cons, List.length_nil, List.length_map, List.length_take, List.length_drop]); repeat (refine And.intro (by omega) ?_)
    (first | refine call (bytes_fun f hf) ?_ | refine callP (bytes_fun f hf) ?_); simp -dsimp only [push_cast, seval]
    (try simp only [List.length_append, List.length_cons, List.length_nil, List.length_map, List.length_take, List.length_drop]); repeat (refine And.intro (by omega) ?_)
    exact ⟨[], rfl, rfl, by simp -dsimp only [WeakTm, WeakBx, CLe, CLeL, push_cast, seval, hn]⟩
end
end Go.Proofs.YtdmfififkcnecaaDoor.Vcg
end
section
set_option linter.unusedVariables false
set_option maxRecDepth 20000
set_option linter.unusedSimpArgs false
namespace Go.Proofs.YtdmfififkcnecaaDoor.Vcg
open Go.RowKit
/-- each entry: the inode that it names, and the directory in which it stands -/
abbrev pairN (x : NodV) (es : List EntV) : List (Int × Int) := es.map fun e => (e.ino, x.ino)
def pairsV (xs : List NodV) : List (Int × Int) := xs.flatMap fun x => pairN x x.es
def cntV (n : Int) (l : List (Int × Int)) : Nat := (l.filter fun p => p.1 == n).length
def lastV (n : Int) (l : List (Int × Int)) : Int := (((l.filter fun p => p.1 == n).getLast?).map (·.2)).getD 0
theorem cnt_add {n : Int} {l : List (Int × Int)} {p : Int × Int} : cntV n (l ++ [p]) = cntV n l + if p.1 = n then 1 else 0 := by
  unfold cntV
  rw [List.filter_append, List.length_append]
  by_cases h : p.1 = n <;> simp [h]
theorem last_add {n : Int} {l : List (Int × Int)} {p : Int × Int} : lastV n (l ++ [p]) = if p.1 = n then p.2 else lastV n l := by
  unfold lastV
  rw [List.filter_append]
  by_cases h : p.1 = n <;> simp [h]
theorem pairs_take {xs : List NodV} {i : Nat} (h : i < xs.length) : pairsV (xs.take (i + 1)) = pairsV (xs.take i) ++ pairN xs[i] xs[i].es := by
  unfold pairsV
  rw [List.take_add_one, List.getElem?_eq_getElem h, List.flatMap_append]
  simp
theorem pairN_take {x : NodV} {es : List EntV} {k : Nat} (h : k < es.length) : pairN x (es.take (k + 1)) = pairN x (es.take k) ++ [(es[k].ino, x.ino)] := by
  rw [List.take_add_one, List.getElem?_eq_getElem h, Option.toList_some]
  exact List.map_append
theorem pairs_len {xs : List NodV} (hf : ∀ x ∈ xs, x.es.length ≤ 40) : (pairsV xs).length ≤ xs.length * 40 := by
  induction xs with
  | nil => exact Nat.le_refl _
  | cons x r ih =>
    have h1 := hf x List.mem_cons_self
    have h2 := ih fun y hy => hf y (List.mem_cons_of_mem _ hy)
    unfold pairsV at h2 ⊢
    rw [List.flatMap_cons, List.length_append, List.length_map, List.length_cons]
    omega
theorem cnt_le {n : Int} {l : List (Int × Int)} : cntV n l ≤ l.length := List.length_filter_le _ _
def fourthN (xs : List NodV) (x : NodV) : Prop := x.links = cntV x.ino (pairsV xs) ∧ if x.ino = 1 then cntV x.ino (pairsV xs) = 0 ∧ x.parent = 1 else 1 ≤ cntV x.ino (pairsV xs) ∧ (x.kind = 2 → cntV x.ino (pairsV xs) = 1 ∧ x.parent = lastV x.ino (pairsV xs))
instance (xs : List NodV) (x : NodV) : Decidable (fourthN xs x) := by unfold fourthN; infer_instance
def fourthV (f : FsV) : Prop := ∀ x ∈ f.xs, fourthN f.xs x
instance (f : FsV) : Decidable (fourthV f) := by unfold fourthV; infer_instance
section
variable {G : Globs}
theorem names7_fun (f : FsV) (n : Int) (hf : fewV f.xs) : Fun Tryd.prog G 39 [.agg (fsC f), .sc (.int .i64 n)] (.tup [.sc (.int .i64 (cntV n (pairsV f.xs) : Nat)), .sc (.int .i64 (lastV n (pairsV f.xs)))]) 0 := by
  have hll : (nodsC f.xs).length = f.xs.length := List.length_map ..
  have h40 := hf.1
  have hc0 : cntV n (pairsV []) = 0 := rfl
  have hl0 : lastV n (pairsV []) = 0 := rfl
  refine Fun.of (fun _ => []) (by kernel_rfl) Tryd.func39 rfl rfl (Nat.le_of_ble_eq_true rfl) (by kernel_rfl) ?_; dsimp only [Tryd.f39, List.append_eq, List.cons_append, List.nil_append]
  simp -dsimp only [push_cast, seval]
  refine loop (fun i : Nat => ⟨[(1, .sc (.int .i64 n)), (2, .ptr 0 0), (6, .sc (.int .i64 (cntV n (pairsV (f.xs.take i)) : Nat))), (7, .sc (.int .i64 (lastV n (pairsV (f.xs.take i))))), (8, .sc (.int .i64 i))], [fsC f], 0, 0⟩) (fun i => i ≤ f.xs.length) (fun i => f.xs.length - i) 0 (Nat.zero_le _) ?_ ?_
  · exact Weak.mk [] rfl rfl (Nat.zero_le _) rfl (by simp -dsimp only [WeakTm, WeakBx, CLe, CLeL, push_cast, seval, List.take_zero, hc0, hl0]) (by simp -dsimp only [WeakTm, WeakBx, CLe, CLeL, push_cast, seval])
  · intro i h1
    by_cases h : i < f.xs.length
    · have g1 := nods_at f.xs i h
      have hle : (entsC f.xs[i].es).length = f.xs[i].es.length := List.length_map ..
      have hpl : (pairsV (f.xs.take i)).length ≤ i * 40 := by
        have := pairs_len (xs := f.xs.take i) fun x hx => (hf.2 x (List.mem_of_mem_take hx)).2.1
        rw [List.length_take] at this
        have h2 : min i f.xs.length * 40 ≤ i * 40 := Nat.mul_le_mul_right _ (Nat.min_le_left _ _)
        omega
      have h40e := (hf.2 _ (List.getElem_mem h)).2.1
      simp -dsimp only [push_cast, seval, hll, h]
      refine loop (fun k : Nat => ⟨[(1, .sc (.int .i64 n)), (2, .ptr 0 0), (6, .sc (.int .i64 (cntV n (pairsV (f.xs.take i) ++ pairN f.xs[i] (f.xs[i].es.take k)) : Nat))), (7, .sc (.int .i64 (lastV n (pairsV (f.xs.take i) ++ pairN f.xs[i] (f.xs[i].es.take k))))), (8, .sc (.int .i64 i)), (9, .sc (.int .i64 k))], [fsC f], 0, 0⟩) (fun k => k ≤ f.xs[i].es.length) (fun k => f.xs[i].es.length - k) 0 (Nat.zero_le _) ?_ ?_
      · exact Weak.mk [] rfl rfl (Nat.zero_le _) rfl (by simp -dsimp only [WeakTm, WeakBx, CLe, CLeL, push_cast, seval, List.take_zero, List.append_nil]) (by simp -dsimp only [WeakTm, WeakBx, CLe, CLeL, push_cast, seval])
      · intro k hk0
        by_cases hk : k < f.xs[i].es.length
        · have g2 := ents_at f.xs[i].es k hk
          have ht := pairN_take (x := f.xs[i]) hk
          have hcl := cnt_le (n := n) (l := pairsV (f.xs.take i) ++ pairN f.xs[i] (f.xs[i].es.take k))
          rw [List.length_append, List.length_map, List.length_take] at hcl
          have hca := cnt_add (n := n) (l := pairsV (f.xs.take i) ++ pairN f.xs[i] (f.xs[i].es.take k)) (p := (f.xs[i].es[k].ino, f.xs[i].ino))
          have hla := last_add (n := n) (l := pairsV (f.xs.take i) ++ pairN f.xs[i] (f.xs[i].es.take k)) (p := (f.xs[i].es[k].ino, f.xs[i].ino))
          rw [List.append_assoc, ← ht] at hca hla
          by_cases hc : f.xs[i].es[k].ino = n
          · rw [if_pos hc] at hca hla
            simp -dsimp only [push_cast, seval, g1, hle, hk, g2, hc]
            (try simp only [List.length_append, List.length_cons, List.length_nil, List.length_map, List.length_take, List.length_drop]); repeat (refine And.intro (by omega) ?_)
            exact ⟨k + 1, hk, by omega, Weak.mk [] rfl rfl (Nat.zero_le _) rfl (by simp -dsimp only [WeakTm, WeakBx, CLe, CLeL, push_cast, seval, hca, hla]) (by simp -dsimp only [WeakTm, WeakBx, CLe, CLeL, push_cast, seval])⟩
          · rw [if_neg hc] at hca hla
            simp -dsimp only [push_cast, seval, g1, hle, hk, g2, hc]
            (try simp only [List.length_append, List.length_cons, List.length_nil, List.length_map, List.length_take, List.length_drop]); repeat (refine And.intro (by omega) ?_)
            exact ⟨k + 1, hk, by omega, Weak.mk [] rfl rfl (Nat.zero_le _) rfl (by simp -dsimp only [WeakTm, WeakBx, CLe, CLeL, push_cast, seval, hca, hla]) (by simp -dsimp only [WeakTm, WeakBx, CLe, CLeL, push_cast, seval])⟩
        · have hkk : f.xs[i].es.take k = f.xs[i].es := List.take_of_length_le (by omega)
          rw [hkk]
          have ht := pairs_take h
          simp -dsimp only [push_cast, seval, g1, hle, hk]
          (try simp only [List.length_append, List.length_cons, List.length_nil, List.length_map, List.length_take, List.length_drop]); repeat (refine And.intro (by omega) ?_)
          exact ⟨i + 1, h, by omega, Weak.mk [] rfl rfl (Nat.zero_le _) rfl (by simp -dsimp only [WeakTm, WeakBx, CLe, CLeL, push_cast, seval, ht]) (by simp -dsimp only [WeakTm, WeakBx, CLe, CLeL, push_cast, seval])⟩
    · rw [List.take_of_length_le (by omega)]
      simp -dsimp only [push_cast, seval, hll, h]
      exact ⟨[], rfl, rfl, by simp -dsimp only [WeakTm, WeakBx, CLe, CLeL, push_cast, seval]⟩
end
end Go.Proofs.YtdmfififkcnecaaDoor.Vcg
end
section
set_option linter.unusedVariables false
set_option maxRecDepth 20000
set_option linter.unusedSimpArgs false
namespace Go.Proofs.YtdmfififkcnecaaDoor.Vcg
open Go.RowKit
section
variable {G : Globs}
theorem fourth_fun (f : FsV) (hf : fewV f.xs) : Fun Tryd.prog G 29 [.agg (fsC f)] (.sc (.bool (decide (fourthV f)))) 0 := by
  have hll : (nodsC f.xs).length = f.xs.length := List.length_map ..
  have h40 := hf.1
  refine Fun.of (fun _ => []) (by kernel_rfl) Tryd.func29 rfl rfl (Nat.le_of_ble_eq_true rfl) (by kernel_rfl) ?_; dsimp only [Tryd.f29, List.append_eq, List.cons_append, List.nil_append]
  simp -dsimp only [push_cast, seval]
  refine loop (fun i : Nat => ⟨[(1, .ptr 0 0), (3, .sc (.int .i64 i))], [fsC f], 0, 0⟩) (fun i => i ≤ f.xs.length ∧ ∀ x ∈ f.xs.take i, fourthN f.xs x) (fun i => f.xs.length - i) 0 ⟨Nat.zero_le _, fun x hx => by simp at hx⟩ ?_ ?_
  · exact Weak.mk [] rfl rfl (Nat.zero_le _) rfl (by simp -dsimp only [WeakTm, WeakBx, CLe, CLeL, push_cast, seval]) (by simp -dsimp only [WeakTm, WeakBx, CLe, CLeL, push_cast, seval])
  · rintro i ⟨h1, h2⟩
    by_cases h : i < f.xs.length
    · have g1 := nods_at f.xs i h
      have hbad : ¬ fourthN f.xs f.xs[i] → ¬ fourthV f := fun hn h' => hn (h' _ (List.getElem_mem h))
      have hdef : fourthN f.xs f.xs[i] ↔ f.xs[i].links = cntV f.xs[i].ino (pairsV f.xs) ∧ if f.xs[i].ino = 1 then cntV f.xs[i].ino (pairsV f.xs) = 0 ∧ f.xs[i].parent = 1 else 1 ≤ cntV f.xs[i].ino (pairsV f.xs) ∧ (f.xs[i].kind = 2 → cntV f.xs[i].ino (pairsV f.xs) = 1 ∧ f.xs[i].parent = lastV f.xs[i].ino (pairsV f.xs)) := Iff.rfl
      simp -dsimp only [push_cast, seval, hll, h, g1]
      (try simp only [List.length_append, List.length_cons, List.length_nil, List.length_map, List.length_take, List.length_drop]); repeat (refine And.intro (by omega) ?_)
      (first | refine call (names7_fun f f.xs[i].ino hf) ?_ | refine callP (names7_fun f f.xs[i].ino hf) ?_); simp -dsimp only [push_cast, seval]
      generalize cntV f.xs[i].ino (pairsV f.xs) = c at hdef
      generalize lastV f.xs[i].ino (pairsV f.xs) = d at hdef
      by_cases c1 : f.xs[i].links = (c : Int)
      case neg =>
        have hn := hbad fun h => c1 (hdef.1 h).1
        simp -dsimp only [push_cast, seval, c1]
        exact ⟨[], rfl, rfl, by simp -dsimp only [WeakTm, WeakBx, CLe, CLeL, push_cast, seval, hn]⟩
      by_cases c2 : f.xs[i].ino = 1
      · rw [if_pos c2] at hdef
        by_cases c3 : (c : Int) = 0
        · by_cases c4 : f.xs[i].parent = 1
          · simp -dsimp only [push_cast, seval, c1, c2, c3, c4]
            (try simp only [List.length_append, List.length_cons, List.length_nil, List.length_map, List.length_take, List.length_drop]); repeat (refine And.intro (by omega) ?_)
            exact ⟨i + 1, ⟨h, mem_take_succ h h2 (hdef.2 ⟨c1, by omega, c4⟩)⟩, by omega, Weak.mk [] rfl rfl (Nat.zero_le _) rfl (by simp -dsimp only [WeakTm, WeakBx, CLe, CLeL, push_cast, seval]) (by simp -dsimp only [WeakTm, WeakBx, CLe, CLeL, push_cast, seval])⟩
          · have hn := hbad fun h => c4 (hdef.1 h).2.2
            simp -dsimp only [push_cast, seval, c1, c2, c3, c4]
            exact ⟨[], rfl, rfl, by simp -dsimp only [WeakTm, WeakBx, CLe, CLeL, push_cast, seval, hn]⟩
        · have hn := hbad fun h => by have := (hdef.1 h).2.1; omega
          simp -dsimp only [push_cast, seval, c1, c2, c3]
          exact ⟨[], rfl, rfl, by simp -dsimp only [WeakTm, WeakBx, CLe, CLeL, push_cast, seval, hn]⟩
      · rw [if_neg c2] at hdef
        by_cases c3 : (c : Int) < 1
        · have hn := hbad fun h => by have := (hdef.1 h).2.1; omega
          simp -dsimp only [push_cast, seval, c1, c2, c3]
          exact ⟨[], rfl, rfl, by simp -dsimp only [WeakTm, WeakBx, CLe, CLeL, push_cast, seval, hn]⟩
        by_cases c4 : f.xs[i].kind = 2
        · by_cases c5 : (c : Int) = 1
          · by_cases c6 : f.xs[i].parent = d
            · simp -dsimp only [push_cast, seval, c1, c2, c3, c4, c5, c6]
              (try simp only [List.length_append, List.length_cons, List.length_nil, List.length_map, List.length_take, List.length_drop]); repeat (refine And.intro (by omega) ?_)
              exact ⟨i + 1, ⟨h, mem_take_succ h h2 (hdef.2 ⟨c1, by omega, fun _ => ⟨by omega, c6⟩⟩)⟩, by omega, Weak.mk [] rfl rfl (Nat.zero_le _) rfl (by simp -dsimp only [WeakTm, WeakBx, CLe, CLeL, push_cast, seval]) (by simp -dsimp only [WeakTm, WeakBx, CLe, CLeL, push_cast, seval])⟩
            · have hn := hbad fun h => c6 ((hdef.1 h).2.2 c4).2
              simp -dsimp only [push_cast, seval, c1, c2, c3, c4, c5, c6]
              exact ⟨[], rfl, rfl, by simp -dsimp only [WeakTm, WeakBx, CLe, CLeL, push_cast, seval, hn]⟩
          · have hn := hbad fun h => by have := ((hdef.1 h).2.2 c4).1; omega
            simp -dsimp only [push_cast, seval, c1, c2, c3, c4, c5]
            exact ⟨[], rfl, rfl, by simp -dsimp only [WeakTm, WeakBx, CLe, CLeL, push_cast, seval, hn]⟩
        · simp -dsimp only [push_cast, seval, c1, c2, c3, c4]
          (try simp only [List.length_append, List.length_cons, List.length_nil, List.length_map, List.length_take, List.length_drop]); repeat (refine And.intro (by omega) ?_)
          exact ⟨i + 1, ⟨h, mem_take_succ h h2 (hdef.2 ⟨c1, by omega, fun h => absurd h c4⟩)⟩, by omega, Weak.mk [] rfl rfl (Nat.zero_le _) rfl (by simp -dsimp only [WeakTm, WeakBx, CLe, CLeL, push_cast, seval]) (by simp -dsimp only [WeakTm, WeakBx, CLe, CLeL, push_cast, seval])⟩
    · rw [List.take_of_length_le (by omega)] at h2
      have hn : fourthV f := h2
      simp -dsimp only [push_cast, seval, hll, h]
      exact ⟨[], rfl, rfl, by simp -dsimp only [WeakTm, WeakBx, CLe, CLeL, push_cast, seval, hn]⟩
end
end Go.Proofs.YtdmfififkcnecaaDoor.Vcg
end
section
set_option linter.unusedVariables false
set_option maxRecDepth 20000
set_option linter.unusedSimpArgs false
namespace Go.Proofs.YtdmfififkcnecaaDoor.Vcg
open Go.RowKit
abbrev intsC (S : List Int) : List (List C) := S.map fun n => [C.sc (.int .i64 n)]
def addOne (S : List Int) (n : Int) : List Int := if n ∈ S then S else S ++ [n]
def addV (S : List Int) (es : List EntV) : List Int := es.foldl (fun s e => addOne s e.ino) S
def seenV (xs : List NodV) : Nat → Nat → List Int → List Int
  | 0, _, S => S
  | m + 1, i, S => match S[i]? with
    | some n => seenV xs m (i + 1) (addV S (gotV n xs).es)
    | none => S
def fifthV (f : FsV) : Prop := (seenV f.xs 41 0 [1]).length = f.xs.length
instance (f : FsV) : Decidable (fifthV f) := by unfold fifthV; infer_instance
theorem nodup_le : ∀ {S T : List Int}, S.Nodup → (∀ n ∈ S, n ∈ T) → S.length ≤ T.length
  | [], T, _, _ => Nat.zero_le _
  | a :: r, T, hn, hs => by
    have ha := hs a List.mem_cons_self
    obtain ⟨h1, h2⟩ := List.nodup_cons.1 hn
    have := nodup_le (S := r) (T := T.erase a) h2 fun n hr => (List.mem_erase_of_ne (fun e => h1 (by rw [← e]; exact hr))).2 (hs n (List.mem_cons_of_mem _ hr))
    rw [List.length_erase_of_mem ha] at this
    have hpos := List.length_pos_iff.2 (List.ne_nil_of_mem ha)
    rw [List.length_cons]; omega
theorem has_mem {n : Int} {xs : List NodV} : hasV n xs = true ↔ n ∈ xs.map (·.ino) := by
  unfold hasV
  rw [List.any_eq_true, List.mem_map]
  simp
theorem seen_len {S : List Int} {xs : List NodV} (hn : S.Nodup) (hs : ∀ n ∈ S, hasV n xs = true) : S.length ≤ xs.length := by
  have := nodup_le (T := xs.map (·.ino)) hn fun n h => has_mem.1 (hs n h)
  rwa [List.length_map] at this
theorem addOne_nodup {S : List Int} {n : Int} (h : S.Nodup) : (addOne S n).Nodup := by
  unfold addOne
  split
  · exact h
  · rw [List.nodup_append]
    refine ⟨h, by simp, fun a ha b hb e => ?_⟩
    simp at hb; subst hb; subst e; contradiction
theorem addOne_mem {S : List Int} {n m : Int} : m ∈ addOne S n ↔ m ∈ S ∨ m = n := by
  unfold addOne
  split
  · constructor
    · exact .inl
    · rintro (h | h)
      · exact h
      · rw [h]; assumption
  · simp
theorem got_has {n : Int} {xs : List NodV} (h : hasV n xs = true) : gotV n xs ∈ xs ∧ (gotV n xs).ino = n := by
  unfold hasV at h
  unfold gotV getV
  cases hq : xs.find? fun x => x.ino == n with
  | none =>
    rw [List.find?_eq_none] at hq
    obtain ⟨x, hx, he⟩ := List.any_eq_true.1 h
    exact absurd he (hq x hx)
  | some y =>
    exact ⟨List.mem_of_find?_eq_some hq, by simpa using List.find?_some hq⟩
theorem addV_take {S : List Int} {es : List EntV} {k : Nat} (h : k < es.length) : addV S (es.take (k + 1)) = addOne (addV S (es.take k)) es[k].ino := by
  unfold addV
  rw [List.take_add_one, List.getElem?_eq_getElem h, List.foldl_append]
  rfl
theorem addV_sub (es : List EntV) : ∀ (S : List Int), S <+: addV S es := by
  induction es with
  | nil => exact fun S => List.prefix_refl S
  | cons e r ih =>
    intro S
    refine List.IsPrefix.trans ?_ (ih (addOne S e.ino))
    unfold addOne
    split
    · exact List.prefix_refl S
    · exact List.prefix_append S _
theorem addV_len (S : List Int) (es : List EntV) : S.length ≤ (addV S es).length := (addV_sub es S).length_le
/-- what the fifth rule's rounds keep -/
structure SeenOk (xs : List NodV) (S : List Int) : Prop where
  nodup : S.Nodup
  has : ∀ n ∈ S, hasV n xs = true
theorem SeenOk.len {xs : List NodV} {S : List Int} (h : SeenOk xs S) : S.length ≤ xs.length := seen_len h.nodup h.has
theorem SeenOk.one {xs : List NodV} {S : List Int} {n : Int} (h : SeenOk xs S) (hn : hasV n xs = true) : SeenOk xs (addOne S n) := ⟨addOne_nodup h.nodup, fun m hm => by
  rcases addOne_mem.1 hm with hm | rfl
  · exact h.has m hm
  · exact hn⟩
theorem any_take {S : List Int} {n : Int} {j : Nat} (h : j < S.length) : ((S.take (j + 1)).any fun m => decide (m = n)) = (((S.take j).any fun m => decide (m = n)) || decide (S[j] = n)) := by
  rw [List.take_add_one, List.getElem?_eq_getElem h, List.any_append]
  simp
theorem any_mem {S : List Int} {n : Int} : (S.any fun m => decide (m = n)) = decide (n ∈ S) := by
  rw [Bool.eq_iff_iff, List.any_eq_true, decide_eq_true_iff]
  constructor
  · rintro ⟨m, hm, h⟩; exact (of_decide_eq_true h) ▸ hm
  · exact fun h => ⟨n, h, decide_eq_true rfl⟩
theorem ints_at (S : List Int) (i : Nat) (h : i < S.length) : (intsC S)[i]? = some [.sc (.int .i64 S[i])] := by simp [List.getElem?_map, List.getElem?_eq_getElem h]
section
variable {G : Globs}
set_option maxHeartbeats 1000000 in
theorem fifth_fun (f : FsV) (hf : fewV f.xs) (h3 : thirdV f) (h1 : hasV 1 f.xs = true) : Fun Tryd.prog G 30 [.agg (fsC f)] (.sc (.bool (decide (fifthV f)))) 0 := by
  have hll : (nodsC f.xs).length = f.xs.length := List.length_map ..
  have h40 := hf.1
  refine Fun.of (fun i => if i = 5 then lateB 9 10 else []) (by kernel_rfl) Tryd.func30 rfl rfl (Nat.le_of_ble_eq_true rfl) (by kernel_rfl) ?_; dsimp only [Tryd.f30, List.append_eq, List.cons_append, List.nil_append]
  simp -dsimp only [push_cast, seval]
  refine loop (fun p : Nat × List Int => ⟨[(1, .ptr 0 0), (3, .own 0 3 1 (intsC p.2)), (4, .sc (.int .i64 p.1))], [fsC f], 1, 0⟩) (fun p => p.1 ≤ p.2.length ∧ SeenOk f.xs p.2 ∧ seenV f.xs (41 - p.1) p.1 p.2 = seenV f.xs 41 0 [1]) (fun p => 41 - p.1) (0, [1]) ⟨Nat.zero_le _, ⟨by simp, fun n hn => by simp at hn; subst hn; exact h1⟩, rfl⟩ ?_ ?_
  · exact Weak.mk [.inl 0] rfl rfl (Nat.zero_le _) rfl (by simp -dsimp only [WeakTm, WeakBx, CLe, CLeL, push_cast, seval]) (by simp -dsimp only [WeakTm, WeakBx, CLe, CLeL, push_cast, seval])
  · rintro ⟨i, S⟩ ⟨k1, k2, k3⟩
    dsimp only at k1 k2 k3 ⊢
    have hSl := k2.len
    have hli : (intsC S).length = S.length := List.length_map ..
    by_cases h : i < S.length
    · have g0 := ints_at S i h
      obtain ⟨hm, hino⟩ := got_has (k2.has S[i] (List.getElem_mem h))
      simp -dsimp only [push_cast, seval, hli, h, g0]
      (try simp only [List.length_append, List.length_cons, List.length_nil, List.length_map, List.length_take, List.length_drop]); repeat (refine And.intro (by omega) ?_)
      (first | refine call (rget_fun f S[i] (by omega)) ?_ | refine callP (rget_fun f S[i] (by omega)) ?_); simp -dsimp only [push_cast, seval]
      rw [show 41 - i = (41 - (i + 1)) + 1 by omega, seenV, List.getElem?_eq_getElem h] at k3
      dsimp only at k3
      generalize gotV S[i] f.xs = x at hm hino k3
      have hx40 := (hf.2 x hm).2.1
      have hle : (entsC x.es).length = x.es.length := List.length_map ..
      refine loop (fun k : Nat => ⟨[(1, .ptr 0 0), (3, .own 0 3 1 (intsC (addV S (x.es.take k)))), (4, .sc (.int .i64 i)), (5, .ptr 1 0), (7, .sc (.int .i64 k))], [fsC f, nodC x], 1, 0⟩) (fun k => k ≤ x.es.length ∧ SeenOk f.xs (addV S (x.es.take k))) (fun k => x.es.length - k) 0 ⟨Nat.zero_le _, k2⟩ ?_ ?_
      · exact Weak.mk [.inl 0] rfl rfl (Nat.zero_le _) rfl (by simp -dsimp only [WeakTm, WeakBx, CLe, CLeL, push_cast, seval, List.take_zero, addV, List.foldl_nil]) (by simp -dsimp only [WeakTm, WeakBx, CLe, CLeL, push_cast, seval])
      · rintro k ⟨hk0, k4⟩
        by_cases hk : k < x.es.length
        · have g2 := ents_at x.es k hk
          have hT := k4.len
          have ht := addV_take (S := S) hk
          have hhas : hasV x.es[k].ino f.xs = true := h3 x hm _ (List.getElem_mem hk)
          have k5 := k4.one hhas
          rw [← ht] at k5
          generalize hT1 : addV S (x.es.take (k + 1)) = T1 at ht k5
          generalize addV S (x.es.take k) = T at k4 hT ht
          have hlT : (intsC T).length = T.length := List.length_map ..
          generalize hn : x.es[k].ino = n at g2 ht
          simp -dsimp only [push_cast, seval, hle, hk]
          refine loop (fun j : Nat => ⟨[(1, .ptr 0 0), (3, .own 0 3 1 (intsC T)), (4, .sc (.int .i64 i)), (5, .ptr 1 0), (7, .sc (.int .i64 k)), (8, .sc (.bool ((T.take j).any fun m => decide (m = n)))), (9, .sc (.int .i64 j))], [fsC f, nodC x], 1, 0⟩) (fun j => j ≤ T.length) (fun j => T.length - j) 0 (Nat.zero_le _) ?_ ?_
          · exact Weak.mk [.inl 0] rfl rfl (Nat.zero_le _) rfl (by simp -dsimp only [WeakTm, WeakBx, CLe, CLeL, push_cast, seval, List.take_zero, List.any_nil]) (by simp -dsimp only [WeakTm, WeakBx, CLe, CLeL, push_cast, seval])
          · intro j hj0
            by_cases hj : j < T.length
            · have g3 := ints_at T j hj
              have ha := any_take (n := n) hj
              by_cases hq : ((T.take j).any fun m => decide (m = n)) = true
              · rw [hq, Bool.true_or] at ha
                simp -dsimp only [push_cast, seval, hlT, hj, hq]
                (try simp only [List.length_append, List.length_cons, List.length_nil, List.length_map, List.length_take, List.length_drop]); repeat (refine And.intro (by omega) ?_)
                exact ⟨j + 1, hj, by omega, Weak.mk [.inl 0] rfl rfl (Nat.zero_le _) rfl (by simp -dsimp only [WeakTm, WeakBx, CLe, CLeL, push_cast, seval, ha]) (by simp -dsimp only [WeakTm, WeakBx, CLe, CLeL, push_cast, seval])⟩
              · have hq := Bool.eq_false_iff.2 hq
                rw [hq, Bool.false_or] at ha
                simp -dsimp only [push_cast, seval, hlT, hj, hq, g3, g2, hn]
                (try simp only [List.length_append, List.length_cons, List.length_nil, List.length_map, List.length_take, List.length_drop]); repeat (refine And.intro (by omega) ?_)
                exact ⟨j + 1, hj, by omega, Weak.mk [.inl 0] rfl rfl (Nat.zero_le _) rfl (by simp -dsimp only [WeakTm, WeakBx, CLe, CLeL, push_cast, seval, ha]) (by simp -dsimp only [WeakTm, WeakBx, CLe, CLeL, push_cast, seval])⟩
            · have hTj : (T.take j) = T := List.take_of_length_le (by omega)
              have hany := any_mem (S := T) (n := n)
              unfold addOne at ht
              by_cases hin : n ∈ T
              · rw [if_pos hin] at ht
                rw [decide_eq_true hin] at hany
                simp -dsimp only [push_cast, seval, hlT, hj, hTj, hany]
                (try simp only [List.length_append, List.length_cons, List.length_nil, List.length_map, List.length_take, List.length_drop]); repeat (refine And.intro (by omega) ?_)
                exact ⟨k + 1, ⟨hk, by rw [hT1]; exact k5⟩, by omega, Weak.mk [.inl 0] rfl rfl (Nat.zero_le _) rfl (by simp -dsimp only [WeakTm, WeakBx, CLe, CLeL, push_cast, seval, hT1, ht]) (by simp -dsimp only [WeakTm, WeakBx, CLe, CLeL, push_cast, seval])⟩
              · rw [if_neg hin] at ht
                rw [decide_eq_false hin] at hany
                simp -dsimp only [push_cast, seval, hlT, hj, hTj, hany, g2, hn]
                (try simp only [List.length_append, List.length_cons, List.length_nil, List.length_map, List.length_take, List.length_drop]); repeat (refine And.intro (by omega) ?_)
                exact ⟨k + 1, ⟨hk, by rw [hT1]; exact k5⟩, by omega, Weak.mk [.inl 0] rfl rfl (Nat.zero_le _) rfl (by simp -dsimp only [WeakTm, WeakBx, CLe, CLeL, push_cast, seval, hT1, ht, List.map_append]) (by simp -dsimp only [WeakTm, WeakBx, CLe, CLeL, push_cast, seval])⟩
        · have hkk : x.es.take k = x.es := List.take_of_length_le (by omega)
          rw [hkk] at k4
          have hge : i + 1 ≤ (addV S x.es).length := Nat.le_trans h (addV_len S x.es)
          simp -dsimp only [push_cast, seval, hle, hk, hkk]
          (try simp only [List.length_append, List.length_cons, List.length_nil, List.length_map, List.length_take, List.length_drop]); repeat (refine And.intro (by omega) ?_)
          exact ⟨(i + 1, addV S x.es), ⟨hge, k4, k3⟩, by dsimp only; omega, Weak.mk [.inl 0] rfl rfl (Nat.zero_le _) rfl (by simp -dsimp only [WeakTm, WeakBx, CLe, CLeL, push_cast, seval]) (by simp -dsimp only [WeakTm, WeakBx, CLe, CLeL, push_cast, seval])⟩
    · simp -dsimp only [push_cast, seval, hli, h]
      have hfin : seenV f.xs (41 - i) i S = S := by
        rw [show 41 - i = (40 - i) + 1 by omega, seenV, List.getElem?_eq_none (by omega)]
      rw [hfin] at k3
      have hn : fifthV f ↔ S.length = f.xs.length := by unfold fifthV; rw [← k3]
      exact ⟨[], rfl, rfl, by simp -dsimp only [WeakTm, WeakBx, CLe, CLeL, push_cast, seval, hn, hll]⟩
end
end Go.Proofs.YtdmfififkcnecaaDoor.Vcg
end
section
set_option linter.unusedVariables false
set_option linter.unusedSimpArgs false
namespace Go.Proofs.YtdmfififkcnecaaDoor.Vcg
open Go.RowKit
abbrev G0 : Globs := fun _ => none
abbrev strC (l : List UInt8) : List C := [.str l]
def nstep (s : List (List UInt8) × List UInt8) (b : UInt8) : List (List UInt8) × List UInt8 :=
  if b = 47 then (if s.2 = [] then s.1 else s.1 ++ [s.2], []) else (s.1, s.2 ++ [b])
def nfin (s : List (List UInt8) × List UInt8) : List (List UInt8) := if s.2 = [] then s.1 else s.1 ++ [s.2]
def nst (l : List UInt8) (k : Nat) : List (List UInt8) × List UInt8 := if k ≤ l.length then (l.take k).foldl nstep ([], []) else (nfin (l.foldl nstep ([], [])), [])
def names (l : List UInt8) : List (List UInt8) := nfin (l.foldl nstep ([], []))
theorem nst_zero (l : List UInt8) : nst l 0 = ([], []) := by simp [nst]
theorem nst_succ (l : List UInt8) (k : Nat) (b : UInt8) (h : l[k]? = some b) : nst l (k + 1) = nstep (nst l k) b := by
  have hk : k < l.length := (List.getElem?_eq_some_iff.1 h).1
  unfold nst
  rw [if_pos (by omega), if_pos (by omega), List.take_add_one, h]
  simp
theorem nst_end (l : List UInt8) : nst l (l.length + 1) = (names l, []) := by
  unfold nst names
  rw [if_neg (by omega)]
theorem nst_len (l : List UInt8) : nfin (nst l l.length) = names l := by
  unfold nst names
  rw [if_pos (Nat.le_refl _), List.take_length]
theorem nst_size (l : List UInt8) : ∀ k, k ≤ l.length → (nst l k).1.length + (nst l k).2.length ≤ k
  | 0, _ => by simp [nst_zero]
  | k + 1, h => by
    have hk : k < l.length := by omega
    have ih := nst_size l k (by omega)
    rw [nst_succ l k l[k] (List.getElem?_eq_getElem hk)]
    unfold nstep
    by_cases h47 : l[k] = 47
    · rw [if_pos h47]
      by_cases h2 : (nst l k).2 = []
      · simp [h2]; omega
      · have : 0 < (nst l k).2.length := List.length_pos_iff.2 h2
        simp [h2]; omega
    · rw [if_neg h47]; simp; omega
theorem names_size (l : List UInt8) : (names l).length ≤ l.length := by
  rw [← nst_len]
  have := nst_size l l.length (Nat.le_refl _)
  unfold nfin
  split
  · omega
  · rename_i h
    have : 0 < (nst l l.length).2.length := List.length_pos_iff.2 h
    simp; omega
theorem u8_ne {b c : UInt8} (h : b ≠ c) : ¬ ((b.toNat : Int) = (c.toNat : Int)) := fun e => h (UInt8.toNat_inj.1 (by omega))
theorem slice_one {α : Type} (l : List α) (k : Nat) (b : α) (h : l[k]? = some b) : (l.take (k + 1)).drop k = [b] := by
  have hk : k < l.length := (List.getElem?_eq_some_iff.1 h).1
  rw [List.take_add_one, h, List.drop_append]
  simp [Nat.min_eq_left (by omega : k ≤ l.length)]
end Go.Proofs.YtdmfififkcnecaaDoor.Vcg
end
section
set_option linter.unusedVariables false
set_option linter.unusedSimpArgs false
namespace Go.Proofs.YtdmfififkcnecaaDoor.Vcg
open Go.RowKit
abbrev strs (xs : List (List UInt8)) : List (List C) := xs.map strC
theorem strs_length (xs : List (List UInt8)) : (strs xs).length = xs.length := List.length_map _
theorem strs_snoc (xs : List (List UInt8)) (x : List UInt8) : strs xs ++ [[.str x]] = strs (xs ++ [x]) := by simp
theorem strs_get? (xs : List (List UInt8)) (k : Nat) : (strs xs)[k]? = (xs[k]?).map strC := List.getElem?_map
theorem strs_drop (xs : List (List UInt8)) (k : Nat) : (strs xs).drop k = strs (xs.drop k) := List.map_drop.symm
theorem strs_take (xs : List (List UInt8)) (k : Nat) : (strs xs).take k = strs (xs.take k) := List.map_take.symm
theorem strs_append (xs ys : List (List UInt8)) : strs xs ++ strs ys = strs (xs ++ ys) := List.map_append.symm
theorem strs_at (xs : List (List UInt8)) (k : Nat) (h : k < xs.length) : (strs xs)[k]? = some [.str (xs[k]'h)] := by rw [strs_get?, List.getElem?_eq_getElem h]; rfl
attribute [push_cast] strs_length strs_snoc strs_drop strs_take strs_append
abbrev boolC (b : Bool) : C := .sc (.bool b)
def few (l : List (List UInt8)) : Bool := (l.take 100).all (fun x => decide (x.length ≤ 300)) && decide (l.length ≤ 40)
theorem few_len {l : List (List UInt8)} (h : few l = true) : l.length ≤ 40 := by simp [few] at h; exact h.2
theorem few_size {l : List (List UInt8)} (h : few l = true) : ∀ x ∈ l, x.length ≤ 300 := by
  have h1 := few_len h
  simp only [few, Bool.and_eq_true, List.all_eq_true, decide_eq_true_eq, List.take_of_length_le (show l.length ≤ 100 by omega)] at h
  exact h.1
end Go.Proofs.YtdmfififkcnecaaDoor.Vcg
end
section
namespace Go.Proofs
open Go.Shelf
def Tryd.lays156_ren : Go.Shelf.Ren := ⟨fun | 156 => 55 | 165 => 61 | 166 => 62 | 169 => 63 | 240 => 65 | 241 => 66 | 276 => 70 | 277 => 71 | n => n, fun | 31 => 66 | 9 => 9 | 3 => 3 | 4 => 4 | 0 => 0 | 20 => 20 | 72 => 94 | 76 => 98 | 70 => 91 | 37 => 92 | 75 => 97 | 127 => 102 | 164 => 106 | 5 => 5 | 80 => 100 | n => n, fun | n => n⟩
theorem Tryd.lays156 : Go.Proofs.Lays.n156 Tryd.prog Tryd.lays156_ren := {
  mixed := by kernel_rfl
  f156 := Tryd.func55.trans (congrArg some (by kernel_rfl))
  f165 := Tryd.func61.trans (congrArg some (by kernel_rfl))
  f166 := Tryd.func62.trans (congrArg some (by kernel_rfl))
  f169 := Tryd.func63.trans (congrArg some (by kernel_rfl))
  f240 := Tryd.func65.trans (congrArg some (by kernel_rfl))
  f241 := Tryd.func66.trans (congrArg some (by kernel_rfl))
  f276 := Tryd.func70.trans (congrArg some (by kernel_rfl))
  f277 := Tryd.func71.trans (congrArg some (by kernel_rfl))
  t0 := Tryd.underlying0
  a0 := Tryd.isAgg0
  z0 := Tryd.sizeOf0
  v0 := Tryd.zeroValue0
  t3 := Tryd.underlying3
  a3 := Tryd.isAgg3
  z3 := Tryd.sizeOf3
  v3 := Tryd.zeroValue3
  t4 := Tryd.underlying4
  a4 := Tryd.isAgg4
  z4 := Tryd.sizeOf4
  v4 := Tryd.zeroValue4
  t9 := Tryd.underlying9
  a9 := Tryd.isAgg9
  z9 := Tryd.sizeOf9
  v9 := Tryd.zeroValue9
  t20 := Tryd.underlying20
  a20 := Tryd.isAgg20
  z20 := Tryd.sizeOf20
  v20 := Tryd.zeroValue20
  t31 := Tryd.underlying66
  a31 := Tryd.isAgg66
  z31 := Tryd.sizeOf66
  v31 := Tryd.zeroValue66
  t37 := Tryd.underlying92
  a37 := Tryd.isAgg92
  z37 := Tryd.sizeOf92
  v37 := Tryd.zeroValue92
  t70 := Tryd.underlying91
  a70 := Tryd.isAgg91
  z70 := Tryd.sizeOf91
  v70 := Tryd.zeroValue91
  t72 := Tryd.underlying94
  a72 := Tryd.isAgg94
  z72 := Tryd.sizeOf94
  v72 := Tryd.zeroValue94
  t75 := Tryd.underlying97
  a75 := Tryd.isAgg97
  z75 := Tryd.sizeOf97
  v75 := Tryd.zeroValue97
  t76 := Tryd.underlying98
  a76 := Tryd.isAgg98
  z76 := Tryd.sizeOf98
  v76 := Tryd.zeroValue98
  t127 := Tryd.underlying102
  a127 := Tryd.isAgg102
  z127 := Tryd.sizeOf102
  v127 := Tryd.zeroValue102
  t164 := Tryd.underlying106
  a164 := Tryd.isAgg106
  z164 := Tryd.sizeOf106
  v164 := Tryd.zeroValue106 }
theorem Tryd.Builder_Extra_156 : Builder.Extra Tryd.prog Tryd.lays156_ren := {
  sizeBuilder := by kernel_rfl
  liesBuilder := by kernel_rfl
  t5 := Tryd.underlying5
  a5 := Tryd.isAgg5
  z5 := Tryd.sizeOf5
  v5 := Tryd.zeroValue5
  infoByte := by kernel_rfl
  cellsByte := by kernel_rfl
  sizeByte := by kernel_rfl
  neB5 := by decide }
open Go.RowKit in
theorem Tryd.strings_Join_none (a : Option Addr) (c : Nat) (sep : ByteArray) (w : World) :
    Calls Tryd.prog 55 #[.slice a 0 c, .string sep] w fun e w' => e = .returned (.string ⟨#[]⟩) ∧ w' = w := Any.strings_Join_none Tryd.lays156 Tryd.Builder_Extra_156 a c sep w
open Go.RowKit in
theorem Tryd.strings_Join (bk o c : Nat) (xs : List ByteArray) (sep : ByteArray) (w : World) (hcells : ∀ (j : Nat) x, xs[j]? = some x → w.cell? ⟨bk, o + j, none⟩ = some (.string x)) (hbk : bk < w.heap.size) (hN : xs.length ≤ 140737488355328) (hcap : xs.length ≤ c) (hlen : (Lib.join (xs.map (·.data.toList)) sep.data.toList).length ≤ 140737488355328) :
    Calls Tryd.prog 55 #[.slice (some ⟨bk, o, none⟩) xs.length c, .string sep] w fun e w' => e = .returned (.string ⟨(Lib.join (xs.map (·.data.toList)) sep.data.toList).toArray⟩) ∧ Below w.heap.size w w' := Any.strings_Join Tryd.lays156 Tryd.Builder_Extra_156 bk o c xs sep w hcells hbk hN hcap hlen
def Tryd.lays143_ren : Go.Shelf.Ren := ⟨fun | 143 => 69 | 219 => 73 | 217 => 74 | 225 => 75 | 224 => 76 | 267 => 77 | 266 => 78 | 314 => 79 | n => n, fun | 9 => 9 | 3 => 3 | 4 => 4 | 5 => 5 | 46 => 86 | 146 => 116 | 51 => 115 | n => n, fun | 1 => 0 | n => n⟩
theorem Tryd.lays143 : Go.Proofs.Lays.n143 Tryd.prog Tryd.lays143_ren := {
  mixed := by kernel_rfl
  f143 := Tryd.func69.trans (congrArg some (by kernel_rfl))
  f217 := Tryd.func74.trans (congrArg some (by kernel_rfl))
  f219 := Tryd.func73.trans (congrArg some (by kernel_rfl))
  f224 := Tryd.func76.trans (congrArg some (by kernel_rfl))
  f225 := Tryd.func75.trans (congrArg some (by kernel_rfl))
  f266 := Tryd.func78.trans (congrArg some (by kernel_rfl))
  f267 := Tryd.func77.trans (congrArg some (by kernel_rfl))
  f314 := Tryd.func79.trans (congrArg some (by kernel_rfl))
  t3 := Tryd.underlying3
  a3 := Tryd.isAgg3
  z3 := Tryd.sizeOf3
  v3 := Tryd.zeroValue3
  t4 := Tryd.underlying4
  a4 := Tryd.isAgg4
  z4 := Tryd.sizeOf4
  v4 := Tryd.zeroValue4
  t5 := Tryd.underlying5
  a5 := Tryd.isAgg5
  z5 := Tryd.sizeOf5
  v5 := Tryd.zeroValue5
  t9 := Tryd.underlying9
  a9 := Tryd.isAgg9
  z9 := Tryd.sizeOf9
  v9 := Tryd.zeroValue9
  t46 := Tryd.underlying86
  a46 := Tryd.isAgg86
  z46 := Tryd.sizeOf86
  v46 := Tryd.zeroValue86
  t51 := Tryd.underlying115
  a51 := Tryd.isAgg115
  z51 := Tryd.sizeOf115
  v51 := Tryd.zeroValue115
  t146 := Tryd.underlying116
  a146 := Tryd.isAgg116
  z146 := Tryd.sizeOf116
  v146 := Tryd.zeroValue116
  g1 := by kernel_rfl }
open Go.RowKit Go.Lib in
theorem Tryd.strings_Index_one (s : ByteArray) (c : UInt8) (w : World) :
    Calls Tryd.prog 69 #[.string s, .string ⟨#[c]⟩] w fun e w' => e = .returned (.int .i64 (Lib.indexByte s.data.toList c)) ∧ w' = w := Any.strings_Index_one Tryd.lays143 s c w
def Tryd.lays99_ren : Go.Shelf.Ren := ⟨fun | 99 => 52 | 206 => 59 | n => n, fun | 9 => 9 | 4 => 4 | 3 => 3 | n => n, fun | n => n⟩
theorem Tryd.lays99 : Go.Proofs.Lays.n99 Tryd.prog Tryd.lays99_ren := {
  mixed := by kernel_rfl
  f99 := Tryd.func52.trans (congrArg some (by kernel_rfl))
  f206 := Tryd.func59.trans (congrArg some (by kernel_rfl))
  t3 := Tryd.underlying3
  a3 := Tryd.isAgg3
  z3 := Tryd.sizeOf3
  v3 := Tryd.zeroValue3
  t4 := Tryd.underlying4
  a4 := Tryd.isAgg4
  z4 := Tryd.sizeOf4
  v4 := Tryd.zeroValue4
  t9 := Tryd.underlying9
  a9 := Tryd.isAgg9
  z9 := Tryd.sizeOf9
  v9 := Tryd.zeroValue9 }
open Go.RowKit Go.Lib in
theorem Tryd.strings_HasPrefix (s p : ByteArray) (w : World) :
    Calls Tryd.prog 52 #[.string s, .string p] w fun e w' => e = .returned (.bool (Lib.hasPrefix s.data.toList p.data.toList)) ∧ w' = w := Any.strings_HasPrefix Tryd.lays99 s p w
def Tryd.lays100_ren : Go.Shelf.Ren := ⟨fun | 100 => 53 | 207 => 60 | n => n, fun | 9 => 9 | 4 => 4 | 3 => 3 | n => n, fun | n => n⟩
theorem Tryd.lays100 : Go.Proofs.Lays.n100 Tryd.prog Tryd.lays100_ren := {
  mixed := by kernel_rfl
  f100 := Tryd.func53.trans (congrArg some (by kernel_rfl))
  f207 := Tryd.func60.trans (congrArg some (by kernel_rfl))
  t3 := Tryd.underlying3
  a3 := Tryd.isAgg3
  z3 := Tryd.sizeOf3
  v3 := Tryd.zeroValue3
  t4 := Tryd.underlying4
  a4 := Tryd.isAgg4
  z4 := Tryd.sizeOf4
  v4 := Tryd.zeroValue4
  t9 := Tryd.underlying9
  a9 := Tryd.isAgg9
  z9 := Tryd.sizeOf9
  v9 := Tryd.zeroValue9 }
open Go.RowKit Go.Lib in
theorem Tryd.strings_HasSuffix (s p : ByteArray) (w : World) (hs : s.size ≤ 9223372036854775807) :
    Calls Tryd.prog 53 #[.string s, .string p] w fun e w' => e = .returned (.bool (Lib.hasSuffix s.data.toList p.data.toList)) ∧ w' = w := Any.strings_HasSuffix Tryd.lays100 s p w hs
end Go.Proofs
end
section
set_option linter.unusedVariables false
set_option linter.unusedSimpArgs false
namespace Go.Proofs.YtdmfififkcnecaaDoor.Vcg
open Go.RowKit
/-- a contract of another make, as one of these -/
theorem Fun.wrap {P : Program} {G : Globs} {f : FuncId} {args : List C} {r : C} (he : entersB P f = true)
    (h : ∀ (R : Env) (vs : List Value), RepL R noLoc args vs → Calls P f vs.toArray R.w fun e w' => ∃ v, e = .returned v ∧ Below R.w.heap.size R.w w' ∧ ∀ R', Ext R R' → Rep R' noLoc r v) : Fun P G f args r 0 := by
  refine ⟨he, fun R vs hg ha => (h R vs ha).mono ?_⟩
  rintro e w' ⟨v, rfl, hb, hr⟩
  have st : PStep 0 0 R noLoc ⟨w', fun b o => b < R.w.heap.size ∧ R.M b o, R.F⟩ noLoc := PStep.mem (nx := 0) hb
  exact ⟨v, _, noLoc, rfl, rfl, st, hr _ st.ext⟩
/-- parts between slashes -/
def splS : List UInt8 → List (List UInt8)
  | [] => [[]]
  | b :: l => if b = 47 then [] :: splS l else match splS l with
    | [] => [[b]]
    | x :: r => (b :: x) :: r
theorem spl_ne (l : List UInt8) : splS l ≠ [] := by
  cases l with
  | nil => simp [splS]
  | cons b l =>
    unfold splS
    split
    · simp
    · split <;> simp
theorem spl_none : ∀ l : List UInt8, Lib.indexByte l 47 < 0 → splS l = [l]
  | [], _ => rfl
  | b :: l, h => by
    unfold Lib.indexByte at h
    by_cases hb : b = 47
    · subst hb; simp at h
    · have hb' : (b == 47) = false := by simpa using hb
      rw [hb'] at h
      simp only [Bool.false_eq_true, if_false] at h
      have hl : Lib.indexByte l 47 < 0 := by
        split at h
        · rename_i g; have := beq_iff_eq.1 g; omega
        · omega
      unfold splS
      rw [if_neg hb, spl_none l hl]
theorem index_ge : ∀ l : List UInt8, -1 ≤ Lib.indexByte l 47
  | [] => Int.le_refl _
  | b :: l => by
    have := index_ge l
    unfold Lib.indexByte
    split
    · decide
    · split
      · decide
      · omega
theorem spl_some : ∀ (l : List UInt8) (i : Nat), Lib.indexByte l 47 = (i : Int) → i < l.length ∧ splS l = l.take i :: splS (l.drop (i + 1))
  | [], i, h => by
    have h : (-1 : Int) = (i : Int) := h
    omega
  | b :: l, i, h => by
    unfold Lib.indexByte at h
    by_cases hb : b = 47
    · subst hb
      simp at h
      obtain rfl : i = 0 := by omega
      refine ⟨by simp, ?_⟩
      conv => lhs; unfold splS
      simp
    · have hb' : (b == 47) = false := by simpa using hb
      rw [hb'] at h
      simp only [Bool.false_eq_true, if_false] at h
      split at h
      · omega
      · rename_i g
        have g' : Lib.indexByte l 47 ≠ -1 := by simpa using g
        have hg := index_ge l
        obtain ⟨j, rfl⟩ : ∃ j, i = j + 1 := ⟨i - 1, by omega⟩
        have hj : Lib.indexByte l 47 = (j : Int) := by omega
        obtain ⟨h1, h2⟩ := spl_some l j hj
        refine ⟨by simp; omega, ?_⟩
        conv => lhs; unfold splS
        rw [if_neg hb, h2]
        simp
theorem spl_length (l : List UInt8) : (splS l).length ≤ l.length + 1 := by
  induction l with
  | nil => simp [splS]
  | cons b l ih =>
    unfold splS
    split
    · simp; omega
    · split
      · simp
      · rename_i x r h
        rw [h] at ih
        simp at ih ⊢; omega
theorem nfold_app : ∀ (l : List UInt8) (a : List (List UInt8)) (cur : List UInt8), nfin (l.foldl nstep (a, cur)) = a ++ (match splS l with | [] => [] | x :: r => (cur ++ x) :: r).filter (fun x => !decide (x = []))
  | [], a, cur => by
    simp only [List.foldl_nil, nfin, splS]
    by_cases h : cur = [] <;> simp [h]
  | b :: l, a, cur => by
    simp only [List.foldl_cons]
    by_cases hb : b = 47
    · subst hb
      have hn : nstep (a, cur) 47 = (if cur = [] then a else a ++ [cur], []) := by simp [nstep]
      rw [hn, nfold_app l]
      conv => rhs; unfold splS
      simp only [if_true]
      have hne := spl_ne l
      cases hs : splS l with
      | nil => exact absurd hs hne
      | cons x r => by_cases h : cur = [] <;> simp [h]
    · have hn : nstep (a, cur) b = (a, cur ++ [b]) := by simp [nstep, hb]
      rw [hn, nfold_app l]
      conv => rhs; unfold splS
      rw [if_neg hb]
      have hne := spl_ne l
      cases hs : splS l with
      | nil => exact absurd hs hne
      | cons x r => simp
theorem names_spl (l : List UInt8) : names l = (splS l).filter (fun x => !decide (x = [])) := by
  unfold names
  rw [nfold_app]
  cases hs : splS l with
  | nil => rfl
  | cons x r => simp
theorem index_fun (l : List UInt8) : Fun Tryd.prog G0 69 [.str l, .str [47]] (.sc (.int .i64 (Lib.indexByte l 47))) 0 := by
  refine Fun.wrap (by kernel_rfl) fun R vs h => ?_
  obtain ⟨v1, us1, rfl, h1, h⟩ := repL_cons.1 h
  obtain ⟨v2, us2, rfl, h2, h⟩ := repL_cons.1 h
  rw [repL_nil] at h
  subst h
  rw [rep_str] at h1 h2
  subst h1 h2
  refine (Tryd.strings_Index_one ⟨l.toArray⟩ 47 R.w).mono ?_
  rintro e w' ⟨rfl, rfl⟩
  exact ⟨_, rfl, Below.refl _ _, fun R' _ => rep_sc.2 (by simp)⟩
set_option maxRecDepth 100000 in
set_option maxHeartbeats 1000000 in
theorem splitSeq1_iter (s : List UInt8) (hs : s.length ≤ 1000000) : Iter Tryd.prog G0 67 [] [.ptr 1 0, .ptr 0 0, .ptr 2 0] [[.str s], [.str [47]], [.sc (.int .i64 0)]] (strs (splS s)) := by
  refine Iter.of (fun _ => []) (by kernel_rfl) Tryd.func67 rfl rfl (Nat.le_of_ble_eq_true rfl) (by kernel_rfl) ?_; dsimp only [Tryd.f67, List.append_eq, List.cons_append, List.nil_append]
  intro l sf
  simp -dsimp only [push_cast, seval]
  refine loop (fun x : List UInt8 × Nat => ⟨[(0, .sc (.func (.yield l) #[] #[])), (1, .ptr 1 0), (2, .ptr 0 0), (3, .ptr 2 0)], [[.str x.1], [.str [47]], [.sc (.int .i64 0)]], 0, x.2⟩)
    (fun x => x.1.length ≤ 1000000 ∧ (∃ done, splS s = done ++ splS x.1 ∧ done.length = x.2) ∧ ∀ j, j < x.2 → sf j = false) (fun x => x.1.length) (s, 0) ⟨hs, ⟨[], rfl, rfl⟩, fun j hj => by omega⟩ ?_ ?_
  · refine Weak.mk [] rfl rfl (Nat.zero_le _) rfl ?_ ?_ <;> simp -dsimp only [WeakTm, WeakBx, CLe, CLeL, push_cast, seval] <;> omega
  · rintro ⟨r, k⟩ hx
    simp only at hx ⊢
    have hr := hx.1
    have hsf := hx.2.2
    obtain ⟨done, hd, hdl⟩ := hx.2.1
    clear hx
    simp -dsimp only [push_cast, seval]
    refine call (index_fun r) ?_
    simp -dsimp only [push_cast, seval]
    by_cases hi : Lib.indexByte r 47 < 0
    · simp -dsimp only [push_cast, seval, hi]
      have hk : (strs (splS s))[k]? = some [.str r] := by
        rw [hd, spl_none r hi]; simp [← hdl]
      rw [hk]
      simp -dsimp only [push_cast, seval]
      refine ⟨by simp -dsimp only [WeakTm, WeakBx, CLe, CLeL, push_cast, seval], hsf, ?_⟩
      cases hk2 : sf k with
      | true => exact .inr ⟨Nat.succ_pos k, hk2⟩
      | false =>
        refine .inl ⟨?_, fun j (hj : j < k + 1) => ?_⟩
        · rw [hd, spl_none r hi]; simp [hdl]
        · rcases Nat.lt_or_ge j k with g | g
          · exact hsf j g
          · rw [show j = k by omega]; exact hk2
    · have hg := index_ge r
      obtain ⟨i, hii⟩ : ∃ i : Nat, Lib.indexByte r 47 = (i : Int) := ⟨(Lib.indexByte r 47).toNat, by omega⟩
      obtain ⟨hir, hsp⟩ := spl_some r i hii
      have hk : (strs (splS s))[k]? = some [.str (r.take i)] := by
        rw [hd, hsp]; simp [← hdl]
      rw [hii] at hi ⊢
      simp -dsimp only [push_cast, seval, hi]
      rw [hk]
      simp -dsimp only [push_cast, seval]
      refine ⟨by omega, by omega, by simp -dsimp only [WeakTm, WeakBx, CLe, CLeL, push_cast, seval], hsf, br (fun hk2 => ?_) (fun hk2 => ?_)⟩
      · simp -dsimp only [push_cast, seval]
        exact .inr ⟨Nat.succ_pos k, hk2⟩
      · simp -dsimp only [push_cast, seval]
        refine ⟨by omega, by omega, (r.drop (i + 1), k + 1), ⟨by simp; omega, ⟨done ++ [r.take i], by rw [hd, hsp]; simp, by simp [hdl]⟩, fun j (hj : j < k + 1) => ?_⟩, by simp; omega, Weak.mk [] rfl rfl (Nat.zero_le _) rfl ?_ ?_⟩
        · rcases Nat.lt_or_ge j k with g | g
          · exact hsf j g
          · rw [show j = k by omega]; exact hk2
        · simp -dsimp only [WeakTm, WeakBx, CLe, CLeL, push_cast, seval]
        · simp -dsimp only [WeakTm, WeakBx, CLe, CLeL, push_cast, seval]
/-- strings.SplitSeq at a slash: a function that hands out the parts -/
theorem splitSeq_fun (s : List UInt8) : FunB Tryd.prog G0 64 [.str s, .str [47], .sc (.int .i64 0)] [] 0 (.clo (.func 67) [] [.ptr 1 0, .ptr 0 0, .ptr 2 0]) [[.str s], [.str [47]], [.sc (.int .i64 0)]] 0 := by
  refine FunB.of (fun _ => []) (by kernel_rfl) Tryd.func64 rfl rfl (Nat.le_of_ble_eq_true rfl) (by kernel_rfl) (Nat.le_of_ble_eq_true rfl) ?_; dsimp only [Tryd.f64, List.append_eq, List.cons_append, List.nil_append]
  simp -dsimp only [push_cast, seval]
  exact ⟨[], rfl, rfl, by simp -dsimp only [WeakTm, WeakBx, CLe, CLeL, push_cast, seval], by simp -dsimp only [WeakTm, WeakBx, CLe, CLeL, push_cast, seval]⟩
theorem SplitSeq_fun (s : List UInt8) : FunB Tryd.prog G0 58 [.str s, .str [47]] [] 0 (.clo (.func 67) [] [.ptr 1 0, .ptr 0 0, .ptr 2 0]) [[.str s], [.str [47]], [.sc (.int .i64 0)]] 0 := by
  refine FunB.of (fun _ => []) (by kernel_rfl) Tryd.func58 rfl rfl (Nat.le_of_ble_eq_true rfl) (by kernel_rfl) (Nat.le_of_ble_eq_true rfl) ?_; dsimp only [Tryd.f58, List.append_eq, List.cons_append, List.nil_append]
  simp -dsimp only [push_cast, seval]
  refine callB [] [] (splitSeq_fun s) rfl (by simp) (by simp) (fun i hi => by cases hi) (by simp -dsimp only [push_cast, seval]) rfl ?_
  simp -dsimp only [push_cast, seval]
  exact ⟨[], rfl, rfl, by simp -dsimp only [WeakTm, WeakBx, CLe, CLeL, push_cast, seval], by simp -dsimp only [WeakTm, WeakBx, CLe, CLeL, push_cast, seval]⟩
end Go.Proofs.YtdmfififkcnecaaDoor.Vcg
end
section
set_option linter.unusedVariables false
set_option linter.unusedSimpArgs false
namespace Go.Proofs.YtdmfififkcnecaaDoor.Vcg
open Go.RowKit
abbrev full (x : List UInt8) : Bool := !decide (x = [])
/-- how many of the first k are no empty ones -/
def cnt (xs : List (List UInt8)) (k : Nat) : Nat := ((xs.take k).filter full).length
theorem cnt_succ (xs : List (List UInt8)) (k : Nat) (x : List UInt8) (h : xs[k]? = some x) : cnt xs (k + 1) = if x = [] then cnt xs k else cnt xs k + 1 := by
  unfold cnt
  rw [List.take_add_one, h]
  by_cases hx : x = [] <;> simp [hx]
theorem cnt_get (xs : List (List UInt8)) (k : Nat) (x : List UInt8) (h : xs[k]? = some x) (hx : x ≠ []) : (xs.filter full)[cnt xs k]? = some x := by
  have hk : k < xs.length := (List.getElem?_eq_some_iff.1 h).1
  have e : xs = xs.take k ++ x :: xs.drop (k + 1) := by
    have := List.take_append_drop k xs
    rw [List.drop_eq_getElem_cons hk] at this
    rw [List.getElem?_eq_getElem hk] at h
    cases h; exact this.symm
  have e2 : xs.filter full = (xs.take k).filter full ++ x :: (xs.drop (k + 1)).filter full := by
    conv => lhs; rw [e]
    rw [List.filter_append, List.filter_cons]
    simp [hx]
  rw [e2]
  unfold cnt
  simp
theorem cnt_all (xs : List (List UInt8)) : cnt xs xs.length = (xs.filter full).length := by unfold cnt; rw [List.take_length]
/-- what has been handed out was not the last -/
theorem cnt_before {xs : List (List UInt8)} {sf : Nat → Bool} : ∀ k, k ≤ xs.length → (∀ j, j < k → (full (xs.getD j []) && sf (cnt xs j)) = false) → ∀ j, j < cnt xs k → sf j = false
  | 0, _, _, j, hj => by simp [cnt] at hj
  | k + 1, hk, h, j, hj => by
    have ih := cnt_before k (by omega) fun i hi => h i (by omega)
    have hx : xs[k]? = some (xs.getD k []) := by rw [List.getD_eq_getElem?_getD, List.getElem?_eq_getElem (by omega)]; rfl
    rw [cnt_succ xs k _ hx] at hj
    by_cases he : xs.getD k [] = []
    · rw [if_pos he] at hj; exact ih j hj
    · rw [if_neg he] at hj
      rcases Nat.lt_or_ge j (cnt xs k) with g | g
      · exact ih j g
      · have h2 := h k (by omega)
        have h3 : full (xs.getD k []) = true := by simp only [full, Bool.not_eq_true', decide_eq_false_iff_not]; exact he
        rw [h3, Bool.true_and] at h2
        rw [show j = cnt xs k by omega]; exact h2
theorem strs_get {xs : List (List UInt8)} {k : Nat} {it : List C} (h : (strs xs)[k]? = some it) : ∃ x, xs[k]? = some x ∧ it = [.str x] := by
  rw [List.getElem?_map] at h
  cases hq : xs[k]? with
  | none => rw [hq] at h; cases h
  | some x => rw [hq] at h; cases h; exact ⟨x, rfl, rfl⟩
set_option maxRecDepth 100000 in
set_option maxHeartbeats 1000000 in
theorem names1_iter (p : List UInt8) (hs : p.length ≤ 1000000) : Iter Tryd.prog G0 57 [] [.row [.str p]] [] (strs (names p)) := by
  rw [names_spl]
  refine Iter.of (fun _ => []) (by kernel_rfl) Tryd.func57 rfl rfl (Nat.le_of_ble_eq_true rfl) (by kernel_rfl) ?_; dsimp only [Tryd.f57, List.append_eq, List.cons_append, List.nil_append]
  intro l sf
  simp -dsimp only [push_cast, seval]
  refine callB [] [] (SplitSeq_fun p) rfl (by simp) (by simp) (fun i hi => by cases hi) (by simp -dsimp only [push_cast, seval]) rfl ?_
  simp -dsimp only [push_cast, seval]
  refine range (strs (splS p)) (fun k => full ((splS p).getD k []) && sf (cnt (splS p) k)) 1 (fun k => ⟨[], [[.sc (.func (.yield l) #[] #[])]], 0, cnt (splS p) k⟩) (splitSeq1_iter p hs) (by simp -dsimp only [push_cast, seval]) (by simp -dsimp only [push_cast, seval]) (by simp -dsimp only [push_cast, seval]) (Nat.zero_le _) (by simp -dsimp only [push_cast, seval]) (fun it hit => ?_) (fun k _ => rfl) ?_ (fun k it hk hsf => ?_) (fun hsf => ?_)
  · obtain ⟨x, _, rfl⟩ := List.mem_map.1 hit; rfl
  · exact Weak.mk [] rfl rfl (Nat.le_refl _) rfl (by simp -dsimp only [WeakTm, WeakBx, CLe, CLeL, push_cast, seval]) (by simp -dsimp only [WeakTm, WeakBx, CLe, CLeL, push_cast, seval])
  · obtain ⟨x, hx, rfl⟩ := strs_get hk
    have hxd : (splS p).getD k [] = x := by rw [List.getD_eq_getElem?_getD, hx]; rfl
    have hkl : k < (splS p).length := (List.getElem?_eq_some_iff.1 hx).1
    have hcs := cnt_succ (splS p) k x hx
    have hbef := cnt_before (xs := splS p) (sf := sf) k (by omega) hsf
    by_cases he : x = []
    · simp -dsimp only [push_cast, seval, he]
      refine ⟨?_, Weak.mk [] rfl rfl (Nat.le_refl _) ?_ (by simp -dsimp only [WeakTm, WeakBx, CLe, CLeL, push_cast, seval]) (by simp -dsimp only [WeakTm, WeakBx, CLe, CLeL, push_cast, seval])⟩
      · rw [hxd, he]; rfl
      · simp [hcs, he, St.wt]
    · have hget := cnt_get (splS p) k x hx he
      have hg2 : (strs ((splS p).filter full))[cnt (splS p) k]? = some [.str x] := by rw [List.getElem?_map, hget]; rfl
      simp -dsimp only [push_cast, seval, he]
      rw [hg2]
      simp -dsimp only [push_cast, seval]
      refine ⟨by simp -dsimp only [WeakTm, WeakBx, CLe, CLeL, push_cast, seval], hbef, br (fun h2 => ?_) (fun h2 => ?_)⟩
      · simp -dsimp only [push_cast, seval]
        refine ⟨by rw [hxd, h2]; simp [full, he], ⟨[], [[.sc (.func (.yield l) #[] #[])]], 0, cnt (splS p) k + 1⟩, rfl, Weak.mk [] rfl rfl (Nat.le_refl _) rfl (by simp -dsimp only [WeakTm, WeakBx, CLe, CLeL, push_cast, seval]) (by simp -dsimp only [WeakTm, WeakBx, CLe, CLeL, push_cast, seval]), ?_⟩
        simp -dsimp only [push_cast, seval]
        exact .inr ⟨Nat.succ_pos _, h2⟩
      · simp -dsimp only [push_cast, seval]
        refine ⟨by rw [h2, Bool.and_false], Weak.mk [] rfl rfl (Nat.le_refl _) ?_ (by simp -dsimp only [WeakTm, WeakBx, CLe, CLeL, push_cast, seval]) (by simp -dsimp only [WeakTm, WeakBx, CLe, CLeL, push_cast, seval])⟩
        simp [hcs, he, St.wt]
  · have hall := cnt_all (splS p)
    have hbef := cnt_before (xs := splS p) (sf := sf) (splS p).length (Nat.le_refl _) fun j hj => hsf j (by simpa using hj)
    simp -dsimp only [push_cast, seval]
    refine .inl ⟨?_, ?_⟩
    · simp [hall]
    · simpa using hbef
end Go.Proofs.YtdmfififkcnecaaDoor.Vcg
end
section
set_option linter.unusedVariables false
set_option linter.unusedSimpArgs false
namespace Go.Proofs.YtdmfififkcnecaaDoor.Vcg
open Go.RowKit
theorem names_call (p : List UInt8) : Fun Tryd.prog G0 51 [.str p] (.clo (.func 57) [] [.row [.str p]]) 0 := by
  refine Fun.of (fun _ => []) (by kernel_rfl) Tryd.func51 rfl rfl (Nat.le_of_ble_eq_true rfl) (by kernel_rfl) ?_; dsimp only [Tryd.f51, List.append_eq, List.cons_append, List.nil_append]
  simp -dsimp only [push_cast, seval]
  exact ⟨[], rfl, rfl, by simp -dsimp only [WeakTm, WeakBx, CLe, CLeL, push_cast, seval]⟩
set_option maxRecDepth 100000 in
set_option maxHeartbeats 1000000 in
theorem appendSeq_fun (xs : List (List UInt8)) (f : FuncId) (cap : List C) (hsel : C.selL (fpDrop 1) cap = cap) (hit : Iter Tryd.prog G0 f [] cap [] (strs xs)) (hx : xs.length ≤ 1000001) : Fun Tryd.prog G0 56 [.sc (.slice none 0 0), .clo (.func f) [] cap] (.own 0 9 1 (strs xs)) 1 := by
  refine Fun.of (fun _ => []) (by kernel_rfl) Tryd.func56 rfl rfl (Nat.le_of_ble_eq_true rfl) (by kernel_rfl) ?_; dsimp only [Tryd.f56, List.append_eq, List.cons_append, List.nil_append]
  simp -dsimp only [push_cast, seval]
  refine range (strs xs) (fun _ => false) 1 (fun k => ⟨[], [[.own 0 9 1 (strs (xs.take k))]], 1, 0⟩) hit (by simp -dsimp only [push_cast, seval]) hsel (by simp -dsimp only [push_cast, seval]) (Nat.zero_le _) (by simp -dsimp only [push_cast, seval]) (fun it h => ?_) (fun k _ => rfl) ?_ (fun k it hk hsf => ?_) (fun hsf => ?_)
  · obtain ⟨x, _, rfl⟩ := List.mem_map.1 h; rfl
  · exact Weak.mk [.inr (9, 1)] rfl rfl (Nat.le_refl _) rfl (by simp -dsimp only [WeakTm, WeakBx, CLe, CLeL, push_cast, seval]) (by simp -dsimp only [WeakTm, WeakBx, CLe, CLeL, push_cast, seval])
  · obtain ⟨x, hx2, rfl⟩ := strs_get hk
    have hkl : k < xs.length := (List.getElem?_eq_some_iff.1 hx2).1
    simp -dsimp only [push_cast, seval]
    simp only [List.length_take]
    refine ⟨by omega, by omega, Weak.mk [.inl 0] rfl rfl (Nat.le_refl _) rfl (by simp -dsimp only [WeakTm, WeakBx, CLe, CLeL, push_cast, seval]) ?_⟩
    simp -dsimp only [WeakTm, WeakBx, CLe, CLeL, push_cast, seval]
    rw [List.take_add_one, hx2]
    rfl
  · simp -dsimp only [push_cast, seval]
    refine ⟨[.inl 0], rfl, rfl, ?_⟩
    simp -dsimp only [WeakTm, WeakBx, CLe, CLeL, push_cast, seval]
    simp
theorem collect_fun (xs : List (List UInt8)) (f : FuncId) (cap : List C) (hsel : C.selL (fpDrop 1) cap = cap) (hfrz : C.frzL cap = cap) (hit : Iter Tryd.prog G0 f [] cap [] (strs xs)) (hx : xs.length ≤ 1000001) : Fun Tryd.prog G0 50 [.clo (.func f) [] cap] (.own 0 9 1 (strs xs)) 1 := by
  refine Fun.of (fun _ => []) (by kernel_rfl) Tryd.func50 rfl rfl (Nat.le_of_ble_eq_true rfl) (by kernel_rfl) ?_; dsimp only [Tryd.f50, List.append_eq, List.cons_append, List.nil_append]
  simp -dsimp only [push_cast, seval, hfrz]
  refine call (appendSeq_fun xs f cap hsel hit hx) ?_
  simp -dsimp only [push_cast, seval]
  exact ⟨[.inl 0], rfl, rfl, by simp -dsimp only [WeakTm, WeakBx, CLe, CLeL, push_cast, seval]⟩
theorem collectNames (p : List UInt8) (hp : p.length ≤ 1000000) : Fun Tryd.prog G0 50 [.clo (.func 57) [] [.row [.str p]]] (.own 0 9 1 (strs (names p))) 1 :=
  collect_fun (names p) _ _ (by simp -dsimp only [push_cast, seval]) (by simp -dsimp only [push_cast, seval]) (names1_iter p hp) (by have := names_size p; omega)
theorem toL_str (l : List UInt8) : (ByteArray.mk l.toArray).data.toList = l := by simp
theorem hasPrefix_fun (s p : List UInt8) : Fun Tryd.prog G0 52 [.str s, .str p] (.sc (.bool (Lib.hasPrefix s p))) 0 := by
  refine Fun.wrap (by kernel_rfl) fun R vs h => ?_
  obtain ⟨v1, us1, rfl, h1, h⟩ := repL_cons.1 h
  obtain ⟨v2, us2, rfl, h2, h⟩ := repL_cons.1 h
  rw [repL_nil] at h
  subst h
  rw [rep_str] at h1 h2
  subst h1 h2
  refine (Tryd.strings_HasPrefix ⟨s.toArray⟩ ⟨p.toArray⟩ R.w).mono ?_
  rintro e w' ⟨rfl, rfl⟩
  exact ⟨_, rfl, Below.refl _ _, fun R' _ => rep_sc.2 (by simp)⟩
theorem hasSuffix_fun (s p : List UInt8) (hs : s.length ≤ 1000000) : Fun Tryd.prog G0 53 [.str s, .str p] (.sc (.bool (Lib.hasSuffix s p))) 0 := by
  refine Fun.wrap (by kernel_rfl) fun R vs h => ?_
  obtain ⟨v1, us1, rfl, h1, h⟩ := repL_cons.1 h
  obtain ⟨v2, us2, rfl, h2, h⟩ := repL_cons.1 h
  rw [repL_nil] at h
  subst h
  rw [rep_str] at h1 h2
  subst h1 h2
  refine (Tryd.strings_HasSuffix ⟨s.toArray⟩ ⟨p.toArray⟩ R.w (by simp [ByteArray.size]; omega)).mono ?_
  rintro e w' ⟨rfl, rfl⟩
  exact ⟨_, rfl, Below.refl _ _, fun R' _ => rep_sc.2 (by simp)⟩
theorem join_fun (xs : List (List UInt8)) (sep : List UInt8) (hx : xs.length ≤ 1000001) (hl : (Lib.join xs sep).length ≤ 100000000) : Fun Tryd.prog G0 55 [.sl 1 (strs xs), .str sep] (.str (Lib.join xs sep)) 0 := by
  refine Fun.wrap (by kernel_rfl) fun R vs h => ?_
  obtain ⟨v1, us1, rfl, h1, h⟩ := repL_cons.1 h
  obtain ⟨v2, us2, rfl, h2, h⟩ := repL_cons.1 h
  rw [repL_nil] at h
  subst h
  rw [rep_str] at h2
  subst h2
  obtain ⟨a, cap, rfl, hc1, hc2, hr⟩ := rep_sl.1 h1
  have hlen : (strs xs).length = xs.length := by simp
  have hmap : (xs.map fun x => ByteArray.mk x.toArray).map (·.data.toList) = xs := by
    rw [List.map_map]
    conv => rhs; rw [← List.map_id xs]
    exact List.map_congr_left fun x _ => by simp
  rcases hr with hr | ⟨b, o, rfl, hr⟩
  · have : xs = [] := by simpa using hr
    subst this
    refine (Tryd.strings_Join_none a cap ⟨sep.toArray⟩ R.w).mono ?_
    rintro e w' ⟨rfl, rfl⟩
    exact ⟨_, rfl, Below.refl _ _, fun R' _ => rep_str.2 (by simp [Lib.join])⟩
  · by_cases hx0 : xs = []
    · subst hx0
      refine (Tryd.strings_Join_none _ cap ⟨sep.toArray⟩ R.w).mono ?_
      rintro e w' ⟨rfl, rfl⟩
      exact ⟨_, rfl, Below.refl _ _, fun R' _ => rep_str.2 (by simp [Lib.join])⟩
    · have hcells : ∀ (j : Nat) x, (xs.map fun x => ByteArray.mk x.toArray)[j]? = some x → R.w.cell? ⟨b, o + j, none⟩ = some (.string x) := fun j x hj => by
        rw [List.getElem?_map] at hj
        cases hq : xs[j]? with
        | none => rw [hq] at hj; cases hj
        | some y =>
          rw [hq] at hj; cases hj
          obtain ⟨_, g⟩ := repRows_get hr j [.str y] (by rw [List.getElem?_map, hq]; rfl)
          obtain ⟨⟨v, g1, _, g2, _⟩, _⟩ := repCells_cons.1 g
          rw [rep_str] at g2
          subst g2
          simpa using g1
      have hb : b < R.w.heap.size := by
        cases xs with
        | nil => exact absurd rfl hx0
        | cons x r =>
          exact cell_lt (hcells 0 ⟨x.toArray⟩ rfl)
      have hj := Tryd.strings_Join b o cap (xs.map fun x => ByteArray.mk x.toArray) ⟨sep.toArray⟩ R.w hcells hb (by simp; omega) (by simpa using hc1) (by rw [hmap]; simp; omega)
      rw [hmap] at hj
      simp only [List.length_map] at hj
      rw [hlen]
      refine hj.mono ?_
      rintro e w' ⟨rfl, hbl⟩
      exact ⟨_, rfl, hbl, fun R' _ => rep_str.2 (by simp)⟩
end Go.Proofs.YtdmfififkcnecaaDoor.Vcg
end
section
set_option linter.unusedVariables false
set_option linter.unusedSimpArgs false
namespace Go.Proofs.YtdmfififkcnecaaDoor.Vcg
open Go.RowKit
def readC (p : List UInt8) : C := .agg [boolC (Lib.hasPrefix p [47]), .own 0 9 1 (strs (names p)), boolC (!decide (names p = []) && Lib.hasSuffix p [47])]
set_option maxRecDepth 100000 in
set_option maxHeartbeats 1000000 in
theorem read_fun (p : List UInt8) (hp : p.length ≤ 1000000) : Fun Tryd.prog G0 42 [.str p] (readC p) 1 := by
  refine Fun.of (fun _ => []) (by kernel_rfl) Tryd.func42 rfl rfl (Nat.le_of_ble_eq_true rfl) (by kernel_rfl) ?_; dsimp only [Tryd.f42, List.append_eq, List.cons_append, List.nil_append]
  simp -dsimp only [push_cast, seval]
  refine call (names_call p) ?_
  simp -dsimp only [push_cast, seval]
  refine call (collectNames p hp) ?_
  simp -dsimp only [push_cast, seval]
  refine call (hasPrefix_fun p [47]) ?_
  simp -dsimp only [push_cast, seval]
  by_cases h : names p = []
  · simp -dsimp only [push_cast, seval, h]
    exact ⟨[.inl 0], rfl, rfl, by simp only [readC]; simp -dsimp only [WeakTm, WeakBx, CLe, CLeL, push_cast, seval, h]; simp⟩
  · have h' : 0 < (names p).length := List.length_pos_iff.2 h
    simp -dsimp only [push_cast, seval, h']
    refine call (hasSuffix_fun p [47] hp) ?_
    simp -dsimp only [push_cast, seval]
    exact ⟨[.inl 0], rfl, rfl, by simp only [readC]; simp -dsimp only [WeakTm, WeakBx, CLe, CLeL, push_cast, seval, h]⟩
/-- a path's text: begins with a slash? its names; ends with a slash? -/
def pathC (a : Bool) (xs : List (List UInt8)) (s : Bool) : C := .agg [boolC a, .sl 1 (strs xs), boolC s]
def put (a : Bool) (xs : List (List UInt8)) (s : Bool) : List UInt8 := (if a then [47] else []) ++ Lib.join xs [47] ++ (if s && !decide (xs = []) then [47] else [])
def joinP (xs : List (List UInt8)) : List UInt8 := if xs = [] then [47] else 47 :: Lib.join xs [47]
set_option maxRecDepth 100000 in
set_option maxHeartbeats 1000000 in
theorem joinP_fun (xs : List (List UInt8)) (hx : xs.length ≤ 1000001) (hl : (Lib.join xs [47]).length ≤ 100000000) : Fun Tryd.prog G0 49 [.sl 1 (strs xs)] (.str (joinP xs)) 0 := by
  refine Fun.of (fun _ => []) (by kernel_rfl) Tryd.func49 rfl rfl (Nat.le_of_ble_eq_true rfl) (by kernel_rfl) ?_; dsimp only [Tryd.f49, List.append_eq, List.cons_append, List.nil_append]
  simp -dsimp only [push_cast, seval]
  by_cases h : xs = []
  · simp -dsimp only [push_cast, seval, h]
    exact ⟨[], rfl, rfl, by simp only [joinP, h]; simp -dsimp only [WeakTm, WeakBx, CLe, CLeL, push_cast, seval]⟩
  · have h' : ¬ ((xs.length : Int) = 0) := by have := List.length_pos_iff.2 h; omega
    simp -dsimp only [push_cast, seval, h']
    refine call ((join_fun xs [47] hx hl)) ?_
    simp -dsimp only [push_cast, seval]
    exact ⟨by omega, [], rfl, rfl, by simp only [joinP, if_neg h]; simp -dsimp only [WeakTm, WeakBx, CLe, CLeL, push_cast, seval]⟩
def longP (p : List UInt8) : Bool := (names p).any (fun x => decide (255 < x.length)) || decide (4095 < p.length)
def baseP (p : List UInt8) : List UInt8 := (names p).getLastD (if Lib.hasPrefix p [47] then [47] else [])
def underP (p q : List UInt8) : Bool := decide (p = q) || decide (q = [47]) || Lib.hasPrefix p (q ++ [47])
end Go.Proofs.YtdmfififkcnecaaDoor.Vcg
end
section
set_option linter.unusedVariables false
set_option linter.unusedSimpArgs false
namespace Go.Proofs.YtdmfififkcnecaaDoor.Vcg
open Go.RowKit
theorem enc_list (r : Int) (hv : Utf8.valid r = true) (h128 : 128 ≤ r) : ∃ l c, (Utf8.encode r).data.toList = l ++ [c] ∧ 1 ≤ l.length ∧ l.length ≤ 3 ∧ 128 ≤ c.toNat := by
  obtain ⟨h1, h2, h3⟩ := encode_facts r hv h128
  generalize Utf8.encode r = bs at h1 h2 h3 ⊢
  have hs : bs.data.toList.length = bs.size := Array.length_toList
  have h4 := h3 (by omega)
  have h5 : bs.data.toList[bs.size - 1]? = some (bs[bs.size - 1]'(by omega)) := Lib.data_getElem? bs _ (by omega)
  generalize bs[bs.size - 1]'(by omega) = c at h4 h5
  generalize bs.data.toList = l at hs h5
  refine ⟨l.take (bs.size - 1), c, ?_, by simp; omega, by simp; omega, h4⟩
  have := List.take_append_drop (bs.size - 1) l
  have hd : l.drop (bs.size - 1) = [c] := by
    have hlt : bs.size - 1 < l.length := by omega
    rw [List.drop_eq_getElem_cons hlt]
    rw [List.getElem?_eq_getElem hlt] at h5
    cases h5
    rw [List.drop_eq_nil_of_le (by omega)]
  rw [hd] at this
  exact this.symm
end Go.Proofs.YtdmfififkcnecaaDoor.Vcg
end
section
set_option linter.unusedVariables false
set_option linter.unusedSimpArgs false
namespace Go.Proofs.YtdmfififkcnecaaDoor.Vcg
open Go.RowKit Go.Shelf
/-- a slash or a zero byte -/
def bad (b : UInt8) : Bool := decide (b = 47) || decide (b = 0)
theorem contains_bad (b : UInt8) : [47, 0].contains b = bad b := by simp [bad, List.contains_iff_mem, Bool.eq_iff_iff]
theorem run_next_at {P : Program} {W : World} {b : Nat} {s : ByteArray} {pos : Nat} (hb : W.heap[b]? = some (.stringIter s pos)) (h : pos < s.size) (ty : TypeId) :
    (Instr.next (.pointer (some ⟨b, 0, none⟩)) true ty).run P W = .ok (.tuple #[.bool true, .int .i64 pos, .int .i32 (Utf8.decode s pos).1]) (W.putObj b (.stringIter s (pos + (Utf8.decode s pos).2))) := by
  simp only [Instr.next, getObj, setObj, Sem.run_bind, Sem.run, hb, Result.andThen, h, if_true]
  simp [goInt, Sem.run, hb, World.putObj]
theorem run_next_at_end {P : Program} {W : World} {b : Nat} {s : ByteArray} {pos : Nat} (hb : W.heap[b]? = some (.stringIter s pos)) (h : ¬ pos < s.size) (ty : TypeId) :
    (Instr.next (.pointer (some ⟨b, 0, none⟩)) true ty).run P W = .ok (.tuple #[.bool false]) W := by
  simp [Instr.next, getObj, Sem.run, hb, h]
theorem get!_eq (s : ByteArray) (k : Nat) (hk : k < s.size) : s.get! k = s[k]'hk := by
  simp [ByteArray.get!, getElem!_pos, hk]; rfl
theorem valid_of {c : Nat} (h : c < 55296 ∨ (57344 ≤ c ∧ c ≤ 1114111)) : Utf8.valid (c : Int) = true := by
  unfold Utf8.valid
  rcases h with h | h
  · have h1 : ((c : Int) < 55296) := by omega
    simp; omega
  · simp; omega
/-- what a rune is: an ASCII byte, or bytes that are none -/
theorem decode_step (s : ByteArray) (i : Nat) (h : i < s.size) : (((s[i]'h).toNat < 128 ∧ Utf8.decode s i = ((s[i]'h).toNat, 1)) ∨ (128 ≤ (Utf8.decode s i).1 ∧ Utf8.valid ((Utf8.decode s i).1 : Int) = true ∧ 1 ≤ (Utf8.decode s i).2 ∧ i + (Utf8.decode s i).2 ≤ s.size ∧ ∀ j (hj : j < s.size), i ≤ j → j < i + (Utf8.decode s i).2 → 128 ≤ (s[j]'hj).toNat)) := by
  by_cases ha : (s[i]'h).toNat < 128
  · exact .inl ⟨ha, decode_ascii s i h ha⟩
  · refine .inr ?_
    have hb0 : ¬ (s.get! (i + 0)).toNat < 128 := by rw [Nat.add_zero, get!_eq s i h]; exact ha
    have hby : ∀ n, (∀ k, k < n → 128 ≤ (s.get! (i + k)).toNat) → ∀ j (hj : j < s.size), i ≤ j → j < i + n → 128 ≤ (s[j]'hj).toNat := fun n hn j hj h1 h2 => by
      have := hn (j - i) (by omega)
      rw [show i + (j - i) = j by omega, get!_eq s j hj] at this
      exact this
    have hone : 128 ≤ 65533 ∧ Utf8.valid ((65533 : Nat) : Int) = true ∧ 1 ≤ 1 ∧ i + 1 ≤ s.size ∧ ∀ j (hj : j < s.size), i ≤ j → j < i + 1 → 128 ≤ (s[j]'hj).toNat :=
      ⟨by omega, by decide, by omega, by omega, hby 1 fun k hk => by rw [show k = 0 by omega]; omega⟩
    unfold Utf8.decode
    simp only [if_neg hb0, Utf8.runeError]
    obtain ⟨b0, hg0⟩ : ∃ b, (s.get! (i + 0)).toNat = b := ⟨_, rfl⟩
    obtain ⟨b1, hg1⟩ : ∃ b, (s.get! (i + 1)).toNat = b := ⟨_, rfl⟩
    obtain ⟨b2, hg2⟩ : ∃ b, (s.get! (i + 2)).toNat = b := ⟨_, rfl⟩
    obtain ⟨b3, hg3⟩ : ∃ b, (s.get! (i + 3)).toNat = b := ⟨_, rfl⟩
    rw [hg0] at hb0
    simp only [hg0, hg1, hg2, hg3]
    have hlt : b0 < 256 := by rw [← hg0]; exact (s.get! (i + 0)).toNat_lt
    split
    · rename_i hc
      simp only [Bool.and_eq_true, beq_iff_eq, decide_eq_true_eq] at hc
      split
      · rename_i hv
        refine ⟨by show 128 ≤ _; omega, valid_of (.inl (by omega)), by show 1 ≤ 2; omega, by show i + 2 ≤ _; omega, hby 2 fun k hk => ?_⟩
        rcases (show k = 0 ∨ k = 1 by omega) with rfl | rfl
        · rw [hg0]; omega
        · rw [hg1]; omega
      · exact hone
    · split
      · rename_i hc
        simp only [Bool.and_eq_true, beq_iff_eq, decide_eq_true_eq] at hc
        split
        · rename_i hv
          simp only [Bool.and_eq_true, decide_eq_true_eq] at hv
          refine ⟨by show 128 ≤ _; omega, hv.2, by show 1 ≤ 3; omega, by show i + 3 ≤ _; omega, hby 3 fun k hk => ?_⟩
          rcases (show k = 0 ∨ k = 1 ∨ k = 2 by omega) with rfl | rfl | rfl
          · rw [hg0]; omega
          · rw [hg1]; omega
          · rw [hg2]; omega
        · exact hone
      · split
        · rename_i hc
          simp only [Bool.and_eq_true, beq_iff_eq, decide_eq_true_eq] at hc
          split
          · rename_i hv
            simp only [Bool.and_eq_true, decide_eq_true_eq] at hv
            refine ⟨by show 128 ≤ _; omega, hv.2, by show 1 ≤ 4; omega, by show i + 4 ≤ _; omega, hby 4 fun k hk => ?_⟩
            rcases (show k = 0 ∨ k = 1 ∨ k = 2 ∨ k = 3 by omega) with rfl | rfl | rfl | rfl
            · rw [hg0]; omega
            · rw [hg1]; omega
            · rw [hg2]; omega
            · rw [hg3]; omega
          · exact hone
        · exact hone
theorem heap_iter (w : World) (s : ByteArray) : (w.iter s 0).heap[w.heap.size]? = some (.stringIter s 0) := World.iter_heap w s 0
theorem putObj_iter {w W : World} {s : ByteArray} {p : Nat} (hb : Below w.heap.size w W) (hs : W.heap[w.heap.size]? = some (.stringIter s p)) (p' : Nat) : Below w.heap.size w (W.putObj w.heap.size (.stringIter s p')) ∧ (W.putObj w.heap.size (.stringIter s p')).heap[w.heap.size]? = some (.stringIter s p') :=
  ⟨⟨hb.os, hb.tape, hb.output, by simpa using hb.size, fun k hk => (World.putObj_heap_other (by omega)).trans (hb.block k hk)⟩, World.putObj_heap_same (heap_lt hs)⟩
theorem below_iter {w W W' : World} {s : ByteArray} {p : Nat} (hb : Below w.heap.size w W) (hs : W.heap[w.heap.size]? = some (.stringIter s p)) (h : Below W.heap.size W W') : Below w.heap.size w W' ∧ W'.heap[w.heap.size]? = some (.stringIter s p) :=
  ⟨hb.trans (h.mono hb.size), (h.block _ (heap_lt hs)).trans hs⟩
end Go.Proofs.YtdmfififkcnecaaDoor.Vcg
end
section
set_option linter.unusedVariables false
set_option linter.unusedSimpArgs false
namespace Go.Proofs.YtdmfififkcnecaaDoor.Vcg
open Go.RowKit Go.Shelf
theorem indexAny_bad : ∀ l : List UInt8, decide (0 ≤ Lib.indexAny l [47, 0]) = l.any bad
  | [] => rfl
  | b :: l => by
    have ih := indexAny_bad l
    have hg := Lib.indexAny_ge [47, 0] l
    unfold Lib.indexAny
    rw [contains_bad, List.any_cons]
    cases hb : bad b with
    | true => simp
    | false =>
      simp only [Bool.false_eq_true, if_false, Bool.false_or, ← ih]
      split
      · rename_i h
        have := beq_iff_eq.1 h
        first | rw [this]; done | (rw [this]; rfl)
      · rename_i h
        have h' : Lib.indexAny l [47, 0] ≠ -1 := by simpa using h
        rw [decide_eq_decide]; omega
/-- may it be a name? -/
def may (l : List UInt8) : Bool := !decide (l = []) && decide (l.length ≤ 255) && !l.any bad && !decide (l = [46]) && !decide (l = [46, 46])
end Go.Proofs.YtdmfififkcnecaaDoor.Vcg
end
section
set_option linter.unusedVariables false
set_option linter.unusedSimpArgs false
namespace Go.Proofs.YtdmfififkcnecaaDoor.Vcg
open Go.RowKit
def ixNot (xs : List (List UInt8)) : Int := match xs.findIdx? (fun x => !may x) with | some i => (i : Int) | none => -1
theorem ixNot_ge (xs : List (List UInt8)) : decide (0 ≤ ixNot xs) = !xs.all may := by
  unfold ixNot
  cases h : xs.findIdx? (fun x => !may x) with
  | none =>
    have := List.findIdx?_eq_none_iff.1 h
    have h2 : xs.all may = true := List.all_eq_true.2 fun x hx => by simpa using this x hx
    rw [h2]; rfl
  | some i =>
    have h1 := List.findIdx?_eq_some_iff_getElem.1 h
    obtain ⟨hi, hp, _⟩ := h1
    have h2 : xs.all may = false := List.all_eq_false.2 ⟨xs[i], List.getElem_mem hi, by simpa using hp⟩
    rw [h2]; simp
def plain (p : List UInt8) : Bool := decide (joinP (names p) = p) && (names p).all may
def plainC (p : List UInt8) : C := .tup [.own 0 9 1 (strs (if plain p then names p else [])), boolC (plain p)]
theorem join_cons2 (x y : List UInt8) (r : List (List UInt8)) (sep : List UInt8) : Lib.join (x :: y :: r) sep = x ++ sep ++ Lib.join (y :: r) sep := by
  simp [Lib.join, List.intercalate, List.intersperse]
theorem join_len : ∀ xs : List (List UInt8), xs ≠ [] → (Lib.join xs [47]).length + 1 = (xs.map fun x => x.length + 1).sum
  | [], h => absurd rfl h
  | [x], _ => by simp [Lib.join]
  | x :: y :: r, _ => by
    have ih := join_len (y :: r) (by simp)
    rw [join_cons2]
    simp only [List.length_append, List.length_cons, List.length_nil, List.map_cons, List.sum_cons] at ih ⊢
    omega
theorem spl_sum : ∀ l : List UInt8, ((splS l).map fun x => x.length + 1).sum = l.length + 1
  | [] => rfl
  | b :: l => by
    have ih := spl_sum l
    unfold splS
    split
    · simp only [List.map_cons, List.sum_cons, List.length_nil, List.length_cons, ih]; omega
    · cases h : splS l with
      | nil => exact absurd h (spl_ne l)
      | cons x r =>
        rw [h] at ih
        simp only [List.map_cons, List.sum_cons, List.length_cons] at ih ⊢
        omega
theorem filter_sum (f : List UInt8 → Bool) : ∀ xs : List (List UInt8), ((xs.filter f).map fun x => x.length + 1).sum ≤ (xs.map fun x => x.length + 1).sum
  | [] => by simp
  | x :: r => by
    have ih := filter_sum f r
    rw [List.filter_cons]
    split
    · simp only [List.map_cons, List.sum_cons]; omega
    · simp only [List.map_cons, List.sum_cons]; omega
theorem mem_sum : ∀ (xs : List (List UInt8)) (x : List UInt8), x ∈ xs → x.length + 1 ≤ (xs.map fun x => x.length + 1).sum
  | y :: r, x, h => by
    simp only [List.map_cons, List.sum_cons]
    rcases List.mem_cons.1 h with rfl | h
    · omega
    · have := mem_sum r x h; omega
theorem joinNames (l : List UInt8) : (Lib.join (names l) [47]).length ≤ l.length ∧ ∀ x ∈ names l, x.length ≤ l.length := by
  have h1 := spl_sum l
  have h2 := filter_sum (fun x => !decide (x = [])) (splS l)
  rw [← names_spl] at h2
  refine ⟨?_, fun x hx => ?_⟩
  · by_cases h : names l = []
    · rw [h]; simp [Lib.join]
    · have := join_len (names l) h; omega
  · have := mem_sum (names l) x hx; omega
end Go.Proofs.YtdmfififkcnecaaDoor.Vcg
end
section
set_option linter.unusedVariables false
set_option linter.unusedSimpArgs false
namespace Go.Proofs.YtdmfififkcnecaaDoor.Vcg
open Go.RowKit
theorem pre_at (l : List UInt8) (b : UInt8) (h : l[0]? = some b) : Lib.hasPrefix l [47] = decide ((b.toNat : Int) = 47) := by
  cases l with
  | nil => simp at h
  | cons x r =>
    simp at h; subst h
    unfold Lib.hasPrefix
    by_cases h : x = 47
    · subst h; rfl
    · have h2 : ¬ ((x.toNat : Int) = 47) := u8_ne h
      have h3 : ¬ (47 = x) := fun e => h e.symm
      simp [List.isPrefixOf, h2, h3]
theorem suf_at (l : List UInt8) (b : UInt8) (h : l[l.length - 1]? = some b) : Lib.hasSuffix l [47] = decide ((b.toNat : Int) = 47) := by
  have hne : l ≠ [] := fun e => by subst e; simp at h
  have hl : l = l.take (l.length - 1) ++ [b] := by
    have hlt : l.length - 1 < l.length := by have := List.length_pos_iff.2 hne; omega
    have := List.take_append_drop (l.length - 1) l
    rw [List.drop_eq_getElem_cons hlt] at this
    rw [List.getElem?_eq_getElem hlt] at h
    cases h
    rw [List.drop_eq_nil_of_le (by omega)] at this
    exact this.symm
  rw [hl]
  unfold Lib.hasSuffix
  by_cases h : b = 47
  · subst h
    have : ([47] : List UInt8) <:+ l.take (l.length - 1) ++ [47] := List.suffix_append _ _
    rw [List.isSuffixOf_iff_suffix.2 this]; rfl
  · have h2 : ¬ ((b.toNat : Int) = 47) := u8_ne h
    have h3 : ¬ ([47] : List UInt8) <:+ l.take (l.length - 1) ++ [b] := fun ⟨t, ht⟩ => by
      have := List.append_inj_right' ht rfl
      simp at this
      exact h this.symm
    have h4 : ([47] : List UInt8).isSuffixOf (l.take (l.length - 1) ++ [b]) = false := by
      rw [Bool.eq_false_iff]; exact fun e => h3 (List.isSuffixOf_iff_suffix.1 e)
    rw [h4]; simp [h2]
theorem names_nil : names [] = [] := rfl
/-- what the reference puts together, so far -/
theorem join_take (xs : List (List UInt8)) (k : Nat) (x : List UInt8) (h : xs[k]? = some x) : Lib.join (xs.take (k + 1)) [47] = (if k = 0 then x else Lib.join (xs.take k) [47] ++ [47] ++ x) := by
  cases xs with
  | nil => simp at h
  | cons y r =>
    cases k with
    | zero => simp at h; subst h; simp [Lib.join_one]
    | succ k =>
      simp only [List.take_succ_cons, Nat.succ_ne_zero, if_false]
      rw [Lib.join_cons, Lib.join_cons, Lib.joinTail_take_succ _ _ _ x (by simpa using h)]
      simp [List.append_assoc]
theorem join_le (xs : List (List UInt8)) (k : Nat) : (Lib.join (xs.take k) [47]).length ≤ (Lib.join xs [47]).length := by
  by_cases h : xs.take k = []
  · rw [h]; simp [Lib.join]
  · have h1 := join_len (xs.take k) h
    have hx : xs ≠ [] := fun e => h (by rw [e]; simp)
    have h2 := join_len xs hx
    have h3 : ((xs.take k).map fun x => x.length + 1).sum ≤ (xs.map fun x => x.length + 1).sum := by
      conv => rhs; rw [← List.take_append_drop k xs, List.map_append, List.sum_append]
      omega
    omega
theorem joinP_take (xs : List (List UInt8)) (k : Nat) (x : List UInt8) (h : xs[k]? = some x) : (if xs.take (k + 1) = [] then [] else joinP (xs.take (k + 1))) = (if xs.take k = [] then [] else joinP (xs.take k)) ++ [47] ++ x := by
  have hk : k < xs.length := (List.getElem?_eq_some_iff.1 h).1
  have h1 : xs.take (k + 1) ≠ [] := fun e => by have := congrArg List.length e; rw [List.length_take] at this; simp only [List.length_nil] at this; omega
  rw [if_neg h1]
  unfold joinP
  rw [if_neg h1, join_take xs k x h]
  by_cases hk0 : k = 0
  · subst hk0; simp
  · have h2 : xs.take k ≠ [] := fun e => by have := congrArg List.length e; rw [List.length_take] at this; simp only [List.length_nil] at this; omega
    simp [h2, hk0]
def jst (xs : List (List UInt8)) (k : Nat) : List UInt8 := if xs.take k = [] then [] else joinP (xs.take k)
theorem jst_len (xs : List (List UInt8)) (k : Nat) : (jst xs k).length ≤ (Lib.join xs [47]).length + 1 := by
  unfold jst
  split
  · simp
  · rename_i h
    have := join_le xs k
    unfold joinP
    rw [if_neg h]
    simp; omega
set_option maxRecDepth 100000 in
set_option maxHeartbeats 1000000 in
theorem refMay_fun (l : List UInt8) (hl : l.length ≤ 1000000) : Fun Tryd.prog G0 47 [.str l] (boolC (may l)) 0 := by
  refine Fun.of (fun _ => []) (by kernel_rfl) Tryd.func47 rfl rfl (Nat.le_of_ble_eq_true rfl) (by kernel_rfl) ?_; dsimp only [Tryd.f47, List.append_eq, List.cons_append, List.nil_append]
  simp -dsimp only [push_cast, seval]
  refine loop (fun k : Nat => ⟨[(0, .str l), (3, .sc (.int .i64 k))], [], 0, 0⟩) (fun k => k ≤ l.length ∧ ∀ j (hj : j < l.length), j < k → bad (l[j]'hj) = false) (fun k => l.length - k) 0 ⟨Nat.zero_le _, fun j _ hj => by omega⟩ ?_ ?_
  · exact Weak.mk [] rfl rfl (Nat.zero_le _) rfl (by simp -dsimp only [WeakTm, WeakBx, CLe, CLeL, push_cast, seval]) (by simp -dsimp only [WeakTm, WeakBx, CLe, CLeL, push_cast, seval])
  · intro k hk
    have hk1 := hk.1
    have hk2 := hk.2
    by_cases h : k < l.length
    · have hb : l[k]? = some (l[k]'h) := List.getElem?_eq_getElem h
      have hbad : bad (l[k]'h) = true → may l = false := fun hb => by
        have : l.any bad = true := List.any_eq_true.2 ⟨l[k]'h, List.getElem_mem h, hb⟩
        simp [may, this]
      by_cases h47 : l[k]'h = 47
      · have h1 : (((l[k]'h).toNat : Int) = 47) := by rw [h47]; rfl
        simp -dsimp only [push_cast, seval, h, hb, h1]
        refine ⟨by omega, [], rfl, rfl, ?_⟩
        simp -dsimp only [WeakTm, WeakBx, CLe, CLeL, push_cast, seval]
        rw [hbad (by simp [bad, h47])]
      · have h1 : ¬ (((l[k]'h).toNat : Int) = 47) := u8_ne h47
        by_cases h00 : l[k]'h = 0
        · have h2 : (((l[k]'h).toNat : Int) = 0) := by rw [h00]; rfl
          simp -dsimp only [push_cast, seval, h, hb, h1, h2]
          refine ⟨by omega, by omega, [], rfl, rfl, ?_⟩
          simp -dsimp only [WeakTm, WeakBx, CLe, CLeL, push_cast, seval]
          rw [hbad (by simp [bad, h00])]
        · have h2 : ¬ (((l[k]'h).toNat : Int) = 0) := u8_ne h00
          simp -dsimp only [push_cast, seval, h, hb, h1, h2]
          (try simp only [List.length_append, List.length_cons, List.length_nil, List.length_map, List.length_take, List.length_drop]); repeat (refine And.intro (by omega) ?_)
          refine ⟨k + 1, ⟨by omega, fun j hj hjk => ?_⟩, by omega, Weak.mk [] rfl rfl (Nat.zero_le _) rfl (by simp -dsimp only [WeakTm, WeakBx, CLe, CLeL, push_cast, seval]) (by simp -dsimp only [WeakTm, WeakBx, CLe, CLeL, push_cast, seval])⟩
          rcases Nat.lt_or_ge j k with g | g
          · exact hk2 j hj g
          · have : j = k := by omega
            subst this
            simp [bad, h47, h00]
    · have hany : l.any bad = false := List.any_eq_false.2 fun x hx => by
        obtain ⟨j, hj, rfl⟩ := List.getElem_of_mem hx
        simp [hk2 j hj (by omega)]
      obtain rfl : k = l.length := by omega
      by_cases h0 : l = []
      · subst h0
        simp -dsimp only [push_cast, seval]
        exact ⟨[], rfl, rfl, by simp -dsimp only [WeakTm, WeakBx, CLe, CLeL, push_cast, seval] <;> simp [may]⟩
      · have h1 : (1 : Int) ≤ (l.length : Int) := by have := List.length_pos_iff.2 h0; omega
        by_cases h2 : (l.length : Int) ≤ 255
        · have h2' : l.length ≤ 255 := by omega
          by_cases h4 : l = [46]
          · subst h4
            simp -dsimp only [push_cast, seval]
            exact ⟨[], rfl, rfl, by simp -dsimp only [WeakTm, WeakBx, CLe, CLeL, push_cast, seval] <;> simp [may]⟩
          · by_cases h5 : l = [46, 46]
            · subst h5
              simp -dsimp only [push_cast, seval, h4]
              exact ⟨[], rfl, rfl, by simp -dsimp only [WeakTm, WeakBx, CLe, CLeL, push_cast, seval] <;> simp [may]⟩
            · simp -dsimp only [push_cast, seval, h, h1, h2, h4, h5]
              exact ⟨[], rfl, rfl, by simp -dsimp only [WeakTm, WeakBx, CLe, CLeL, push_cast, seval] <;> simp [may, h0, h2', hany, h4, h5]⟩
        · have h2' : ¬ l.length ≤ 255 := by omega
          simp -dsimp only [push_cast, seval, h, h1, h2]
          exact ⟨[], rfl, rfl, by simp -dsimp only [WeakTm, WeakBx, CLe, CLeL, push_cast, seval] <;> simp [may, h2']⟩
def refUnder (p q : List UInt8) : Bool := decide ((names p).take (names q).length = names q)
end Go.Proofs.YtdmfififkcnecaaDoor.Vcg
end
section
set_option linter.unusedVariables false
set_option maxRecDepth 20000
set_option linter.unusedSimpArgs false
namespace Go.Proofs.YtdmfififkcnecaaDoor.Vcg
open Go.RowKit
def rightV (es : List EntV) : Prop := ∀ i (h : i < es.length), may es[i].name = true ∧ 1 ≤ es[i].ino ∧ (0 < i → Op.bytesLess es[i - 1].name es[i].name = true)
instance (es : List EntV) : Decidable (rightV es) := by unfold rightV; infer_instance
def secondN (x : NodV) : Prop := (x.kind = 1 ∨ x.kind = 2 ∨ x.kind = 3) ∧ (x.kind ≠ 2 → x.es = [] ∧ x.parent = 0) ∧ (x.kind = 2 → x.data = [] ∧ rightV x.es) ∧ (x.kind = 3 → 1 ≤ x.data.length ∧ x.data.length ≤ 4095 ∧ ∀ b ∈ x.data, b ≠ 0)
instance (x : NodV) : Decidable (secondN x) := by unfold secondN; infer_instance
def secondV (f : FsV) : Prop := ∀ x ∈ f.xs, secondN x
instance (f : FsV) : Decidable (secondV f) := by unfold secondV; infer_instance
def checkV (f : FsV) : Int := if firstV f then if secondV f then if thirdV f then if fourthV f then if fifthV f then if fitsV f then 0 else 6 else 5 else 4 else 3 else 2 else 1
def okV (f : FsV) : Prop := fewV f.xs ∧ checkV f = 0
instance (f : FsV) : Decidable (okV f) := by unfold okV; infer_instance
theorem right_fun (es : List EntV) (hl : es.length ≤ 100000) (hn : ∀ e ∈ es, e.name.length ≤ 1000000) : Fun Tryd.prog G0 38 [.sl 2 (entsC es)] (boolC (decide (rightV es))) 0 := by
  have hle : (entsC es).length = es.length := List.length_map ..
  refine Fun.of (fun _ => []) (by kernel_rfl) Tryd.func38 rfl rfl (Nat.le_of_ble_eq_true rfl) (by kernel_rfl) ?_; dsimp only [Tryd.f38, List.append_eq, List.cons_append, List.nil_append]
  simp -dsimp only [push_cast, seval]
  refine loop (fun i : Nat => ⟨[(0, .sl 2 (entsC es)), (3, .sc (.int .i64 i))], [], 0, 0⟩) (fun i => i ≤ es.length ∧ ∀ j (h : j < es.length), j < i → may es[j].name = true ∧ 1 ≤ es[j].ino ∧ (0 < j → Op.bytesLess es[j - 1].name es[j].name = true)) (fun i => es.length - i) 0 ⟨Nat.zero_le _, fun j h h' => absurd h' (Nat.not_lt_zero _)⟩ ?_ ?_
  · exact Weak.mk [] rfl rfl (Nat.zero_le _) rfl (by simp -dsimp only [WeakTm, WeakBx, CLe, CLeL, push_cast, seval]) (by simp -dsimp only [WeakTm, WeakBx, CLe, CLeL, push_cast, seval])
  · rintro i ⟨h1, h2⟩
    by_cases h : i < es.length
    · have g1 := ents_at es i h
      have hm := refMay_fun es[i].name (hn _ (List.getElem_mem h))
      simp -dsimp only [push_cast, seval, hle, h, g1]
      (try simp only [List.length_append, List.length_cons, List.length_nil, List.length_map, List.length_take, List.length_drop]); repeat (refine And.intro (by omega) ?_)
      cases c1 : may es[i].name with
      | false =>
        have hno : ¬ rightV es := fun hr => by have := (hr i h).1; rw [c1] at this; cases this
        (first | refine call (hm) ?_ | refine callP (hm) ?_); simp -dsimp only [push_cast, seval, c1]
        exact ⟨[], rfl, rfl, by simp -dsimp only [WeakTm, WeakBx, CLe, CLeL, push_cast, seval, hno]⟩
      | true =>
        by_cases c2 : es[i].ino < 1
        · have hno : ¬ rightV es := fun hr => by have := (hr i h).2.1; omega
          (first | refine call (hm) ?_ | refine callP (hm) ?_); simp -dsimp only [push_cast, seval, c1, g1, c2]
          (try simp only [List.length_append, List.length_cons, List.length_nil, List.length_map, List.length_take, List.length_drop]); repeat (refine And.intro (by omega) ?_)
          exact ⟨[], rfl, rfl, by simp -dsimp only [WeakTm, WeakBx, CLe, CLeL, push_cast, seval, hno]⟩
        · have step : (0 < i → Op.bytesLess es[i - 1].name es[i].name = true) → ∀ j (h : j < es.length), j < i + 1 → may es[j].name = true ∧ 1 ≤ es[j].ino ∧ (0 < j → Op.bytesLess es[j - 1].name es[j].name = true) := fun hb j hj hlt => by
            rcases Nat.lt_or_ge j i with q | q
            · exact h2 j hj q
            · have : j = i := by omega
              subst this
              exact ⟨c1, by omega, hb⟩
          by_cases c3 : 0 < i
          · have g2 := ents_at es (i - 1) (by omega)
            have e1 : (i : Int) - 1 = ((i - 1 : Nat) : Int) := by omega
            cases c4 : Op.bytesLess es[i - 1].name es[i].name with
            | true =>
              (first | refine call (hm) ?_ | refine callP (hm) ?_); simp -dsimp only [push_cast, seval, c1, g1, c2]
              (try simp only [List.length_append, List.length_cons, List.length_nil, List.length_map, List.length_take, List.length_drop]); repeat (refine And.intro (by omega) ?_)
              simp -dsimp only [push_cast, seval, c3, e1, g2, g1, c4]
              (try simp only [List.length_append, List.length_cons, List.length_nil, List.length_map, List.length_take, List.length_drop]); repeat (refine And.intro (by omega) ?_)
              exact ⟨i + 1, ⟨h, step fun _ => c4⟩, by omega, Weak.mk [] rfl rfl (Nat.zero_le _) rfl (by simp -dsimp only [WeakTm, WeakBx, CLe, CLeL, push_cast, seval]) (by simp -dsimp only [WeakTm, WeakBx, CLe, CLeL, push_cast, seval])⟩
            | false =>
              have hno : ¬ rightV es := fun hr => by have := (hr i h).2.2 c3; rw [c4] at this; cases this
              (first | refine call (hm) ?_ | refine callP (hm) ?_); simp -dsimp only [push_cast, seval, c1, g1, c2]
              (try simp only [List.length_append, List.length_cons, List.length_nil, List.length_map, List.length_take, List.length_drop]); repeat (refine And.intro (by omega) ?_)
              simp -dsimp only [push_cast, seval, c3, e1, g2, g1, c4]
              (try simp only [List.length_append, List.length_cons, List.length_nil, List.length_map, List.length_take, List.length_drop]); repeat (refine And.intro (by omega) ?_)
              exact ⟨[], rfl, rfl, by simp -dsimp only [WeakTm, WeakBx, CLe, CLeL, push_cast, seval, hno]⟩
          · (first | refine call (hm) ?_ | refine callP (hm) ?_); simp -dsimp only [push_cast, seval, c1, g1, c2]
            (try simp only [List.length_append, List.length_cons, List.length_nil, List.length_map, List.length_take, List.length_drop]); repeat (refine And.intro (by omega) ?_)
            simp -dsimp only [push_cast, seval, c3]
            (try simp only [List.length_append, List.length_cons, List.length_nil, List.length_map, List.length_take, List.length_drop]); repeat (refine And.intro (by omega) ?_)
            exact ⟨i + 1, ⟨h, step fun h => absurd h c3⟩, by omega, Weak.mk [] rfl rfl (Nat.zero_le _) rfl (by simp -dsimp only [WeakTm, WeakBx, CLe, CLeL, push_cast, seval]) (by simp -dsimp only [WeakTm, WeakBx, CLe, CLeL, push_cast, seval])⟩
    · have hr : rightV es := fun j hj => h2 j hj (by omega)
      simp -dsimp only [push_cast, seval, hle, h]
      exact ⟨[], rfl, rfl, by simp -dsimp only [WeakTm, WeakBx, CLe, CLeL, push_cast, seval, hr]⟩
end Go.Proofs.YtdmfififkcnecaaDoor.Vcg
end
section
set_option linter.unusedVariables false
set_option maxRecDepth 20000
set_option linter.unusedSimpArgs false
namespace Go.Proofs.YtdmfififkcnecaaDoor.Vcg
open Go.RowKit
set_option maxHeartbeats 1000000 in
theorem second_fun (f : FsV) (hf : fewV f.xs) : Fun Tryd.prog G0 27 [.agg (fsC f)] (boolC (decide (secondV f))) 0 := by
  have hll : (nodsC f.xs).length = f.xs.length := List.length_map ..
  have h40 := hf.1
  refine Fun.of (fun _ => []) (by kernel_rfl) Tryd.func27 rfl rfl (Nat.le_of_ble_eq_true rfl) (by kernel_rfl) ?_; dsimp only [Tryd.f27, List.append_eq, List.cons_append, List.nil_append]
  simp -dsimp only [push_cast, seval]
  refine loop (fun i : Nat => ⟨[(1, .ptr 0 0), (3, .sc (.int .i64 i))], [fsC f], 0, 0⟩) (fun i => i ≤ f.xs.length ∧ ∀ x ∈ f.xs.take i, secondN x) (fun i => f.xs.length - i) 0 ⟨Nat.zero_le _, fun x hx => by simp at hx⟩ ?_ ?_
  · exact Weak.mk [] rfl rfl (Nat.zero_le _) rfl (by simp -dsimp only [WeakTm, WeakBx, CLe, CLeL, push_cast, seval]) (by simp -dsimp only [WeakTm, WeakBx, CLe, CLeL, push_cast, seval])
  · rintro i ⟨h1, h2⟩
    by_cases h : i < f.xs.length
    case neg =>
      rw [List.take_of_length_le (by omega)] at h2
      have hn : secondV f := h2
      simp -dsimp only [push_cast, seval, hll, h]
      exact ⟨[], rfl, rfl, by simp -dsimp only [WeakTm, WeakBx, CLe, CLeL, push_cast, seval, hn]⟩
    have g1 := nods_at f.xs i h
    have hbad : ¬ secondN f.xs[i] → ¬ secondV f := fun hn h' => hn (h' _ (List.getElem_mem h))
    have hs := hf.2 _ (List.getElem_mem h)
    have step : secondN f.xs[i] → ∀ x ∈ f.xs.take (i + 1), secondN x := fun hq => mem_take_succ h h2 hq
    simp -dsimp only [push_cast, seval, hll, h, g1]
    (try simp only [List.length_append, List.length_cons, List.length_nil, List.length_map, List.length_take, List.length_drop]); repeat (refine And.intro (by omega) ?_)
    generalize f.xs[i] = x at g1 hbad hs step
    have hle : (entsC x.es).length = x.es.length := List.length_map ..
    have hent : x.es.length ≤ 40 := hs.2.1
    by_cases k2 : x.kind = 2
    · by_cases d0 : x.data = []
      · have hr := right_fun x.es (by omega) fun e he => by have := hs.2.2 e he; omega
        cases c1 : decide (rightV x.es) with
        | false =>
          have hn := hbad fun hq => of_decide_eq_false c1 (hq.2.2.1 k2).2
          simp -dsimp only [push_cast, seval, k2, d0]
          (first | refine call (hr) ?_ | refine callP (hr) ?_); simp -dsimp only [push_cast, seval, c1]
          exact ⟨[], rfl, rfl, by simp -dsimp only [WeakTm, WeakBx, CLe, CLeL, push_cast, seval, hn]⟩
        | true =>
          have hq : secondN x := ⟨.inr (.inl k2), fun h => absurd k2 h, fun _ => ⟨d0, of_decide_eq_true c1⟩, fun h => by omega⟩
          simp -dsimp only [push_cast, seval, k2, d0]
          (first | refine call (hr) ?_ | refine callP (hr) ?_); simp -dsimp only [push_cast, seval, c1, k2]
          refine loop (fun j : Nat => ⟨[(1, .ptr 0 0), (3, .sc (.int .i64 i)), (4, .ptr 1 0), (5, .sc (.int .i64 j))], [fsC f, nodC x], 0, 0⟩) (fun j => j = 0) (fun j => 0) 0 rfl ?_ ?_
          · exact Weak.mk [] rfl rfl (Nat.zero_le _) rfl (by simp -dsimp only [WeakTm, WeakBx, CLe, CLeL, push_cast, seval, k2, d0]) (by simp -dsimp only [WeakTm, WeakBx, CLe, CLeL, push_cast, seval, k2, d0])
          · rintro j rfl
            simp -dsimp only [push_cast, seval, d0]
            (try simp only [List.length_append, List.length_cons, List.length_nil, List.length_map, List.length_take, List.length_drop]); repeat (refine And.intro (by omega) ?_)
            exact ⟨i + 1, ⟨h, step hq⟩, by omega, Weak.mk [] rfl rfl (Nat.zero_le _) rfl (by simp -dsimp only [WeakTm, WeakBx, CLe, CLeL, push_cast, seval]) (by simp -dsimp only [WeakTm, WeakBx, CLe, CLeL, push_cast, seval])⟩
      · have hn := hbad fun hq => d0 (hq.2.2.1 k2).1
        simp -dsimp only [push_cast, seval, k2, d0]
        exact ⟨[], rfl, rfl, by simp -dsimp only [WeakTm, WeakBx, CLe, CLeL, push_cast, seval, hn]⟩
    by_cases e0 : x.es = []
    case neg =>
      have hn := hbad fun hq => e0 (hq.2.1 k2).1
      have hpos : 0 < (x.es.length : Int) := by have := List.length_pos_iff.2 e0; omega
      by_cases k1 : x.kind = 1
      · simp -dsimp only [push_cast, seval, k1, hle, hpos]
        exact ⟨[], rfl, rfl, by simp -dsimp only [WeakTm, WeakBx, CLe, CLeL, push_cast, seval, hn]⟩
      · by_cases k3 : x.kind = 3
        · simp -dsimp only [push_cast, seval, k1, k2, k3, hle, hpos]
          exact ⟨[], rfl, rfl, by simp -dsimp only [WeakTm, WeakBx, CLe, CLeL, push_cast, seval, hn]⟩
        · have hn := hbad fun hq => by rcases hq.1 with q | q | q <;> contradiction
          simp -dsimp only [push_cast, seval, k1, k2, k3]
          exact ⟨[], rfl, rfl, by simp -dsimp only [WeakTm, WeakBx, CLe, CLeL, push_cast, seval, hn]⟩
    have hl0 : x.es.length = 0 := by rw [e0]; rfl
    by_cases p0 : x.parent = 0
    case neg =>
      have hn := hbad fun hq => p0 (hq.2.1 k2).2
      by_cases k1 : x.kind = 1
      · simp -dsimp only [push_cast, seval, k1, hle, hl0, p0]
        exact ⟨[], rfl, rfl, by simp -dsimp only [WeakTm, WeakBx, CLe, CLeL, push_cast, seval, hn]⟩
      · by_cases k3 : x.kind = 3
        · simp -dsimp only [push_cast, seval, k1, k2, k3, hle, hl0, p0]
          exact ⟨[], rfl, rfl, by simp -dsimp only [WeakTm, WeakBx, CLe, CLeL, push_cast, seval, hn]⟩
        · have hn := hbad fun hq => by rcases hq.1 with q | q | q <;> contradiction
          simp -dsimp only [push_cast, seval, k1, k2, k3]
          exact ⟨[], rfl, rfl, by simp -dsimp only [WeakTm, WeakBx, CLe, CLeL, push_cast, seval, hn]⟩
    by_cases k1 : x.kind = 1
    · have hq : secondN x := ⟨.inl k1, fun _ => ⟨e0, p0⟩, fun h => absurd h k2, fun h => by omega⟩
      simp -dsimp only [push_cast, seval, k1, hle, hl0, p0]
      refine loop (fun j : Nat => ⟨[(1, .ptr 0 0), (3, .sc (.int .i64 i)), (4, .ptr 1 0), (5, .sc (.int .i64 j))], [fsC f, nodC x], 0, 0⟩) (fun j => j = 0) (fun j => 0) 0 rfl ?_ ?_
      · exact Weak.mk [] rfl rfl (Nat.zero_le _) rfl (by simp -dsimp only [WeakTm, WeakBx, CLe, CLeL, push_cast, seval, k1, p0]) (by simp -dsimp only [WeakTm, WeakBx, CLe, CLeL, push_cast, seval, k1, p0])
      · rintro j rfl
        by_cases hd : (0 : Int) < x.data.length
        · simp -dsimp only [push_cast, seval, hd, k1]
          (try simp only [List.length_append, List.length_cons, List.length_nil, List.length_map, List.length_take, List.length_drop]); repeat (refine And.intro (by omega) ?_)
          exact ⟨i + 1, ⟨h, step hq⟩, by omega, Weak.mk [] rfl rfl (Nat.zero_le _) rfl (by simp -dsimp only [WeakTm, WeakBx, CLe, CLeL, push_cast, seval]) (by simp -dsimp only [WeakTm, WeakBx, CLe, CLeL, push_cast, seval])⟩
        · simp -dsimp only [push_cast, seval, hd, k1]
          (try simp only [List.length_append, List.length_cons, List.length_nil, List.length_map, List.length_take, List.length_drop]); repeat (refine And.intro (by omega) ?_)
          exact ⟨i + 1, ⟨h, step hq⟩, by omega, Weak.mk [] rfl rfl (Nat.zero_le _) rfl (by simp -dsimp only [WeakTm, WeakBx, CLe, CLeL, push_cast, seval]) (by simp -dsimp only [WeakTm, WeakBx, CLe, CLeL, push_cast, seval])⟩
    by_cases k3 : x.kind = 3
    case neg =>
      have hn := hbad fun hq => by rcases hq.1 with q | q | q <;> contradiction
      simp -dsimp only [push_cast, seval, k1, k2, k3]
      exact ⟨[], rfl, rfl, by simp -dsimp only [WeakTm, WeakBx, CLe, CLeL, push_cast, seval, hn]⟩
    by_cases l1 : (x.data.length : Int) < 1
    · have hn := hbad fun hq => by have := (hq.2.2.2 k3).1; omega
      simp -dsimp only [push_cast, seval, k1, k2, k3, hle, hl0, p0, l1]
      exact ⟨[], rfl, rfl, by simp -dsimp only [WeakTm, WeakBx, CLe, CLeL, push_cast, seval, hn]⟩
    by_cases l2 : 4095 < (x.data.length : Int)
    · have hn := hbad fun hq => by have := (hq.2.2.2 k3).2.1; omega
      simp -dsimp only [push_cast, seval, k1, k2, k3, hle, hl0, p0, l1, l2]
      exact ⟨[], rfl, rfl, by simp -dsimp only [WeakTm, WeakBx, CLe, CLeL, push_cast, seval, hn]⟩
    simp -dsimp only [push_cast, seval, k1, k2, k3, hle, hl0, p0, l1, l2]
    refine loop (fun j : Nat => ⟨[(1, .ptr 0 0), (3, .sc (.int .i64 i)), (4, .ptr 1 0), (5, .sc (.int .i64 j))], [fsC f, nodC x], 0, 0⟩) (fun j => j ≤ x.data.length ∧ ∀ b ∈ x.data.take j, b ≠ 0) (fun j => x.data.length - j) 0 ⟨Nat.zero_le _, fun b hb => by simp at hb⟩ ?_ ?_
    · exact Weak.mk [] rfl rfl (Nat.zero_le _) rfl (by simp -dsimp only [WeakTm, WeakBx, CLe, CLeL, push_cast, seval, k3, p0]) (by simp -dsimp only [WeakTm, WeakBx, CLe, CLeL, push_cast, seval, k3, p0])
    · rintro j ⟨j1, j2⟩
      by_cases hj : j < x.data.length
      · have hb : x.data[j]? = some x.data[j] := List.getElem?_eq_getElem hj
        by_cases z : (x.data[j].toNat : Int) = 0
        · have hn := hbad fun hq => (hq.2.2.2 k3).2.2 _ (List.getElem_mem hj) (UInt8.toNat_inj.1 (by simpa using z))
          simp -dsimp only [push_cast, seval, hj, k3, hb, z]
          (try simp only [List.length_append, List.length_cons, List.length_nil, List.length_map, List.length_take, List.length_drop]); repeat (refine And.intro (by omega) ?_)
          exact ⟨[], rfl, rfl, by simp -dsimp only [WeakTm, WeakBx, CLe, CLeL, push_cast, seval, hn]⟩
        · simp -dsimp only [push_cast, seval, hj, k3, hb, z]
          (try simp only [List.length_append, List.length_cons, List.length_nil, List.length_map, List.length_take, List.length_drop]); repeat (refine And.intro (by omega) ?_)
          exact ⟨j + 1, ⟨hj, mem_take_succ hj j2 fun hz => z (by rw [hz]; rfl)⟩, by omega, Weak.mk [] rfl rfl (Nat.zero_le _) rfl (by simp -dsimp only [WeakTm, WeakBx, CLe, CLeL, push_cast, seval]) (by simp -dsimp only [WeakTm, WeakBx, CLe, CLeL, push_cast, seval])⟩
      · rw [List.take_of_length_le (by omega)] at j2
        have hq : secondN x := ⟨.inr (.inr k3), fun _ => ⟨e0, p0⟩, fun h => absurd h k2, fun _ => ⟨by omega, by omega, j2⟩⟩
        simp -dsimp only [push_cast, seval, hj, k3]
        (try simp only [List.length_append, List.length_cons, List.length_nil, List.length_map, List.length_take, List.length_drop]); repeat (refine And.intro (by omega) ?_)
        exact ⟨i + 1, ⟨h, step hq⟩, by omega, Weak.mk [] rfl rfl (Nat.zero_le _) rfl (by simp -dsimp only [WeakTm, WeakBx, CLe, CLeL, push_cast, seval]) (by simp -dsimp only [WeakTm, WeakBx, CLe, CLeL, push_cast, seval])⟩
theorem bytes_le {xs : List NodV} (h : ∀ x ∈ xs, x.data.length ≤ 5000) : bytesV xs ≤ xs.length * 5000 := by
  induction xs with
  | nil => exact Nat.le_refl _
  | cons x r ih =>
    have h1 := h x List.mem_cons_self
    have h2 := ih fun y hy => h y (List.mem_cons_of_mem _ hy)
    unfold bytesV at h2 ⊢
    rw [List.filter_cons]
    split
    · rw [List.map_cons, List.sum_cons, List.length_cons]; omega
    · rw [List.length_cons]; omega
theorem check_fun (f : FsV) (hf : fewV f.xs) : Fun Tryd.prog G0 17 [.agg (fsC f)] (.sc (.int .i64 (checkV f))) 0 := by
  have h40 := hf.1
  have hb : bytesV f.xs ≤ 1000000 := by have := bytes_le fun x hx => (hf.2 x hx).1; omega
  refine Fun.of (fun _ => []) (by kernel_rfl) Tryd.func17 rfl rfl (Nat.le_of_ble_eq_true rfl) (by kernel_rfl) ?_; dsimp only [Tryd.f17, List.append_eq, List.cons_append, List.nil_append]
  simp -dsimp only [push_cast, seval]
  by_cases c1 : firstV f
  case neg =>
    (first | refine call (first_fun f (by omega)) ?_ | refine callP (first_fun f (by omega)) ?_); simp -dsimp only [push_cast, seval, decide_eq_false c1]
    exact ⟨[], rfl, rfl, by simp -dsimp only [WeakTm, WeakBx, CLe, CLeL, push_cast, seval, checkV, c1]⟩
  (first | refine call (first_fun f (by omega)) ?_ | refine callP (first_fun f (by omega)) ?_); simp -dsimp only [push_cast, seval, decide_eq_true c1]
  by_cases c2 : secondV f
  case neg =>
    (first | refine call (second_fun f hf) ?_ | refine callP (second_fun f hf) ?_); simp -dsimp only [push_cast, seval, decide_eq_false c2]
    exact ⟨[], rfl, rfl, by simp -dsimp only [WeakTm, WeakBx, CLe, CLeL, push_cast, seval, checkV, c1, c2]⟩
  (first | refine call (second_fun f hf) ?_ | refine callP (second_fun f hf) ?_); simp -dsimp only [push_cast, seval, decide_eq_true c2]
  by_cases c3 : thirdV f
  case neg =>
    (first | refine call (third_fun f hf) ?_ | refine callP (third_fun f hf) ?_); simp -dsimp only [push_cast, seval, decide_eq_false c3]
    exact ⟨[], rfl, rfl, by simp -dsimp only [WeakTm, WeakBx, CLe, CLeL, push_cast, seval, checkV, c1, c2, c3]⟩
  (first | refine call (third_fun f hf) ?_ | refine callP (third_fun f hf) ?_); simp -dsimp only [push_cast, seval, decide_eq_true c3]
  by_cases c4 : fourthV f
  case neg =>
    (first | refine call (fourth_fun f hf) ?_ | refine callP (fourth_fun f hf) ?_); simp -dsimp only [push_cast, seval, decide_eq_false c4]
    exact ⟨[], rfl, rfl, by simp -dsimp only [WeakTm, WeakBx, CLe, CLeL, push_cast, seval, checkV, c1, c2, c3, c4]⟩
  (first | refine call (fourth_fun f hf) ?_ | refine callP (fourth_fun f hf) ?_); simp -dsimp only [push_cast, seval, decide_eq_true c4]
  by_cases c5 : fifthV f
  case neg =>
    (first | refine call (fifth_fun f hf c3 c1.2.2.2.2.2.2.2.1) ?_ | refine callP (fifth_fun f hf c3 c1.2.2.2.2.2.2.2.1) ?_); simp -dsimp only [push_cast, seval, decide_eq_false c5]
    exact ⟨[], rfl, rfl, by simp -dsimp only [WeakTm, WeakBx, CLe, CLeL, push_cast, seval, checkV, c1, c2, c3, c4, c5]⟩
  (first | refine call (fifth_fun f hf c3 c1.2.2.2.2.2.2.2.1) ?_ | refine callP (fifth_fun f hf c3 c1.2.2.2.2.2.2.2.1) ?_); simp -dsimp only [push_cast, seval, decide_eq_true c5]
  by_cases c6 : fitsV f
  case neg =>
    (first | refine call (fits_fun f hf hb) ?_ | refine callP (fits_fun f hf hb) ?_); simp -dsimp only [push_cast, seval, decide_eq_false c6]
    exact ⟨[], rfl, rfl, by simp -dsimp only [WeakTm, WeakBx, CLe, CLeL, push_cast, seval, checkV, c1, c2, c3, c4, c5, c6]⟩
  (first | refine call (fits_fun f hf hb) ?_ | refine callP (fits_fun f hf hb) ?_); simp -dsimp only [push_cast, seval, decide_eq_true c6]
  exact ⟨[], rfl, rfl, by simp -dsimp only [WeakTm, WeakBx, CLe, CLeL, push_cast, seval, checkV, c1, c2, c3, c4, c5, c6]⟩
theorem ok_fun (f : FsV) : Fun Tryd.prog G0 7 [.agg (fsC f)] (boolC (decide (okV f))) 0 := by
  refine Fun.of (fun _ => []) (by kernel_rfl) Tryd.func7 rfl rfl (Nat.le_of_ble_eq_true rfl) (by kernel_rfl) ?_; dsimp only [Tryd.f7, List.append_eq, List.cons_append, List.nil_append]
  simp -dsimp only [push_cast, seval]
  by_cases c1 : fewV f.xs
  case neg =>
    have hn : ¬ okV f := fun h => c1 h.1
    (first | refine call (fewT_fun f) ?_ | refine callP (fewT_fun f) ?_); simp -dsimp only [push_cast, seval, decide_eq_false c1]
    exact ⟨[], rfl, rfl, by simp -dsimp only [WeakTm, WeakBx, CLe, CLeL, push_cast, seval, hn]⟩
  (first | refine call (fewT_fun f) ?_ | refine callP (fewT_fun f) ?_); simp -dsimp only [push_cast, seval, decide_eq_true c1]
  (first | refine call (check_fun f c1) ?_ | refine callP (check_fun f c1) ?_); simp -dsimp only [push_cast, seval]
  exact ⟨[], rfl, rfl, by simp -dsimp only [WeakTm, WeakBx, CLe, CLeL, push_cast, seval, okV, c1]⟩
end Go.Proofs.YtdmfififkcnecaaDoor.Vcg
end
section
set_option linter.unusedVariables false
set_option maxRecDepth 20000
set_option linter.unusedSimpArgs false
namespace Go.Proofs.YtdmfififkcnecaaDoor.Vcg
open Go.RowKit
structure SeeV where
  path : List UInt8
  ino : Int
deriving DecidableEq, Inhabited
abbrev seeC (s : SeeV) : List C := [.str s.path, .sc (.int .i64 s.ino)]
abbrev seesC (l : List SeeV) : List (List C) := l.map seeC
def underV (p n : List UInt8) : List UInt8 := if p = [47] then p ++ n else p ++ [47] ++ n
def belowV (xs : List NodV) : Nat → Int → List UInt8 → List SeeV
  | 0, _, _ => []
  | m + 1, ino, p => if hasV ino xs then ⟨p, ino⟩ :: (gotV ino xs).es.flatMap (fun e => belowV xs m e.ino (underV p e.name)) else []
theorem under_len (p n : List UInt8) : (underV p n).length ≤ p.length + 1 + n.length := by
  unfold underV
  split <;> simp <;> omega
theorem sees_at (xs : List SeeV) (i : Nat) (h : i < xs.length) : (seesC xs)[i]? = some (seeC xs[i]) := by simp [List.getElem?_map, List.getElem?_eq_getElem h]
theorem flat_take {α β : Type} {g : α → List β} {l : List α} {k : Nat} (h : k < l.length) : (l.take (k + 1)).flatMap g = (l.take k).flatMap g ++ g l[k] := by
  rw [List.take_add_one, List.getElem?_eq_getElem h, List.flatMap_append]
  simp
theorem flat_take_le {α β : Type} {g : α → List β} {l : List α} (k : Nat) : ((l.take k).flatMap g).length ≤ (l.flatMap g).length := by
  have h : l.flatMap g = (l.take k).flatMap g ++ (l.drop k).flatMap g := by rw [← List.flatMap_append, List.take_append_drop]
  rw [h, List.length_append]; omega
section
variable {G : Globs}
theorem under_fun (p n : List UInt8) (h : p.length + n.length ≤ 1000000000) : Fun Tryd.prog G 46 [.str p, .str n] (.str (underV p n)) 0 := by
  refine Fun.of (fun _ => []) (by kernel_rfl) Tryd.func46 rfl rfl (Nat.le_of_ble_eq_true rfl) (by kernel_rfl) ?_; dsimp only [Tryd.f46, List.append_eq, List.cons_append, List.nil_append]
  by_cases hp : p = [47]
  · subst hp
    have hu : underV [47] n = [47] ++ n := by unfold underV; rw [if_pos rfl]
    simp -dsimp only [push_cast, seval]
    (try simp only [List.length_append, List.length_cons, List.length_nil, List.length_map, List.length_take, List.length_drop]); repeat (refine And.intro (by omega) ?_)
    exact ⟨[], rfl, rfl, by simp -dsimp only [WeakTm, WeakBx, CLe, CLeL, push_cast, seval, hu]⟩
  · have hu : underV p n = p ++ [47] ++ n := by unfold underV; rw [if_neg hp]
    simp -dsimp only [push_cast, seval, hp]
    (try simp only [List.length_append, List.length_cons, List.length_nil, List.length_map, List.length_take, List.length_drop]); repeat (refine And.intro (by omega) ?_)
    exact ⟨[], rfl, rfl, by simp -dsimp only [WeakTm, WeakBx, CLe, CLeL, push_cast, seval, hu]⟩
set_option maxHeartbeats 1000000 in
theorem below_fun (f : FsV) (hf : fewV f.xs) : ∀ (m : Nat) (ino : Int) (p : List UInt8), m ≤ 1000 → p.length + m * 301 ≤ 1000000 → (belowV f.xs m ino p).length ≤ 1000000 → Fun Tryd.prog G 34 [.agg (fsC f), .sc (.int .i64 ino), .str p, .sc (.int .i64 ((m : Int) - 1))] (.own 0 44 2 (seesC (belowV f.xs m ino p))) 1
  | 0, ino, p, hm, hp, hl => by
    have h40 := hf.1
    refine Fun.of (fun _ => []) (by kernel_rfl) Tryd.func34 rfl rfl (Nat.le_of_ble_eq_true rfl) (by kernel_rfl) ?_; dsimp only [Tryd.f34, List.append_eq, List.cons_append, List.nil_append]
    simp -dsimp only [push_cast, seval]
    (first | refine call (rget_fun f ino (by omega)) ?_ | refine callP (rget_fun f ino (by omega)) ?_); simp -dsimp only [push_cast, seval]
    cases hh : hasV ino f.xs with
    | true =>
      simp -dsimp only [push_cast, seval]
      exact ⟨[.inr (44, 2)], rfl, rfl, by simp -dsimp only [WeakTm, WeakBx, CLe, CLeL, push_cast, seval, belowV]⟩
    | false =>
      simp -dsimp only [push_cast, seval]
      exact ⟨[.inr (44, 2)], rfl, rfl, by simp -dsimp only [WeakTm, WeakBx, CLe, CLeL, push_cast, seval, belowV]⟩
  | m + 1, ino, p, hm, hp, hl => by
    have h40 := hf.1
    have e1 : (((m + 1 : Nat) : Int) - 1) = (m : Int) := by omega
    rw [e1]
    refine Fun.of (fun i => if i = 8 then [false, false, false, false, false, false, false, false, false, false, false, false, false, false, false, false, false, false, false, true] else []) (by kernel_rfl) Tryd.func34 rfl rfl (Nat.le_of_ble_eq_true rfl) (by kernel_rfl) ?_; dsimp only [Tryd.f34, List.append_eq, List.cons_append, List.nil_append]
    simp -dsimp only [push_cast, seval]
    (first | refine call (rget_fun f ino (by omega)) ?_ | refine callP (rget_fun f ino (by omega)) ?_); simp -dsimp only [push_cast, seval]
    cases hh : hasV ino f.xs with
    | false =>
      have hb : belowV f.xs (m + 1) ino p = [] := by rw [belowV, hh]; rfl
      simp -dsimp only [push_cast, seval]
      exact ⟨[.inr (44, 2)], rfl, rfl, by simp -dsimp only [WeakTm, WeakBx, CLe, CLeL, push_cast, seval, hb]⟩
    | true =>
      obtain ⟨hm1, hino⟩ := got_has hh
      have hb : belowV f.xs (m + 1) ino p = ⟨p, ino⟩ :: (gotV ino f.xs).es.flatMap (fun e => belowV f.xs m e.ino (underV p e.name)) := by rw [belowV, hh]; rfl
      rw [hb] at hl
      have hs := hf.2 _ hm1
      have hnm : ((m : Int) < 0) = False := eq_false (by omega)
      simp -dsimp only [push_cast, seval, hnm]
      generalize gotV ino f.xs = x at hs hb hl
      have hle : (entsC x.es).length = x.es.length := List.length_map ..
      rw [List.length_cons] at hl
      refine loop (fun k : Nat => ⟨[(2, .str p), (3, .sc (.int .i64 m)), (4, .ptr 0 0), (9, .ptr 1 0), (11, .own 0 44 2 (seesC (⟨p, ino⟩ :: (x.es.take k).flatMap (fun e => belowV f.xs m e.ino (underV p e.name))))), (12, .sc (.int .i64 k))], [fsC f, nodC x], 1, 0⟩) (fun k => k ≤ x.es.length) (fun k => x.es.length - k) 0 (Nat.zero_le _) ?_ ?_
      · exact Weak.mk [.inl 0] rfl rfl (Nat.zero_le _) rfl (by simp -dsimp only [WeakTm, WeakBx, CLe, CLeL, push_cast, seval, List.take_zero, List.flatMap_nil]) (by simp -dsimp only [WeakTm, WeakBx, CLe, CLeL, push_cast, seval])
      · intro k hk0
        by_cases hk : k < x.es.length
        · have g1 := ents_at x.es k hk
          have ht := flat_take (g := fun e : EntV => belowV f.xs m e.ino (underV p e.name)) hk
          have h1 := flat_take_le (g := fun e : EntV => belowV f.xs m e.ino (underV p e.name)) (l := x.es) (k + 1)
          have hn := hs.2.2 _ (List.getElem_mem hk)
          have hul := under_len p x.es[k].name
          rw [ht] at h1
          rw [List.length_append] at h1
          have hbl : ∀ l : List SeeV, (seesC l).length = l.length := fun l => List.length_map ..
          simp -dsimp only [push_cast, seval, hle, hk, g1]
          (try simp only [List.length_append, List.length_cons, List.length_nil, List.length_map, List.length_take, List.length_drop]); repeat (refine And.intro (by omega) ?_)
          (first | refine call (under_fun p x.es[k].name (by omega)) ?_ | refine callP (under_fun p x.es[k].name (by omega)) ?_); simp -dsimp only [push_cast, seval]
          (try simp only [List.length_append, List.length_cons, List.length_nil, List.length_map, List.length_take, List.length_drop]); repeat (refine And.intro (by omega) ?_)
          (first | refine call (below_fun f hf m x.es[k].ino (underV p x.es[k].name) (by omega) (by omega) (by omega)) ?_ | refine callP (below_fun f hf m x.es[k].ino (underV p x.es[k].name) (by omega) (by omega) (by omega)) ?_); simp -dsimp only [push_cast, seval]
          have hent := hs.2.1
          rw [List.length_map, List.length_map]
          refine ⟨by omega, by omega, ⟨by omega, by omega⟩, k + 1, hk, by omega, Weak.mk [.inl 0] rfl rfl (Nat.zero_le _) rfl (by simp -dsimp only [WeakTm, WeakBx, CLe, CLeL, push_cast, seval, ht, List.map_append]) (by simp -dsimp only [WeakTm, WeakBx, CLe, CLeL, push_cast, seval])⟩
        · simp -dsimp only [push_cast, seval, hle, hk]
          have hkk : x.es.take k = x.es := List.take_of_length_le (by omega)
          rw [hkk]
          exact ⟨[.inl 0], rfl, rfl, by simp -dsimp only [WeakTm, WeakBx, CLe, CLeL, push_cast, seval, hb]⟩
/-- the walk from the root -/
abbrev listV (xs : List NodV) : List SeeV := belowV xs (xs.length + 1) 1 [47]
theorem list_fun (f : FsV) (hf : fewV f.xs) (hl : (listV f.xs).length ≤ 1000000) : Fun Tryd.prog G 20 [.agg (fsC f)] (.own 0 44 2 (seesC (listV f.xs))) 1 := by
  have hll : (nodsC f.xs).length = f.xs.length := List.length_map ..
  have h40 := hf.1
  have hb := below_fun (G := G) f hf (f.xs.length + 1) 1 [47] (by omega) (by simp; omega) hl
  rw [show (((f.xs.length + 1 : Nat) : Int) - 1) = (f.xs.length : Int) by omega] at hb
  refine Fun.of (fun _ => []) (by kernel_rfl) Tryd.func20 rfl rfl (Nat.le_of_ble_eq_true rfl) (by kernel_rfl) ?_; dsimp only [Tryd.f20, List.append_eq, List.cons_append, List.nil_append]
  simp -dsimp only [push_cast, seval, hll]
  (first | refine call (hb) ?_ | refine callP (hb) ?_); simp -dsimp only [push_cast, seval]
  exact ⟨[.inl 0], rfl, rfl, by simp -dsimp only [WeakTm, WeakBx, CLe, CLeL, push_cast, seval]⟩
/-- the paths of an inode -/
def pathsV (n : Int) (l : List SeeV) : List (List UInt8) := (l.filter fun s => decide (s.ino = n)).map (·.path)
theorem paths_take {n : Int} {l : List SeeV} {i : Nat} (h : i < l.length) : pathsV n (l.take (i + 1)) = pathsV n (l.take i) ++ if l[i].ino = n then [l[i].path] else [] := by
  unfold pathsV
  rw [List.take_add_one, List.getElem?_eq_getElem h, List.filter_append, List.map_append]
  by_cases hc : l[i].ino = n <;> simp [hc]
end
end Go.Proofs.YtdmfififkcnecaaDoor.Vcg
end
section
set_option linter.unusedVariables false
set_option maxRecDepth 100000
set_option linter.unusedSimpArgs false
namespace Go.Proofs.YtdmfififkcnecaaDoor.Vcg
open Go.RowKit
abbrev Items := List (List (List UInt8) × NodV)
/-- what is come to, by the entries' names: the law of it -/
structure TreeOk (f : FsV) (tr : Int → List (List UInt8) → Items) : Prop where
  has : ∀ n ns, hasV n f.xs = true → tr n ns = (ns, gotV n f.xs) :: (gotV n f.xs).es.flatMap fun e => tr e.ino (ns ++ [e.name])
  not : ∀ n ns, hasV n f.xs = false → tr n ns = []
abbrev itemC (p : List (List UInt8) × NodV) : List C := [.str (joinP p.1), .agg (nodC p.2)]
/-- what is left of a level, of all levels (the top first) -/
def restV (tr : Int → List (List UInt8) → Items) (ns : List (List UInt8)) (es : List EntV) : Items := es.flatMap fun e => tr e.ino (ns ++ [e.name])
def restS (tr : Int → List (List UInt8) → Items) (S : List (List (List UInt8) × List EntV)) : Items := S.flatMap fun p => restV tr p.1 p.2
abbrev lvC (p : List (List UInt8) × List EntV) : List C := [.sl 1 (strs p.1), .sl 2 (entsC p.2)]
def lvsC (S : List (List (List UInt8) × List EntV)) : List C := (S.reverse.map lvC).flatten
theorem lvs_len (S : List (List (List UInt8) × List EntV)) : (lvsC S).length = S.length * 2 := by
  unfold lvsC
  rw [flat_len (k := 2) fun r hr => by obtain ⟨p, _, rfl⟩ := List.mem_map.1 hr; rfl]
  simp
theorem lvs_cons (p : List (List UInt8) × List EntV) (S : List (List (List UInt8) × List EntV)) : lvsC (p :: S) = lvsC S ++ lvC p := by
  unfold lvsC; simp
def boundOk (p : List (List UInt8) × NodV) : Prop := p.1.length ≤ 1000000 ∧ (Lib.join p.1 [47]).length ≤ 1000000
/-- what the program's rounds keep: the levels, how many were handed out, the room -/
structure StackOk (f : FsV) (tr : Int → List (List UInt8) → Items) (IT : List (List C)) (sf : Nat → Bool) (S : List (List (List UInt8) × List EntV)) (k cap : Nat) : Prop where
  rest : IT.drop k = (restS tr S).map itemC
  bound : ∀ p ∈ restS tr S, boundOk p
  le : k ≤ IT.length
  go : ∀ j, j < k → sf j = false
  pos : S.length ≤ k
  room : S.length ≤ cap
  roomM : cap ≤ 9223372036854775807
  has : ∀ p ∈ S, p.2.length ≤ 40 ∧ ∀ e ∈ p.2, hasV e.ino f.xs = true
theorem lvs_stay (S : List (List (List UInt8) × List EntV)) : ((lvsC S).all C.stayB) = true := stays_flat fun r hr => by
  obtain ⟨p, _, rfl⟩ := List.mem_map.1 hr; rfl
theorem StackOk.pop {f : FsV} {tr : Int → List (List UInt8) → Items} {IT : List (List C)} {sf : Nat → Bool} {S : List (List (List UInt8) × List EntV)} {ns : List (List UInt8)} {k cap : Nat} (h : StackOk f tr IT sf ((ns, []) :: S) k cap) : StackOk f tr IT sf S k cap := by
  have e : restS tr ((ns, []) :: S) = restS tr S := by simp [restS, restV]
  exact ⟨by rw [← e]; exact h.rest, fun p hp => h.bound p (by rw [e]; exact hp), h.le, h.go, by have := h.pos; rw [List.length_cons] at this; omega, by have := h.room; rw [List.length_cons] at this; omega, h.roomM, fun p hp => h.has p (List.mem_cons_of_mem _ hp)⟩
/-- the next step: what is handed out, and what is left if the walk goes on -/
theorem StackOk.next {f : FsV} {tr : Int → List (List UInt8) → Items} {IT : List (List C)} {sf : Nat → Bool} {S : List (List (List UInt8) × List EntV)} {ns : List (List UInt8)} {e : EntV} {r : List EntV} {k cap : Nat} (h : StackOk f tr IT sf ((ns, e :: r) :: S) k cap) (ht : TreeOk f tr) (hf : fewV f.xs) (h3 : thirdV f) :
    ∃ y, y = gotV e.ino f.xs ∧ y ∈ f.xs ∧ IT[k]? = some (itemC (ns ++ [e.name], y)) ∧ boundOk (ns ++ [e.name], y) ∧ (sf k = false → (∀ c, S.length + 2 ≤ c → c ≤ 9223372036854775807 → StackOk f tr IT sf ((ns ++ [e.name], y.es) :: (ns, r) :: S) (k + 1) c) ∧ (y.es = [] → StackOk f tr IT sf ((ns, r) :: S) (k + 1) cap)) := by
  have hh : hasV e.ino f.xs = true := (h.has (ns, e :: r) List.mem_cons_self).2 e List.mem_cons_self
  obtain ⟨hm, hi⟩ := got_has hh
  have hu := ht.has e.ino (ns ++ [e.name]) hh
  have hrest : restS tr ((ns, e :: r) :: S) = (ns ++ [e.name], gotV e.ino f.xs) :: restS tr ((ns ++ [e.name], (gotV e.ino f.xs).es) :: (ns, r) :: S) := by
    simp only [restS, restV, List.flatMap_cons, hu, List.cons_append, List.append_assoc]
  refine ⟨_, rfl, hm, ?_, h.bound _ (by rw [hrest]; exact List.mem_cons_self), fun hs => ?_⟩
  · have := h.rest
    rw [hrest] at this
    have := congrArg (·[0]?) this
    simpa using this
  · have hd : IT.drop (k + 1) = (restS tr ((ns ++ [e.name], (gotV e.ino f.xs).es) :: (ns, r) :: S)).map itemC := by
      rw [← List.drop_drop, h.rest, hrest]; rfl
    have hb : ∀ p ∈ restS tr ((ns ++ [e.name], (gotV e.ino f.xs).es) :: (ns, r) :: S), boundOk p := fun p hp => h.bound p (by rw [hrest]; exact List.mem_cons_of_mem _ hp)
    have hkl : k + 1 ≤ IT.length := by
      rcases Nat.lt_or_ge k IT.length with g | g
      · exact g
      · have := h.rest
        rw [List.drop_eq_nil_of_le g, hrest] at this; cases this
    have hgo : ∀ j, j < k + 1 → sf j = false := fun j hj => by
      rcases Nat.lt_or_ge j k with g | g
      · exact h.go j g
      · rw [show j = k by omega]; exact hs
    have hp := h.pos
    have hro := h.room
    have hrm := h.roomM
    rw [List.length_cons] at hp hro
    have h0 := h.has (ns, e :: r) List.mem_cons_self
    have hr0 : r.length ≤ 40 ∧ ∀ e' ∈ r, hasV e'.ino f.xs = true := ⟨by have := h0.1; simp at this; omega, fun e' he => h0.2 e' (List.mem_cons_of_mem _ he)⟩
    refine ⟨fun c h1 h2 => ⟨hd, hb, hkl, hgo, by simp; omega, by simp; omega, h2, fun p hp => ?_⟩, fun hne => ?_⟩
    · rcases List.mem_cons.1 hp with rfl | hp
      · exact ⟨(hf.2 _ hm).2.1, fun e' he => h3 _ hm e' he⟩
      · rcases List.mem_cons.1 hp with rfl | hp
        · exact hr0
        · exact h.has p (List.mem_cons_of_mem _ hp)
    · have hz : restS tr ((ns ++ [e.name], (gotV e.ino f.xs).es) :: (ns, r) :: S) = restS tr ((ns, r) :: S) := by rw [hne]; simp [restS, restV]
      rw [hz] at hd hb
      exact ⟨hd, hb, hkl, hgo, by simp; omega, by simp; omega, hrm, fun p hp => by
        rcases List.mem_cons.1 hp with rfl | hp
        · exact hr0
        · exact h.has p (List.mem_cons_of_mem _ hp)⟩
set_option maxHeartbeats 2000000 in
theorem walk1_iter (f : FsV) (ino : Int) (ns : List (List UInt8)) (tr : Int → List (List UInt8) → Items) (ht : TreeOk f tr) (hf : fewV f.xs) (hR : Rises f.xs) (h3 : thirdV f) (h2 : ∀ x ∈ f.xs, x.kind ≠ 2 → x.es = []) (hl : (tr ino ns).length ≤ 1000000) (hb : ∀ p ∈ tr ino ns, boundOk p) :
    Iter Tryd.prog G0 48 [] [.row (fsC f), .row [.sc (.int .i64 ino)], .row [.sl 1 (strs ns)]] [] ((tr ino ns).map itemC) := by
  have h40 := hf.1
  refine Iter.of (fun i => if i = 1000000 + 79 then [true] else if i = 1 then [false, false, false, false, false, false, false, true] else if i = 10 then [false, false, false, false, true] else []) (by kernel_rfl) Tryd.func48 rfl rfl (Nat.le_of_ble_eq_true rfl) (by kernel_rfl) ?_; dsimp only [Tryd.f48, List.append_eq, List.cons_append, List.nil_append]
  intro l sf
  simp -dsimp only [push_cast, seval]
  (first | refine call (get_fun f ino (by omega) hR) ?_ | refine callP (get_fun f ino (by omega) hR) ?_); simp -dsimp only [push_cast, seval]
  cases hh : hasV ino f.xs with
  | false =>
    have hn := ht.not ino ns hh
    simp -dsimp only [push_cast, seval]
    rw [hn]
    exact .inl ⟨rfl, fun j hj => absurd hj (Nat.not_lt_zero _)⟩
  | true =>
    have hn := ht.has ino ns hh
    have q : boundOk (ns, gotV ino f.xs) := hb _ (by rw [hn]; exact List.mem_cons_self)
    have h0 : ((tr ino ns).map itemC)[0]? = some (itemC (ns, gotV ino f.xs)) := by rw [hn]; rfl
    obtain ⟨hm, hino⟩ := got_has hh
    generalize gotV ino f.xs = x at hn h0 hm hino
    have hITl : ((tr ino ns).map itemC).length ≤ 1000000 := by rw [List.length_map]; exact hl
    generalize hIT : (tr ino ns).map itemC = IT at h0 hITl
    simp -dsimp only [push_cast, seval]
    (first | refine call (joinP_fun ns (by have := q.1; dsimp only at this; omega) (by have := q.2; dsimp only at this; omega)) ?_ | refine callP (joinP_fun ns (by have := q.1; dsimp only at this; omega) (by have := q.2; dsimp only at this; omega)) ?_); simp -dsimp only [push_cast, seval, h0]
    refine ⟨by simp -dsimp only [WeakTm, WeakBx, CLe, CLeL, push_cast, seval], fun j hj => absurd hj (Nat.not_lt_zero _), br (fun hs => ?_) (fun hs => ?_)⟩
    · simp -dsimp only [push_cast, seval]
      exact .inr ⟨Nat.succ_pos _, hs⟩
    · simp -dsimp only [push_cast, seval]
      refine loop (fun p : List (List (List UInt8) × List EntV) × Nat × Nat => ⟨[(0, .sc (.func (.yield l) #[] #[])), (1, .row (fsC f)), (7, .bs 1 0 2 p.1.length p.2.2)], [[.any, .any, .any, .any, .any, .any], lvsC p.1 ++ List.replicate ((p.2.2 - p.1.length) * 2) .any], 0, p.2.1⟩) (fun p => StackOk f tr IT sf p.1 p.2.1 p.2.2) (fun p => 2 * (IT.length - p.2.1) + p.1.length) ([(ns, x.es)], 1, 1) ?_ ?_ ?_
      · have hdr : IT.drop 1 = (restS tr [(ns, x.es)]).map itemC := by
          rw [← hIT, hn]
          simp [restS, restV]
        show StackOk f tr IT sf [(ns, x.es)] 1 1
        exact ⟨hdr, fun p hp => hb p (by rw [hn]; exact List.mem_cons_of_mem _ (by simpa [restS, restV] using hp)), by have := (List.getElem?_eq_some_iff.1 h0).1; omega, fun j hj => by rw [show j = 0 by omega]; exact hs, Nat.le_refl _, Nat.le_refl _, by omega, fun p hp => by
          rw [List.mem_singleton] at hp; subst hp
          exact ⟨(hf.2 x hm).2.1, fun e he => h3 x hm e he⟩⟩
      · have hl1 : lvsC [(ns, x.es)] = [.sl 1 (strs ns), .sl 2 (entsC x.es)] := rfl
        exact Weak.mk [] rfl rfl (Nat.zero_le _) rfl (by simp -dsimp only [WeakTm, WeakBx, CLe, CLeL, push_cast, seval]) (by simp -dsimp only [WeakTm, WeakBx, CLe, CLeL, push_cast, seval, hl1])
      · rintro ⟨S, k, cap⟩ hS
        dsimp only at hS ⊢
        cases S with
        | nil =>
          simp -dsimp only [push_cast, seval]
          have hr := hS.rest
          have he : IT.length ≤ k := by
            rcases Nat.lt_or_ge k IT.length with g | g
            · have := congrArg List.length hr
              simp [restS] at this; omega
            · exact g
          exact .inl ⟨by have := hS.le; omega, hS.go⟩
        | cons p S' =>
          obtain ⟨ns1, es1⟩ := p
          have hL := lvs_len S'
          have hd0 : ∀ X, (lvsC S' ++ X).drop (S'.length * 2) = X := fun X => List.drop_left' hL
          have hd1 : ∀ X, (lvsC S' ++ X).drop (S'.length * 2 + 1) = X.drop 1 := fun X => by rw [← List.drop_drop, hd0]
          have hd2 : ∀ X, (lvsC S' ++ X).drop (S'.length * 2 + 2) = X.drop 2 := fun X => by rw [← List.drop_drop, hd0]
          have ht0 : ∀ X, (lvsC S' ++ X).take (S'.length * 2) = lvsC S' := fun X => List.take_left' hL
          have ht1 : ∀ X, (lvsC S' ++ X).take (S'.length * 2 + 1) = lvsC S' ++ X.take 1 := fun X => by
            rw [List.take_append, List.take_of_length_le (by omega), hL]; congr 2; omega
          have hpos : ((0 : Int) < (S'.length : Int) + 1) = True := eq_true (by omega)
          have hroom := hS.room
          have hroomM := hS.roomM
          rw [List.length_cons] at hroom
          have hlc : (((S'.length : Int) + 1 - 1) = (S'.length : Int)) := by omega
          simp -dsimp only [push_cast, seval, lvs_cons, hlc, hpos]
          (try simp only [List.length_append, List.length_cons, List.length_nil, List.length_map, List.length_take, List.length_drop]); repeat (refine And.intro (by omega) ?_)
          generalize hpad : List.replicate ((cap - (S'.length + 1)) * 2) C.any = pad
          have hps : (pad.all C.stayB) = true := by rw [← hpad]; simp [List.all_replicate, C.stayB]
          have hst1 : ((lvsC S' ++ (lvC (ns1, es1) ++ pad)).all C.stayB) = true := by rw [List.all_append, lvs_stay, List.all_append, hps]; rfl
          have hpl : pad.length = (cap - (S'.length + 1)) * 2 := by rw [← hpad]; simp
          refine loop (fun p : List EntV × Nat => ⟨[(0, .sc (.func (.yield l) #[] #[])), (1, .row (fsC f)), (7, .bs 1 0 2 (S'.length + 1) cap), (8, .ptr 1 (S'.length * 2))], [[.any, .any, .any, .any, .any, .any], lvsC S' ++ ([.sl 1 (strs ns1), .sl 2 (entsC p.1)] ++ pad)], 0, p.2⟩) (fun p => StackOk f tr IT sf ((ns1, p.1) :: S') p.2 cap ∧ 2 * (IT.length - p.2) ≤ 2 * (IT.length - k)) (fun p => p.1.length) (es1, k) ⟨hS, Nat.le_refl _⟩ ?_ ?_
          · exact Weak.mk [] rfl rfl (Nat.zero_le _) rfl (by simp -dsimp only [WeakTm, WeakBx, CLe, CLeL, push_cast, seval]) (by simp -dsimp only [WeakTm, WeakBx, CLe, CLeL, push_cast, seval, List.append_assoc]; exact stays_le hst1)
          · rintro ⟨es, k1⟩ ⟨hT, hkk⟩
            dsimp only at hT hkk ⊢
            cases es with
            | nil =>
              simp -dsimp only [push_cast, seval, hd0, hd1, hd2, ht0, ht1, hlc]
              refine ⟨by omega, by omega, ⟨by omega, by omega⟩, (S', k1, cap), hT.pop, by dsimp only; omega, Weak.mk [] rfl rfl (Nat.zero_le _) rfl (by simp -dsimp only [WeakTm, WeakBx, CLe, CLeL, push_cast, seval]) ?_⟩
              simp -dsimp only [WeakTm, WeakBx, CLe, CLeL, push_cast, seval]
              exact le_app (stays_le (lvs_stay S')) (le_anys (by simp [hpl]; omega))
            | cons e r =>
              obtain ⟨y, hy, hym, hk1, hbd, hnext⟩ := hT.next ht hf h3
              have hrl : ((0 : Int) < (r.length : Int) + 1) = True := eq_true (by omega)
              have hlr : (entsC r).length = r.length := List.length_map ..
              have hhe : hasV e.ino f.xs = true := (hT.has (ns1, e :: r) List.mem_cons_self).2 e List.mem_cons_self
              have hgy : gotV e.ino f.xs = y := hy.symm
              have hb1 : ns1.length + 1 ≤ 1000000 := by have := hbd.1; simpa using this
              have hb2 : (Lib.join (ns1 ++ [e.name]) [47]).length ≤ 1000000 := hbd.2
              have hst2 : (strs ns1).length = ns1.length := List.length_map ..
              simp -dsimp only [push_cast, seval, hd0, hd1, hd2, ht0, ht1, hlc, hlr, hrl, hst2, List.append_assoc, List.take_length]
              (try simp only [List.length_append, List.length_cons, List.length_nil, List.length_map, List.length_take, List.length_drop]); repeat (refine And.intro (by omega) ?_)
              refine ⟨by simp, by omega, by omega, ?_⟩
              (first | refine call (get_fun f e.ino (by omega) hR) ?_ | refine callP (get_fun f e.ino (by omega) hR) ?_); simp -dsimp only [push_cast, seval, hgy, hhe]
              (first | refine call (joinP_fun (ns1 ++ [e.name]) (by simp; omega) (by omega)) ?_ | refine callP (joinP_fun (ns1 ++ [e.name]) (by simp; omega) (by omega)) ?_); simp -dsimp only [push_cast, seval, hk1]
              refine ⟨by simp -dsimp only [WeakTm, WeakBx, CLe, CLeL, push_cast, seval], hT.go, br (fun hs1 => ?_) (fun hs1 => ?_)⟩
              · simp -dsimp only [push_cast, seval]
                exact .inr ⟨Nat.succ_pos _, hs1⟩
              · obtain ⟨w1, w2⟩ := hnext hs1
                by_cases k2 : y.kind = 2
                · have hSk := hT.pos
                  have hkl := hT.le
                  rw [List.length_cons] at hSk
                  have hc1 : (lvsC S' ++ C.sl 1 (strs ns1) :: C.sl 2 (List.map entC r) :: pad).length = cap * 2 := by
                    rw [List.length_append, hL, List.length_cons, List.length_cons, hpl]; omega
                  have hc2 : (lvsC S' ++ C.sl 1 (strs ns1) :: C.sl 2 (List.map entC r) :: pad).take ((S'.length + 1) * 2) = lvsC S' ++ [C.sl 1 (strs ns1), C.sl 2 (List.map entC r)] := by
                    rw [List.take_append, List.take_of_length_le (by omega), hL, show (S'.length + 1) * 2 - S'.length * 2 = 2 by omega]; rfl
                  simp -dsimp only [push_cast, seval, k2]
                  refine appBx (lvsC S' ++ [C.sl 1 (strs ns1), C.sl 2 (List.map entC r)] ++ [C.sl 1 (strs (ns1 ++ [e.name])), C.sl 2 (entsC y.es)]) rfl rfl (by decide) rfl (by decide) (Nat.zero_le _) hc1 hroom hroomM (by omega) (by omega) (by rw [hc2]; exact stays_re (by rw [List.all_append, List.all_append, lvs_stay]; rfl)) (fun c' g1 g2 => ?_)
                  have hw := w1 c' (by omega) g2
                  have hwl := hw.le
                  simp -dsimp only [push_cast, seval, k2]
                  refine ⟨((ns1 ++ [e.name], y.es) :: (ns1, r) :: S', k1 + 1, c'), hw, by simp only [List.length_cons]; omega, Weak.mk [] rfl rfl (Nat.zero_le _) rfl (by simp -dsimp only [WeakTm, WeakBx, CLe, CLeL, push_cast, seval]) ?_⟩
                  simp -dsimp only [WeakTm, WeakBx, CLe, CLeL, push_cast, seval, lvs_cons, List.append_assoc]
                  exact stays_le (by rw [List.all_append, lvs_stay]; simp [List.all_replicate, C.stayB])
                · simp -dsimp only [push_cast, seval, k2]
                  have hz := w2 (h2 y hym k2)
                  have hle := hz.le
                  refine ⟨(r, k1 + 1), ⟨hz, by dsimp only; omega⟩, by dsimp only; simp, Weak.mk [] rfl rfl (Nat.zero_le _) rfl (by simp -dsimp only [WeakTm, WeakBx, CLe, CLeL, push_cast, seval]) ?_⟩
                  simp -dsimp only [WeakTm, WeakBx, CLe, CLeL, push_cast, seval, List.append_assoc]
                  exact stays_le (by rw [List.all_append, lvs_stay, List.all_cons, List.all_cons, hps]; rfl)
end Go.Proofs.YtdmfififkcnecaaDoor.Vcg
end
section
set_option linter.unusedVariables false
set_option maxRecDepth 100000
set_option linter.unusedSimpArgs false
namespace Go.Proofs.YtdmfififkcnecaaDoor.Vcg
open Go.RowKit
/-- what a walk leans on -/
structure WalkOk (f : FsV) (tr : Int → List (List UInt8) → Items) : Prop where
  tree : TreeOk f tr
  few : fewV f.xs
  rise : Rises f.xs
  third : thirdV f
  leaf : ∀ x ∈ f.xs, x.kind ≠ 2 → x.es = []
structure StartOk (tr : Int → List (List UInt8) → Items) (ino : Int) (ns : List (List UInt8)) : Prop where
  len : (tr ino ns).length ≤ 1000000
  bound : ∀ p ∈ tr ino ns, boundOk p
abbrev itemsC (l : Items) : List (List C) := l.map itemC
theorem item_get {l : Items} {k : Nat} {it : List C} (h : (itemsC l)[k]? = some it) : ∃ p, l[k]? = some p ∧ it = itemC p := by
  rw [List.getElem?_map] at h
  cases hq : l[k]? with
  | none => rw [hq] at h; cases h
  | some x => rw [hq] at h; cases h; exact ⟨x, rfl, rfl⟩
abbrev seen1 (p : List (List UInt8) × NodV) : SeeV := ⟨joinP p.1, p.2.ino⟩
theorem walk_it {f : FsV} {tr : Int → List (List UInt8) → Items} {ino : Int} {ns : List (List UInt8)} (hw : WalkOk f tr) (hs : StartOk tr ino ns) : Iter Tryd.prog G0 48 [] [.row (fsC f), .row [.sc (.int .i64 ino)], .row [.sl 1 (strs ns)]] [] (itemsC (tr ino ns)) :=
  walk1_iter f ino ns tr hw.tree hw.few hw.rise hw.third hw.leaf hs.len hs.bound
theorem from_fun (f : FsV) (ino : Int) (ns : List (List UInt8)) : Fun Tryd.prog G0 41 [.agg (fsC f), .sc (.int .i64 ino), .sl 1 (strs ns)] (.clo (.func 48) [] [.row (fsC f), .row [.sc (.int .i64 ino)], .row [.sl 1 (strs ns)]]) 0 := by
  refine Fun.of (fun _ => []) (by kernel_rfl) Tryd.func41 rfl rfl (Nat.le_of_ble_eq_true rfl) (by kernel_rfl) ?_; dsimp only [Tryd.f41, List.append_eq, List.cons_append, List.nil_append]
  simp -dsimp only [push_cast, seval]
  exact ⟨[], rfl, rfl, by simp -dsimp only [WeakTm, WeakBx, CLe, CLeL, push_cast, seval]⟩
set_option maxHeartbeats 1000000 in
theorem wbelow_fun (f : FsV) (tr : Int → List (List UInt8) → Items) (ino : Int) (p : List UInt8) (hp : p.length ≤ 1000000) (hw : WalkOk f tr) (hs : StartOk tr ino (names p)) :
    Fun Tryd.prog G0 32 [.agg (fsC f), .sc (.int .i64 ino), .str p] (.own 0 44 2 (seesC ((tr ino (names p)).map seen1))) 1 := by
  refine Fun.of (fun _ => []) (by kernel_rfl) Tryd.func32 rfl rfl (Nat.le_of_ble_eq_true rfl) (by kernel_rfl) ?_; dsimp only [Tryd.f32, List.append_eq, List.cons_append, List.nil_append]
  simp -dsimp only [push_cast, seval]
  refine callP (read_fun p hp) ?_
  unfold readC
  simp -dsimp only [push_cast, seval]
  (first | refine call (from_fun f ino (names p)) ?_ | refine callP (from_fun f ino (names p)) ?_); simp -dsimp only [push_cast, seval]
  have hl := hs.len
  have hit := walk_it hw hs
  generalize tr ino (names p) = l at hit hl
  refine range (itemsC l) (fun _ => false) 2 (fun k => ⟨[], [[.any, .any, .any, .any], [.own 0 44 2 (seesC ((l.take k).map seen1))]], 1, 0⟩) hit (by simp -dsimp only [push_cast, seval]) (by simp -dsimp only [push_cast, seval]) (by simp -dsimp only [push_cast, seval]) (Nat.zero_le _) (by simp -dsimp only [push_cast, seval]) (fun it h => ?_) (fun k _ => rfl) ?_ (fun k it hk hsf => ?_) (fun hsf => ?_)
  · obtain ⟨x, _, rfl⟩ := List.mem_map.1 h; rfl
  · exact Weak.mk [.inr (44, 2)] rfl rfl (Nat.le_of_ble_eq_true rfl) rfl (by simp -dsimp only [WeakTm, WeakBx, CLe, CLeL, push_cast, seval]) (by simp -dsimp only [WeakTm, WeakBx, CLe, CLeL, push_cast, seval])
  · obtain ⟨x, hx2, rfl⟩ := item_get hk
    have hkl : k < l.length := (List.getElem?_eq_some_iff.1 hx2).1
    simp -dsimp only [push_cast, seval]
    rw [List.length_map, List.length_map, List.length_take]
    refine ⟨by omega, by omega, Weak.mk [.inl 0] rfl rfl (Nat.le_of_ble_eq_true rfl) rfl (by simp -dsimp only [WeakTm, WeakBx, CLe, CLeL, push_cast, seval]) ?_⟩
    simp -dsimp only [WeakTm, WeakBx, CLe, CLeL, push_cast, seval]
    rw [List.take_add_one, hx2]
    simp
  · simp -dsimp only [push_cast, seval]
    refine ⟨[.inl 0], rfl, rfl, ?_⟩
    simp -dsimp only [WeakTm, WeakBx, CLe, CLeL, push_cast, seval]
    simp
set_option maxHeartbeats 1000000 in
theorem wlist_fun (f : FsV) (tr : Int → List (List UInt8) → Items) (hw : WalkOk f tr) (hs : StartOk tr 1 []) :
    Fun Tryd.prog G0 18 [.agg (fsC f)] (.own 0 44 2 (seesC ((tr 1 []).map seen1))) 1 := by
  have hn : names [47] = [] := by decide
  have h := wbelow_fun f tr 1 [47] (by decide) hw (by rw [hn]; exact hs)
  rw [hn] at h
  refine Fun.of (fun _ => []) (by kernel_rfl) Tryd.func18 rfl rfl (Nat.le_of_ble_eq_true rfl) (by kernel_rfl) ?_; dsimp only [Tryd.f18, List.append_eq, List.cons_append, List.nil_append]
  simp -dsimp only [push_cast, seval]
  (first | refine call (h) ?_ | refine callP (h) ?_); simp -dsimp only [push_cast, seval]
  exact ⟨[.inl 0], rfl, rfl, by simp -dsimp only [WeakTm, WeakBx, CLe, CLeL, push_cast, seval]⟩
/-- an inode's paths -/
def wpathsV (n : Int) (l : Items) : List (List UInt8) := (l.filter fun p => decide (p.2.ino = n)).map fun p => joinP p.1
theorem wpaths_take {n : Int} {l : Items} {i : Nat} {x : List (List UInt8) × NodV} (h : l[i]? = some x) : wpathsV n (l.take (i + 1)) = wpathsV n (l.take i) ++ if x.2.ino = n then [joinP x.1] else [] := by
  unfold wpathsV
  rw [List.take_add_one, h, List.filter_append, List.map_append]
  by_cases hc : x.2.ino = n <;> simp [hc]
theorem wpaths_len {n : Int} {l : Items} {i : Nat} : (wpathsV n (l.take i)).length ≤ i := by
  unfold wpathsV
  rw [List.length_map]
  exact Nat.le_trans (List.length_filter_le _ _) (by simp; omega)
/-- a directory's path -/
def wdirV (n : Int) (l : Items) : Option (List UInt8) := (l.find? fun p => decide (p.2.ino = n) && decide (p.2.kind = 2)).map fun p => joinP p.1
end Go.Proofs.YtdmfififkcnecaaDoor.Vcg
end
section
set_option linter.unusedVariables false
set_option linter.unusedSimpArgs false
namespace Go.Proofs.YtdmfififkcnecaaDoor.Vcg
/-- n is come to by k steps from the root -/
inductive Dep (xs : List NodV) : Nat → Int → Prop
  | root : Dep xs 0 1
  | step {k : Nat} {n : Int} {e : EntV} : Dep xs k n → hasV n xs = true → e ∈ (gotV n xs).es → Dep xs (k + 1) e.ino
theorem okV_parts {f : FsV} (h : okV f) : fewV f.xs ∧ firstV f ∧ secondV f ∧ thirdV f ∧ fourthV f ∧ fifthV f ∧ fitsV f := by
  obtain ⟨h0, h⟩ := h
  unfold checkV at h
  refine ⟨h0, ?_⟩
  split at h
  · split at h
    · split at h
      · split at h
        · split at h
          · split at h
            · exact ⟨by assumption, by assumption, by assumption, by assumption, by assumption, by assumption⟩
            · cases h
          · cases h
        · cases h
      · cases h
    · cases h
  · cases h
theorem addV_mem {es : List EntV} : ∀ {S : List Int} {n : Int}, n ∈ addV S es ↔ n ∈ S ∨ ∃ e ∈ es, e.ino = n := by
  induction es with
  | nil => intro S n; simp [addV]
  | cons e r ih =>
    intro S n
    show n ∈ addV (addOne S e.ino) r ↔ _
    rw [ih, addOne_mem]
    constructor
    · rintro ((h | h) | ⟨e', he, h⟩)
      · exact .inl h
      · exact .inr ⟨e, List.mem_cons_self, h.symm⟩
      · exact .inr ⟨e', List.mem_cons_of_mem _ he, h⟩
    · rintro (h | ⟨e', he, h⟩)
      · exact .inl (.inl h)
      · rcases List.mem_cons.1 he with rfl | he
        · exact .inl (.inr h.symm)
        · exact .inr ⟨e', he, h⟩
theorem addV_seen {xs : List NodV} {es : List EntV} : ∀ {S : List Int}, SeenOk xs S → (∀ e ∈ es, hasV e.ino xs = true) → SeenOk xs (addV S es) := by
  induction es with
  | nil => intro S h _; exact h
  | cons e r ih => intro S h he; exact ih (h.one (he e List.mem_cons_self)) fun e' h' => he e' (List.mem_cons_of_mem _ h')
theorem seenV_ok {xs : List NodV} (h3 : ∀ x ∈ xs, ∀ e ∈ x.es, hasV e.ino xs = true) : ∀ (m i : Nat) (S : List Int), SeenOk xs S → (∀ n ∈ S, ∃ k, Dep xs k n) → SeenOk xs (seenV xs m i S) ∧ ∀ n ∈ seenV xs m i S, ∃ k, Dep xs k n
  | 0, i, S, h, hd => by unfold seenV; exact ⟨h, hd⟩
  | m + 1, i, S, h, hd => by
    unfold seenV
    split
    · rename_i n hn
      have hmem := List.mem_of_getElem? hn
      have hh := h.has n hmem
      obtain ⟨hm, _⟩ := got_has hh
      obtain ⟨k, hk⟩ := hd n hmem
      refine seenV_ok h3 m (i + 1) _ (addV_seen h fun e he => h3 _ hm e he) fun n' hn' => ?_
      rcases addV_mem.1 hn' with h' | ⟨e, he, rfl⟩
      · exact hd n' h'
      · exact ⟨k + 1, .step hk hh he⟩
    · exact ⟨h, hd⟩
theorem nodup_sub {S T : List Int} (hS : S.Nodup) (hs : ∀ n ∈ S, n ∈ T) (hl : T.length ≤ S.length) : ∀ n ∈ T, n ∈ S := by
  intro n hn
  by_cases h : n ∈ S
  · exact h
  · exfalso
    have := nodup_le (S := n :: S) (T := T) (List.nodup_cons.2 ⟨h, hS⟩) fun m hm => by
      rcases List.mem_cons.1 hm with rfl | hm
      · exact hn
      · exact hs m hm
    rw [List.length_cons] at this; omega
/-- every inode is come to -/
theorem all_dep {f : FsV} (h : okV f) {n : Int} (hn : hasV n f.xs = true) : ∃ k, Dep f.xs k n := by
  obtain ⟨_, h1, _, h3, _, h5, _⟩ := okV_parts h
  have hroot : SeenOk f.xs [1] := ⟨by simp, fun n hn => by simp at hn; subst hn; exact h1.2.2.2.2.2.2.2.1⟩
  obtain ⟨g1, g2⟩ := seenV_ok h3 41 0 [1] hroot fun n hn => by simp at hn; subst hn; exact ⟨0, .root⟩
  have hS := nodup_sub (T := f.xs.map (·.ino)) g1.nodup (fun m hm => has_mem.1 (g1.has m hm)) (by rw [List.length_map]; exact Nat.le_of_eq h5.symm) n (has_mem.1 hn)
  exact g2 n hS
theorem pair_mem {xs : List NodV} {n : Int} {e : EntV} (hh : hasV n xs = true) (he : e ∈ (gotV n xs).es) : (e.ino, n) ∈ pairsV xs := by
  obtain ⟨hm, hi⟩ := got_has hh
  unfold pairsV
  exact List.mem_flatMap.2 ⟨_, hm, List.mem_map.2 ⟨e, he, by rw [hi]⟩⟩
theorem cnt_pos {n p : Int} {l : List (Int × Int)} (h : (n, p) ∈ l) : 1 ≤ cntV n l := by
  unfold cntV
  exact List.length_pos_iff.2 (List.ne_nil_of_mem (List.mem_filter.2 ⟨h, by simp⟩))
theorem cnt_one {n p q : Int} {l : List (Int × Int)} (hp : (n, p) ∈ l) (hq : (n, q) ∈ l) (h : cntV n l = 1) : p = q := by
  unfold cntV at h
  obtain ⟨x, hx⟩ := List.length_eq_one_iff.1 h
  have h1 : (n, p) ∈ l.filter fun p => p.1 == n := List.mem_filter.2 ⟨hp, by simp⟩
  have h2 : (n, q) ∈ l.filter fun p => p.1 == n := List.mem_filter.2 ⟨hq, by simp⟩
  rw [hx] at h1 h2
  simp only [List.mem_singleton] at h1 h2
  exact congrArg Prod.snd (h1.trans h2.symm)
/-- a directory that names anything is one -/
theorem es_dir {f : FsV} (h : okV f) {n : Int} (hh : hasV n f.xs = true) {e : EntV} (he : e ∈ (gotV n f.xs).es) : (gotV n f.xs).kind = 2 := by
  obtain ⟨_, _, h2, _⟩ := okV_parts h
  obtain ⟨hm, _⟩ := got_has hh
  by_cases hk : (gotV n f.xs).kind = 2
  · exact hk
  · have := ((h2 _ hm).2.1 hk).1
    rw [this] at he; cases he
theorem root_unnamed {f : FsV} (h : okV f) {n : Int} (hh : hasV n f.xs = true) {e : EntV} (he : e ∈ (gotV n f.xs).es) : e.ino ≠ 1 := fun h1 => by
  obtain ⟨_, hf, _, _, h4, _⟩ := okV_parts h
  obtain ⟨hm, hi⟩ := got_has hf.2.2.2.2.2.2.2.1
  have hq := (h4 _ hm).2
  rw [if_pos hi, hi] at hq
  have := cnt_pos (pair_mem hh he)
  rw [h1] at this; omega
/-- a directory's depth is one -/
theorem dep_one {f : FsV} (h : okV f) : ∀ (k k' : Nat) (n : Int), Dep f.xs k n → Dep f.xs k' n → hasV n f.xs = true → (gotV n f.xs).kind = 2 → k = k'
  | 0, 0, _, _, _, _, _ => rfl
  | 0, k' + 1, _, h1, h2, hh, hk => by
    cases h1
    generalize hn : (1 : Int) = n at h2
    cases h2 with
    | step a b c => exact absurd hn.symm (root_unnamed h b c)
  | k + 1, 0, _, h1, h2, hh, hk => by
    cases h2
    generalize hn : (1 : Int) = n at h1
    cases h1 with
    | step a b c => exact absurd hn.symm (root_unnamed h b c)
  | k + 1, k' + 1, n, h1, h2, hh, hk => by
    obtain ⟨_, hf, _, _, h4, _⟩ := okV_parts h
    cases h1 with
    | @step _ p e a b c =>
      generalize hn : e.ino = n at h2 hh hk
      cases h2 with
      | @step _ p' e' a' b' c' =>
        have hp := pair_mem b c
        have hp' := pair_mem b' c'
        rw [hn] at hp
        obtain ⟨hm, hi⟩ := got_has hh
        have hq := (h4 _ hm).2
        rw [hi] at hq
        have hne : e'.ino ≠ 1 := root_unnamed h b' c'
        rw [if_neg hne] at hq
        have := cnt_one hp hp' (hq.2 hk).1
        subst this
        rw [dep_one h k k' p a a' b (es_dir h b c)]
end Go.Proofs.YtdmfififkcnecaaDoor.Vcg
end
section
set_option linter.unusedVariables false
set_option linter.unusedSimpArgs false
namespace Go.Proofs.YtdmfififkcnecaaDoor.Vcg
/-- the directories on the way, the last first: none twice -/
theorem dep_chain {f : FsV} (h : okV f) : ∀ (k : Nat) (n : Int), Dep f.xs k n → hasV n f.xs = true → (gotV n f.xs).kind = 2 → ∃ L : List Int, L.length = k + 1 ∧ L.Nodup ∧ (∀ m ∈ L, hasV m f.xs = true) ∧ ∀ m ∈ L, (gotV m f.xs).kind = 2 ∧ ∃ j, j ≤ k ∧ Dep f.xs j m
  | 0, n, hd, hh, hk => ⟨[n], rfl, by simp, fun m hm => by simp at hm; subst hm; exact hh, fun m hm => by simp at hm; subst hm; exact ⟨hk, 0, Nat.le_refl _, hd⟩⟩
  | k + 1, _, hd, hh, hk => by
    generalize hn : k + 1 = k1 at hd
    cases hd with
    | root => cases hn
    | @step k0 p e a b c =>
      obtain rfl : k = k0 := by omega
      obtain ⟨L, l1, l2, l3, l4⟩ := dep_chain h k p a b (es_dir h b c)
      refine ⟨e.ino :: L, by simp [l1], List.nodup_cons.2 ⟨fun hm => ?_, l2⟩, fun m hm => ?_, fun m hm => ?_⟩
      · obtain ⟨_, j, hj, hd⟩ := l4 _ hm
        have := dep_one h _ _ _ hd (.step a b c) hh hk
        omega
      · rcases List.mem_cons.1 hm with rfl | hm
        · exact hh
        · exact l3 m hm
      · rcases List.mem_cons.1 hm with rfl | hm
        · exact ⟨hk, k + 1, Nat.le_refl _, .step a b c⟩
        · obtain ⟨q1, j, q2, q3⟩ := l4 m hm
          exact ⟨q1, j, by omega, q3⟩
theorem dep_lt {f : FsV} (h : okV f) {k : Nat} {n : Int} (hd : Dep f.xs k n) (hh : hasV n f.xs = true) (hk : (gotV n f.xs).kind = 2) : k < f.xs.length := by
  obtain ⟨L, l1, l2, l3, _⟩ := dep_chain h k n hd hh hk
  have := seen_len l2 l3
  omega
/-- the walk, so deep at most -/
def treeV (xs : List NodV) : Nat → Int → List (List UInt8) → Items
  | 0, _, _ => []
  | m + 1, n, ns => if hasV n xs then (ns, gotV n xs) :: (gotV n xs).es.flatMap (fun e => treeV xs m e.ino (ns ++ [e.name])) else []
theorem flatMap_congr' {α β : Type} {l : List α} {g g' : α → List β} (h : ∀ a ∈ l, g a = g' a) : l.flatMap g = l.flatMap g' := by
  induction l with
  | nil => rfl
  | cons a r ih => rw [List.flatMap_cons, List.flatMap_cons, h a List.mem_cons_self, ih fun b hb => h b (List.mem_cons_of_mem _ hb)]
/-- what is deep enough is enough -/
theorem tree_fuel {f : FsV} (h : okV f) : ∀ (m m' k : Nat) (n : Int) (ns : List (List UInt8)), Dep f.xs k n → k ≤ f.xs.length → f.xs.length + 1 ≤ m + k → f.xs.length + 1 ≤ m' + k → treeV f.xs m n ns = treeV f.xs m' n ns
  | 0, m', k, n, ns, hd, hk, h1, h2 => by omega
  | m + 1, 0, k, n, ns, hd, hk, h1, h2 => by omega
  | m + 1, m' + 1, k, n, ns, hd, hk, h1, h2 => by
    unfold treeV
    split
    · rename_i hh
      congr 1
      refine flatMap_congr' fun e he => ?_
      have hdir := es_dir h hh he
      have hlt := dep_lt h hd hh hdir
      exact tree_fuel h m m' (k + 1) e.ino _ (.step hd hh he) (by omega) (by omega) (by omega)
    · rfl
abbrev trV (xs : List NodV) : Int → List (List UInt8) → Items := treeV xs (xs.length + 1)
theorem dep_le {f : FsV} (h : okV f) {n : Int} (hh : hasV n f.xs = true) : ∃ k, k ≤ f.xs.length ∧ Dep f.xs k n := by
  obtain ⟨k, hd⟩ := all_dep h hh
  refine ⟨k, ?_, hd⟩
  cases hd with
  | root => exact Nat.zero_le _
  | step a b c => exact dep_lt h a b (es_dir h b c)
theorem tree_ok {f : FsV} (h : okV f) : TreeOk f (trV f.xs) := ⟨fun n ns hh => by
  obtain ⟨k, hk, hd⟩ := dep_le h hh
  show treeV f.xs (f.xs.length + 1) n ns = _
  rw [treeV, if_pos hh]
  congr 1
  refine flatMap_congr' fun e he => ?_
  have hlt := dep_lt h hd hh (es_dir h hh he)
  exact tree_fuel h _ _ (k + 1) e.ino _ (.step hd hh he) (by omega) (by omega) (by omega), fun n ns hh => by
  show treeV f.xs (f.xs.length + 1) n ns = _
  rw [treeV, if_neg (by rw [hh]; decide)]⟩
theorem walk_ok {f : FsV} (h : okV f) : WalkOk f (trV f.xs) := by
  obtain ⟨p0, p1, p2, p3, _⟩ := okV_parts h
  exact ⟨tree_ok h, p0, p1.2.2.2.2.2.2.1, p3, fun x hx hk => ((p2 x hx).2.1 hk).1⟩
end Go.Proofs.YtdmfififkcnecaaDoor.Vcg
end
section
set_option linter.unusedVariables false
set_option linter.unusedSimpArgs false
namespace Go.Proofs.YtdmfififkcnecaaDoor.Vcg
theorem joinP_snoc (ns : List (List UInt8)) (x : List UInt8) (hne : ∀ y ∈ ns, y ≠ []) : joinP (ns ++ [x]) = underV (joinP ns) x := by
  have hj := join_take (ns ++ [x]) ns.length x (by simp)
  rw [List.take_of_length_le (by simp), List.take_left' rfl] at hj
  unfold joinP
  rw [if_neg (by simp), hj]
  by_cases h : ns = []
  · subst h; rfl
  · have hl : ns.length ≠ 0 := fun h0 => h (List.eq_nil_of_length_eq_zero h0)
    rw [if_neg hl, if_neg h]
    have hne47 : (47 :: Lib.join ns [47]) ≠ [47] := fun he => by
      have h1 : Lib.join ns [47] = [] := (List.cons.inj he).2
      have h2 := join_len ns h
      rw [h1] at h2
      cases ns with
      | nil => exact h rfl
      | cons y r =>
        have := List.length_pos_iff.2 (hne y List.mem_cons_self)
        simp at h2; omega
    unfold underV
    rw [if_neg hne47]
    simp
theorem name_ne {f : FsV} (h : okV f) {n : Int} (hh : hasV n f.xs = true) {e : EntV} (he : e ∈ (gotV n f.xs).es) : e.name ≠ [] := fun hn => by
  obtain ⟨_, _, h2, _⟩ := okV_parts h
  obtain ⟨hm, _⟩ := got_has hh
  obtain ⟨i, hi, rfl⟩ := List.getElem_of_mem he
  have := (((h2 _ hm).2.2.1 (es_dir h hh (List.getElem_mem hi))).2 i hi).1
  rw [hn] at this
  simp [may] at this
theorem below_tree {f : FsV} (h : okV f) : ∀ (m : Nat) (n : Int) (ns : List (List UInt8)), (∀ y ∈ ns, y ≠ []) → belowV f.xs m n (joinP ns) = (treeV f.xs m n ns).map seen1
  | 0, n, ns, _ => rfl
  | m + 1, n, ns, hne => by
    unfold belowV treeV
    split
    · rename_i hh
      obtain ⟨_, hi⟩ := got_has hh
      rw [List.map_cons, List.map_flatMap, show seen1 (ns, gotV n f.xs) = ⟨joinP ns, n⟩ by simp [seen1, hi]]
      congr 1
      refine flatMap_congr' fun e he => ?_
      have hn := name_ne h hh he
      rw [← joinP_snoc ns e.name hne]
      exact below_tree h m e.ino _ fun y hy => by
        rcases List.mem_append.1 hy with hy | hy
        · exact hne y hy
        · simp at hy; subst hy; exact hn
    · rfl
theorem list_tree {f : FsV} (h : okV f) : listV f.xs = (trV f.xs 1 []).map seen1 := below_tree h _ 1 [] fun y hy => by cases hy
/-- an inode's paths, both ways -/
theorem paths_tree {n : Int} {l : Items} : pathsV n (l.map seen1) = wpathsV n l := by
  unfold pathsV wpathsV
  rw [List.filter_map, List.map_map]
  rfl
end Go.Proofs.YtdmfififkcnecaaDoor.Vcg
end
section
set_option linter.unusedVariables false
set_option linter.unusedSimpArgs false
namespace Go.Proofs.YtdmfififkcnecaaDoor.Vcg
/-- d is come to from n by j steps -/
inductive Anc (xs : List NodV) (n : Int) : Nat → Int → Prop
  | same : Anc xs n 0 n
  | step {j : Nat} {p : Int} {e : EntV} : Anc xs n j p → hasV p xs = true → e ∈ (gotV p xs).es → Anc xs n (j + 1) e.ino
theorem Anc.dep {xs : List NodV} {n : Int} {k : Nat} (hd : Dep xs k n) : ∀ {j : Nat} {d : Int}, Anc xs n j d → Dep xs (k + j) d
  | _, _, .same => hd
  | _, _, .step a b c => .step (a.dep hd) b c
theorem Anc.up {xs : List NodV} {n : Int} {e : EntV} (hh : hasV n xs = true) (he : e ∈ (gotV n xs).es) : ∀ {j : Nat} {d : Int}, Anc xs e.ino j d → Anc xs n (j + 1) d
  | _, _, .same => .step .same hh he
  | _, _, .step a b c => .step (a.up hh he) b c
theorem tree_anc {xs : List NodV} : ∀ (m : Nat) (n : Int) (ns : List (List UInt8)), ∀ p ∈ treeV xs m n ns, ∃ j, Anc xs n j p.2.ino ∧ hasV p.2.ino xs = true ∧ gotV p.2.ino xs = p.2
  | 0, n, ns, p, hp => by cases hp
  | m + 1, n, ns, p, hp => by
    unfold treeV at hp
    split at hp
    · rename_i hh
      obtain ⟨_, hi⟩ := got_has hh
      rcases List.mem_cons.1 hp with rfl | hp
      · exact ⟨0, by rw [hi]; exact .same, by rw [hi]; exact hh, by rw [hi]⟩
      · obtain ⟨e, he, hp⟩ := List.mem_flatMap.1 hp
        obtain ⟨j, q1, q2⟩ := tree_anc m _ _ p hp
        exact ⟨j + 1, q1.up hh he, q2⟩
    · cases hp
/-- two roads of one length to one directory begin alike -/
theorem anc_same {f : FsV} (h : okV f) {a b : Int} : ∀ (j : Nat) (d : Int), Anc f.xs a j d → Anc f.xs b j d → hasV d f.xs = true → (gotV d f.xs).kind = 2 → a = b ∧ hasV a f.xs = true ∧ (gotV a f.xs).kind = 2
  | 0, d, h1, h2, hh, hk => by
    cases h1; cases h2
    exact ⟨rfl, hh, hk⟩
  | j + 1, d, h1, h2, hh, hk => by
    obtain ⟨_, _, _, _, h4, _⟩ := okV_parts h
    cases h1 with
    | @step _ p e x y z =>
      generalize hn : e.ino = d at h2 hh hk
      cases h2 with
      | @step _ p' e' x' y' z' =>
        have hp := pair_mem y z
        have hp' := pair_mem y' z'
        rw [hn] at hp
        obtain ⟨hm, hi⟩ := got_has hh
        have hq := (h4 _ hm).2
        rw [hi, if_neg (root_unnamed h y' z')] at hq
        have := cnt_one hp hp' (hq.2 hk).1
        subst this
        exact anc_same h j p x x' y (es_dir h y z)
theorem cnt_two {xs : List NodV} {n : Int} {e e' : EntV} (hh : hasV n xs = true) (hs : [e, e'].Sublist (gotV n xs).es) (hi : e.ino = e'.ino) : 2 ≤ cntV e.ino (pairsV xs) := by
  obtain ⟨hm, hino⟩ := got_has hh
  have h1 : ([e, e'].map fun e => (e.ino, (gotV n xs).ino)).Sublist (pairN (gotV n xs) (gotV n xs).es) := hs.map _
  obtain ⟨i, hi', hx⟩ := List.getElem_of_mem hm
  have h2 : (pairN (gotV n xs) (gotV n xs).es).Sublist (pairsV xs) := by
    obtain ⟨s, t, hst⟩ := List.append_of_mem hm
    unfold pairsV
    conv => rhs; rw [hst]
    rw [List.flatMap_append, List.flatMap_cons]
    exact (List.sublist_append_left _ _).trans (List.sublist_append_right _ _)
  have h3 := ((h1.trans h2).filter fun p => p.1 == e.ino).length_le
  unfold cntV
  simpa [hi] using h3
abbrev dirsV (l : Items) : List Int := (l.filter fun p => decide (p.2.kind = 2)).map fun p => p.2.ino
theorem dirs_mem {l : Items} {d : Int} (h : d ∈ dirsV l) : ∃ p ∈ l, p.2.kind = 2 ∧ p.2.ino = d := by
  obtain ⟨p, hp, rfl⟩ := List.mem_map.1 h
  obtain ⟨h1, h2⟩ := List.mem_filter.1 hp
  exact ⟨p, h1, of_decide_eq_true h2, rfl⟩
theorem dirs_flat {α : Type} {g : α → Items} {l : List α} : dirsV (l.flatMap g) = l.flatMap fun a => dirsV (g a) := by
  induction l with
  | nil => rfl
  | cons a r ih =>
    rw [List.flatMap_cons, List.flatMap_cons, ← ih]
    unfold dirsV
    rw [List.filter_append, List.map_append]
theorem dirs_nodup {f : FsV} (h : okV f) : ∀ (m : Nat) (n : Int) (ns : List (List UInt8)), hasV n f.xs = true → (dirsV (treeV f.xs m n ns)).Nodup
  | 0, n, ns, _ => List.nodup_nil
  | m + 1, n, ns, hh => by
    obtain ⟨k, hd⟩ := all_dep h hh
    obtain ⟨_, _, _, h3, h4, _⟩ := okV_parts h
    obtain ⟨hm, hi⟩ := got_has hh
    have key : ∀ L : List EntV, L.Sublist (gotV n f.xs).es → (dirsV (L.flatMap fun e => treeV f.xs m e.ino (ns ++ [e.name]))).Nodup := by
      intro L
      induction L with
      | nil => intro _; exact List.nodup_nil
      | cons e r ih =>
        intro hs
        have he : e ∈ (gotV n f.xs).es := hs.subset List.mem_cons_self
        have hr : r.Sublist (gotV n f.xs).es := (List.sublist_cons_self e r).trans hs
        have hap : dirsV ((e :: r).flatMap fun e => treeV f.xs m e.ino (ns ++ [e.name])) = dirsV (treeV f.xs m e.ino (ns ++ [e.name])) ++ dirsV (r.flatMap fun e => treeV f.xs m e.ino (ns ++ [e.name])) := by
          rw [List.flatMap_cons]; unfold dirsV; rw [List.filter_append, List.map_append]
        rw [hap, List.nodup_append]
        refine ⟨dirs_nodup h m e.ino _ (h3 _ hm e he), ih hr, fun d hd1 d' hd2 hdd => ?_⟩
        subst hdd
        obtain ⟨p, p1, p2, rfl⟩ := dirs_mem hd1
        obtain ⟨p', p1', p2', p3'⟩ := dirs_mem hd2
        obtain ⟨e', he', p1'⟩ := List.mem_flatMap.1 p1'
        obtain ⟨j, a1, a2, a3⟩ := tree_anc m _ _ p p1
        obtain ⟨j', b1, b2, b3⟩ := tree_anc m _ _ p' p1'
        rw [p3'] at b1
        have hk : (gotV p.2.ino f.xs).kind = 2 := by rw [a3]; exact p2
        have hdep := dep_one h _ _ _ (a1.dep (.step hd hh he)) (b1.dep (.step hd hh (hr.subset he'))) a2 hk
        obtain rfl : j = j' := by omega
        obtain ⟨q1, q2, q3⟩ := anc_same h j _ a1 b1 a2 hk
        have hs2 : [e, e'].Sublist (gotV n f.xs).es := (List.Sublist.cons_cons e (List.singleton_sublist.2 he')).trans hs
        have h2 := cnt_two hh hs2 q1
        obtain ⟨hm2, hi2⟩ := got_has q2
        have hq := (h4 _ hm2).2
        rw [hi2, if_neg (root_unnamed h hh he)] at hq
        have := (hq.2 q3).1
        omega
    unfold treeV
    rw [if_pos hh]
    by_cases hk : (gotV n f.xs).kind = 2
    · have hc : dirsV ((ns, gotV n f.xs) :: (gotV n f.xs).es.flatMap fun e => treeV f.xs m e.ino (ns ++ [e.name])) = n :: dirsV ((gotV n f.xs).es.flatMap fun e => treeV f.xs m e.ino (ns ++ [e.name])) := by
        unfold dirsV
        rw [List.filter_cons_of_pos (by simpa using hk), List.map_cons, hi]
      rw [hc, List.nodup_cons]
      refine ⟨fun hmem => ?_, key _ (List.Sublist.refl _)⟩
      obtain ⟨p, p1, p2, p3⟩ := dirs_mem hmem
      obtain ⟨e, he, p1⟩ := List.mem_flatMap.1 p1
      obtain ⟨j, a1, a2, a3⟩ := tree_anc m _ _ p p1
      rw [p3] at a1
      have := dep_one h _ _ _ (a1.dep (.step hd hh he)) hd hh hk
      omega
    · have hc : dirsV ((ns, gotV n f.xs) :: (gotV n f.xs).es.flatMap fun e => treeV f.xs m e.ino (ns ++ [e.name])) = dirsV ((gotV n f.xs).es.flatMap fun e => treeV f.xs m e.ino (ns ++ [e.name])) := by
        unfold dirsV
        rw [List.filter_cons_of_neg (by simpa using hk)]
      rw [hc]
      exact key _ (List.Sublist.refl _)
end Go.Proofs.YtdmfififkcnecaaDoor.Vcg
end
section
set_option linter.unusedVariables false
set_option linter.unusedSimpArgs false
namespace Go.Proofs.YtdmfififkcnecaaDoor.Vcg
def sumEs (l : Items) : Nat := (l.map fun p => p.2.es.length).sum
theorem sumEs_app (a b : Items) : sumEs (a ++ b) = sumEs a + sumEs b := by unfold sumEs; rw [List.map_append, List.sum_append]
theorem tree_sum {xs : List NodV} : ∀ (m : Nat) (n : Int) (ns : List (List UInt8)), (treeV xs m n ns).length ≤ 1 + sumEs (treeV xs m n ns)
  | 0, n, ns => Nat.zero_le _
  | m + 1, n, ns => by
    unfold treeV
    split
    · have key : ∀ L : List EntV, (L.flatMap fun e => treeV xs m e.ino (ns ++ [e.name])).length ≤ L.length + sumEs (L.flatMap fun e => treeV xs m e.ino (ns ++ [e.name])) := by
        intro L
        induction L with
        | nil => exact Nat.le_refl _
        | cons e r ih =>
          rw [List.flatMap_cons, List.length_append, sumEs_app, List.length_cons]
          have := tree_sum (xs := xs) m e.ino (ns ++ [e.name])
          omega
      have := key (gotV n xs).es
      have hs : ∀ l : Items, sumEs ((ns, gotV n xs) :: l) = (gotV n xs).es.length + sumEs l := fun l => by unfold sumEs; rw [List.map_cons, List.sum_cons]
      rw [List.length_cons, hs]
      omega
    · exact Nat.zero_le _
theorem sumEs_le {l : Items} (h : ∀ p ∈ l, p.2.es.length ≤ 40 ∧ (p.2.kind ≠ 2 → p.2.es = [])) : sumEs l ≤ 40 * (dirsV l).length := by
  induction l with
  | nil => exact Nat.zero_le _
  | cons p r ih =>
    have hp := h p List.mem_cons_self
    have ih := ih fun q hq => h q (List.mem_cons_of_mem _ hq)
    unfold sumEs at ih ⊢
    rw [List.map_cons, List.sum_cons]
    unfold dirsV at ih ⊢
    by_cases hk : p.2.kind = 2
    · rw [List.filter_cons_of_pos (by simpa using hk), List.map_cons, List.length_cons]; omega
    · rw [List.filter_cons_of_neg (by simpa using hk), hp.2 hk]
      simpa using ih
theorem tree_len {f : FsV} (h : okV f) (m : Nat) (n : Int) (ns : List (List UInt8)) : (treeV f.xs m n ns).length ≤ 1601 := by
  obtain ⟨h0, _, h2, _⟩ := okV_parts h
  cases hh : hasV n f.xs with
  | false =>
    cases m with
    | zero => exact Nat.zero_le _
    | succ m => unfold treeV; rw [hh]; exact Nat.zero_le _
  | true =>
    have h1 := tree_sum (xs := f.xs) m n ns
    have hg : ∀ p ∈ treeV f.xs m n ns, p.2 ∈ f.xs := fun p hp => by
      obtain ⟨j, _, q2, q3⟩ := tree_anc m n ns p hp
      rw [← q3]; exact (got_has q2).1
    have hs := sumEs_le (l := treeV f.xs m n ns) fun p hp => ⟨(h0.2 _ (hg p hp)).2.1, fun hk => ((h2 _ (hg p hp)).2.1 hk).1⟩
    have hd := seen_len (dirs_nodup h m n ns hh) fun d hd => by
      obtain ⟨p, p1, _, rfl⟩ := dirs_mem hd
      obtain ⟨_, _, q2, _⟩ := tree_anc m n ns p p1
      exact q2
    have := h0.1
    omega
def wsum (ns : List (List UInt8)) : Nat := (ns.map fun x => x.length + 1).sum
theorem wsum_snoc (ns : List (List UInt8)) (x : List UInt8) : wsum (ns ++ [x]) = wsum ns + (x.length + 1) := by
  unfold wsum; rw [List.map_append, List.sum_append]; simp
theorem tree_names {xs : List NodV} (h0 : fewV xs) : ∀ (m : Nat) (n : Int) (ns : List (List UInt8)), ∀ p ∈ treeV xs m n ns, p.1.length ≤ ns.length + m ∧ wsum p.1 ≤ wsum ns + m * 301
  | 0, n, ns, p, hp => by cases hp
  | m + 1, n, ns, p, hp => by
    unfold treeV at hp
    split at hp
    · rename_i hh
      obtain ⟨hm, _⟩ := got_has hh
      rcases List.mem_cons.1 hp with rfl | hp
      · exact ⟨Nat.le_add_right _ _, Nat.le_add_right _ _⟩
      · obtain ⟨e, he, hp⟩ := List.mem_flatMap.1 hp
        obtain ⟨q1, q2⟩ := tree_names h0 m _ _ p hp
        have := (h0.2 _ hm).2.2 e he
        rw [wsum_snoc] at q2
        rw [List.length_append, List.length_singleton] at q1
        exact ⟨by omega, by omega⟩
    · cases hp
theorem join_wsum (ns : List (List UInt8)) : (Lib.join ns [47]).length ≤ wsum ns := by
  by_cases h : ns = []
  · subst h; exact Nat.zero_le _
  · have := join_len ns h
    unfold wsum; omega
theorem start_ok {f : FsV} (h : okV f) (n : Int) (ns : List (List UInt8)) (h1 : ns.length ≤ 100000) (h2 : wsum ns ≤ 100000) : StartOk (trV f.xs) n ns := by
  obtain ⟨h0, _⟩ := okV_parts h
  refine ⟨Nat.le_trans (tree_len h _ n ns) (by decide), fun p hp => ?_⟩
  obtain ⟨q1, q2⟩ := tree_names h0 _ n ns p hp
  have := join_wsum p.1
  have := h0.1
  exact ⟨by omega, by omega⟩
theorem list_len {f : FsV} (h : okV f) : (listV f.xs).length ≤ 1000000 := by
  rw [list_tree h, List.length_map]
  exact Nat.le_trans (tree_len h _ 1 []) (by decide)
end Go.Proofs.YtdmfififkcnecaaDoor.Vcg
end
section
set_option linter.unusedVariables false
set_option maxRecDepth 100000
set_option linter.unusedSimpArgs false
namespace Go.Proofs.YtdmfififkcnecaaDoor.Vcg
open Go.RowKit
abbrev intC (i : Int) : C := .sc (.int .i64 i)
theorem midx_none {α : Type} [DecidableEq α] {a : α} : ∀ {l : List α}, a ∉ l → midx a l = none
  | [], _ => rfl
  | k :: ks, h => by
    unfold midx
    rw [if_neg (fun e : k = a => h (by rw [e]; exact List.mem_cons_self)), midx_none fun h' => h (List.mem_cons_of_mem _ h')]
    rfl
theorem midx_some {α : Type} [DecidableEq α] {a : α} : ∀ {l : List α}, a ∈ l → ∃ j, midx a l = some j
  | [], h => by cases h
  | k :: ks, h => by
    unfold midx
    by_cases e : k = a
    · exact ⟨0, if_pos e⟩
    · rw [if_neg e]
      rcases List.mem_cons.1 h with h | h
      · exact absurd h.symm e
      · obtain ⟨j, hj⟩ := midx_some h
        exact ⟨j + 1, by rw [hj]; rfl⟩
/-- the keys and the places, behind k of a list -/
def mst (l : List Int) : Nat → List Int × List Int
  | 0 => ([], [])
  | k + 1 => match l[k]? with
    | some n => if n ∈ (mst l k).1 then mst l k else ((mst l k).1 ++ [n], (mst l k).2 ++ [(k : Int)])
    | none => mst l k
theorem mst_ok (l : List Int) : ∀ k, k ≤ l.length → (∀ n, n ∈ (mst l k).1 ↔ n ∈ l.take k) ∧ (mst l k).1.length = (mst l k).2.length ∧ ∀ (j : Nat) (n i : Int), (mst l k).1[j]? = some n → (mst l k).2[j]? = some i → i = (l.idxOf n : Int)
  | 0, _ => ⟨fun n => by simp [mst], rfl, fun j n i h => by simp [mst] at h⟩
  | k + 1, h => by
    obtain ⟨h1, h2, h3⟩ := mst_ok l k (by omega)
    have hk : k < l.length := h
    have ht : l.take (k + 1) = l.take k ++ [l[k]] := by rw [List.take_add_one, List.getElem?_eq_getElem hk]; rfl
    unfold mst
    rw [List.getElem?_eq_getElem hk]
    simp only
    by_cases hm : l[k] ∈ (mst l k).1
    · rw [if_pos hm]
      refine ⟨fun n => ?_, h2, h3⟩
      rw [ht, List.mem_append, h1]
      constructor
      · exact .inl
      · rintro (h | h)
        · exact h
        · simp at h; subst h; exact (h1 _).1 hm
    · rw [if_neg hm]
      have hnt : l[k] ∉ l.take k := fun h => hm ((h1 _).2 h)
      refine ⟨fun n => by rw [ht, List.mem_append, List.mem_append, h1], by simp [h2], fun j n i hj hi => ?_⟩
      rcases Nat.lt_or_ge j (mst l k).1.length with hlt | hge
      · rw [List.getElem?_append_left hlt] at hj
        rw [List.getElem?_append_left (by omega)] at hi
        exact h3 j n i hj hi
      · rw [List.getElem?_append_right hge] at hj
        rw [List.getElem?_append_right (by omega)] at hi
        have hj0 : j - (mst l k).1.length = 0 := by
          have := (List.getElem?_eq_some_iff.1 hj).1
          simp at this; omega
        rw [hj0] at hj
        rw [show j - (mst l k).2.length = 0 by omega] at hi
        simp at hj hi
        subst hj hi
        have key : ∀ n, n ∉ l.take k → l = l.take k ++ n :: l.drop (k + 1) → l.idxOf n = k := fun n hn e => by
          calc l.idxOf n = (l.take k ++ n :: l.drop (k + 1)).idxOf n := congrArg (List.idxOf n) e
            _ = k := by
              rw [List.idxOf_append, if_neg hn, List.idxOf_cons_self, List.length_take]
              omega
        have hidx := key _ hnt (by rw [List.getElem_cons_drop, List.take_append_drop])
        rw [hidx]
theorem mst_old {l : List Int} {k : Nat} (hk : k < l.length) (h : l[k] ∈ (mst l k).1) : mst l (k + 1) = mst l k ∧ mget l[k] (mst l k).1 ((mst l k).2.map intC) = some (intC (l.idxOf l[k])) := by
  refine ⟨by rw [mst, List.getElem?_eq_getElem hk]; simp only [if_pos h], ?_⟩
  obtain ⟨h1, h2, h3⟩ := mst_ok l k (by omega)
  obtain ⟨j, hj⟩ := midx_some h
  have hjn := midx_lt hj
  have hjl : j < (mst l k).2.length := by rw [← h2]; exact (List.getElem?_eq_some_iff.1 hjn).1
  unfold mget
  rw [hj]
  simp only [List.getElem?_map, List.getElem?_eq_getElem hjl, Option.map_some]
  rw [h3 j _ _ hjn (List.getElem?_eq_getElem hjl)]
theorem mst_new {l : List Int} {k : Nat} (hk : k < l.length) (h : l[k] ∉ (mst l k).1) : mst l (k + 1) = ((mst l k).1 ++ [l[k]], (mst l k).2 ++ [(k : Int)]) ∧ mget l[k] (mst l k).1 ((mst l k).2.map intC) = none ∧
    mput l[k] (intC k) (mst l k).1 ((mst l k).2.map intC) = ((mst l k).1 ++ [l[k]], (mst l k).2.map intC ++ [intC k]) ∧ mget l[k] ((mst l k).1 ++ [l[k]]) ((mst l k).2.map intC ++ [intC k]) = some (intC (l.idxOf l[k])) := by
  have hs : mst l (k + 1) = ((mst l k).1 ++ [l[k]], (mst l k).2 ++ [(k : Int)]) := by rw [mst, List.getElem?_eq_getElem hk]; simp only [if_neg h]
  refine ⟨hs, by unfold mget; rw [midx_none h], by unfold mput; rw [midx_none h], ?_⟩
  obtain ⟨h1, h2, h3⟩ := mst_ok l (k + 1) hk
  rw [hs] at h1 h2 h3
  obtain ⟨j, hj⟩ := midx_some (a := l[k]) (l := (mst l k).1 ++ [l[k]]) (by simp)
  have hjn := midx_lt hj
  have hjl : j < ((mst l k).2 ++ [(k : Int)]).length := by rw [← h2]; exact (List.getElem?_eq_some_iff.1 hjn).1
  unfold mget
  rw [hj]
  have he : (mst l k).2.map intC ++ [intC k] = ((mst l k).2 ++ [(k : Int)]).map intC := by simp
  simp only [he, List.getElem?_map, List.getElem?_eq_getElem hjl, Option.map_some]
  rw [h3 j _ _ hjn (List.getElem?_eq_getElem hjl)]
/-- a line of a shape -/
structure ShpV where
  path : List UInt8
  kind : Int
  data : List UInt8
  first : Int
deriving DecidableEq, Inhabited
abbrev shpC (s : ShpV) : List C := [.str s.path, intC s.kind, .str s.data, intC s.first]
abbrev shpsC (l : List ShpV) : List (List C) := l.map shpC
/-- the shape of what is come to -/
def shp1 (l : Items) (p : List (List UInt8) × NodV) : ShpV := ⟨joinP p.1, p.2.kind, p.2.data, ((l.map fun q => q.2.ino).idxOf p.2.ino : Int)⟩
def shapeV (l : Items) : List ShpV := l.map (shp1 l)
set_option maxHeartbeats 1000000 in
theorem of_fun (f : FsV) (h : okV f) : Fun Tryd.prog G0 9 [.agg (fsC f)] (.own 0 37 4 (shpsC (shapeV (trV f.xs 1 [])))) 1 := by
  have h0 := (okV_parts h).1
  have h40 := h0.1
  have hw := walk_ok h
  have hs := start_ok h 1 [] (by decide) (by decide)
  have hl := wlist_fun f _ hw hs
  have hlen := hs.len
  have hgot : ∀ p ∈ trV f.xs 1 [], hasV p.2.ino f.xs = true ∧ gotV p.2.ino f.xs = p.2 := fun p hp => by
    obtain ⟨_, _, q⟩ := tree_anc _ 1 [] p hp
    exact q
  refine Fun.of (fun _ => []) (by kernel_rfl) Tryd.func9 rfl rfl (Nat.le_of_ble_eq_true rfl) (by kernel_rfl) ?_; dsimp only [Tryd.f9, List.append_eq, List.cons_append, List.nil_append]
  simp -dsimp only [push_cast, seval]
  (first | refine call (hl) ?_ | refine callP (hl) ?_); simp -dsimp only [push_cast, seval]
  generalize trV f.xs 1 [] = l at hl hlen hgot
  have hsl : (seesC (l.map seen1)).length = l.length := by simp
  obtain ⟨L, hL⟩ : ∃ L, l.map (fun q => q.2.ino) = L := ⟨_, rfl⟩
  have hLl : L.length = l.length := by rw [← hL, List.length_map]
  have hLk : ∀ k (hk : k < l.length), L[k]'(by omega) = l[k].2.ino := fun k hk => by subst hL; simp
  refine loop (fun k : Nat => ⟨[(1, .ptr 0 0), (3, .own 0 37 4 (shpsC ((l.take k).map (shp1 l)))), (4, .mo 1 40 (.int .i64 (mst L k).1) ((mst L k).2.map intC)), (13, .own 2 44 2 (seesC (l.map seen1))), (14, .sc (.int .i64 l.length)), (15, .sc (.int .i64 k))], [fsC f], 3, 0⟩) (fun k => k ≤ l.length) (fun k => l.length - k) 0 (Nat.zero_le _) ?_ ?_
  · exact Weak.mk [.inr (37, 4), .inl 0, .inl 1] rfl rfl (Nat.zero_le _) rfl (by simp -dsimp only [WeakTm, WeakBx, CLe, CLeL, push_cast, seval, mst, hsl]) (by simp -dsimp only [WeakTm, WeakBx, CLe, CLeL, push_cast, seval])
  · intro k hkl
    by_cases hk : k < l.length
    · have g1 : (seesC (l.map seen1))[k]? = some [.str (joinP l[k].1), .sc (.int .i64 l[k].2.ino)] := by simp [List.getElem?_eq_getElem hk]
      have hpi := List.getElem_mem hk
      obtain ⟨q1, q2⟩ := hgot _ hpi
      have hget := get_fun (G := G0) f l[k].2.ino (by omega) (okV_parts h).2.1.2.2.2.2.2.2.1
      rw [q1, q2] at hget
      have hlk := hLk k hk
      have hkL : k < L.length := by omega
      have hol : (shpsC ((l.take k).map (shp1 l))).length = k := by simp; omega
      have htk : (l.take (k + 1)).map (shp1 l) = (l.take k).map (shp1 l) ++ [shp1 l l[k]] := by rw [List.take_add_one, List.getElem?_eq_getElem hk, List.map_append]; rfl
      have hsh : shp1 l l[k] = ⟨joinP l[k].1, l[k].2.kind, l[k].2.data, (L.idxOf l[k].2.ino : Int)⟩ := by rw [← hL]; rfl
      rw [hsh] at htk
      by_cases hm : L[k] ∈ (mst L k).1
      · obtain ⟨m1, m2⟩ := mst_old hkL hm
        rw [hlk] at m2
        generalize l[k] = p at g1 hpi hget m2 htk
        simp -dsimp only [push_cast, seval, hk, g1, hsl, m2]
        refine ⟨by omega, ?_⟩
        (first | refine call (hget) ?_ | refine callP (hget) ?_); simp -dsimp only [push_cast, seval, m2]
        rw [hol]
        refine ⟨by omega, by omega, ⟨by omega, by omega⟩, k + 1, hk, by omega, Weak.mk [.inl 0, .inl 1, .inl 2] rfl rfl (Nat.zero_le _) rfl (by simp -dsimp only [WeakTm, WeakBx, CLe, CLeL, push_cast, seval, htk, m1, List.map_append]) (by simp -dsimp only [WeakTm, WeakBx, CLe, CLeL, push_cast, seval])⟩
      · obtain ⟨m1, m2, m3, m4⟩ := mst_new hkL hm
        rw [hlk] at m1 m2 m3 m4
        generalize l[k] = p at g1 hpi hget m1 m2 m3 m4 htk
        simp -dsimp only [push_cast, seval, hk, g1, hsl, m2, hol, m3]
        refine ⟨by omega, ?_⟩
        (first | refine call (hget) ?_ | refine callP (hget) ?_); simp -dsimp only [push_cast, seval, m4]
        rw [hol]
        refine ⟨by omega, by omega, ⟨by omega, by omega⟩, k + 1, hk, by omega, Weak.mk [.inl 0, .inl 1, .inl 2] rfl rfl (Nat.zero_le _) rfl (by simp -dsimp only [WeakTm, WeakBx, CLe, CLeL, push_cast, seval, htk, m1, List.map_append]) (by simp -dsimp only [WeakTm, WeakBx, CLe, CLeL, push_cast, seval])⟩
    · simp -dsimp only [push_cast, seval, hk]
      refine ⟨[.inl 0], rfl, rfl, ?_⟩
      rw [List.take_of_length_le (by omega)]
      simp -dsimp only [WeakTm, WeakBx, CLe, CLeL, push_cast, seval, shapeV]
end Go.Proofs.YtdmfififkcnecaaDoor.Vcg
end
