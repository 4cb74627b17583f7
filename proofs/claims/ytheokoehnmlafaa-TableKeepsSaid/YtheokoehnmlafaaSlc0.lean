/- Lists in boxes: what stands there, in plain words. No condition but what each states. -/
import Derived.Test.YtheokoehnmlafaaVcg18
import Derived.Lib.Overlaps
import Derived.Laws.Externs
set_option linter.unusedVariables false
set_option linter.unusedSimpArgs false
namespace Go.Proofs.Ytheokoehnmlafaa.Vcg
open Go.RowKit
/-- a cell that reads as itself wherever it lies, and leans on no box -/
def C.stayB : C → Bool
  | .sc _ | .str _ | .sl _ _ | .tight _ _ | .row _ | .any => true
  | _ => false
theorem stay_frz {c : C} (h : c.stayB = true) : c.frz = c := by cases c <;> simp [C.stayB] at h <;> simp [C.frz]
theorem stay_re {c : C} {fp fo : Nat → Option Nat} (h : c.stayB = true) : c.re fp fo = c := by cases c <;> simp [C.stayB] at h <;> simp [C.re]
theorem stay_dg {c : C} {id : Nat} (h : c.stayB = true) : c.dg id = c := by cases c <;> simp [C.stayB] at h <;> simp [C.dg]
theorem stay_sh {c : C} {n : Nat} (h : c.stayB = true) : c.sh n = c := by cases c <;> simp [C.stayB] at h <;> simp [C.sh]
theorem stay_le {c : C} {src : Src} {n : Nat} (h : c.stayB = true) : CLe src n c c := by cases c <;> simp [C.stayB] at h <;> simp [CLe]
theorem stays_frz : ∀ {cs : List C}, (cs.all C.stayB) = true → C.frzL cs = cs
  | [], _ => by simp [C.frzL]
  | c :: r, h => by
    simp only [List.all_cons, Bool.and_eq_true] at h
    rw [C.frzL, stay_frz h.1, stays_frz h.2]
theorem stays_re {fp fo : Nat → Option Nat} : ∀ {cs : List C}, (cs.all C.stayB) = true → C.reL fp fo cs = cs
  | [], _ => by simp [C.reL]
  | c :: r, h => by
    simp only [List.all_cons, Bool.and_eq_true] at h
    rw [C.reL, stay_re h.1, stays_re h.2]
theorem stays_dg {id : Nat} : ∀ {cs : List C}, (cs.all C.stayB) = true → C.dgL id cs = cs
  | [], _ => by simp [C.dgL]
  | c :: r, h => by
    simp only [List.all_cons, Bool.and_eq_true] at h
    rw [C.dgL, stay_dg h.1, stays_dg h.2]
theorem stays_le {src : Src} {n : Nat} : ∀ {cs : List C}, (cs.all C.stayB) = true → CLeL src n cs cs
  | [], _ => by simp [CLeL]
  | c :: r, h => by
    simp only [List.all_cons, Bool.and_eq_true] at h
    rw [CLeL]
    exact ⟨stay_le h.1, stays_le h.2⟩
theorem le_anyC {src : Src} {n : Nat} (c : C) : CLe src n c .any := by cases c <;> simp [CLe]
theorem le_anys {src : Src} {n : Nat} : ∀ {cs : List C} {m : Nat}, cs.length = m → CLeL src n cs (List.replicate m .any)
  | [], _, h => by subst h; simp [CLeL]
  | c :: r, _, h => by
    subst h
    rw [List.length_cons, List.replicate_succ, CLeL]
    exact ⟨le_anyC c, le_anys rfl⟩
theorem le_app {src : Src} {n : Nat} : ∀ {a b c d : List C}, CLeL src n a c → CLeL src n b d → CLeL src n (a ++ b) (c ++ d)
  | [], b, [], d, _, h => h
  | [], b, x :: c, d, h, _ => by simp [CLeL] at h
  | x :: a, b, [], d, h, _ => by simp [CLeL] at h
  | x :: a, b, y :: c, d, h, h' => by
    rw [List.cons_append, List.cons_append, CLeL]
    rw [CLeL] at h
    exact ⟨h.1, le_app h.2 h'⟩
/-- a list, in a box with room -/
def boxR (k : Nat) (rows : List (List C)) (c : Nat) : List C := rows.flatten ++ List.replicate ((c - rows.length) * k) .any
theorem flat_len {k : Nat} : ∀ {rows : List (List C)}, (∀ r ∈ rows, r.length = k) → rows.flatten.length = rows.length * k
  | [], _ => by simp
  | r :: rs, h => by
    rw [List.flatten_cons, List.length_append, h r List.mem_cons_self, flat_len fun x hx => h x (List.mem_cons_of_mem _ hx), List.length_cons, Nat.succ_mul, Nat.add_comm]
theorem boxR_len {k c : Nat} {rows : List (List C)} (h : ∀ r ∈ rows, r.length = k) (hc : rows.length ≤ c) : (boxR k rows c).length = c * k := by
  unfold boxR
  rw [List.length_append, flat_len h, List.length_replicate, ← Nat.add_mul]
  congr 1; omega
abbrev staysR (rows : List (List C)) : Prop := ∀ r ∈ rows, (r.all C.stayB) = true
theorem stays_flat {rows : List (List C)} (h : staysR rows) : (rows.flatten.all C.stayB) = true := by
  rw [List.all_eq_true]
  intro c hc
  obtain ⟨r, hr, hc⟩ := List.mem_flatten.1 hc
  exact List.all_eq_true.1 (h r hr) c hc
theorem stays_box {k c : Nat} {rows : List (List C)} (h : staysR rows) : ((boxR k rows c).all C.stayB) = true := by
  unfold boxR
  rw [List.all_append, stays_flat h, Bool.true_and, List.all_eq_true]
  intro c hc
  obtain ⟨_, rfl⟩ := List.mem_replicate.1 hc
  rfl
theorem take_flat {k n : Nat} : ∀ {rows : List (List C)}, (∀ r ∈ rows, r.length = k) → rows.flatten.take (n * k) = (rows.take n).flatten := by
  induction n with
  | zero => intro rows _; simp
  | succ n ih =>
    intro rows h
    cases rows with
    | nil => simp
    | cons r rs =>
      have hr := h r List.mem_cons_self
      rw [List.take_succ_cons, List.flatten_cons, List.flatten_cons, List.take_append, List.take_of_length_le (by rw [hr, Nat.succ_mul]; omega), hr, show (n + 1) * k - k = n * k by rw [Nat.succ_mul]; omega, ih fun x hx => h x (List.mem_cons_of_mem _ hx)]
theorem drop_flat {k n : Nat} : ∀ {rows : List (List C)}, (∀ r ∈ rows, r.length = k) → rows.flatten.drop (n * k) = (rows.drop n).flatten := by
  induction n with
  | zero => intro rows _; simp
  | succ n ih =>
    intro rows h
    cases rows with
    | nil => simp
    | cons r rs =>
      have hr := h r List.mem_cons_self
      rw [List.drop_succ_cons, List.flatten_cons, List.drop_append, List.drop_of_length_le (by rw [hr, Nat.succ_mul]; omega), hr, List.nil_append, show (n + 1) * k - k = n * k by rw [Nat.succ_mul]; omega, ih fun x hx => h x (List.mem_cons_of_mem _ hx)]
/-- what stands at a box's beginning is known: the box says at least this -/
theorem le_boxR {src : Src} {m k c : Nat} {rows : List (List C)} {cs : List C} (hk : ∀ r ∈ rows, r.length = k) (hs : staysR rows) (hc : rows.length ≤ c) (hl : cs.length = c * k) (ht : cs.take (rows.length * k) = rows.flatten) : CLeL src m cs (boxR k rows c) := by
  have h1 : cs = rows.flatten ++ cs.drop (rows.length * k) := by rw [← ht, List.take_append_drop]
  rw [h1]
  unfold boxR
  refine le_app (stays_le (stays_flat hs)) (le_anys ?_)
  rw [List.length_drop, hl, ← Nat.sub_mul]
theorem spl_len {cs xs : List C} {p : Nat} (h : p + xs.length ≤ cs.length) : (spl cs p xs).length = cs.length := by
  simp [spl]; omega
/-- put in by shifting what is behind -/
theorem spl_shift {cs L X : List C} {p q : Nat} (hp : p ≤ L.length) (hq : q = p + X.length) (hL : cs.take L.length = L) (hc : L.length + X.length ≤ cs.length) :
    (spl (spl cs q (L.drop p)) p X).take (L.length + X.length) = L.take p ++ (X ++ L.drop p) := by
  subst hq
  apply List.ext_getElem?
  intro j
  have hcur : ∀ j, j < L.length → cs[j]? = L[j]? := fun j hj => by
    have h := congrArg (fun l => l[j]?) hL
    simp only [List.getElem?_take, if_pos hj] at h
    exact h
  simp only [spl, List.getElem?_take, List.getElem?_append, List.getElem?_drop, List.length_take, List.length_append, List.length_drop]
  repeat' (first | split | omega)
  all_goals (first | rfl | omega | exact (List.getElem?_eq_none (by omega)).symm | (congr 1; omega) | (rw [hcur _ (by omega)]; first | done | (congr 1; omega)) | (symm; rw [List.getElem?_eq_none]; simp; omega) | (rw [List.getElem?_eq_none]; simp; omega) | skip)
/-- put in by copying into what is longer -/
theorem spl_grow {cs L X : List C} {p q : Nat} (hp : p ≤ L.length) (hq : q = p + X.length) (hL : cs.take p = L.take p) (hc : L.length + X.length ≤ cs.length) :
    (spl (spl cs p X) q (L.drop p)).take (L.length + X.length) = L.take p ++ (X ++ L.drop p) := by
  subst hq
  apply List.ext_getElem?
  intro j
  have hcur : ∀ j, j < p → cs[j]? = L[j]? := fun j hj => by
    have h := congrArg (fun l => l[j]?) hL
    simp only [List.getElem?_take, if_pos hj] at h
    exact h
  simp only [spl, List.getElem?_take, List.getElem?_append, List.getElem?_drop, List.length_take, List.length_append, List.length_drop]
  repeat' (first | split | omega)
  all_goals (first | rfl | omega | exact (List.getElem?_eq_none (by omega)).symm | (congr 1; omega) | (rw [hcur _ (by omega)]; first | done | (congr 1; omega)) | (symm; rw [List.getElem?_eq_none]; simp; omega) | (rw [List.getElem?_eq_none]; simp; omega) | skip)
/-- taken out by shifting what is behind -/
theorem spl_cut {cs L Z : List C} {p q n : Nat} (hq : q ≤ L.length) (hpq : p ≤ q) (hL : cs.take L.length = L) (hn : n = p + (L.length - q)) (hc : L.length ≤ cs.length) (hz : n + Z.length ≤ cs.length) :
    (spl (spl cs p (L.drop q)) n Z).take n = L.take p ++ L.drop q := by
  subst hn
  apply List.ext_getElem?
  intro j
  have hcur : ∀ j, j < L.length → cs[j]? = L[j]? := fun j hj => by
    have h := congrArg (fun l => l[j]?) hL
    simp only [List.getElem?_take, if_pos hj] at h
    exact h
  simp only [spl, List.getElem?_take, List.getElem?_append, List.getElem?_drop, List.length_take, List.length_append, List.length_drop]
  repeat' (first | split | omega)
  all_goals (first | rfl | omega | exact (List.getElem?_eq_none (by omega)).symm | (congr 1; omega) | (rw [hcur _ (by omega)]; first | done | (congr 1; omega)) | (symm; rw [List.getElem?_eq_none]; simp; omega) | (rw [List.getElem?_eq_none]; simp; omega) | skip)
/-- a slice of an owner's and one over a box don't overlap -/
theorem ovl_ext {P : Program} {f : FuncId} {fn : Func} {t e tR : TypeId} {s1 b1 k by' : Nat} {kd : LK} {z1 z : Option (List Value)} (hf : P.funcs[f]? = some fn) (hname : (fn.name == "runtime.NumGoroutine") = false) (hb : fn.body.isNone = true) (hn : Extern.findNext fn = none)
    (he : Extern.find fn = some (Extern.SlicesOverlaps.overlaps #[t, t] #[tR])) (hl : lay P t = some ⟨.slice e, s1, b1, z1⟩) (hle : lay P e = some ⟨kd, k, by', z⟩) {id e' k' i off n c : Nat} {rows bx : List (List C)} {cs : List C} (hbx : bx[i]? = some cs) (hcs : cs ≠ []) (hrows : rows ≠ []) (hn0 : 0 < n) :
    ExtC P f [.own id e' k' rows, .bs i off k n c] bx (.sc (.bool false)) := by
  intro B R L vs hB hO hr
  obtain ⟨v1, us, rfl, h1, hr⟩ := repL_cons.1 hr
  obtain ⟨v2, us, rfl, h2, hr⟩ := repL_cons.1 hr
  rw [repL_nil] at hr
  subst hr
  refine ⟨.bool false, ?_, rep_sc.2 rfl⟩
  rw [run_callFunc_extern hf hname hb hn he]
  have ht := lay_slice hl rfl
  have hz : ∀ w, (Go.sizeOf e).run P w = .ok k w := fun w => lay_sizeOf hle w
  obtain ⟨hT, a, cap, hv1, _⟩ := rep_own.1 h1
  obtain ⟨b, hbi, ad, rfl, had⟩ := rep_bs.1 h2
  obtain ⟨us, ty, e1, e2, e3, e4⟩ := hB.box i b cs hbi hbx
  have hsz : us.size ≠ 0 := by
    have := repL_length e2
    simp only [Array.length_toList] at this
    rw [this]
    exact fun h => hcs (List.eq_nil_of_length_eq_zero h)
  rcases hO.own id e' k' v1 hT with hnil | ⟨g, n', cap', cur, ty', q1, q2, q3, q4, q5, q6, q7, q8⟩
  · rw [hnil] at hv1
    obtain ⟨_, h0, _⟩ := Value.slice.inj hv1
    exact absurd (List.eq_nil_of_length_eq_zero h0.symm) hrows
  · rw [q1]
    obtain rfl := had (by omega)
    have hne : g ≠ b := fun h => q7 (h ▸ List.mem_of_getElem? hbi)
    rw [Lib.run_overlaps_apart R.w t tR e ht k hz ⟨g, 0, none⟩ ⟨b, off, none⟩ n' cap' n c hne ty' ty cur.size us.size (by simp [World.shape?, q3]) (by simp [World.shape?, e1]) hsz (frozen_of_row R.w g 0 _ _ q3) (frozen_of_row R.w g _ _ _ q3)]
    rfl
theorem rep_flat_len {m k : Nat} {z : List C} (hz : z.length = k) : (List.replicate m z).flatten.length = m * k := by
  have h := flat_len (k := k) (rows := List.replicate m z) fun r hr => by rw [(List.mem_replicate.1 hr).2]; exact hz
  rw [h, List.length_replicate]
section
variable {P : Program} {t tn e s1 b1 s2 b2 k by' m i off n cap nx lg : Nat} {kd : LK} {kn kq : IntKind} {z1 z2 z3 : Option (List Value)} {z : List Value} {cs xs : List C} {bx : List (List C)} {tm : List (Nat × C)} {d : C} {q : Int} {K3 : C → St → Prop}
/-- an append of zeros, what stands in the new box being told by what is needed of it -/
theorem appZ' (hl : lay P t = some ⟨.slice e, s1, b1, z1⟩) (hln : lay P tn = some ⟨.int kn, s2, b2, z2⟩) (hle : lay P e = some ⟨kd, k, by', some z⟩) (hz : z.length = k) (hk : 0 < k) (h1 : (z.all Value.oneCell') = true)
    (hb : bx[i]? = some cs) (hfit : off + cap * k ≤ cs.length) (hn : n ≤ cap) (hq : 0 < q) (h63 : (n : Int) + q ≤ 9223372036854775807) (hby : ((n : Int) + q) * by' ≤ 140737488355328) (hg : (cap : Int) < n + q)
    (hK : ∀ c' B, n + q.toNat ≤ c' → c' ≤ 9223372036854775807 → B.length = c' * k → B.take (n * k) = (cs.drop off).take (n * k) → K3 (.bs bx.length 0 k (n + q.toNat) c') ⟨tm, bx ++ [B], nx, lg⟩) : baAppZ P t tn (.bs i off k n cap) (.sc (.int kq q)) ⟨tm, bx, nx, lg⟩ K3 ⟨⟩ := by
  have hnk : n * k ≤ cap * k := Nat.mul_le_mul_right _ hn
  refine appZ hl hln hle hz hk h1 hb hfit hn hq h63 hby hg fun c' g1 g2 => hK c' _ g1 g2 ?_ ?_
  · rw [List.length_append, List.length_append, rep_flat_len (k := k) (by simpa using hz), List.length_replicate, List.length_take, List.length_drop, Nat.min_eq_left (by omega), ← Nat.add_mul, ← Nat.add_mul]
    congr 1; omega
  · rw [List.append_assoc, List.take_left' (by rw [List.length_take, List.length_drop]; omega)]
theorem copyB' (hl : lay P t = some ⟨.slice e, s1, b1, z1⟩) (hle : lay P e = some ⟨kd, k, by', z3⟩) (hx : d.xs? k bx = some (m, xs)) (hb : bx[i]? = some cs) (hxl : xs.length = m * k) (hfit : off + n * k ≤ cs.length)
    (hK : ∀ B, B = spl cs off (xs.take (min m n * k)) → B.length = cs.length → K3 (.sc (.int .i64 ((min m n : Nat) : Int))) ⟨tm, bx.set i B, nx, lg⟩) : baCopy P t (.bs i off k n cap) d ⟨tm, bx, nx, lg⟩ K3 ⟨⟩ :=
  copyB hl hle hx hb hxl hfit (hK _ rfl (by
    have h1 : min m n * k ≤ n * k := Nat.mul_le_mul_right _ (Nat.min_le_right _ _)
    exact spl_len (by rw [List.length_take]; omega)))
theorem clearB' (hl : lay P t = some ⟨.slice e, s1, b1, z1⟩) (hle : lay P e = some ⟨kd, k, by', some z⟩) (hb : bx[i]? = some cs) (hz : z.length = k) (hk : 0 < k) (h1 : (z.all Value.oneCell') = true) (hfit : off + n * k ≤ cs.length)
    (hK : ∀ B Z, B = spl cs off Z → Z.length = n * k → B.length = cs.length → K3 .any ⟨tm, bx.set i B, nx, lg⟩) : baClear P t (.bs i off k n cap) ⟨tm, bx, nx, lg⟩ K3 ⟨⟩ := by
  have hZ : (List.replicate n (z.map ofConst)).flatten.length = n * k := rep_flat_len (by simpa using hz)
  exact clearB hl hle hb hz hk h1 hfit (hK _ _ rfl hZ (spl_len (by omega)))
end
theorem xs_box {k i off n c : Nat} {bx : List (List C)} {cs : List C} (hb : bx[i]? = some cs) (h : off + n * k ≤ cs.length) : C.xs? k bx (.bs i off k n c) = some (n, (cs.drop off).take (n * k)) := by
  simp [C.xs?, hb, h]
theorem box_part {k c i : Nat} {rows : List (List C)} (hk : ∀ r ∈ rows, r.length = k) (hi : i ≤ rows.length) : ((boxR k rows c).drop (i * k)).take ((rows.length - i) * k) = rows.flatten.drop (i * k) := by
  have hf := flat_len hk
  have h1 : i * k ≤ rows.length * k := Nat.mul_le_mul_right _ hi
  unfold boxR
  rw [List.drop_append_of_le_length (by omega), List.take_left' (by rw [List.length_drop, hf, Nat.sub_mul])]
theorem ins_flat {k i : Nat} {rows : List (List C)} {x : List C} (hk : ∀ r ∈ rows, r.length = k) : rows.flatten.take (i * k) ++ (x ++ rows.flatten.drop (i * k)) = (rows.take i ++ x :: rows.drop i).flatten := by
  rw [take_flat hk, drop_flat hk]; simp
theorem frOk_one {bx : List (List C)} {i e k c : Nat} {rows : List (List C)} {cs : List C} (hb : bx[i]? = some cs) (hc : 0 < c) (h1 : rows.length ≤ c) (h2 : c ≤ 9223372036854775807) (hl : cs.length = c * k) (hk : ∀ r ∈ rows, r.length = k) (hs : (cs.all C.stayB) = true) (ht : cs.take (rows.length * k) = rows.flatten) :
    frOk [(i, e, k, rows, c)] bx := by
  refine ⟨by simp, fun x hx => ?_⟩
  rw [List.mem_singleton] at hx
  subst hx
  exact ⟨cs, hb, hc, h1, by unfold maxLen; exact h2, hl, hk, by rw [stays_frz hs]; exact ht⟩
theorem boxR_take {k c : Nat} {rows : List (List C)} (hk : ∀ r ∈ rows, r.length = k) : (boxR k rows c).take (rows.length * k) = rows.flatten := by
  unfold boxR; rw [List.take_left' (flat_len hk)]
theorem frOk_box {bx : List (List C)} {i e k c : Nat} {rows : List (List C)} (hb : bx[i]? = some (boxR k rows c)) (hc : 0 < c) (h1 : rows.length ≤ c) (h2 : c ≤ 9223372036854775807) (hk : ∀ r ∈ rows, r.length = k) (hs : staysR rows) : frOk [(i, e, k, rows, c)] bx :=
  frOk_one hb hc h1 h2 (boxR_len hk h1) hk (stays_box hs) (boxR_take hk)
/-- an element over another one -/
theorem boxR_set {k c i : Nat} {rows : List (List C)} {row : List C} (hk : ∀ r ∈ rows, r.length = k) (hr : row.length = k) (hi : i < rows.length) : (boxR k rows c).take (i * k) ++ row ++ (boxR k rows c).drop (i * k + k) = boxR k (rows.set i row) c := by
  have hf := flat_len hk
  have h1 : (i + 1) * k ≤ rows.length * k := Nat.mul_le_mul_right _ hi
  rw [Nat.succ_mul] at h1
  unfold boxR
  rw [List.take_append_of_le_length (by omega), List.drop_append_of_le_length (by omega), ← Nat.succ_mul, take_flat hk, drop_flat hk, List.length_set, ← List.append_assoc]
  congr 1
  rw [List.set_eq_take_append_cons_drop, if_pos hi]
  simp
/-- rows that say less -/
def RLe : List (List C) → List (List C) → Prop
  | [], [] => True
  | a :: r, b :: s => CLeL [] 0 a b ∧ RLe r s
  | _, _ => False
theorem RLe.len : ∀ {a b : List (List C)}, RLe a b → a.length = b.length
  | [], [], _ => rfl
  | _ :: r, _ :: s, h => by rw [List.length_cons, List.length_cons, RLe.len h.2]
theorem CLeL.len {src : Src} {n : Nat} : ∀ {a b : List C}, CLeL src n a b → a.length = b.length
  | [], [], _ => rfl
  | [], _ :: _, h => by simp [CLeL] at h
  | _ :: _, [], h => by simp [CLeL] at h
  | _ :: r, _ :: s, h => by
    rw [CLeL] at h
    rw [List.length_cons, List.length_cons, CLeL.len h.2]
theorem rep_less0 {R : Env} {c d : C} {v : Value} (h : CLe [] 0 c d) (hr : Rep R noLoc c v) : Rep R noLoc d v := by
  refine Rep.ext (Ext.refl R) (T := lessLoc [] 0 noLoc) ⟨fun i b hb => ?_, fun id x hx => ?_⟩ _ _ (Rep.less _ _ _ h hr)
  · simp at hb
  · have hx : srcT [] noLoc.T id = some x := hx
    simp [srcT] at hx
theorem repCells_le {R : Env} {b : Nat} : ∀ {cs ds : List C} {o : Nat}, CLeL [] 0 cs ds → RepCells R cs b o → RepCells R ds b o
  | [], [], _, _, h => h
  | [], _ :: _, _, h, _ => by simp [CLeL] at h
  | _ :: _, [], _, h, _ => by simp [CLeL] at h
  | c :: r, d :: s, o, h, hr => by
    rw [CLeL] at h
    obtain ⟨⟨v, h1, h2, h3, h4⟩, h5⟩ := repCells_cons.1 hr
    exact repCells_cons.2 ⟨⟨v, h1, h2, rep_less0 h.1 h3, h4⟩, repCells_le h.2 h5⟩
theorem repRows_le {R : Env} {k b : Nat} : ∀ {a c : List (List C)} {o : Nat}, RLe a c → RepRows R a k b o → RepRows R c k b o
  | [], [], _, _, h => h
  | x :: r, y :: s, o, h, hr => by
    unfold RepRows at hr ⊢
    exact ⟨(CLeL.len h.1).symm.trans hr.1, repCells_le h.1 hr.2.1, repRows_le h.2 hr.2.2⟩
theorem rep_own_le {R : Env} {L : Loc} {id e k : Nat} {a c : List (List C)} {v : Value} (h : RLe a c) (hr : Rep R L (.own id e k a) v) : Rep R L (.own id e k c) v := by
  obtain ⟨h1, ad, cap, h2, h3, h4, h5⟩ := rep_own.1 hr
  refine rep_own.2 ⟨h1, ad, cap, by rw [h2, h.len], by rw [← h.len]; exact h3, h4, ?_⟩
  rcases h5 with h5 | ⟨b, o, h5, h6⟩
  · subst h5
    have := h.len
    exact .inl (List.eq_nil_of_length_eq_zero (by simpa using this.symm))
  · exact .inr ⟨b, o, h5, repRows_le h h6⟩
/-- an answer that says less -/
theorem Fun.res {P : Program} {G : Globs} {f : FuncId} {args : List C} {r r' : C} {n : Nat} (hf : Fun P G f args r n) (h : ∀ R L v, Rep R L r v → Rep R L r' v) : Fun P G f args r' n :=
  ⟨hf.1, fun R vs hg ha => (hf.2 R vs hg ha).mono fun e w' ⟨v, R', L', h1, h2, h3, h4⟩ => ⟨v, R', L', h1, h2, h3, h _ _ _ h4⟩⟩
theorem rep_agg_le {R : Env} {L : Loc} {cs ds : List C} {v : Value} (h : ∀ vs, RepL R L cs vs → RepL R L ds vs) (hr : Rep R L (.agg cs) v) : Rep R L (.agg ds) v := by
  obtain ⟨vs, h1, h2⟩ := rep_agg.1 hr
  exact rep_agg.2 ⟨vs, h1, h _ h2⟩
theorem rep_tup_le {R : Env} {L : Loc} {cs ds : List C} {v : Value} (h : ∀ vs, RepL R L cs vs → RepL R L ds vs) (hr : Rep R L (.tup cs) v) : Rep R L (.tup ds) v := by
  obtain ⟨vs, h1, h2⟩ := rep_tup.1 hr
  exact rep_tup.2 ⟨vs, h1, h _ h2⟩
theorem repL_head_le {R : Env} {L : Loc} {c d : C} {cs ds : List C} {vs : List Value} (h : ∀ v, Rep R L c v → Rep R L d v) (h' : ∀ vs, RepL R L cs vs → RepL R L ds vs) (hr : RepL R L (c :: cs) vs) : RepL R L (d :: ds) vs := by
  obtain ⟨v, us, rfl, h1, h2⟩ := repL_cons.1 hr
  exact repL_cons.2 ⟨v, us, rfl, h _ h1, h' _ h2⟩
end Go.Proofs.Ytheokoehnmlafaa.Vcg
