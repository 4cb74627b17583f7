/- A region whose order is open, of operations that turn nothing. No condition. -/
import Derived.Test.YtheokoehnmlafaaVcg13
import Derived.OrdersIn
set_option linter.unusedVariables false
set_option linter.unusedSimpArgs false
namespace Go.Proofs.Ytheokoehnmlafaa.Vcg
open Go.RowKit
abbrev Fl (r : Option Nat) : Fence := { fn := fun _ => True, depth := none, alive := false, round := r }
theorem callsIn_fl {r : Option Nat} {n : Nat} {P : Program} {f : FuncId} {args : Array Value} {w : World} {R : Ending → World → Prop} (h : Calls P f args w R) : CallsIn (Fl r) n P f args w R := by
  have := (callsIn_wide (n := n)).2 h
  cases r with
  | none => exact this
  | some l => exact this
theorem roundIn_fl {r : Option Nat} {n : Nat} {P : Program} {l : Nat} {f : FuncId} {tmps : Array Value} {assign body : Code} {w : World} {R : Ending → World → Prop} (h : RoundIn Fence.wide 0 P l f tmps assign body w R) : RoundIn (Fl r) n P l f tmps assign body w R := by
  have : RoundIn (Fl none) n P l f tmps assign body w R := ⟨h.1, fun c cs _ => h.2 c cs (room_wide _)⟩
  cases r with
  | none => exact this
  | some l => exact this
section
variable {P : Program} {G : Globs} {E : Ctx} {σ : St} {o : Oper} {a : Act} {N p : Nat}
theorem runs_wpIn {r : Option Nat} {n : Nat} {w : World} {next : Act → World → Prop} {Q : Exit → Act → World → Prop} (h : Runs P o a.eval w fun v w' => next (a.put o.dst v) w') : o.wpIn (Fl r) n P a w next Q := by
  have hnd : ∀ c, o.op ≠ .defer c := fun c hc => by
    unfold Runs at h
    have : (execOp a.eval o).run P w = ((resolve a.eval c o.type).run P w).andThen fun d w' => .ok (.defer d) w' := by
      unfold execOp; simp only [hc, Sem.run_bind, Sem.run_pure]
    rw [this] at h
    cases hr : (resolve a.eval c o.type).run P w with
    | ok d w' => rw [hr] at h; exact h
    | halt x w' => rw [hr] at h; cases x <;> exact h
  refine ⟨fun f _ => trivial, ?_⟩
  rw [Oper.semAt_eq _ _ _ hnd]
  unfold Runs at h
  split at h
  · rename_i v w' hr; rw [hr]; exact h
  · rename_i w' hr; rw [hr]; exact h
  · rename_i f args w' hr
    rw [hr]
    refine ⟨fun hx => by simp at hx, callsIn_fl (h.mono ?_)⟩
    rintro e w'' ⟨v, rfl, hv⟩
    exact hv
  · rename_i l f tmps assign body w' hr
    rw [hr]
    refine ⟨fun hx => by simp at hx, roundIn_fl (h.mono ?_)⟩
    rintro e w'' ⟨v, rfl, hv⟩
    exact hv
  · exact h.elim
/-- is it carried out? -/
def aGuard (ops : Array Oper) (tm : List (Nat × C)) (g : Option (Nat × Bool)) (X Y : Prop) : Prop :=
  match g with
  | none => X
  | some (j, want) => match (ops[j]?).bind (·.dst) with
    | some d => match want with
      | true => ABrU (getC tm d) Y X Y
      | false => ABrU (getC tm d) Y Y X
    | none => False
/-- what the guard says, of a state -/
def guardIs (ops : Array Oper) (tm : List (Nat × C)) (g : Option (Nat × Bool)) (b : Bool) : Prop :=
  match g with
  | none => b = true
  | some (j, want) => ∃ d, (ops[j]?).bind (·.dst) = some d ∧ ((∃ t, getC tm d = .sc (.bool t) ∧ b = (t == want)) ∨ ((∃ vs, getC tm d = .sc (.tuple vs)) ∧ b = false))
theorem aGuard.out {ops : Array Oper} {tm : List (Nat × C)} {g : Option (Nat × Bool)} {X Y : Prop} (h : aGuard ops tm g X Y) : ∃ b, guardIs ops tm g b ∧ (b = true → X) ∧ (b = false → Y) := by
  unfold aGuard at h
  split at h
  · exact ⟨true, rfl, fun _ => h, fun h => by cases h⟩
  · rename_i j want
    split at h
    · rename_i d hd
      split at h
      · rcases h.out with ⟨t, ht, h1, h2⟩ | ⟨hu, h1⟩
        · exact ⟨t == true, ⟨d, hd, .inl ⟨t, ht, rfl⟩⟩, fun e => h1 (by simpa using e), fun e => h2 (by simpa using e)⟩
        · exact ⟨false, ⟨d, hd, .inr ⟨hu, rfl⟩⟩, fun e => (by cases e), fun _ => h1⟩
      · rcases h.out with ⟨t, ht, h1, h2⟩ | ⟨hu, h1⟩
        · exact ⟨t == false, ⟨d, hd, .inl ⟨t, ht, rfl⟩⟩, fun e => h2 (by simpa using e), fun e => h1 (by simpa using e)⟩
        · exact ⟨false, ⟨d, hd, .inr ⟨hu, rfl⟩⟩, fun e => (by cases e), fun _ => h1⟩
    · exact h.elim
theorem guard_wanted {ops : Array Oper} {g : Option (Nat × Bool)} {b : Bool} {tm : List (Nat × C)} (hg : o.guard = g) (h : guardIs ops tm g b) {R : Env} {L : Loc} (hd : ∀ j want d, g = some (j, want) → (ops[j]?).bind (·.dst) = some d → d < a.tmps.size ∧ Rep R L (getC tm d) (a.tmps.getD d undef)) :
    Region.wanted o (yielded ops a.tmps) = b := by
  unfold Region.wanted
  rw [hg]
  unfold guardIs at h
  cases g with
  | none => exact h.symm
  | some jw =>
    obtain ⟨j, want⟩ := jw
    obtain ⟨d, h1, h2⟩ := h
    obtain ⟨hlt, hr⟩ := hd j want d rfl h1
    have hget : a.tmps[d]? = some (a.tmps.getD d undef) := by rw [Array.getElem?_eq_getElem hlt, Array.getD_eq_getD_getElem?, Array.getElem?_eq_getElem hlt]; rfl
    rcases h2 with ⟨t, h2, rfl⟩ | ⟨⟨vs, h2⟩, rfl⟩
    · rw [h2, rep_sc] at hr
      have hy : yielded ops a.tmps j = some t := by
        unfold yielded
        rw [h1]
        simp [hget, hr]
      simp only [hy]
      cases t <;> cases want <;> rfl
    · rw [h2, rep_sc] at hr
      have hy : yielded ops a.tmps j = none := by
        unfold yielded
        rw [h1]
        simp [hget, hr]
      simp only [hy]
      rfl
def putT (tm : List (Nat × C)) (dst : Option Tmp) (c : C) : List (Nat × C) := match dst with | some d => (d, c) :: tm | none => tm
/-- operations in an order that is open: those that may turn something stand, by the flags, behind all that come ahead of them and ahead of all that come behind -/
def adops (P : Program) (G : Globs) (Y : Hd) (ops : Array Oper) : List Oper → List Bool → St → (St → Prop) → Prop
  | [], _, σ, K => K σ
  | o :: rest, br, σ, K => aGuard ops σ.tm o.guard
      (match br.headD false with
        | true => aEff P G Y o.op σ fun c σ' => adops P G Y ops rest br.tail (σ'.put o.dst c) K
        | false => aPure P G σ.bx (evOf G σ.tm) o.op σ.nx fun c nx' => adops P G Y ops rest br.tail ⟨putT σ.tm o.dst c, σ.bx, nx', σ.lg⟩ K)
      (adops P G Y ops rest br.tail ⟨putT σ.tm o.dst (.sc undef), σ.bx, σ.nx, σ.lg⟩ K)
theorem aPure_congr {bx : List (List C)} {ev ev' : Operand → C} {nx : Nat} {K : C → Nat → Prop} (op : Op) (h : ∀ x ∈ op.operands, ev x = ev' x) : aPure P G bx ev op nx K = aPure P G bx ev' op nx K := by
  have parts : ∀ l : List (Nat × Operand), (∀ x ∈ l.map (·.2), ev x = ev' x) → l.map (fun p => (p.1, ev p.2)) = l.map fun p => (p.1, ev' p.2) := fun l hl =>
    List.map_congr_left fun p hp => by rw [hl p.2 (List.mem_map.2 ⟨p, hp, rfl⟩)]
  have many : ∀ l : List Operand, (∀ x ∈ l, ev x = ev' x) → l.map ev = l.map ev' := fun l hl => List.map_congr_left hl
  cases op <;> simp only [Op.operands] at h <;> simp only [aPure]
  case move x => rw [h x (by simp)]
  case assign x => rw [h x (by simp)]
  case pick c a b => rw [h c (by simp), h a (by simp), h b (by simp)]
  case build t ps => rw [parts _ fun x hx => h x (by simpa using hx)]
  case buildSlice t n ps => rw [parts _ fun x hx => h x (by simpa using hx)]
  case load t x => rw [h x (by simp)]
  case nilCheck x => rw [h x (by simp)]
  case store t p x => rw [h p (by simp), h x (by simp)]
  case binOp op t x y t' => rw [h x (by simp), h y (by simp)]
  case unOp op t x => rw [h x (by simp)]
  case convert s d x => rw [h x (by simp)]
  case makeFunc fn first cap => rw [many first.toList fun x hx => h x (by simp at hx ⊢; exact .inl hx), many cap.toList fun x hx => h x (by simp at hx ⊢; exact .inr hx)]
  case makeSlice t l c => rw [h l (by simp), h c (by simp)]
  case slice t x lo hi mx =>
    rw [h x (by simp)]
    have e1 : lo.map ev = lo.map ev' := by cases lo with | none => rfl | some y => simp [h y (by simp)]
    have e2 : hi.map ev = hi.map ev' := by cases hi with | none => rfl | some y => simp [h y (by simp)]
    have e3 : mx.map ev = mx.map ev' := by cases mx with | none => rfl | some y => simp [h y (by simp)]
    rw [e1, e2, e3]
  case fieldAddr t x f => rw [h x (by simp)]
  case field t x f => rw [h x (by simp)]
  case indexAddr t x i => rw [h x (by simp), h i (by simp)]
  case index t x i => rw [h x (by simp), h i (by simp)]
  case extract t i => rw [h t (by simp)]
  case call c =>
    unfold aCall
    have hargs : ∀ x ∈ c.args.toList, ev x = ev' x := fun x hx => h x (by unfold Call.operands; simp at hx ⊢; exact .inr hx)
    split
    · rename_i f hc
      rw [h f (by unfold Call.operands; rw [hc]; simp), many _ hargs]
    · unfold aCallB
      split
      · rename_i x t h1 h2 _
        rw [hargs x (by rw [h1]; simp)]
      · rename_i s x t t' h1 h2 _
        rw [hargs s (by rw [h1]; simp), hargs x (by rw [h1]; simp)]
      · rfl
    · rfl
open Classical in
/-- the operands of an operation alone -/
noncomputable def restr (o : Oper) (ev : Operand → C) : Operand → C := fun x => if x ∈ o.op.operands then ev x else .any
theorem aPure_restr {bx : List (List C)} {ev : Operand → C} {nx : Nat} {K : C → Nat → Prop} (h : aPure P G bx ev o.op nx K) : ∃ c nx', PureSem P G bx (restr o ev) nx o c nx' ∧ K c nx' := by
  rw [aPure_congr (ev' := restr o ev) o.op fun x hx => by unfold restr; rw [if_pos hx]] at h
  exact aPure_sound K h
structure Data where
  T : Nat → List (Nat × C)
  X : Nat → Nat
  c : Nat → C
  wn : Nat → Bool
structure Chain (P : Program) (G : Globs) (bx : List (List C)) (ops : Array Oper) (l : List Oper) (m m' : Nat) (D : Data) : Prop where
  step : ∀ (i : Nat) o, m ≤ i → i < m' → l[i]? = some o → D.T (i + 1) = putT (D.T i) o.dst (D.c i) ∧ D.X i ≤ D.X (i + 1) ∧ guardIs ops (D.T i) o.guard (D.wn i) ∧
    (D.wn i = true → PureSem P G bx (restr o (evOf G (D.T i))) (D.X i) o (D.c i) (D.X (i + 1))) ∧ (D.wn i = false → D.c i = .sc undef ∧ D.X (i + 1) = D.X i)
/-- the slots and owners' names of a stretch alone -/
structure Skel (l : List Oper) (m m' : Nat) (D : Data) : Prop where
  step : ∀ (i : Nat) o, m ≤ i → i < m' → l[i]? = some o → D.T (i + 1) = putT (D.T i) o.dst (D.c i) ∧ D.X i ≤ D.X (i + 1)
theorem Chain.skel {bx : List (List C)} {ops : Array Oper} {l : List Oper} {m m' : Nat} {D : Data} (h : Chain P G bx ops l m m' D) : Skel l m m' D := ⟨fun i o a b c => ⟨(h.step i o a b c).1, (h.step i o a b c).2.1⟩⟩
/-- a stretch of operations that turn nothing, and what comes behind it -/
theorem chain_seg {Y : Hd} {ops : Array Oper} {all : List Oper} {K : St → Prop} : ∀ (l : List Oper) (br : List Bool) (m : Nat) (σ : St), all.drop m = l → m ≤ all.length → adops P G Y ops l br σ K →
    ∃ (m' : Nat) (D : Data), m ≤ m' ∧ m' ≤ all.length ∧ D.T m = σ.tm ∧ D.X m = σ.nx ∧ Chain P G σ.bx ops all m m' D ∧
      ((m' = all.length ∧ K ⟨D.T m', σ.bx, D.X m', σ.lg⟩) ∨ (m' < all.length ∧ br[m' - m]? = some true ∧ adops P G Y ops (all.drop m') (br.drop (m' - m)) ⟨D.T m', σ.bx, D.X m', σ.lg⟩ K))
  | [], br, m, σ, hl, hm, h => by
    have : m = all.length := by
      have := congrArg List.length hl
      simp at this; omega
    subst this
    exact ⟨_, ⟨fun _ => σ.tm, fun _ => σ.nx, fun _ => .any, fun _ => true⟩, Nat.le_refl _, Nat.le_refl _, rfl, rfl, ⟨fun i o h1 h2 => by omega⟩, .inl ⟨rfl, h⟩⟩
  | o :: rest, br, m, σ, hl, hm, h => by
    have hlt : m < all.length := by
      rcases Nat.lt_or_ge m all.length with g | g
      · exact g
      · rw [List.drop_eq_nil_of_le g] at hl; cases hl
    have hom : all[m]? = some o := by
      have := List.getElem?_drop (xs := all) (i := m) (j := 0)
      rw [hl] at this; simpa using this.symm
    have hrest : all.drop (m + 1) = rest := by
      have := congrArg List.tail hl
      simpa using this
    cases hbr : br.headD false with
    | true =>
      refine ⟨m, ⟨fun _ => σ.tm, fun _ => σ.nx, fun _ => .any, fun _ => true⟩, Nat.le_refl _, by omega, rfl, rfl, ⟨fun i o h1 h2 => by omega⟩, .inr ⟨hlt, ?_, ?_⟩⟩
      · cases br with
        | nil => simp at hbr
        | cons x r => simp at hbr; simp [hbr]
      · rw [hl, Nat.sub_self]; exact h
    | false =>
      unfold adops at h
      obtain ⟨b, hg, h1, h2⟩ := aGuard.out h
      simp only [hbr] at h1
      have key : ∀ (c : C) (nx' : Nat), (b = true → PureSem P G σ.bx (restr o (evOf G σ.tm)) σ.nx o c nx') → (b = false → c = .sc undef ∧ nx' = σ.nx) → σ.nx ≤ nx' → adops P G Y ops rest br.tail ⟨putT σ.tm o.dst c, σ.bx, nx', σ.lg⟩ K →
          ∃ (m' : Nat) (D : Data), m ≤ m' ∧ m' ≤ all.length ∧ D.T m = σ.tm ∧ D.X m = σ.nx ∧ Chain P G σ.bx ops all m m' D ∧
            ((m' = all.length ∧ K ⟨D.T m', σ.bx, D.X m', σ.lg⟩) ∨ (m' < all.length ∧ br[m' - m]? = some true ∧ adops P G Y ops (all.drop m') (br.drop (m' - m)) ⟨D.T m', σ.bx, D.X m', σ.lg⟩ K)) := fun c nx' hp hq hle hrst => by
        obtain ⟨m', D, d1, d2, d3, d4, d5, d6⟩ := chain_seg rest br.tail (m + 1) _ hrest (by omega) hrst
        refine ⟨m', ⟨fun i => if i ≤ m then σ.tm else D.T i, fun i => if i ≤ m then σ.nx else D.X i, fun i => if i = m then c else D.c i, fun i => if i = m then b else D.wn i⟩, by omega, d2, by simp, by simp, ⟨fun i o' hi hi' hio => ?_⟩, ?_⟩
        · by_cases him : i = m
          · subst him
            rw [hom] at hio; cases hio
            simp only [Nat.le_refl, if_true, show ¬ i + 1 ≤ i by omega, if_false]
            refine ⟨d3, by rw [d4]; exact hle, hg, fun hb => ?_, fun hb => ?_⟩
            · rw [d4]; exact hp hb
            · rw [d4]; exact hq hb
          · simp only [if_neg him, if_neg (show ¬ i ≤ m by omega), if_neg (show ¬ i + 1 ≤ m by omega)]
            exact d5.step i o' (by omega) hi' hio
        · simp only [if_neg (show ¬ m' ≤ m by omega)]
          rcases d6 with ⟨g1, g2⟩ | ⟨g1, g2, g3⟩
          · exact .inl ⟨g1, g2⟩
          · refine .inr ⟨g1, ?_, ?_⟩
            · cases br with
              | nil => simp at g2
              | cons x r =>
                rw [show m' - m = (m' - (m + 1)) + 1 by omega]
                simpa using g2
            · cases br with
              | nil => simp at g2
              | cons x r =>
                rw [show m' - m = (m' - (m + 1)) + 1 by omega]
                simpa using g3
      cases b with
      | true =>
        obtain ⟨c, nx', hp, hK⟩ := aPure_restr (h1 rfl)
        exact key c nx' (fun _ => hp) (fun h => by cases h) hp.1 hK
      | false => exact key (.sc undef) σ.nx (fun h => by cases h) (fun _ => ⟨rfl, rfl⟩) (Nat.le_refl _) (h2 rfl)
end
end Go.Proofs.Ytheokoehnmlafaa.Vcg
