/- Operations that turn nothing, more: addresses, indexes, slices, conversions, literals, new slices. No condition. -/
import Derived.Test.YtheokoehnmlafaaVcg4
import Derived.Lib.ConvBytes
import Derived.Laws.BytesArg
import Derived.Laws.IdiomStrings
set_option linter.unusedVariables false
set_option linter.unusedSimpArgs false
namespace Go.Proofs.Ytheokoehnmlafaa.Vcg
open Go.RowKit
section
variable {P : Program} {G : Globs} {bx : List (List C)} {ev : Operand → C} {nx : Nat} {o : Oper}
/-- addresses of fields -/
def aFieldAddr (P : Program) (t : TypeId) (c : C) (f : Nat) (K : C → Prop) : Prop :=
  match lay P t with
  | some ⟨.struct fs, _, _, _⟩ => match fs[f]?, c with
    | some (off, size, _), .ptr i o => if size = 0 then False else K (.ptr i (o + off))
    | some (off, size, _), .row cs => if size = 0 then False else K (.row (cs.drop off))
    | _, _ => False
  | _ => False
theorem pure_fieldAddr {t : TypeId} {x : Operand} {f : Nat} (ho : o.op = .fieldAddr t x f) (K : C → Prop) (h : aFieldAddr P t (ev x) f K) : ∃ c, PureSem P G bx ev nx o c nx ∧ K c := by
  unfold aFieldAddr at h
  split at h
  · rename_i fs s b z hl
    obtain ⟨fields, hfu, hall, hfs⟩ := lay_struct hl rfl
    split at h
    · rename_i off size agg i o' hfi hev
      obtain ⟨fd, hfd, h1, h2, h3⟩ := field_at hfs hfi
      split at h
      · exact h.elim
      · rename_i h0
        obtain ⟨i', hi1, hi2⟩ := info_of_size h2 h0
        refine ⟨_, .of_same fun B R L ρ hf hr => ?_, h⟩
        have hx := hr x; rw [hev, rep_ptr] at hx
        obtain ⟨bb, hb, e⟩ := hx
        refine ⟨.pointer (some ⟨bb, o' + off, none⟩), ?_, rep_ptr.2 ⟨bb, hb, rfl⟩⟩
        unfold execOp
        simp [ho, e, Instr.fieldAt, run_underlying hfu, hfd, Instr.sureAddr, fieldPlace, sizeOf, typeInfo, hi1, hi2, h0, h1, Addr.add_none]
    · rename_i off size agg cs hfi hev
      obtain ⟨fd, hfd, h1, h2, h3⟩ := field_at hfs hfi
      split at h
      · exact h.elim
      · rename_i h0
        obtain ⟨i', hi1, hi2⟩ := info_of_size h2 h0
        refine ⟨_, .of_same fun B R L ρ hf hr => ?_, h⟩
        have hx := hr x; rw [hev, rep_row] at hx
        obtain ⟨bb, o', e, hc⟩ := hx
        refine ⟨.pointer (some ⟨bb, o' + off, none⟩), ?_, rep_row.2 ⟨bb, _, rfl, repCells_drop off hc⟩⟩
        unfold execOp
        simp [ho, e, Instr.fieldAt, run_underlying hfu, hfd, Instr.sureAddr, fieldPlace, sizeOf, typeInfo, hi1, hi2, h0, h1, Addr.add_none]
    · exact h.elim
  · exact h.elim
/-- the place of an element -/
def aIndexAddr (P : Program) (t : TypeId) (c : C) (i : C) (K : C → Prop) : Prop :=
  match lay P t, i with
  | some ⟨.slice e, _, _, _⟩, .sc (.int _ n) => match lay P e with
    | some L => match c with
      | .bs j off k m _ => k = L.size ∧ 0 ≤ n ∧ n < (m : Int) ∧ K (.ptr j (off + n.toNat * L.size))
      | c => match c.rows? L.size with
        | some rows => match rows[n.toNat]? with
          | some r => 0 ≤ n ∧ K (.row r)
          | none => False
        | none => False
    | none => False
  | some ⟨.array (m + 1) e, _, _, _⟩, .sc (.int _ n) => match lay P e with
    | some L => match c with
      | .ptr j off => 0 ≤ n ∧ n < ((m + 1 : Nat) : Int) ∧ K (.ptr j (off + n.toNat * L.size))
      | .row cs => 0 ≤ n ∧ n < ((m + 1 : Nat) : Int) ∧ K (.row (cs.drop (n.toNat * L.size)))
      | _ => False
    | none => False
  | _, _ => False
theorem pure_indexAddr {t : TypeId} {x i : Operand} (ho : o.op = .indexAddr t x i) (K : C → Prop) (h : aIndexAddr P t (ev x) (ev i) K) : ∃ c, PureSem P G bx ev nx o c nx ∧ K c := by
  unfold aIndexAddr at h
  split at h
  · rename_i e s b z kk n hl hi
    have ht := lay_slice hl rfl
    split at h
    · rename_i L hLe
      split at h
      · rename_i j off k m cap hev
        obtain ⟨rfl, h0, hm, hK⟩ := h
        refine ⟨_, .of_same fun B R Lc ρ hf hr => ?_, hK⟩
        have hx := hr x; rw [hev, rep_bs] at hx
        have hy := hr i; rw [hi, rep_sc] at hy
        obtain ⟨bb, hb, ad, e', had⟩ := hx
        obtain rfl := had (by omega)
        refine ⟨.pointer (some ⟨bb, off + n.toNat * L.size, none⟩), ?_, rep_ptr.2 ⟨bb, hb, rfl⟩⟩
        have hin : 0 ≤ n ∧ n < (m : Int) := ⟨h0, hm⟩
        have hsz := lay_sizeOf hLe R.w
        unfold execOp
        simp [ho, e', hy, Instr.indexAt, run_underlying ht, asIntOf, hin, hsz, Addr.add_none]
      split at h
      · rename_i rows hrows
        split at h
        · rename_i r hrow
          refine ⟨_, .of_same fun B R Lc ρ hf hr => ?_, h.2⟩
          have hx := hr x
          have hy := hr i; rw [hi, rep_sc] at hy
          obtain ⟨a, cap, ev', h1, h2, h3⟩ := hx.rows hrows
          rcases h3 with h3 | ⟨bb, off, ea, h3⟩
          · subst h3; simp at hrow
          · subst ea
            obtain ⟨g1, g2⟩ := repRows_get h3 _ r hrow
            have hlt : n.toNat < rows.length := (List.getElem?_eq_some_iff.1 hrow).1
            refine ⟨.pointer (some ⟨bb, off + n.toNat * L.size, none⟩), ?_, rep_row.2 ⟨_, _, rfl, g2⟩⟩
            have hin : 0 ≤ n ∧ n < (rows.length : Int) := ⟨h.1, by omega⟩
            have hsz := lay_sizeOf hLe R.w
            unfold execOp
            simp [ho, ev', hy, Instr.indexAt, run_underlying ht, asIntOf, hin, hsz, Addr.add_none]
        · exact h.elim
      · exact h.elim
    · exact h.elim
  · rename_i m e s b z kk n hl hi
    have ht := lay_array hl rfl
    split at h
    · rename_i L hLe
      split at h
      · rename_i j off hev
        refine ⟨_, .of_same fun B R Lc ρ hf hr => ?_, h.2.2⟩
        have hx := hr x; rw [hev, rep_ptr] at hx
        have hy := hr i; rw [hi, rep_sc] at hy
        obtain ⟨bb, hb, e'⟩ := hx
        refine ⟨.pointer (some ⟨bb, off + n.toNat * L.size, none⟩), ?_, rep_ptr.2 ⟨bb, hb, rfl⟩⟩
        have hin : 0 ≤ n ∧ n < ((m + 1 : Nat) : Int) := ⟨h.1, h.2.1⟩
        have hsz := lay_sizeOf hLe R.w
        unfold execOp
        simp only [ho, e', hy, Instr.indexAt, run_underlying ht, asIntOf, Instr.sureAddr, Sem.run_bind, Sem.run_pure, Result.andThen_ok, hsz, Addr.add_none, if_pos hin]
      · rename_i cs hev
        refine ⟨_, .of_same fun B R Lc ρ hf hr => ?_, h.2.2⟩
        have hx := hr x; rw [hev, rep_row] at hx
        have hy := hr i; rw [hi, rep_sc] at hy
        obtain ⟨bb, off, e', hc⟩ := hx
        refine ⟨.pointer (some ⟨bb, off + n.toNat * L.size, none⟩), ?_, rep_row.2 ⟨bb, _, rfl, repCells_drop _ hc⟩⟩
        have hin : 0 ≤ n ∧ n < ((m + 1 : Nat) : Int) := ⟨h.1, h.2.1⟩
        have hsz := lay_sizeOf hLe R.w
        unfold execOp
        simp only [ho, e', hy, Instr.indexAt, run_underlying ht, asIntOf, Instr.sureAddr, Sem.run_bind, Sem.run_pure, Result.andThen_ok, hsz, Addr.add_none, if_pos hin]
      · exact h.elim
    · exact h.elim
  · exact h.elim
/-- a byte of a text; an element of an array's value -/
def aIndex (P : Program) (t : TypeId) (c i : C) (K : C → Prop) : Prop :=
  match lay P t, c, i with
  | some ⟨.str, _, _, _⟩, .str l, .sc (.int _ n) => match l[n.toNat]? with
    | some b => 0 ≤ n ∧ K (.sc (.int .u8 (b.toNat : Int)))
    | none => False
  | _, _, _ => False
theorem pure_index {t : TypeId} {x i : Operand} (ho : o.op = .index t x i) (K : C → Prop) (h : aIndex P t (ev x) (ev i) K) : ∃ c, PureSem P G bx ev nx o c nx ∧ K c := by
  unfold aIndex at h
  split at h
  · rename_i s b z l kk n hl hev hi
    have ht := lay_str hl rfl
    split at h
    · rename_i bt hbt
      refine ⟨_, .of_same fun B R Lc ρ hf hr => ?_, h.2⟩
      have hx := hr x; rw [hev, rep_str] at hx
      have hy := hr i; rw [hi, rep_sc] at hy
      have hlt : n.toNat < l.length := (List.getElem?_eq_some_iff.1 hbt).1
      refine ⟨.int .u8 (bt.toNat : Int), ?_, rep_sc.2 rfl⟩
      have hsz : (ByteArray.mk l.toArray).size = l.length := by simp [ByteArray.size]
      have hr1 := run_index_string (P := P) R.w t ⟨l.toArray⟩ kk n ht
      rw [dif_pos ⟨h.1, by rw [hsz]; omega⟩] at hr1
      have hget : (ByteArray.mk l.toArray)[n.toNat]'(by rw [hsz]; exact hlt) = bt := by
        have := (List.getElem?_eq_some_iff.1 hbt).2
        rw [← this]; rfl
      rw [hget] at hr1
      unfold execOp
      simp only [ho, hx, hy]
      rw [Sem.run_bind, hr1]; rfl
    · exact h.elim
  · exact h.elim
/-- parts of texts and slices -/
def optI : Option C → Option (Option Int)
  | none => some none
  | some (.sc (.int _ n)) => some (some n)
  | _ => none
def cut {α : Type} (l : List α) (lo hi : Option Int) : List α :=
  match lo, hi with
  | none, none => l
  | some a, none => l.drop a.toNat
  | none, some b => l.take b.toNat
  | some a, some b => (l.take b.toNat).drop a.toNat
def cutOk (n : Nat) (lo hi : Option Int) : Prop :=
  match lo, hi with
  | none, none => True
  | some a, none => 0 ≤ a ∧ a ≤ (n : Int)
  | none, some b => 0 ≤ b ∧ b ≤ (n : Int)
  | some a, some b => 0 ≤ a ∧ a ≤ b ∧ b ≤ (n : Int)
/-- a part of a slice over a box -/
def aSlB (sz i off k n cap : Nat) (lo hi mx : Option Int) (K : C → Prop) : Prop :=
  match lo, hi, mx with
  | none, none, none => n ≤ cap ∧ K (.bs i off k n cap)
  | none, some b, none => n ≤ cap ∧ (0 ≤ b ∧ b ≤ (cap : Int)) ∧ K (.bs i off k b.toNat cap)
  | some a, none, none => sz = k ∧ n ≤ cap ∧ (0 ≤ a ∧ a ≤ (n : Int)) ∧ K (.bs i (off + a.toNat * k) k (n - a.toNat) (cap - a.toNat))
  | some a, some b, none => sz = k ∧ (0 ≤ a ∧ a ≤ b ∧ b ≤ (cap : Int)) ∧ K (.bs i (off + a.toNat * k) k (b.toNat - a.toNat) (cap - a.toNat))
  | none, some b, some m => (0 ≤ b ∧ b ≤ m ∧ m ≤ (cap : Int)) ∧ K (.bs i off k b.toNat m.toNat)
  | some a, some b, some m => sz = k ∧ (0 ≤ a ∧ a ≤ b ∧ b ≤ m ∧ m ≤ (cap : Int)) ∧ K (.bs i (off + a.toNat * k) k (b.toNat - a.toNat) (m.toNat - a.toNat))
  | _, none, some _ => False
theorem aSlB.out {sz i off k n cap : Nat} {lo hi mx : Option Int} {K : C → Prop} (h : aSlB sz i off k n cap lo hi mx K) :
    (lo ≠ none → sz = k) ∧ (mx ≠ none → hi ≠ none) ∧ 0 ≤ lo.getD 0 ∧ lo.getD 0 ≤ hi.getD n ∧ hi.getD n ≤ mx.getD cap ∧ mx.getD cap ≤ (cap : Int) ∧
      K (.bs i (off + (lo.getD 0).toNat * k) k ((hi.getD n).toNat - (lo.getD 0).toNat) ((mx.getD cap).toNat - (lo.getD 0).toNat)) := by
  unfold aSlB at h
  split at h
  · exact ⟨by simp, by simp, by simp, by simp, by simp; omega, by simp, by simpa using h.2⟩
  · exact ⟨by simp, by simp, by simp, by simp; omega, by simp; omega, by simp, by simpa using h.2.2⟩
  · exact ⟨by simp; exact h.1, by simp, by simp; omega, by simp; omega, by simp; omega, by simp, by simpa using h.2.2.2⟩
  · exact ⟨by simp; exact h.1, by simp, by simp; omega, by simp; omega, by simp; omega, by simp, by simpa using h.2.2⟩
  · exact ⟨by simp, by simp, by simp, by simp; omega, by simp; omega, by simp; omega, by simpa using h.2⟩
  · exact ⟨by simp; exact h.1, by simp, by simp; omega, by simp; omega, by simp; omega, by simp; omega, by simpa using h.2.2⟩
  · exact h.elim
def aSlice (P : Program) (t : TypeId) (c : C) (lo hi mx : Option C) (K : C → Prop) : Prop :=
  match optI lo, optI hi, optI mx with
  | some lo, some hi, some mx => match lay P t with
    | some ⟨.str, _, _, _⟩ => match c, mx with
      | .str l, none => cutOk l.length lo hi ∧ K (.str (cut l lo hi))
      | _, _ => False
    | some ⟨.slice e, _, _, _⟩ => match lay P e with
      | some L => match c with
        | .bs i off k n cap => aSlB L.size i off k n cap lo hi mx K
        | c => match c.rows? L.size with
          | some rows => match mx, hi with
            | none, _ => cutOk rows.length lo hi ∧ K (.sl L.size (cut rows lo hi))
            | some m, some h => m = h ∧ cutOk rows.length lo hi ∧ K (.tight L.size (cut rows lo hi))
            | some _, none => False
          | none => False
      | none => False
    | _ => False
  | _, _, _ => False
theorem optI_none {x : Option C} (h : optI x = some none) : x = none := by
  unfold optI at h; split at h
  · rfl
  · cases h
  · cases h
theorem optI_some {x : Option C} {n : Int} (h : optI x = some (some n)) : ∃ k, x = some (.sc (.int k n)) := by
  unfold optI at h; split at h
  · cases h
  · cases h; exact ⟨_, rfl⟩
  · cases h
theorem cut_length {α : Type} (l : List α) {lo hi : Option Int} (h : cutOk l.length lo hi) : (cut l lo hi).length = ((hi.map (·.toNat)).getD l.length) - ((lo.map (·.toNat)).getD 0) := by
  cases lo <;> cases hi <;> simp [cut, cutOk] at h ⊢ <;> omega
/-- the bounds of a slice expression -/
theorem run_bounds {w : World} {isS : Bool} {n cap : Nat} {lo hi mx : Option Value} {lo' hi' mx' : Option Int} (hlo : lo = lo'.map (fun x => Value.int .i64 x) ∨ ∃ k, lo = lo'.map (fun x => Value.int k x))
    (hhi : ∃ k, hi = hi'.map (fun x => Value.int k x)) (hmx : ∃ k, mx = mx'.map (fun x => Value.int k x)) (hok : cutOk n lo' hi') (hcap : n ≤ cap) (hm : mx' = none ∨ (mx' = hi' ∧ hi' ≠ none)) :
    (Instr.sliceBounds isS n cap lo hi mx).run P w = .ok ((lo'.map (·.toNat)).getD 0, (hi'.map (·.toNat)).getD n, (mx'.map (·.toNat)).getD cap) w := by
  have hlo' : ∃ k, lo = lo'.map (fun x => Value.int k x) := by rcases hlo with h | h; exact ⟨_, h⟩; exact h
  obtain ⟨k1, rfl⟩ := hlo'
  obtain ⟨k2, rfl⟩ := hhi
  obtain ⟨k3, rfl⟩ := hmx
  rcases hm with rfl | ⟨rfl, hne⟩
  · cases lo' with
    | none => cases hi' with
      | none => simp [Instr.sliceBounds]
      | some b =>
        simp only [cutOk] at hok
        have h1 : 0 ≤ b ∧ b ≤ (cap : Int) := by omega
        simp [Instr.sliceBounds, Instr.sliceBound, asIntOf, h1]
    | some a => cases hi' with
      | none =>
        simp only [cutOk] at hok
        simp [Instr.sliceBounds, Instr.sliceBound, asIntOf, hok]
      | some b =>
        simp only [cutOk] at hok
        have h1 : 0 ≤ b ∧ b ≤ (cap : Int) := by omega
        have h2 : 0 ≤ a ∧ a ≤ ((b.toNat : Nat) : Int) := by omega
        simp only [Instr.sliceBounds, Instr.sliceBound, asIntOf, Option.map_some, Option.map_none, Sem.run_bind, Sem.run_pure, Result.andThen_ok, if_pos h1, if_pos h2]
        simp
  · cases mx' with
    | none => exact absurd rfl hne
    | some b => cases lo' with
      | none =>
        simp only [cutOk] at hok
        have h1 : 0 ≤ b ∧ b ≤ (cap : Int) := by omega
        have h2 : 0 ≤ b ∧ b ≤ ((b.toNat : Nat) : Int) := by omega
        simp only [Instr.sliceBounds, Instr.sliceBound, asIntOf, Option.map_some, Option.map_none, Sem.run_bind, Sem.run_pure, Result.andThen_ok, if_pos h1, if_pos h2]
        simp
      | some a =>
        simp only [cutOk] at hok
        have h1 : 0 ≤ b ∧ b ≤ (cap : Int) := by omega
        have h2 : 0 ≤ b ∧ b ≤ ((b.toNat : Nat) : Int) := by omega
        have h3 : 0 ≤ a ∧ a ≤ ((b.toNat : Nat) : Int) := by omega
        simp only [Instr.sliceBounds, Instr.sliceBound, asIntOf, Option.map_some, Option.map_none, Sem.run_bind, Sem.run_pure, Result.andThen_ok, if_pos h1, if_pos h2, if_pos h3]
        simp
theorem run_boundsB {w : World} {n cap : Nat} {lo hi mx : Option Value} {lo' hi' mx' : Option Int} (hlo : ∃ k, lo = lo'.map (fun x => Value.int k x)) (hhi : ∃ k, hi = hi'.map (fun x => Value.int k x)) (hmx : ∃ k, mx = mx'.map (fun x => Value.int k x))
    (h0 : 0 ≤ lo'.getD 0) (h1 : lo'.getD 0 ≤ hi'.getD n) (h2 : hi'.getD n ≤ mx'.getD cap) (h3 : mx'.getD cap ≤ (cap : Int)) (hmh : mx' ≠ none → hi' ≠ none) :
    (Instr.sliceBounds true n cap lo hi mx).run P w = .ok ((lo'.getD 0).toNat, (hi'.getD n).toNat, (mx'.getD cap).toNat) w := by
  obtain ⟨k1, rfl⟩ := hlo
  obtain ⟨k2, rfl⟩ := hhi
  obtain ⟨k3, rfl⟩ := hmx
  have sb : ∀ (k : IntKind) (a : Int) (y : Nat) (c : BoundsCode), 0 ≤ a → a ≤ (y : Int) → (Instr.sliceBound (.int k a) y c).run P w = .ok a.toNat w := fun k a y c p q => by
    simp [Instr.sliceBound, asIntOf, p, q]
  cases mx' with
  | none => cases hi' with
    | none => cases lo' with
      | none => simp [Instr.sliceBounds]
      | some a =>
        simp only [Option.getD_some, Option.getD_none] at h0 h1 h2 h3
        simp only [Instr.sliceBounds, Option.map_some, Option.map_none, Sem.run_bind, Sem.run_pure, Result.andThen_ok, sb k1 a n _ h0 h1]
        simp
    | some b => cases lo' with
      | none =>
        simp only [Option.getD_some, Option.getD_none] at h0 h1 h2 h3
        simp only [Instr.sliceBounds, Option.map_some, Option.map_none, Sem.run_bind, Sem.run_pure, Result.andThen_ok, sb k2 b cap _ h1 h2]
        simp
      | some a =>
        simp only [Option.getD_some, Option.getD_none] at h0 h1 h2 h3
        simp only [Instr.sliceBounds, Option.map_some, Option.map_none, Sem.run_bind, Sem.run_pure, Result.andThen_ok, sb k2 b cap _ (by omega) h2, sb k1 a b.toNat _ h0 (by omega)]
        simp
  | some m => cases hi' with
    | none => exact absurd rfl (hmh (by simp))
    | some b => cases lo' with
      | none =>
        simp only [Option.getD_some, Option.getD_none] at h0 h1 h2 h3
        simp only [Instr.sliceBounds, Option.map_some, Option.map_none, Sem.run_bind, Sem.run_pure, Result.andThen_ok, sb k3 m cap _ (by omega) h3, sb k2 b m.toNat _ h1 (by omega)]
        simp
      | some a =>
        simp only [Option.getD_some, Option.getD_none] at h0 h1 h2 h3
        simp only [Instr.sliceBounds, Option.map_some, Option.map_none, Sem.run_bind, Sem.run_pure, Result.andThen_ok, sb k3 m cap _ (by omega) h3, sb k2 b m.toNat _ (by omega) (by omega), sb k1 a b.toNat _ h0 (by omega)]
        simp
theorem opt_val {R : Env} {L : Loc} {ρ : Operand → Value} (hr : ∀ x, Rep R L (ev x) (ρ x)) {x : Option Operand} {n : Option Int} (h : optI (x.map ev) = some n) : ∃ k, x.map ρ = n.map (fun i => Value.int k i) := by
  cases x with
  | none => simp [optI] at h; subst h; exact ⟨.i64, rfl⟩
  | some x =>
    cases n with
    | none =>
      have := optI_none h
      cases this
    | some n =>
      obtain ⟨k, hk⟩ := optI_some h
      simp at hk
      have h1 := hr x
      rw [hk, rep_sc] at h1
      exact ⟨k, by simp [h1]⟩
theorem extract_cut (l : List UInt8) {lo hi : Option Int} (h : cutOk l.length lo hi) : (ByteArray.mk l.toArray).extract ((lo.map (·.toNat)).getD 0) ((hi.map (·.toNat)).getD l.length) = ⟨(cut l lo hi).toArray⟩ := by
  rw [ByteArray.extract_mk]
  congr 2
  cases lo <;> cases hi <;> simp only [cut, Option.map_some, Option.map_none, Option.getD_some, Option.getD_none, List.drop_zero, Nat.sub_zero]
  · rw [List.take_of_length_le (Nat.le_refl _)]
  · rw [List.take_of_length_le (by simp)]
  · rw [List.drop_take]
theorem rows_cut {R : Env} {k b o : Nat} {rows : List (List C)} (h : RepRows R rows k b o) (lo hi : Option Int) : RepRows R (cut rows lo hi) k b (o + ((lo.map (·.toNat)).getD 0) * k) := by
  cases lo <;> cases hi <;> simp only [cut, Option.map_some, Option.map_none, Option.getD_some, Option.getD_none, Nat.zero_mul, Nat.add_zero]
  · exact h
  · exact repRows_take _ h
  · exact repRows_drop _ h
  · exact repRows_drop _ (repRows_take _ h)
theorem pure_slice {t : TypeId} {x : Operand} {lo hi mx : Option Operand} (ho : o.op = .slice t x lo hi mx) (K : C → Prop) (h : aSlice P t (ev x) (lo.map ev) (hi.map ev) (mx.map ev) K) : ∃ c, PureSem P G bx ev nx o c nx ∧ K c := by
  unfold aSlice at h
  split at h
  · rename_i lo' hi' mx' hlo hhi hmx
    split at h
    · rename_i s b z hl
      have ht := lay_str hl rfl
      split at h
      · rename_i l hev
        refine ⟨_, .of_same fun B R Lc ρ hf hr => ?_, h.2⟩
        have hx := hr x; rw [hev, rep_str] at hx
        have hmx0 : mx = none := by
          have := optI_none hmx
          cases mx <;> simp_all
        subst hmx0
        have hsz : (ByteArray.mk l.toArray).size = l.length := by simp [ByteArray.size]
        have hb := run_bounds (P := P) (w := R.w) (isS := false) (n := l.length) (cap := l.length) (lo := lo.map ρ) (hi := hi.map ρ) (mx := none) (mx' := none) (.inr (opt_val hr hlo)) (opt_val hr hhi) ⟨.i64, rfl⟩ h.1 (Nat.le_refl _) (.inl rfl)
        refine ⟨.string ⟨(cut l lo' hi').toArray⟩, ?_, rep_str.2 rfl⟩
        unfold execOp
        simp only [ho, hx, Instr.sliceAt, Sem.run_bind, run_underlying ht, Result.andThen_ok, Instr.slice, Option.map_none, hsz, hb, Option.isSome_none, Bool.false_eq_true, if_false, Sem.run_pure]
        simp only [Sem.run_bind, Sem.run_pure, Result.andThen_ok, hb, extract_cut l h.1]
      · exact h.elim
    · rename_i e s b z hl
      have ht := lay_slice hl rfl
      split at h
      · rename_i L hLe
        split at h
        · rename_i j off k n cap hev
          obtain ⟨hz, hmh, h0, h1, h2, h3, hK⟩ := h.out
          refine ⟨_, .of_same fun B R Lc ρ hf hr => ?_, hK⟩
          have hx := hr x; rw [hev, rep_bs] at hx
          obtain ⟨bb, hb0, ad, e', had⟩ := hx
          have hb := run_boundsB (P := P) (w := R.w) (n := n) (cap := cap) (opt_val hr hlo) (opt_val hr hhi) (opt_val hr hmx) h0 h1 h2 h3 hmh
          have hsz := lay_sizeOf hLe R.w
          refine ⟨.slice (some (if (mx'.getD cap).toNat = (lo'.getD 0).toNat then ad else ad.add ((lo'.getD 0).toNat * L.size))) ((hi'.getD n).toNat - (lo'.getD 0).toNat) ((mx'.getD cap).toNat - (lo'.getD 0).toNat), ?_, rep_bs.2 ⟨bb, hb0, _, rfl, fun hne => ?_⟩⟩
          · unfold execOp
            simp only [ho, e', Instr.sliceAt, Sem.run_bind, run_underlying ht, Result.andThen_ok, Instr.slice, hb, Sem.run_pure, hsz]
            split <;> simp
          · rw [if_neg (by omega), had (by omega)]
            rw [Addr.add_none]
            cases lo' with
            | none => simp
            | some a => rw [hz (by simp)]
        split at h
        · rename_i rows hrows
          split at h
          · -- no max
            refine ⟨_, .of_same fun B R Lc ρ hf hr => ?_, h.2⟩
            have hx := hr x
            obtain ⟨a, cap, ev', h1, h2, h3⟩ := hx.rows hrows
            have hmx0 : mx = none := by
              have := optI_none hmx
              cases mx <;> simp_all
            subst hmx0
            have hb := run_bounds (P := P) (w := R.w) (isS := true) (n := rows.length) (cap := cap) (lo := lo.map ρ) (hi := hi.map ρ) (mx := none) (mx' := none) (.inr (opt_val hr hlo)) (opt_val hr hhi) ⟨.i64, rfl⟩ h.1 h1 (.inl rfl)
            have hcl := cut_length rows h.1
            have hsz := lay_sizeOf hLe R.w
            refine ⟨.slice (if cap = (lo'.map (·.toNat)).getD 0 then a else a.map (·.add ((lo'.map (·.toNat)).getD 0 * L.size))) ((hi'.map (·.toNat)).getD rows.length - (lo'.map (·.toNat)).getD 0) (cap - (lo'.map (·.toNat)).getD 0), ?_, ?_⟩
            · unfold execOp
              simp only [ho, ev', Instr.sliceAt, Sem.run_bind, run_underlying ht, Result.andThen_ok, Instr.slice, Option.map_none, hb, Sem.run_pure, hsz]
              simp
            · have hle : (hi'.map (·.toNat)).getD rows.length ≤ rows.length := by
                have h4 := h.1
                cases lo' <;> cases hi' <;> simp [cutOk] at h4 ⊢ <;> omega
              refine rep_sl.2 ⟨_, _, by rw [hcl], by rw [hcl]; omega, by omega, ?_⟩
              by_cases hc0 : cut rows lo' hi' = []
              · exact .inl hc0
              · right
                have hpos : 0 < (cut rows lo' hi').length := List.length_pos_iff.2 hc0
                rcases h3 with h3 | ⟨bb, off, ea, h3⟩
                · have h0 : rows.length = 0 := by rw [h3]; rfl
                  omega
                · refine ⟨bb, off + (lo'.map (·.toNat)).getD 0 * L.size, ?_, rows_cut h3 lo' hi'⟩
                  rw [if_neg (by omega), ea]
                  simp [Addr.add_none]
          · -- with max
            rename_i m hh
            obtain ⟨rfl, h⟩ := h
            refine ⟨_, .of_same fun B R Lc ρ hf hr => ?_, h.2⟩
            have hx := hr x
            obtain ⟨a, cap, ev', h1, h2, h3⟩ := hx.rows hrows
            have hb := run_bounds (P := P) (w := R.w) (isS := true) (n := rows.length) (cap := cap) (lo := lo.map ρ) (hi := hi.map ρ) (mx := mx.map ρ) (.inr (opt_val hr hlo)) (opt_val hr hhi) (opt_val hr hmx) h.1 h1 (.inr ⟨rfl, by simp⟩)
            have hcl := cut_length rows h.1
            have hsz := lay_sizeOf hLe R.w
            refine ⟨.slice (if m.toNat = (lo'.map (·.toNat)).getD 0 then a else a.map (·.add ((lo'.map (·.toNat)).getD 0 * L.size))) (m.toNat - (lo'.map (·.toNat)).getD 0) (m.toNat - (lo'.map (·.toNat)).getD 0), ?_, ?_⟩
            · unfold execOp
              simp only [ho, ev', Instr.sliceAt, Sem.run_bind, run_underlying ht, Result.andThen_ok, Instr.slice, hb, Sem.run_pure, hsz]
              simp
            · have hle : m.toNat ≤ rows.length := by
                have h4 := h.1
                cases lo' <;> simp only [cutOk] at h4 <;> omega
              simp only [Option.map_some, Option.getD_some] at hcl
              refine rep_tight.2 ⟨_, by rw [hcl], by rw [hcl]; omega, ?_⟩
              by_cases hc0 : cut rows lo' (some m) = []
              · exact .inl hc0
              · right
                have hpos : 0 < (cut rows lo' (some m)).length := List.length_pos_iff.2 hc0
                rcases h3 with h3 | ⟨bb, off, ea, h3⟩
                · have h0 : rows.length = 0 := by rw [h3]; rfl
                  omega
                · refine ⟨bb, off + (lo'.map (·.toNat)).getD 0 * L.size, ?_, rows_cut h3 lo' (some m)⟩
                  rw [if_neg (by omega), ea]
                  simp [Addr.add_none]
          · exact h.elim
        · exact h.elim
      · exact h.elim
    · exact h.elim
  · exact h.elim
end
end Go.Proofs.Ytheokoehnmlafaa.Vcg
