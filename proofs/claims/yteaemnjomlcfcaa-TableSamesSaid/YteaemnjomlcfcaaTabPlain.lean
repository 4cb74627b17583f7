/- Tables as lists of records, in plain words: no program in sight. An inode's entries are told twice: by the slice that stands in its cell, and by what that reads as. No condition. -/
import Derived.WalkKit
import Derived.Lib.Hide
import Derived.Laws.ResultCell
import Derived.Deep.Draws
import Derived.Test.YteaemnjomlcfcaaKit
namespace Go.Proofs.Yteaemnjomlcfcaa.Tab
open Go.RowKit
theorem results_cell1 {fn : Func} {p : Tmp} {ty : TypeId} (h : fn.results = #[.cell p ty]) (tmps : Array Value) (P : Program) (w : World) :
    (results fn tmps).run P w = ((asAddr (tmps.getD p undef)).run P w).andThen fun a w1 => (loadVar ty a).run P w1 := by
  simp only [results, h]
  simp [Sem.run_bind, Result.andThen]
/-- an entry -/
structure Ent where
  name : ByteArray
  ino : Int
deriving DecidableEq, Inhabited
/-- an inode: its scalars, the slice of its entries, and the entries -/
structure Nod where
  ino : Int
  kind : Int
  links : Int
  data : ByteArray
  parent : Int
  ea : Option Addr
  ec : Nat
  es : List Ent
instance : Inhabited Nod := ⟨⟨0, 0, 0, ⟨#[]⟩, 0, none, 0, []⟩⟩
def Ent.cells (e : Ent) : List Value := [.string e.name, .int .i64 e.ino]
def Nod.cells (x : Nod) : List Value := [.int .i64 x.ino, .int .i64 x.kind, .int .i64 x.links, .string x.data, .int .i64 x.parent, .slice x.ea x.es.length x.ec]
theorem Ent.cells_length (e : Ent) : e.cells.length = 2 := rfl
theorem Nod.cells_length (x : Nod) : x.cells.length = 6 := rfl
/-- a slice whose elements have k cells each -/
def Sl {α : Type} (cells : α → List Value) (k : Nat) (w : World) (a : Option Addr) (c : Nat) (xs : List α) : Prop :=
  xs.length ≤ c ∧ c ≤ maxLen ∧ (xs = [] ∨ ∃ b o, a = some ⟨b, o, none⟩ ∧ b < w.heap.size ∧
    ∀ j (h : j < xs.length) i v, (cells xs[j])[i]? = some v → w.cell? ⟨b, o + j * k + i, none⟩ = some v)
theorem Sl.below {α : Type} {cells : α → List Value} {k : Nat} {w w' : World} {a : Option Addr} {c : Nat} {xs : List α} {B : Nat} (h : Sl cells k w a c xs) (hb : Below B w w') (hB : w.heap.size ≤ B) : Sl cells k w' a c xs := by
  refine ⟨h.1, h.2.1, ?_⟩
  rcases h.2.2 with h3 | ⟨b, o, e1, e2, e3⟩
  · exact .inl h3
  · exact .inr ⟨b, o, e1, Nat.lt_of_lt_of_le e2 hb.size, fun j hj i v hv => by
      rw [hb.cell (p := ⟨b, o + j * k + i, none⟩) (Nat.lt_of_lt_of_le e2 hB)]; exact e3 j hj i v hv⟩
theorem Sl.nil {α : Type} (cells : α → List Value) (k : Nat) (w : World) (a : Option Addr) (c : Nat) (hc : c ≤ maxLen) : Sl cells k w a c [] := ⟨Nat.zero_le _, hc, .inl rfl⟩
abbrev Ents (w : World) (a : Option Addr) (c : Nat) (es : List Ent) : Prop := Sl Ent.cells 2 w a c es
/-- an inode whose entries can be read -/
def NodOk (w : World) (x : Nod) : Prop := Ents w x.ea x.ec x.es
theorem NodOk.below {w w' : World} {x : Nod} {B : Nat} (h : NodOk w x) (hb : Below B w w') (hB : w.heap.size ≤ B) : NodOk w' x := Sl.below h hb hB
/-- a list of inodes in memory -/
def Nods (w : World) (a : Option Addr) (c : Nat) (xs : List Nod) : Prop := Sl Nod.cells 6 w a c xs ∧ ∀ x ∈ xs, NodOk w x
theorem Nods.below {w w' : World} {a : Option Addr} {c : Nat} {xs : List Nod} {B : Nat} (h : Nods w a c xs) (hb : Below B w w') (hB : w.heap.size ≤ B) : Nods w' a c xs :=
  ⟨h.1.below hb hB, fun x hx => (h.2 x hx).below hb hB⟩
theorem Nods.nil (w : World) (a : Option Addr) (c : Nat) (hc : c ≤ maxLen) : Nods w a c [] := ⟨Sl.nil _ _ _ _ _ hc, fun x hx => by cases hx⟩
/-- the cells of element j, one by one -/
theorem Nods.at {w : World} {a : Option Addr} {c : Nat} {xs : List Nod} (h : Nods w a c xs) (j : Nat) (hj : j < xs.length) :
    ∃ b o, a = some ⟨b, o, none⟩ ∧ b < w.heap.size ∧
      w.cell? ⟨b, o + j * 6, none⟩ = some (.int .i64 xs[j].ino) ∧ w.cell? ⟨b, o + j * 6 + 1, none⟩ = some (.int .i64 xs[j].kind) ∧
      w.cell? ⟨b, o + j * 6 + 2, none⟩ = some (.int .i64 xs[j].links) ∧ w.cell? ⟨b, o + j * 6 + 3, none⟩ = some (.string xs[j].data) ∧
      w.cell? ⟨b, o + j * 6 + 4, none⟩ = some (.int .i64 xs[j].parent) ∧ w.cell? ⟨b, o + j * 6 + 5, none⟩ = some (.slice xs[j].ea xs[j].es.length xs[j].ec) := by
  rcases h.1.2.2 with h0 | ⟨b, o, e1, e2, e3⟩
  · subst h0; exact absurd hj (Nat.not_lt_zero _)
  · exact ⟨b, o, e1, e2, e3 j hj 0 _ rfl, e3 j hj 1 _ rfl, e3 j hj 2 _ rfl, e3 j hj 3 _ rfl, e3 j hj 4 _ rfl, e3 j hj 5 _ rfl⟩
theorem Ents.at {w : World} {a : Option Addr} {c : Nat} {xs : List Ent} (h : Ents w a c xs) (j : Nat) (hj : j < xs.length) :
    ∃ b o, a = some ⟨b, o, none⟩ ∧ b < w.heap.size ∧ w.cell? ⟨b, o + j * 2, none⟩ = some (.string xs[j].name) ∧ w.cell? ⟨b, o + j * 2 + 1, none⟩ = some (.int .i64 xs[j].ino) := by
  rcases h.2.2 with h0 | ⟨b, o, e1, e2, e3⟩
  · subst h0; exact absurd hj (Nat.not_lt_zero _)
  · exact ⟨b, o, e1, e2, e3 j hj 0 _ rfl, e3 j hj 1 _ rfl⟩
theorem Nods.len {w : World} {a : Option Addr} {c : Nat} {xs : List Nod} (h : Nods w a c xs) : xs.length ≤ c ∧ (c : Int) ≤ 9223372036854775807 ∧ (xs.length : Int) ≤ 9223372036854775807 := by
  have h1 := h.1.1; have h2 := h.1.2.1; unfold maxLen at h2; omega
theorem Ents.len {w : World} {a : Option Addr} {c : Nat} {xs : List Ent} (h : Ents w a c xs) : xs.length ≤ c ∧ (c : Int) ≤ 9223372036854775807 ∧ (xs.length : Int) ≤ 9223372036854775807 := by
  have h1 := h.1; have h2 := h.2.1; unfold maxLen at h2; omega
/-- do the inodes rise? -/
def Rises (xs : List Nod) : Prop := xs.Pairwise fun a b => a.ino < b.ino
/-- the table with x, without n, the inode of n -/
def has (n : Int) (xs : List Nod) : Bool := xs.any fun x => x.ino == n
def rank (n : Int) (xs : List Nod) : Nat := (xs.filter fun x => decide (x.ino < n)).length
def drop (n : Int) (xs : List Nod) : List Nod := xs.filter fun x => x.ino != n
def get (n : Int) (xs : List Nod) : Option Nod := xs.find? fun x => x.ino == n
def put (x : Nod) : List Nod → List Nod
  | [] => [x]
  | y :: r => if x.ino < y.ino then x :: y :: r else y :: put x r
def set (x : Nod) (xs : List Nod) : List Nod := put x (drop x.ino xs)
/-- are two inodes alike? -/
def Nod.like (x y : Nod) : Bool := x.ino == y.ino && x.kind == y.kind && x.links == y.links && decide (x.data = y.data) && x.parent == y.parent && decide (x.es = y.es)
def likes : List Nod → List Nod → Bool
  | [], [] => true
  | x :: r, y :: s => x.like y && likes r s
  | _, _ => false
theorem Nod.like_self (x : Nod) : x.like x = true := by simp [Nod.like]
theorem likes_self : ∀ xs, likes xs xs = true
  | [] => rfl
  | x :: r => by simp [likes, Nod.like_self, likes_self r]
theorem rank_at (n : Int) : ∀ (xs : List Nod) (i : Nat), i ≤ xs.length → (∀ t (h : t < xs.length), t < i → xs[t].ino < n) → (∀ t (h : t < xs.length), i ≤ t → n ≤ xs[t].ino) → rank n xs = i
  | [], i, h, _, _ => by simp at h; simp [rank, h]
  | x :: r, 0, _, _, h2 => by
    have hx : n ≤ x.ino := h2 0 (by simp) (Nat.le_refl _)
    have ih := rank_at n r 0 (Nat.zero_le _) (fun t h h' => absurd h' (Nat.not_lt_zero _)) (fun t h _ => h2 (t + 1) (by simp; omega) (Nat.zero_le _))
    unfold rank at ih ⊢
    rw [List.filter_cons_of_neg (by simp; omega)]
    exact ih
  | x :: r, i + 1, h, h1, h2 => by
    have hx : x.ino < n := h1 0 (by simp) (Nat.succ_pos _)
    have ih := rank_at n r i (by simpa using h) (fun t h h' => h1 (t + 1) (by simp; omega) (by omega)) (fun t h h' => h2 (t + 1) (by simp; omega) (by omega))
    unfold rank at ih ⊢
    rw [List.filter_cons_of_pos (by simp; omega), List.length_cons, ih]
theorem has_at (n : Int) (xs : List Nod) (i : Nat) (hi : i < xs.length) (h1 : ∀ t (h : t < xs.length), t < i → xs[t].ino < n) (h2 : n ≤ xs[i].ino) (hR : Rises xs) : has n xs = decide (xs[i].ino = n) := by
  by_cases h : xs[i].ino = n
  · rw [decide_eq_true h]
    exact List.any_eq_true.2 ⟨xs[i], List.getElem_mem hi, by simp [h]⟩
  · rw [decide_eq_false h]
    apply Bool.eq_false_iff.2
    intro hh
    obtain ⟨y, hy, e⟩ := List.any_eq_true.1 hh
    obtain ⟨t, ht, rfl⟩ := List.getElem_of_mem hy
    have e : xs[t].ino = n := by simpa using e
    rcases Nat.lt_trichotomy t i with h3 | h3 | h3
    · have := h1 t ht h3; omega
    · subst h3; exact h e
    · have := (List.pairwise_iff_getElem.1 hR) i t hi ht h3; omega
theorem has_end (n : Int) (xs : List Nod) (h1 : ∀ t (h : t < xs.length), xs[t].ino < n) : has n xs = false := by
  apply Bool.eq_false_iff.2
  intro hh
  obtain ⟨y, hy, e⟩ := List.any_eq_true.1 hh
  obtain ⟨t, ht, rfl⟩ := List.getElem_of_mem hy
  have e : xs[t].ino = n := by simpa using e
  have := h1 t ht
  omega
def Nod.zero : Nod := ⟨0, 0, 0, ⟨#[]⟩, 0, none, 0, []⟩
def Nod.val (x : Nod) : Value := .agg #[.int .i64 x.ino, .int .i64 x.kind, .int .i64 x.links, .string x.data, .int .i64 x.parent, .slice x.ea x.es.length x.ec]
theorem get_none {n : Int} {xs : List Nod} (h : has n xs = false) : get n xs = none := by
  unfold get has at *
  rw [List.find?_eq_none]
  intro x hx hh
  rw [List.any_eq_false] at h
  exact h x hx hh
theorem rank_parts (n : Int) (xs : List Nod) (hR : Rises xs) : ∃ i, i ≤ xs.length ∧ (∀ t (h : t < xs.length), t < i → xs[t].ino < n) ∧ (∀ t (h : t < xs.length), i ≤ t → n ≤ xs[t].ino) := by
  induction xs with
  | nil => exact ⟨0, Nat.le_refl _, fun t h => absurd h (Nat.not_lt_zero _), fun t h => absurd h (Nat.not_lt_zero _)⟩
  | cons x r ih =>
    by_cases hx : x.ino < n
    · obtain ⟨i, h1, h2, h3⟩ := ih (List.pairwise_cons.1 hR).2
      refine ⟨i + 1, by simp; omega, fun t h ht => ?_, fun t h ht => ?_⟩
      · cases t with
        | zero => exact hx
        | succ t => exact h2 t (by simpa using h) (by omega)
      · cases t with
        | zero => omega
        | succ t => exact h3 t (by simpa using h) (by omega)
    · refine ⟨0, Nat.zero_le _, fun t h ht => absurd ht (Nat.not_lt_zero _), fun t h _ => ?_⟩
      cases t with
      | zero => simp; omega
      | succ t =>
        have := (List.pairwise_cons.1 hR).1 (r[t]'(by simpa using h)) (List.getElem_mem _)
        simp; omega
theorem rank_le (n : Int) (xs : List Nod) : rank n xs ≤ xs.length := List.length_filter_le _ _
theorem rank_lt {n : Int} {xs : List Nod} (hR : Rises xs) : (∀ t (h : t < xs.length), t < rank n xs → xs[t].ino < n) ∧ (∀ t (h : t < xs.length), rank n xs ≤ t → n ≤ xs[t].ino) := by
  obtain ⟨i, h1, h2, h3⟩ := rank_parts n xs hR
  rw [rank_at n xs i h1 h2 h3]
  exact ⟨h2, h3⟩
theorem has_rank {n : Int} {xs : List Nod} (hR : Rises xs) (h : has n xs = true) : ∃ hlt : rank n xs < xs.length, xs[rank n xs].ino = n := by
  obtain ⟨h2, h3⟩ := rank_lt (n := n) hR
  by_cases hlt : rank n xs < xs.length
  · refine ⟨hlt, ?_⟩
    have := has_at n xs _ hlt h2 (h3 _ hlt (Nat.le_refl _)) hR
    rw [h] at this
    exact of_decide_eq_true this.symm
  · have := has_end n xs (fun t h => h2 t h (by omega))
    rw [h] at this; cases this
theorem get_rank {n : Int} {xs : List Nod} (hR : Rises xs) (h : has n xs = true) : ∃ hlt : rank n xs < xs.length, get n xs = some xs[rank n xs] := by
  obtain ⟨hlt, he⟩ := has_rank hR h
  refine ⟨hlt, ?_⟩
  obtain ⟨h2, h3⟩ := rank_lt (n := n) hR
  unfold get
  rw [List.find?_eq_some_iff_getElem]
  exact ⟨by simp [he], _, hlt, rfl, fun j hj => by have := h2 j (by omega) hj; simp; omega⟩
end Go.Proofs.Yteaemnjomlcfcaa.Tab
