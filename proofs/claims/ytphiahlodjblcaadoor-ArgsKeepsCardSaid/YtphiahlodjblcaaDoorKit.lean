/- Small general facts for the walks of this seat: strings held against each other, endings. No condition. -/
import Derived.WalkKit
import Derived.Lib.Hide
import Derived.Lib.Join
import Derived.Deep.Draws
namespace Go.Proofs.YtphiahlodjblcaaDoor.Kit
open Go.RowKit
theorem seq_true {a b : ByteArray} (h : a = b) : (a.toList == b.toList) = true := by subst h; simp
theorem seq_false {a b : ByteArray} (h : a ≠ b) : (a.toList == b.toList) = false := by
  rw [beq_eq_false_iff_ne]
  intro e
  rw [ByteArray.toList_eq, ByteArray.toList_eq] at e
  exact h (ByteArray.ext (Array.toList_inj.1 e))
theorem seq_dec (a b : ByteArray) : (a.toList == b.toList) = decide (a = b) := by
  by_cases h : a = b
  · simp [h]
  · rw [seq_false h]; simp [h]
theorem isEmpty_false {a : ByteArray} (h : a ≠ ⟨#[]⟩) : a.toList.isEmpty = false := by
  cases hl : a.toList with
  | nil => exact absurd (ByteArray.ext (by rw [ByteArray.toList_eq] at hl; exact Array.toList_inj.1 hl)) h
  | cons x r => rfl
theorem isEmpty_true : (⟨#[]⟩ : ByteArray).toList.isEmpty = true := by rw [ByteArray.toList_eq]; rfl
theorem nonempty_size (s : ByteArray) : (!s.toList.isEmpty) = decide (0 < (s.size : Int)) := by
  rw [ByteArray.toList_eq]
  have hz : s.data.toList.length = s.size := Array.length_toList
  cases e : s.data.toList with
  | nil =>
    rw [e] at hz
    have h0 : s.size = 0 := hz.symm
    rw [h0]; rfl
  | cons x r =>
    rw [e] at hz
    have h0 : 0 < s.size := by rw [← hz]; exact Nat.succ_pos _
    exact (decide_eq_true (by omega)).symm
theorem bdrewN {B : Nat} {a w : World} (h : Below B a w) (n : Nat) : Below B a (w.drewN n) := ⟨h.os, h.tape, h.output, h.size, h.block⟩
theorem ownsRow_below {w w' : World} {base : Nat} {e : TypeId} {size : Nat} {v : Value} {n : Nat} {xs : List Value} {B : Nat} (h : w.ownsRow base e size v n xs) (hb : Below B w w') (hB : w.heap.size ≤ B) : w'.ownsRow base e size v n xs := by
  refine ⟨h.1, ?_⟩
  rcases h.2 with h2 | ⟨g, cap, cur, hv, hg, hh, r⟩
  · exact .inl h2
  · exact .inr ⟨g, cap, cur, hv, hg, by rw [hb.block _ (Nat.lt_of_lt_of_le (Array.getElem?_eq_some_iff.1 hh).1 hB)]; exact hh, r⟩
theorem ret_string {a b : ByteArray} (h : a = b) : Ending.returned (.string a) = .returned (.string b) := by rw [h]
theorem ret_bool {a b : Bool} (h : a = b) : Ending.returned (.bool a) = .returned (.bool b) := by rw [h]
theorem ret_int {a b : Int} (h : a = b) : Ending.returned (.int .i64 a) = .returned (.int .i64 b) := by rw [h]
/-- a text's bytes, and a text of bytes -/
def toL (s : ByteArray) : List UInt8 := s.data.toList
def ofL (l : List UInt8) : ByteArray := ⟨l.toArray⟩
@[simp] theorem toL_ofL (l : List UInt8) : toL (ofL l) = l := by simp [toL, ofL]
@[simp] theorem ofL_toL (s : ByteArray) : ofL (toL s) = s := by cases s; simp [toL, ofL]
theorem toL_inj {a b : ByteArray} (h : toL a = toL b) : a = b := by rw [← ofL_toL a, h, ofL_toL]
theorem ofL_append (a b : List UInt8) : ofL a ++ ofL b = ofL (a ++ b) := ByteArray.mk_append_mk a b
theorem toL_append (a b : ByteArray) : toL (a ++ b) = toL a ++ toL b := by simp [toL, ByteArray.data_append]
theorem size_toL (s : ByteArray) : (toL s).length = s.size := Array.length_toList
theorem size_ofL (l : List UInt8) : (ofL l).size = l.length := by rw [← size_toL, toL_ofL]
theorem empty_append (x : ByteArray) : (⟨#[]⟩ : ByteArray) ++ x = x := toL_inj (by rw [toL_append]; rfl)
theorem append_empty (x : ByteArray) : x ++ (⟨#[]⟩ : ByteArray) = x := toL_inj (by rw [toL_append]; simp [toL])
/-- texts, put together -/
def join (sep : ByteArray) (xs : List ByteArray) : ByteArray := ⟨(Lib.join (xs.map (·.data.toList)) sep.data.toList).toArray⟩
theorem join_nil (sep : ByteArray) : join sep [] = ⟨#[]⟩ := rfl
theorem join_one (sep x : ByteArray) : join sep [x] = x := by
  cases x; simp [join, Lib.join_one]
theorem joinTail_append (sep : List UInt8) (r r' : List (List UInt8)) : Lib.joinTail sep (r ++ r') = Lib.joinTail sep r ++ Lib.joinTail sep r' := by
  simp [Lib.joinTail]
theorem join_snoc (sep x : ByteArray) (xs : List ByteArray) (h : xs ≠ []) : join sep (xs ++ [x]) = join sep xs ++ sep ++ x := by
  cases xs with
  | nil => exact absurd rfl h
  | cons y r =>
    apply toL_inj
    simp only [join, List.cons_append, List.map_cons, List.map_append, List.map_nil, Lib.join_cons, joinTail_append, toL_append]
    simp [toL, Lib.joinTail]
theorem join_size (sep : ByteArray) (m : Nat) : ∀ xs : List ByteArray, (∀ x ∈ xs, x.size ≤ m) → (join sep xs).size ≤ xs.length * (m + sep.size)
  | [], _ => Nat.zero_le _
  | y :: r, h => by
    have e : (join sep (y :: r)).size = y.size + (r.map fun x => sep.size + x.size).sum := by
      rw [← size_toL, ← size_toL y]
      have : toL (join sep (y :: r)) = toL y ++ Lib.joinTail (toL sep) (r.map toL) := by
        show toL (ofL (Lib.join ((y :: r).map toL) (toL sep))) = _
        rw [toL_ofL, List.map_cons, Lib.join_cons]
      rw [this, List.length_append]
      congr 1
      clear this h
      induction r with
      | nil => rfl
      | cons z r ih =>
        simp only [Lib.joinTail, List.map_cons, List.flatten_cons, List.length_append, List.sum_cons, size_toL] at ih ⊢
        rw [← ih]
    have h1 : (r.map fun x => sep.size + x.size).sum ≤ r.length * (m + sep.size) := by
      have h' : ∀ x ∈ r, x.size ≤ m := fun x hx => h x (List.mem_cons_of_mem _ hx)
      clear h e
      induction r with
      | nil => simp
      | cons z r ih =>
        have := ih fun x hx => h' x (List.mem_cons_of_mem _ hx)
        have := h' z List.mem_cons_self
        simp only [List.map_cons, List.sum_cons, List.length_cons, Nat.succ_mul]; omega
    have h2 := h y List.mem_cons_self
    rw [e]; simp only [List.length_cons, Nat.succ_mul]; omega
/-- a slice of texts reads as these -/
def Strs (w : World) (v : Value) (xs : List ByteArray) : Prop :=
  ∃ a cap, v = .slice a xs.length cap ∧ xs.length ≤ cap ∧ (cap : Int) ≤ 9223372036854775807 ∧
    (xs = [] ∨ ∃ b o, a = some ⟨b, o, none⟩ ∧ b < w.heap.size ∧ ∀ j, j < xs.length → w.cell? ⟨b, o + j, none⟩ = some (.string (xs.getD j ⟨#[]⟩)))
theorem Strs.below {w w' : World} {v : Value} {xs : List ByteArray} {B : Nat} (h : Strs w v xs) (hb : Below B w w') (hB : w.heap.size ≤ B) : Strs w' v xs := by
  obtain ⟨a, cap, e, h1, h2, h3⟩ := h
  refine ⟨a, cap, e, h1, h2, ?_⟩
  rcases h3 with h3 | ⟨b, o, e1, e2, e3⟩
  · exact .inl h3
  · exact .inr ⟨b, o, e1, Nat.lt_of_lt_of_le e2 hb.size, fun j hj => by rw [hb.cell (p := ⟨b, o + j, none⟩) (Nat.lt_of_lt_of_le e2 hB)]; exact e3 j hj⟩
/-- a new block of texts, whole -/
theorem Strs.new (w : World) (xs : List ByteArray) (cs : Array Value) (T : TypeId) (n : Nat) (hcs : cs = (xs.map Value.string).toArray) (hn : n = xs.length) (hm : n ≤ 9223372036854775807) (fr : Nat × Nat) :
    Strs (w.alloc (.cells cs T fr)) (.slice (some ⟨w.heap.size, 0, none⟩) n n) xs := by
  subst hcs hn
  refine ⟨_, _, rfl, Nat.le_refl _, by omega, ?_⟩
  refine .inr ⟨_, _, rfl, by rw [World.size_alloc]; omega, fun j hj => ?_⟩
  have h1 : (w.alloc (.cells (xs.map Value.string).toArray T fr)).heap[w.heap.size]? = some (.cells (xs.map Value.string).toArray T fr) := by
    show (w.heap.push _)[w.heap.size]? = _
    rw [Array.getElem?_push, if_pos rfl]
  simp only [World.cell?, h1]
  show ((xs.map Value.string).toArray)[0 + j]? = _
  rw [Nat.zero_add, List.getElem?_toArray, List.getElem?_map, List.getElem?_eq_getElem hj, List.getD_eq_getElem?_getD, List.getElem?_eq_getElem hj]; rfl
theorem Strs.nil (w : World) (a : Option Addr) (cap : Nat) (hm : cap ≤ 9223372036854775807) : Strs w (.slice a 0 cap) [] := ⟨a, cap, rfl, Nat.zero_le _, by omega, .inl rfl⟩
theorem bcell {W w1 : World} (hb : Below W.heap.size W w1) : (∀ b o, b < W.heap.size → w1.cell? ⟨b, o, none⟩ = W.cell? ⟨b, o, none⟩) ∧ (∀ b o, b < W.heap.size → w1.frozen? ⟨b, o, none⟩ = W.frozen? ⟨b, o, none⟩) :=
  ⟨fun b o h => hb.cell (p := ⟨b, o, none⟩) h, fun b o h => hb.frozen (p := ⟨b, o, none⟩) h⟩
end Go.Proofs.YtphiahlodjblcaaDoor.Kit
