/- The statement of WalkLeft is proved: for every input the law answers true, and each argument reads behind the call as it read before. Condition: none but what the row itself prints. -/
import Derived.Test.YtnjglohgjhihjaaDoorWalkLeftKd
import Derived.Test.YtnjglohgjhihjaaDoorCards
import Derived.Test.YtnjglohgjhihjaaDoorTie
import Derived.WalkKit
import Derived.ProofKit
import Derived.OpenShut
import Derived.ShutString
import Derived.ChangeOld
import Derived.Below
import Derived.LaidMore
import Derived.Lay
import Derived.SevenTiedAt
import Derived.Stop.Joined
section
set_option linter.unusedVariables false
set_option linter.unusedSimpArgs false
namespace Go.Proofs.YtnjglohgjhihjaaDoor.Vcg
/-- n is come to by k steps from the root -/
inductive Dep (xs : List NodV) : Nat → Int → Prop
  | root : Dep xs 0 1
  | step {k : Nat} {n : Int} {e : EntV} : Dep xs k n → hasV n xs = true → e ∈ (gotV n xs).es → Dep xs (k + 1) e.ino
theorem okV_parts {f : FsV} (h : okV f) : fewV f.xs ∧ firstV f ∧ secondV f ∧ thirdV f ∧ fourthV f ∧ fifthV f ∧ fitsV f := by
  obtain ⟨h0, h⟩ := h
  unfold checkV at h
  refine ⟨h0, ?_⟩
  split at h
  · split at h
    · split at h
      · split at h
        · split at h
          · split at h
            · exact ⟨by assumption, by assumption, by assumption, by assumption, by assumption, by assumption⟩
            · cases h
          · cases h
        · cases h
      · cases h
    · cases h
  · cases h
theorem addV_mem {es : List EntV} : ∀ {S : List Int} {n : Int}, n ∈ addV S es ↔ n ∈ S ∨ ∃ e ∈ es, e.ino = n := by
  induction es with
  | nil => intro S n; simp [addV]
  | cons e r ih =>
    intro S n
    show n ∈ addV (addOne S e.ino) r ↔ _
    rw [ih, addOne_mem]
    constructor
    · rintro ((h | h) | ⟨e', he, h⟩)
      · exact .inl h
      · exact .inr ⟨e, List.mem_cons_self, h.symm⟩
      · exact .inr ⟨e', List.mem_cons_of_mem _ he, h⟩
    · rintro (h | ⟨e', he, h⟩)
      · exact .inl (.inl h)
      · rcases List.mem_cons.1 he with rfl | he
        · exact .inl (.inr h.symm)
        · exact .inr ⟨e', he, h⟩
theorem addV_seen {xs : List NodV} {es : List EntV} : ∀ {S : List Int}, SeenOk xs S → (∀ e ∈ es, hasV e.ino xs = true) → SeenOk xs (addV S es) := by
  induction es with
  | nil => intro S h _; exact h
  | cons e r ih => intro S h he; exact ih (h.one (he e List.mem_cons_self)) fun e' h' => he e' (List.mem_cons_of_mem _ h')
theorem seenV_ok {xs : List NodV} (h3 : ∀ x ∈ xs, ∀ e ∈ x.es, hasV e.ino xs = true) : ∀ (m i : Nat) (S : List Int), SeenOk xs S → (∀ n ∈ S, ∃ k, Dep xs k n) → SeenOk xs (seenV xs m i S) ∧ ∀ n ∈ seenV xs m i S, ∃ k, Dep xs k n
  | 0, i, S, h, hd => by unfold seenV; exact ⟨h, hd⟩
  | m + 1, i, S, h, hd => by
    unfold seenV
    split
    · rename_i n hn
      have hmem := List.mem_of_getElem? hn
      have hh := h.has n hmem
      obtain ⟨hm, _⟩ := got_has hh
      obtain ⟨k, hk⟩ := hd n hmem
      refine seenV_ok h3 m (i + 1) _ (addV_seen h fun e he => h3 _ hm e he) fun n' hn' => ?_
      rcases addV_mem.1 hn' with h' | ⟨e, he, rfl⟩
      · exact hd n' h'
      · exact ⟨k + 1, .step hk hh he⟩
    · exact ⟨h, hd⟩
theorem nodup_sub {S T : List Int} (hS : S.Nodup) (hs : ∀ n ∈ S, n ∈ T) (hl : T.length ≤ S.length) : ∀ n ∈ T, n ∈ S := by
  intro n hn
  by_cases h : n ∈ S
  · exact h
  · exfalso
    have := nodup_le (S := n :: S) (T := T) (List.nodup_cons.2 ⟨h, hS⟩) fun m hm => by
      rcases List.mem_cons.1 hm with rfl | hm
      · exact hn
      · exact hs m hm
    rw [List.length_cons] at this; omega
/-- every inode is come to -/
theorem all_dep {f : FsV} (h : okV f) {n : Int} (hn : hasV n f.xs = true) : ∃ k, Dep f.xs k n := by
  obtain ⟨_, h1, _, h3, _, h5, _⟩ := okV_parts h
  have hroot : SeenOk f.xs [1] := ⟨by simp, fun n hn => by simp at hn; subst hn; exact h1.2.2.2.2.2.2.2.1⟩
  obtain ⟨g1, g2⟩ := seenV_ok h3 41 0 [1] hroot fun n hn => by simp at hn; subst hn; exact ⟨0, .root⟩
  have hS := nodup_sub (T := f.xs.map (·.ino)) g1.nodup (fun m hm => has_mem.1 (g1.has m hm)) (by rw [List.length_map]; exact Nat.le_of_eq h5.symm) n (has_mem.1 hn)
  exact g2 n hS
theorem pair_mem {xs : List NodV} {n : Int} {e : EntV} (hh : hasV n xs = true) (he : e ∈ (gotV n xs).es) : (e.ino, n) ∈ pairsV xs := by
  obtain ⟨hm, hi⟩ := got_has hh
  unfold pairsV
  exact List.mem_flatMap.2 ⟨_, hm, List.mem_map.2 ⟨e, he, by rw [hi]⟩⟩
theorem cnt_pos {n p : Int} {l : List (Int × Int)} (h : (n, p) ∈ l) : 1 ≤ cntV n l := by
  unfold cntV
  exact List.length_pos_iff.2 (List.ne_nil_of_mem (List.mem_filter.2 ⟨h, by simp⟩))
theorem cnt_one {n p q : Int} {l : List (Int × Int)} (hp : (n, p) ∈ l) (hq : (n, q) ∈ l) (h : cntV n l = 1) : p = q := by
  unfold cntV at h
  obtain ⟨x, hx⟩ := List.length_eq_one_iff.1 h
  have h1 : (n, p) ∈ l.filter fun p => p.1 == n := List.mem_filter.2 ⟨hp, by simp⟩
  have h2 : (n, q) ∈ l.filter fun p => p.1 == n := List.mem_filter.2 ⟨hq, by simp⟩
  rw [hx] at h1 h2
  simp only [List.mem_singleton] at h1 h2
  exact congrArg Prod.snd (h1.trans h2.symm)
/-- a directory that names anything is one -/
theorem es_dir {f : FsV} (h : okV f) {n : Int} (hh : hasV n f.xs = true) {e : EntV} (he : e ∈ (gotV n f.xs).es) : (gotV n f.xs).kind = 2 := by
  obtain ⟨_, _, h2, _⟩ := okV_parts h
  obtain ⟨hm, _⟩ := got_has hh
  by_cases hk : (gotV n f.xs).kind = 2
  · exact hk
  · have := ((h2 _ hm).2.1 hk).1
    rw [this] at he; cases he
theorem root_unnamed {f : FsV} (h : okV f) {n : Int} (hh : hasV n f.xs = true) {e : EntV} (he : e ∈ (gotV n f.xs).es) : e.ino ≠ 1 := fun h1 => by
  obtain ⟨_, hf, _, _, h4, _⟩ := okV_parts h
  obtain ⟨hm, hi⟩ := got_has hf.2.2.2.2.2.2.2.1
  have hq := (h4 _ hm).2
  rw [if_pos hi, hi] at hq
  have := cnt_pos (pair_mem hh he)
  rw [h1] at this; omega
/-- a directory's depth is one -/
theorem dep_one {f : FsV} (h : okV f) : ∀ (k k' : Nat) (n : Int), Dep f.xs k n → Dep f.xs k' n → hasV n f.xs = true → (gotV n f.xs).kind = 2 → k = k'
  | 0, 0, _, _, _, _, _ => rfl
  | 0, k' + 1, _, h1, h2, hh, hk => by
    cases h1
    generalize hn : (1 : Int) = n at h2
    cases h2 with
    | step a b c => exact absurd hn.symm (root_unnamed h b c)
  | k + 1, 0, _, h1, h2, hh, hk => by
    cases h2
    generalize hn : (1 : Int) = n at h1
    cases h1 with
    | step a b c => exact absurd hn.symm (root_unnamed h b c)
  | k + 1, k' + 1, n, h1, h2, hh, hk => by
    obtain ⟨_, hf, _, _, h4, _⟩ := okV_parts h
    cases h1 with
    | @step _ p e a b c =>
      generalize hn : e.ino = n at h2 hh hk
      cases h2 with
      | @step _ p' e' a' b' c' =>
        have hp := pair_mem b c
        have hp' := pair_mem b' c'
        rw [hn] at hp
        obtain ⟨hm, hi⟩ := got_has hh
        have hq := (h4 _ hm).2
        rw [hi] at hq
        have hne : e'.ino ≠ 1 := root_unnamed h b' c'
        rw [if_neg hne] at hq
        have := cnt_one hp hp' (hq.2 hk).1
        subst this
        rw [dep_one h k k' p a a' b (es_dir h b c)]
end Go.Proofs.YtnjglohgjhihjaaDoor.Vcg
end
section
set_option linter.unusedVariables false
set_option linter.unusedSimpArgs false
namespace Go.Proofs.YtnjglohgjhihjaaDoor.Vcg
/-- the directories on the way, the last first: none twice -/
theorem dep_chain {f : FsV} (h : okV f) : ∀ (k : Nat) (n : Int), Dep f.xs k n → hasV n f.xs = true → (gotV n f.xs).kind = 2 → ∃ L : List Int, L.length = k + 1 ∧ L.Nodup ∧ (∀ m ∈ L, hasV m f.xs = true) ∧ ∀ m ∈ L, (gotV m f.xs).kind = 2 ∧ ∃ j, j ≤ k ∧ Dep f.xs j m
  | 0, n, hd, hh, hk => ⟨[n], rfl, by simp, fun m hm => by simp at hm; subst hm; exact hh, fun m hm => by simp at hm; subst hm; exact ⟨hk, 0, Nat.le_refl _, hd⟩⟩
  | k + 1, _, hd, hh, hk => by
    generalize hn : k + 1 = k1 at hd
    cases hd with
    | root => cases hn
    | @step k0 p e a b c =>
      obtain rfl : k = k0 := by omega
      obtain ⟨L, l1, l2, l3, l4⟩ := dep_chain h k p a b (es_dir h b c)
      refine ⟨e.ino :: L, by simp [l1], List.nodup_cons.2 ⟨fun hm => ?_, l2⟩, fun m hm => ?_, fun m hm => ?_⟩
      · obtain ⟨_, j, hj, hd⟩ := l4 _ hm
        have := dep_one h _ _ _ hd (.step a b c) hh hk
        omega
      · rcases List.mem_cons.1 hm with rfl | hm
        · exact hh
        · exact l3 m hm
      · rcases List.mem_cons.1 hm with rfl | hm
        · exact ⟨hk, k + 1, Nat.le_refl _, .step a b c⟩
        · obtain ⟨q1, j, q2, q3⟩ := l4 m hm
          exact ⟨q1, j, by omega, q3⟩
theorem dep_lt {f : FsV} (h : okV f) {k : Nat} {n : Int} (hd : Dep f.xs k n) (hh : hasV n f.xs = true) (hk : (gotV n f.xs).kind = 2) : k < f.xs.length := by
  obtain ⟨L, l1, l2, l3, _⟩ := dep_chain h k n hd hh hk
  have := seen_len l2 l3
  omega
/-- the walk, so deep at most -/
def treeV (xs : List NodV) : Nat → Int → List (List UInt8) → Items
  | 0, _, _ => []
  | m + 1, n, ns => if hasV n xs then (ns, gotV n xs) :: (gotV n xs).es.flatMap (fun e => treeV xs m e.ino (ns ++ [e.name])) else []
theorem flatMap_congr' {α β : Type} {l : List α} {g g' : α → List β} (h : ∀ a ∈ l, g a = g' a) : l.flatMap g = l.flatMap g' := by
  induction l with
  | nil => rfl
  | cons a r ih => rw [List.flatMap_cons, List.flatMap_cons, h a List.mem_cons_self, ih fun b hb => h b (List.mem_cons_of_mem _ hb)]
/-- what is deep enough is enough -/
theorem tree_fuel {f : FsV} (h : okV f) : ∀ (m m' k : Nat) (n : Int) (ns : List (List UInt8)), Dep f.xs k n → k ≤ f.xs.length → f.xs.length + 1 ≤ m + k → f.xs.length + 1 ≤ m' + k → treeV f.xs m n ns = treeV f.xs m' n ns
  | 0, m', k, n, ns, hd, hk, h1, h2 => by omega
  | m + 1, 0, k, n, ns, hd, hk, h1, h2 => by omega
  | m + 1, m' + 1, k, n, ns, hd, hk, h1, h2 => by
    unfold treeV
    split
    · rename_i hh
      congr 1
      refine flatMap_congr' fun e he => ?_
      have hdir := es_dir h hh he
      have hlt := dep_lt h hd hh hdir
      exact tree_fuel h m m' (k + 1) e.ino _ (.step hd hh he) (by omega) (by omega) (by omega)
    · rfl
abbrev trV (xs : List NodV) : Int → List (List UInt8) → Items := treeV xs (xs.length + 1)
theorem dep_le {f : FsV} (h : okV f) {n : Int} (hh : hasV n f.xs = true) : ∃ k, k ≤ f.xs.length ∧ Dep f.xs k n := by
  obtain ⟨k, hd⟩ := all_dep h hh
  refine ⟨k, ?_, hd⟩
  cases hd with
  | root => exact Nat.zero_le _
  | step a b c => exact dep_lt h a b (es_dir h b c)
theorem tree_ok {f : FsV} (h : okV f) : TreeOk f (trV f.xs) := ⟨fun n ns hh => by
  obtain ⟨k, hk, hd⟩ := dep_le h hh
  show treeV f.xs (f.xs.length + 1) n ns = _
  rw [treeV, if_pos hh]
  congr 1
  refine flatMap_congr' fun e he => ?_
  have hlt := dep_lt h hd hh (es_dir h hh he)
  exact tree_fuel h _ _ (k + 1) e.ino _ (.step hd hh he) (by omega) (by omega) (by omega), fun n ns hh => by
  show treeV f.xs (f.xs.length + 1) n ns = _
  rw [treeV, if_neg (by rw [hh]; decide)]⟩
theorem walk_ok {f : FsV} (h : okV f) : WalkOk f (trV f.xs) := by
  obtain ⟨p0, p1, p2, p3, _⟩ := okV_parts h
  exact ⟨tree_ok h, p0, p1.2.2.2.2.2.2.1, p3, fun x hx hk => ((p2 x hx).2.1 hk).1⟩
end Go.Proofs.YtnjglohgjhihjaaDoor.Vcg
end
section
set_option linter.unusedVariables false
set_option linter.unusedSimpArgs false
namespace Go.Proofs.YtnjglohgjhihjaaDoor.Vcg
theorem joinP_snoc (ns : List (List UInt8)) (x : List UInt8) (hne : ∀ y ∈ ns, y ≠ []) : joinP (ns ++ [x]) = underV (joinP ns) x := by
  have hj := join_take (ns ++ [x]) ns.length x (by simp)
  rw [List.take_of_length_le (by simp), List.take_left' rfl] at hj
  unfold joinP
  rw [if_neg (by simp), hj]
  by_cases h : ns = []
  · subst h; rfl
  · have hl : ns.length ≠ 0 := fun h0 => h (List.eq_nil_of_length_eq_zero h0)
    rw [if_neg hl, if_neg h]
    have hne47 : (47 :: Lib.join ns [47]) ≠ [47] := fun he => by
      have h1 : Lib.join ns [47] = [] := (List.cons.inj he).2
      have h2 := join_len ns h
      rw [h1] at h2
      cases ns with
      | nil => exact h rfl
      | cons y r =>
        have := List.length_pos_iff.2 (hne y List.mem_cons_self)
        simp at h2; omega
    unfold underV
    rw [if_neg hne47]
    simp
theorem name_ne {f : FsV} (h : okV f) {n : Int} (hh : hasV n f.xs = true) {e : EntV} (he : e ∈ (gotV n f.xs).es) : e.name ≠ [] := fun hn => by
  obtain ⟨_, _, h2, _⟩ := okV_parts h
  obtain ⟨hm, _⟩ := got_has hh
  obtain ⟨i, hi, rfl⟩ := List.getElem_of_mem he
  have := (((h2 _ hm).2.2.1 (es_dir h hh (List.getElem_mem hi))).2 i hi).1
  rw [hn] at this
  simp [may] at this
theorem below_tree {f : FsV} (h : okV f) : ∀ (m : Nat) (n : Int) (ns : List (List UInt8)), (∀ y ∈ ns, y ≠ []) → belowV f.xs m n (joinP ns) = (treeV f.xs m n ns).map seen1
  | 0, n, ns, _ => rfl
  | m + 1, n, ns, hne => by
    unfold belowV treeV
    split
    · rename_i hh
      obtain ⟨_, hi⟩ := got_has hh
      rw [List.map_cons, List.map_flatMap, show seen1 (ns, gotV n f.xs) = ⟨joinP ns, n⟩ by simp [seen1, hi]]
      congr 1
      refine flatMap_congr' fun e he => ?_
      have hn := name_ne h hh he
      rw [← joinP_snoc ns e.name hne]
      exact below_tree h m e.ino _ fun y hy => by
        rcases List.mem_append.1 hy with hy | hy
        · exact hne y hy
        · simp at hy; subst hy; exact hn
    · rfl
theorem list_tree {f : FsV} (h : okV f) : listV f.xs = (trV f.xs 1 []).map seen1 := below_tree h _ 1 [] fun y hy => by cases hy
/-- an inode's paths, both ways -/
theorem paths_tree {n : Int} {l : Items} : pathsV n (l.map seen1) = wpathsV n l := by
  unfold pathsV wpathsV
  rw [List.filter_map, List.map_map]
  rfl
end Go.Proofs.YtnjglohgjhihjaaDoor.Vcg
end
section
set_option linter.unusedVariables false
set_option linter.unusedSimpArgs false
namespace Go.Proofs.YtnjglohgjhihjaaDoor.Vcg
/-- d is come to from n by j steps -/
inductive Anc (xs : List NodV) (n : Int) : Nat → Int → Prop
  | same : Anc xs n 0 n
  | step {j : Nat} {p : Int} {e : EntV} : Anc xs n j p → hasV p xs = true → e ∈ (gotV p xs).es → Anc xs n (j + 1) e.ino
theorem Anc.dep {xs : List NodV} {n : Int} {k : Nat} (hd : Dep xs k n) : ∀ {j : Nat} {d : Int}, Anc xs n j d → Dep xs (k + j) d
  | _, _, .same => hd
  | _, _, .step a b c => .step (a.dep hd) b c
theorem Anc.up {xs : List NodV} {n : Int} {e : EntV} (hh : hasV n xs = true) (he : e ∈ (gotV n xs).es) : ∀ {j : Nat} {d : Int}, Anc xs e.ino j d → Anc xs n (j + 1) d
  | _, _, .same => .step .same hh he
  | _, _, .step a b c => .step (a.up hh he) b c
theorem tree_anc {xs : List NodV} : ∀ (m : Nat) (n : Int) (ns : List (List UInt8)), ∀ p ∈ treeV xs m n ns, ∃ j, Anc xs n j p.2.ino ∧ hasV p.2.ino xs = true ∧ gotV p.2.ino xs = p.2
  | 0, n, ns, p, hp => by cases hp
  | m + 1, n, ns, p, hp => by
    unfold treeV at hp
    split at hp
    · rename_i hh
      obtain ⟨_, hi⟩ := got_has hh
      rcases List.mem_cons.1 hp with rfl | hp
      · exact ⟨0, by rw [hi]; exact .same, by rw [hi]; exact hh, by rw [hi]⟩
      · obtain ⟨e, he, hp⟩ := List.mem_flatMap.1 hp
        obtain ⟨j, q1, q2⟩ := tree_anc m _ _ p hp
        exact ⟨j + 1, q1.up hh he, q2⟩
    · cases hp
/-- two roads of one length to one directory begin alike -/
theorem anc_same {f : FsV} (h : okV f) {a b : Int} : ∀ (j : Nat) (d : Int), Anc f.xs a j d → Anc f.xs b j d → hasV d f.xs = true → (gotV d f.xs).kind = 2 → a = b ∧ hasV a f.xs = true ∧ (gotV a f.xs).kind = 2
  | 0, d, h1, h2, hh, hk => by
    cases h1; cases h2
    exact ⟨rfl, hh, hk⟩
  | j + 1, d, h1, h2, hh, hk => by
    obtain ⟨_, _, _, _, h4, _⟩ := okV_parts h
    cases h1 with
    | @step _ p e x y z =>
      generalize hn : e.ino = d at h2 hh hk
      cases h2 with
      | @step _ p' e' x' y' z' =>
        have hp := pair_mem y z
        have hp' := pair_mem y' z'
        rw [hn] at hp
        obtain ⟨hm, hi⟩ := got_has hh
        have hq := (h4 _ hm).2
        rw [hi, if_neg (root_unnamed h y' z')] at hq
        have := cnt_one hp hp' (hq.2 hk).1
        subst this
        exact anc_same h j p x x' y (es_dir h y z)
theorem cnt_two {xs : List NodV} {n : Int} {e e' : EntV} (hh : hasV n xs = true) (hs : [e, e'].Sublist (gotV n xs).es) (hi : e.ino = e'.ino) : 2 ≤ cntV e.ino (pairsV xs) := by
  obtain ⟨hm, hino⟩ := got_has hh
  have h1 : ([e, e'].map fun e => (e.ino, (gotV n xs).ino)).Sublist (pairN (gotV n xs) (gotV n xs).es) := hs.map _
  obtain ⟨i, hi', hx⟩ := List.getElem_of_mem hm
  have h2 : (pairN (gotV n xs) (gotV n xs).es).Sublist (pairsV xs) := by
    obtain ⟨s, t, hst⟩ := List.append_of_mem hm
    unfold pairsV
    conv => rhs; rw [hst]
    rw [List.flatMap_append, List.flatMap_cons]
    exact (List.sublist_append_left _ _).trans (List.sublist_append_right _ _)
  have h3 := ((h1.trans h2).filter fun p => p.1 == e.ino).length_le
  unfold cntV
  simpa [hi] using h3
abbrev dirsV (l : Items) : List Int := (l.filter fun p => decide (p.2.kind = 2)).map fun p => p.2.ino
theorem dirs_mem {l : Items} {d : Int} (h : d ∈ dirsV l) : ∃ p ∈ l, p.2.kind = 2 ∧ p.2.ino = d := by
  obtain ⟨p, hp, rfl⟩ := List.mem_map.1 h
  obtain ⟨h1, h2⟩ := List.mem_filter.1 hp
  exact ⟨p, h1, of_decide_eq_true h2, rfl⟩
theorem dirs_flat {α : Type} {g : α → Items} {l : List α} : dirsV (l.flatMap g) = l.flatMap fun a => dirsV (g a) := by
  induction l with
  | nil => rfl
  | cons a r ih =>
    rw [List.flatMap_cons, List.flatMap_cons, ← ih]
    unfold dirsV
    rw [List.filter_append, List.map_append]
theorem dirs_nodup {f : FsV} (h : okV f) : ∀ (m : Nat) (n : Int) (ns : List (List UInt8)), hasV n f.xs = true → (dirsV (treeV f.xs m n ns)).Nodup
  | 0, n, ns, _ => List.nodup_nil
  | m + 1, n, ns, hh => by
    obtain ⟨k, hd⟩ := all_dep h hh
    obtain ⟨_, _, _, h3, h4, _⟩ := okV_parts h
    obtain ⟨hm, hi⟩ := got_has hh
    have key : ∀ L : List EntV, L.Sublist (gotV n f.xs).es → (dirsV (L.flatMap fun e => treeV f.xs m e.ino (ns ++ [e.name]))).Nodup := by
      intro L
      induction L with
      | nil => intro _; exact List.nodup_nil
      | cons e r ih =>
        intro hs
        have he : e ∈ (gotV n f.xs).es := hs.subset List.mem_cons_self
        have hr : r.Sublist (gotV n f.xs).es := (List.sublist_cons_self e r).trans hs
        have hap : dirsV ((e :: r).flatMap fun e => treeV f.xs m e.ino (ns ++ [e.name])) = dirsV (treeV f.xs m e.ino (ns ++ [e.name])) ++ dirsV (r.flatMap fun e => treeV f.xs m e.ino (ns ++ [e.name])) := by
          rw [List.flatMap_cons]; unfold dirsV; rw [List.filter_append, List.map_append]
        rw [hap, List.nodup_append]
        refine ⟨dirs_nodup h m e.ino _ (h3 _ hm e he), ih hr, fun d hd1 d' hd2 hdd => ?_⟩
        subst hdd
        obtain ⟨p, p1, p2, rfl⟩ := dirs_mem hd1
        obtain ⟨p', p1', p2', p3'⟩ := dirs_mem hd2
        obtain ⟨e', he', p1'⟩ := List.mem_flatMap.1 p1'
        obtain ⟨j, a1, a2, a3⟩ := tree_anc m _ _ p p1
        obtain ⟨j', b1, b2, b3⟩ := tree_anc m _ _ p' p1'
        rw [p3'] at b1
        have hk : (gotV p.2.ino f.xs).kind = 2 := by rw [a3]; exact p2
        have hdep := dep_one h _ _ _ (a1.dep (.step hd hh he)) (b1.dep (.step hd hh (hr.subset he'))) a2 hk
        obtain rfl : j = j' := by omega
        obtain ⟨q1, q2, q3⟩ := anc_same h j _ a1 b1 a2 hk
        have hs2 : [e, e'].Sublist (gotV n f.xs).es := (List.Sublist.cons_cons e (List.singleton_sublist.2 he')).trans hs
        have h2 := cnt_two hh hs2 q1
        obtain ⟨hm2, hi2⟩ := got_has q2
        have hq := (h4 _ hm2).2
        rw [hi2, if_neg (root_unnamed h hh he)] at hq
        have := (hq.2 q3).1
        omega
    unfold treeV
    rw [if_pos hh]
    by_cases hk : (gotV n f.xs).kind = 2
    · have hc : dirsV ((ns, gotV n f.xs) :: (gotV n f.xs).es.flatMap fun e => treeV f.xs m e.ino (ns ++ [e.name])) = n :: dirsV ((gotV n f.xs).es.flatMap fun e => treeV f.xs m e.ino (ns ++ [e.name])) := by
        unfold dirsV
        rw [List.filter_cons_of_pos (by simpa using hk), List.map_cons, hi]
      rw [hc, List.nodup_cons]
      refine ⟨fun hmem => ?_, key _ (List.Sublist.refl _)⟩
      obtain ⟨p, p1, p2, p3⟩ := dirs_mem hmem
      obtain ⟨e, he, p1⟩ := List.mem_flatMap.1 p1
      obtain ⟨j, a1, a2, a3⟩ := tree_anc m _ _ p p1
      rw [p3] at a1
      have := dep_one h _ _ _ (a1.dep (.step hd hh he)) hd hh hk
      omega
    · have hc : dirsV ((ns, gotV n f.xs) :: (gotV n f.xs).es.flatMap fun e => treeV f.xs m e.ino (ns ++ [e.name])) = dirsV ((gotV n f.xs).es.flatMap fun e => treeV f.xs m e.ino (ns ++ [e.name])) := by
        unfold dirsV
        rw [List.filter_cons_of_neg (by simpa using hk)]
      rw [hc]
      exact key _ (List.Sublist.refl _)
end Go.Proofs.YtnjglohgjhihjaaDoor.Vcg
end
section
set_option linter.unusedVariables false
set_option linter.unusedSimpArgs false
namespace Go.Proofs.YtnjglohgjhihjaaDoor.Vcg
def sumEs (l : Items) : Nat := (l.map fun p => p.2.es.length).sum
theorem sumEs_app (a b : Items) : sumEs (a ++ b) = sumEs a + sumEs b := by unfold sumEs; rw [List.map_append, List.sum_append]
theorem tree_sum {xs : List NodV} : ∀ (m : Nat) (n : Int) (ns : List (List UInt8)), (treeV xs m n ns).length ≤ 1 + sumEs (treeV xs m n ns)
  | 0, n, ns => Nat.zero_le _
  | m + 1, n, ns => by
    unfold treeV
    split
    · have key : ∀ L : List EntV, (L.flatMap fun e => treeV xs m e.ino (ns ++ [e.name])).length ≤ L.length + sumEs (L.flatMap fun e => treeV xs m e.ino (ns ++ [e.name])) := by
        intro L
        induction L with
        | nil => exact Nat.le_refl _
        | cons e r ih =>
          rw [List.flatMap_cons, List.length_append, sumEs_app, List.length_cons]
          have := tree_sum (xs := xs) m e.ino (ns ++ [e.name])
          omega
      have := key (gotV n xs).es
      have hs : ∀ l : Items, sumEs ((ns, gotV n xs) :: l) = (gotV n xs).es.length + sumEs l := fun l => by unfold sumEs; rw [List.map_cons, List.sum_cons]
      rw [List.length_cons, hs]
      omega
    · exact Nat.zero_le _
theorem sumEs_le {l : Items} (h : ∀ p ∈ l, p.2.es.length ≤ 40 ∧ (p.2.kind ≠ 2 → p.2.es = [])) : sumEs l ≤ 40 * (dirsV l).length := by
  induction l with
  | nil => exact Nat.zero_le _
  | cons p r ih =>
    have hp := h p List.mem_cons_self
    have ih := ih fun q hq => h q (List.mem_cons_of_mem _ hq)
    unfold sumEs at ih ⊢
    rw [List.map_cons, List.sum_cons]
    unfold dirsV at ih ⊢
    by_cases hk : p.2.kind = 2
    · rw [List.filter_cons_of_pos (by simpa using hk), List.map_cons, List.length_cons]; omega
    · rw [List.filter_cons_of_neg (by simpa using hk), hp.2 hk]
      simpa using ih
theorem tree_len {f : FsV} (h : okV f) (m : Nat) (n : Int) (ns : List (List UInt8)) : (treeV f.xs m n ns).length ≤ 1601 := by
  obtain ⟨h0, _, h2, _⟩ := okV_parts h
  cases hh : hasV n f.xs with
  | false =>
    cases m with
    | zero => exact Nat.zero_le _
    | succ m => unfold treeV; rw [hh]; exact Nat.zero_le _
  | true =>
    have h1 := tree_sum (xs := f.xs) m n ns
    have hg : ∀ p ∈ treeV f.xs m n ns, p.2 ∈ f.xs := fun p hp => by
      obtain ⟨j, _, q2, q3⟩ := tree_anc m n ns p hp
      rw [← q3]; exact (got_has q2).1
    have hs := sumEs_le (l := treeV f.xs m n ns) fun p hp => ⟨(h0.2 _ (hg p hp)).2.1, fun hk => ((h2 _ (hg p hp)).2.1 hk).1⟩
    have hd := seen_len (dirs_nodup h m n ns hh) fun d hd => by
      obtain ⟨p, p1, _, rfl⟩ := dirs_mem hd
      obtain ⟨_, _, q2, _⟩ := tree_anc m n ns p p1
      exact q2
    have := h0.1
    omega
def wsum (ns : List (List UInt8)) : Nat := (ns.map fun x => x.length + 1).sum
theorem wsum_snoc (ns : List (List UInt8)) (x : List UInt8) : wsum (ns ++ [x]) = wsum ns + (x.length + 1) := by
  unfold wsum; rw [List.map_append, List.sum_append]; simp
theorem tree_names {xs : List NodV} (h0 : fewV xs) : ∀ (m : Nat) (n : Int) (ns : List (List UInt8)), ∀ p ∈ treeV xs m n ns, p.1.length ≤ ns.length + m ∧ wsum p.1 ≤ wsum ns + m * 301
  | 0, n, ns, p, hp => by cases hp
  | m + 1, n, ns, p, hp => by
    unfold treeV at hp
    split at hp
    · rename_i hh
      obtain ⟨hm, _⟩ := got_has hh
      rcases List.mem_cons.1 hp with rfl | hp
      · exact ⟨Nat.le_add_right _ _, Nat.le_add_right _ _⟩
      · obtain ⟨e, he, hp⟩ := List.mem_flatMap.1 hp
        obtain ⟨q1, q2⟩ := tree_names h0 m _ _ p hp
        have := (h0.2 _ hm).2.2 e he
        rw [wsum_snoc] at q2
        rw [List.length_append, List.length_singleton] at q1
        exact ⟨by omega, by omega⟩
    · cases hp
theorem join_wsum (ns : List (List UInt8)) : (Lib.join ns [47]).length ≤ wsum ns := by
  by_cases h : ns = []
  · subst h; exact Nat.zero_le _
  · have := join_len ns h
    unfold wsum; omega
theorem start_ok {f : FsV} (h : okV f) (n : Int) (ns : List (List UInt8)) (h1 : ns.length ≤ 100000) (h2 : wsum ns ≤ 100000) : StartOk (trV f.xs) n ns := by
  obtain ⟨h0, _⟩ := okV_parts h
  refine ⟨Nat.le_trans (tree_len h _ n ns) (by decide), fun p hp => ?_⟩
  obtain ⟨q1, q2⟩ := tree_names h0 _ n ns p hp
  have := join_wsum p.1
  have := h0.1
  exact ⟨by omega, by omega⟩
theorem list_len {f : FsV} (h : okV f) : (listV f.xs).length ≤ 1000000 := by
  rw [list_tree h, List.length_map]
  exact Nat.le_trans (tree_len h _ 1 []) (by decide)
end Go.Proofs.YtnjglohgjhihjaaDoor.Vcg
end
section
set_option linter.unusedVariables false
set_option maxRecDepth 100000
set_option linter.unusedSimpArgs false
namespace Go.Proofs.YtnjglohgjhihjaaDoor.Vcg
open Go.RowKit
abbrev s8r : NodV := ⟨1, 2, 0, [], 1, [⟨[100], 3⟩]⟩
abbrev s8d : NodV := ⟨3, 2, 1, [], 1, [⟨[102], 4⟩]⟩
abbrev s8f : NodV := ⟨4, 1, 1, [], 0, []⟩
abbrev s8 : FsV := ⟨9, 9, 9, [s8r, s8d, s8f]⟩
theorem s8_ok : okV s8 := of_decide_eq_true (by kernel_rfl)
theorem s8_list : (trV s8.xs 1 []).map seen1 = [⟨[47], 1⟩, ⟨[47, 100], 3⟩, ⟨[47, 100, 47, 102], 4⟩] := by kernel_rfl
set_option maxHeartbeats 1000000 in
theorem small8_fun : Fun Tryd.prog G0 46 [] (.agg [.sc (.int .i64 9), .sc (.int .i64 9), .sc (.int .i64 9), .own 0 41 6 (nodsC s8.xs)]) 1 := by
  refine Fun.of (fun _ => []) (by kernel_rfl) Tryd.func46 rfl rfl (Nat.le_of_ble_eq_true rfl) (by kernel_rfl) ?_; dsimp only [Tryd.f46, List.append_eq, List.cons_append, List.nil_append]
  simp -dsimp only [push_cast, seval]
  (first | refine call (rnew_fun 9 9) ?_ | refine callP (rnew_fun 9 9) ?_); simp -dsimp only [push_cast, seval]
  have h1 := rset_fun (G := G0) ⟨9, 9, 9, [⟨1, 2, 0, [], 1, []⟩]⟩ s8r (by decide)
  rw [show setV s8r [⟨1, 2, 0, [], 1, []⟩] = [s8r] from rfl] at h1
  (first | refine call (h1) ?_ | refine callP (h1) ?_); simp -dsimp only [push_cast, seval]
  have h2 := rset_fun (G := G0) ⟨9, 9, 9, [s8r]⟩ s8d (by decide)
  rw [show setV s8d [s8r] = [s8r, s8d] from rfl] at h2
  (first | refine call (h2) ?_ | refine callP (h2) ?_); simp -dsimp only [push_cast, seval]
  have h3 := rset_fun (G := G0) ⟨9, 9, 9, [s8r, s8d]⟩ s8f (by decide)
  rw [show setV s8f [s8r, s8d] = [s8r, s8d, s8f] from rfl] at h3
  refine call (Fun.less h3 (by simp -dsimp only [WeakTm, WeakBx, CLe, CLeL, push_cast, seval])) ?_
  simp -dsimp only [push_cast, seval]
  exact ⟨[.inl 5], rfl, rfl, by simp -dsimp only [WeakTm, WeakBx, CLe, CLeL, push_cast, seval]⟩
set_option maxHeartbeats 1000000 in
theorem awake8 : Fun Tryd.prog G0 13 [] (boolC true) 0 := by
  have hw := walk_ok s8_ok
  have hs : ∀ n ns, ns.length ≤ 100000 → wsum ns ≤ 100000 → StartOk (trV s8.xs) n ns := fun n ns => start_ok s8_ok n ns
  have h1 := wlist_fun s8 _ hw (hs 1 [] (by decide) (by decide))
  rw [s8_list] at h1
  have h2 := wpathOf_fun s8 3 _ hw (hs 1 [] (by decide) (by decide))
  rw [show wdirV 3 (trV s8.xs 1 []) = some [47, 100] by kernel_rfl, Option.getD_some, Option.isSome_some] at h2
  have h3 := wpathOf_fun s8 4 _ hw (hs 1 [] (by decide) (by decide))
  rw [show wdirV 4 (trV s8.xs 1 []) = none by kernel_rfl, Option.getD_none, Option.isSome_none] at h3
  have h4 := wpaths_fun s8 4 _ hw (hs 1 [] (by decide) (by decide))
  rw [show wpathsV 4 (trV s8.xs 1 []) = [[47, 100, 47, 102]] by kernel_rfl] at h4
  have h5 := wbelow_fun s8 _ 3 [47, 120] (by decide) hw (hs 3 _ (by decide +kernel) (by decide +kernel))
  rw [show (trV s8.xs 3 (names [47, 120])).map seen1 = [⟨[47, 120], 3⟩, ⟨[47, 120, 47, 102], 4⟩] by kernel_rfl] at h5
  have h6 := wbelow_fun s8 _ 7 [47] (by decide) hw (hs 7 _ (by decide +kernel) (by decide +kernel))
  rw [show (trV s8.xs 7 (names [47])).map seen1 = [] by kernel_rfl] at h6
  have h7 := sees_fun (G := G0) [⟨[47], 1⟩, ⟨[47, 100], 3⟩, ⟨[47, 100, 47, 102], 4⟩] [⟨[47], 1⟩, ⟨[47, 100], 3⟩, ⟨[47, 100, 47, 102], 4⟩] (by decide) (by decide)
  rw [show decide (([⟨[47], 1⟩, ⟨[47, 100], 3⟩, ⟨[47, 100, 47, 102], 4⟩] : List SeeV) = [⟨[47], 1⟩, ⟨[47, 100], 3⟩, ⟨[47, 100, 47, 102], 4⟩]) = true from rfl] at h7
  refine Fun.of (fun _ => []) (by kernel_rfl) Tryd.func13 rfl rfl (Nat.le_of_ble_eq_true rfl) (by kernel_rfl) ?_; dsimp only [Tryd.f13, List.append_eq, List.cons_append, List.nil_append]
  simp -dsimp only [push_cast, seval]
  (first | refine call (small8_fun) ?_ | refine callP (small8_fun) ?_); simp -dsimp only [push_cast, seval]
  (first | refine call (h1) ?_ | refine callP (h1) ?_); simp -dsimp only [push_cast, seval]
  (first | refine call (h2) ?_ | refine callP (h2) ?_); simp -dsimp only [push_cast, seval]
  (first | refine call (h3) ?_ | refine callP (h3) ?_); simp -dsimp only [push_cast, seval]
  (first | refine call (h4) ?_ | refine callP (h4) ?_); simp -dsimp only [push_cast, seval]
  (first | refine call (h7) ?_ | refine callP (h7) ?_); simp -dsimp only [push_cast, seval]
  (try simp only [List.length_append, List.length_cons, List.length_nil, List.length_map, List.length_take, List.length_drop]); repeat (refine And.intro (by omega) ?_)
  (first | refine call (h5) ?_ | refine callP (h5) ?_); simp -dsimp only [push_cast, seval]
  (first | refine call (h6) ?_ | refine callP (h6) ?_); simp -dsimp only [push_cast, seval]
  exact ⟨[], rfl, rfl, by simp -dsimp only [WeakTm, WeakBx, CLe, CLeL, push_cast, seval]⟩
end Go.Proofs.YtnjglohgjhihjaaDoor.Vcg
end
section
set_option linter.unusedVariables false
set_option linter.unusedSimpArgs false
namespace Go.Proofs.YtnjglohgjhihjaaDoor.Vcg
/-- what stands in what is come to is come to, where there is fuel -/
theorem tree_child {xs : List NodV} : ∀ (m : Nat) (n : Int) (ns : List (List UInt8)) (j : Nat) (d : Int), Anc xs n j d → j < m → hasV n xs = true → (∀ x ∈ xs, ∀ e ∈ x.es, hasV e.ino xs = true) → ∃ p ∈ treeV xs m n ns, p.2.ino = d
  | 0, n, ns, j, d, ha, hj, hh, h3 => by omega
  | m + 1, n, ns, 0, d, ha, hj, hh, h3 => by
    cases ha
    obtain ⟨_, hi⟩ := got_has hh
    refine ⟨(ns, gotV n xs), ?_, hi⟩
    unfold treeV
    rw [if_pos hh]
    exact List.mem_cons_self
  | m + 1, n, ns, j + 1, d, ha, hj, hh, h3 => by
    have key : ∀ (j : Nat) (d : Int), Anc xs n (j + 1) d → ∃ e ∈ (gotV n xs).es, Anc xs e.ino j d := by
      intro j
      induction j with
      | zero =>
        intro d ha
        cases ha with
        | step a b c => cases a; exact ⟨_, c, .same⟩
      | succ j ih =>
        intro d ha
        cases ha with
        | step a b c =>
          obtain ⟨e, he, h⟩ := ih _ a
          exact ⟨e, he, .step h b c⟩
    obtain ⟨e, he, h⟩ := key j d ha
    obtain ⟨hm, _⟩ := got_has hh
    obtain ⟨p, p1, p2⟩ := tree_child m e.ino (ns ++ [e.name]) j d h (by omega) (h3 _ hm e he) h3
    refine ⟨p, ?_, p2⟩
    unfold treeV
    rw [if_pos hh]
    exact List.mem_cons_of_mem _ (List.mem_flatMap.2 ⟨e, he, p1⟩)
theorem dep_anc {xs : List NodV} : ∀ {k : Nat} {n : Int}, Dep xs k n → Anc xs 1 k n
  | _, _, .root => .same
  | _, _, .step a b c => .step (dep_anc a) b c
theorem all_in {f : FsV} (h : okV f) {n : Int} (hh : hasV n f.xs = true) : ∃ p ∈ trV f.xs 1 [], p.2.ino = n := by
  obtain ⟨_, h1, _, h3, _⟩ := okV_parts h
  obtain ⟨k, hk, hd⟩ := dep_le h hh
  exact tree_child _ 1 [] k n (dep_anc hd) (by omega) h1.2.2.2.2.2.2.2.1 h3
theorem items_got {f : FsV} {m : Nat} {n : Int} {ns : List (List UInt8)} {p : List (List UInt8) × NodV} (hp : p ∈ treeV f.xs m n ns) : hasV p.2.ino f.xs = true ∧ gotV p.2.ino f.xs = p.2 := by
  obtain ⟨_, _, q⟩ := tree_anc m n ns p hp
  exact q
/-- one item of a directory -/
theorem dir_once : ∀ {l : Items} {n : Int}, (dirsV l).Nodup → (∀ p ∈ l, p.2.ino = n → p.2.kind = 2) → (∃ p ∈ l, p.2.ino = n) → ∃ p, l.filter (fun p => decide (p.2.ino = n)) = [p]
  | [], n, _, _, ⟨p, hp, _⟩ => by cases hp
  | q :: l, n, hn, hk, hex => by
    have hk' : ∀ p ∈ l, p.2.ino = n → p.2.kind = 2 := fun p hp => hk p (List.mem_cons_of_mem _ hp)
    by_cases hq : q.2.ino = n
    · have hk2 := hk q List.mem_cons_self hq
      have hc : dirsV (q :: l) = q.2.ino :: dirsV l := by
        unfold dirsV; rw [List.filter_cons_of_pos (by simpa using hk2), List.map_cons]
      rw [hc, List.nodup_cons, hq] at hn
      have he : l.filter (fun p => decide (p.2.ino = n)) = [] := by
        rw [List.filter_eq_nil_iff]
        intro p hp hpn
        have hpn := of_decide_eq_true hpn
        refine hn.1 ?_
        exact List.mem_map.2 ⟨p, List.mem_filter.2 ⟨hp, by simpa using hk' p hp hpn⟩, hpn⟩
      exact ⟨q, by rw [List.filter_cons_of_pos (by simpa using hq), he]⟩
    · have hn' : (dirsV l).Nodup := by
        unfold dirsV at hn ⊢
        by_cases hk2 : q.2.kind = 2
        · rw [List.filter_cons_of_pos (by simpa using hk2), List.map_cons, List.nodup_cons] at hn; exact hn.2
        · rw [List.filter_cons_of_neg (by simpa using hk2)] at hn; exact hn
      obtain ⟨p, hp, hpn⟩ := hex
      have hpl : p ∈ l := by
        rcases List.mem_cons.1 hp with rfl | hp
        · exact absurd hpn hq
        · exact hp
      obtain ⟨p', h⟩ := dir_once hn' hk' ⟨p, hpl, hpn⟩
      exact ⟨p', by rw [List.filter_cons_of_neg (by simpa using hq)]; exact h⟩
theorem dir_paths {f : FsV} (h : okV f) {n : Int} (hh : hasV n f.xs = true) (hk : (gotV n f.xs).kind = 2) : ∃ p, wpathsV n (trV f.xs 1 []) = [p] ∧ wdirV n (trV f.xs 1 []) = some p := by
  obtain ⟨_, h1, _⟩ := okV_parts h
  have hkk : ∀ p ∈ trV f.xs 1 [], p.2.ino = n → p.2.kind = 2 := fun p hp hpn => by
    obtain ⟨_, q⟩ := items_got hp
    rw [hpn] at q; rw [← q]; exact hk
  obtain ⟨p, hp⟩ := dir_once (dirs_nodup h _ 1 [] h1.2.2.2.2.2.2.2.1) hkk (all_in h hh)
  refine ⟨joinP p.1, by unfold wpathsV; rw [hp]; rfl, ?_⟩
  unfold wdirV
  have he : (fun q : List (List UInt8) × NodV => decide (q.2.ino = n) && decide (q.2.kind = 2)) = fun q => decide (q.2.ino = n) && decide (q.2.kind = 2) := rfl
  rw [← List.head?_filter]
  have hf : (trV f.xs 1 []).filter (fun q => decide (q.2.ino = n) && decide (q.2.kind = 2)) = (trV f.xs 1 []).filter fun q => decide (q.2.ino = n) := by
    refine List.filter_congr fun q hq => ?_
    by_cases hqn : q.2.ino = n
    · simp [hqn, hkk q hq hqn]
    · simp [hqn]
  rw [hf, hp]; rfl
theorem dir_none {f : FsV} (h : okV f) {n : Int} (hk : ¬ (hasV n f.xs = true ∧ (gotV n f.xs).kind = 2)) : wdirV n (trV f.xs 1 []) = none := by
  unfold wdirV
  rw [Option.map_eq_none_iff, List.find?_eq_none]
  intro p hp hc
  simp only [Bool.and_eq_true, decide_eq_true_eq] at hc
  obtain ⟨q1, q2⟩ := items_got hp
  rw [hc.1] at q1 q2
  exact hk ⟨q1, by rw [q2]; exact hc.2⟩
end Go.Proofs.YtnjglohgjhihjaaDoor.Vcg
end
section
set_option linter.unusedVariables false
set_option maxRecDepth 100000
set_option linter.unusedSimpArgs false
namespace Go.Proofs.YtnjglohgjhihjaaDoor.Vcg
open Go.RowKit
set_option maxHeartbeats 1000000 in
theorem walkLeft_fun (f : FsV) (q : Nat) (hq : q < 256) : Fun Tryd.prog G0 5 [.agg (fsC f), .sc (.int .u8 q)] (boolC true) 0 := by
  refine Fun.of (fun i => if i = 11 then lateB 7 8 else []) (by kernel_rfl) Tryd.func5 rfl rfl (Nat.le_of_ble_eq_true rfl) (by kernel_rfl) ?_; dsimp only [Tryd.f5, List.append_eq, List.cons_append, List.nil_append]
  simp -dsimp only [push_cast, seval]
  by_cases h : okV f
  case neg =>
    (first | refine call (awake8) ?_ | refine callP (awake8) ?_); simp -dsimp only [push_cast, seval]
    (first | refine call (ok_fun f) ?_ | refine callP (ok_fun f) ?_); simp -dsimp only [push_cast, seval, decide_eq_false h]
    (first | refine call (awake8) ?_ | refine callP (awake8) ?_); simp -dsimp only [push_cast, seval]
    exact ⟨[], rfl, rfl, by simp -dsimp only [WeakTm, WeakBx, CLe, CLeL, push_cast, seval]⟩
  have h0 := (okV_parts h).1
  have h40 := h0.1
  have hw := walk_ok h
  have hs := start_ok h 1 [] (by decide) (by decide)
  have hr := list_fun (G := G0) f h0 (list_len h)
  rw [list_tree h] at hr
  have hlen := hs.len
  have hall := all_fun f
  have hit := walk_it hw hs
  have hgot : ∀ p ∈ trV f.xs 1 [], hasV p.2.ino f.xs = true ∧ gotV p.2.ino f.xs = p.2 := fun p hp => items_got hp
  (first | refine call (awake8) ?_ | refine callP (awake8) ?_); simp -dsimp only [push_cast, seval]
  (first | refine call (ok_fun f) ?_ | refine callP (ok_fun f) ?_); simp -dsimp only [push_cast, seval, decide_eq_true h]
  generalize trV f.xs 1 [] = l at hr hlen hit hgot
  have hll : (seesC (l.map seen1)).length = l.length := by simp
  have hsame := sees_fun (G := G0) ((l.take q).map seen1) ((l.take q).map seen1) (by simp; omega) (by simp; omega)
  rw [decide_eq_true rfl] at hsame
  have hcut : ((seesC (l.map seen1)).take q) = seesC ((l.take q).map seen1) := by simp
  have hsame2 : Fun Tryd.prog G0 16 [.sl 2 (seesC ((l.take q).map seen1)), .sl 2 ((seesC (l.map seen1)).take q)] (.sc (.bool true)) 0 := by rw [hcut]; exact hsame
  refine loop (fun k : Nat => ⟨[(2, .ptr 0 0), (3, .ptr 1 0), (4, .ptr 2 0), (5, .sc (.int .i64 k))], [fsC f, [.sc (.int .u8 q)], [.any]], 0, 0⟩) (fun k => k ≤ 2) (fun k => 2 - k) 0 (by decide) ?_ ?_
  · exact Weak.mk [] rfl rfl (Nat.zero_le _) rfl (by simp -dsimp only [WeakTm, WeakBx, CLe, CLeL, push_cast, seval]) (by simp -dsimp only [WeakTm, WeakBx, CLe, CLeL, push_cast, seval])
  · intro k hk
    by_cases hk2 : k < 2
    · have hk3 : ((k : Int) < 2) = True := eq_true (by omega)
      simp -dsimp only [push_cast, seval, hk3]
      (first | refine call (hall) ?_ | refine callP (hall) ?_); simp -dsimp only [push_cast, seval]
      refine range (itemsC l) (fun j => decide (j = q)) 4 (fun j => ⟨[], [fsC f, [.sc (.int .u8 q)], [.any], [.own 0 51 2 (seesC ((l.take j).map seen1))]], 1, 0⟩) hit (by simp -dsimp only [push_cast, seval]) (by simp -dsimp only [push_cast, seval]) (by simp -dsimp only [push_cast, seval]) (Nat.zero_le _) (by simp -dsimp only [push_cast, seval]) (fun it h => ?_) (fun k _ => rfl) ?_ (fun j it hj hsf => ?_) (fun hsf => ?_)
      · obtain ⟨x, _, rfl⟩ := List.mem_map.1 h; rfl
      · exact Weak.mk [.inr (51, 2)] rfl rfl (Nat.le_of_ble_eq_true rfl) rfl (by simp -dsimp only [WeakTm, WeakBx, CLe, CLeL, push_cast, seval]) (by simp -dsimp only [WeakTm, WeakBx, CLe, CLeL, push_cast, seval])
      · obtain ⟨x, hx2, rfl⟩ := item_get hj
        have hjl : j < l.length := (List.getElem?_eq_some_iff.1 hx2).1
        have hjq : ¬ q < j := fun hlt => by
          have := hsf q hlt
          simp at this
        have hlj : (seesC ((l.take j).map seen1)).length = j := by simp; omega
        by_cases hjq2 : j = q
        · subst hjq2
          simp -dsimp only [push_cast, seval, hlj]
          refine ⟨⟨by omega, by omega⟩, ⟨[], [fsC f, [.sc (.int .u8 j)], [.any], [.own 0 51 2 (seesC ((l.take j).map seen1))]], 1, 0⟩, rfl, Weak.mk [.inl 0] rfl rfl (Nat.le_of_ble_eq_true rfl) rfl (by simp -dsimp only [WeakTm, WeakBx, CLe, CLeL, push_cast, seval]) (by simp -dsimp only [WeakTm, WeakBx, CLe, CLeL, push_cast, seval]), ?_⟩
          simp -dsimp only [push_cast, seval]
          (first | refine call (hr) ?_ | refine callP (hr) ?_); simp -dsimp only [push_cast, seval, hll]
          have hjt : (j < l.length) = True := eq_true hjl
          simp -dsimp only [push_cast, seval, hll, hjt]
          (try simp only [List.length_append, List.length_cons, List.length_nil, List.length_map, List.length_take, List.length_drop]); repeat (refine And.intro (by omega) ?_)
          (first | refine call (hsame2) ?_ | refine callP (hsame2) ?_); simp -dsimp only [push_cast, seval]
          exact ⟨⟨by omega, by omega⟩, k + 1, hk2, by omega, Weak.mk [] rfl rfl (Nat.zero_le _) rfl (by simp -dsimp only [WeakTm, WeakBx, CLe, CLeL, push_cast, seval]) (by simp -dsimp only [WeakTm, WeakBx, CLe, CLeL, push_cast, seval])⟩
        · have hjq3 : ((j : Int) = q) = False := eq_false (by omega)
          simp -dsimp only [push_cast, seval, hlj, hjq3]
          have hm := List.mem_of_getElem? hx2
          obtain ⟨g1, g2⟩ := hgot x hm
          have h1 := rget_fun (G := G0) f x.2.ino (by omega)
          rw [g1, g2] at h1
          refine ⟨⟨by omega, by omega⟩, ?_⟩
          (first | refine call (h1) ?_ | refine callP (h1) ?_); simp -dsimp only [push_cast, seval]
          have hxm : x.2 ∈ f.xs := by have := (got_has g1).1; rw [g2] at this; exact this
          have h2 := one_fun (G := G0) x.2 x.2 (by have := (h0.2 _ hxm).2.1; omega)
          rw [decide_eq_true rfl] at h2
          (first | refine call (h2) ?_ | refine callP (h2) ?_); simp -dsimp only [push_cast, seval]
          rw [hlj]
          refine ⟨by omega, by omega, by simp [hjq2], Weak.mk [.inl 0] rfl rfl (Nat.le_of_ble_eq_true rfl) rfl (by simp -dsimp only [WeakTm, WeakBx, CLe, CLeL, push_cast, seval]) ?_⟩
          simp -dsimp only [WeakTm, WeakBx, CLe, CLeL, push_cast, seval]
          rw [List.take_add_one, hx2]
          simp
      · have hlq : l.length ≤ q := by
          refine Nat.not_lt.1 fun hlt => ?_
          have := hsf q (by simpa using hlt)
          simp at this
        have hlq2 : (q < l.length) = False := eq_false (by omega)
        have hlt : l.take (itemsC l).length = l := by rw [List.take_of_length_le (by simp)]
        have hlt2 : l.take q = l := List.take_of_length_le hlq
        rw [hlt2] at hsame
        simp -dsimp only [push_cast, seval, hlt]
        (first | refine call (hr) ?_ | refine callP (hr) ?_); simp -dsimp only [push_cast, seval, hll, hlq2]
        (try simp only [List.length_append, List.length_cons, List.length_nil, List.length_map, List.length_take, List.length_drop]); repeat (refine And.intro (by omega) ?_)
        (first | refine call (hsame) ?_ | refine callP (hsame) ?_); simp -dsimp only [push_cast, seval]
        exact ⟨⟨by omega, by omega⟩, k + 1, hk2, by omega, Weak.mk [] rfl rfl (Nat.zero_le _) rfl (by simp -dsimp only [WeakTm, WeakBx, CLe, CLeL, push_cast, seval]) (by simp -dsimp only [WeakTm, WeakBx, CLe, CLeL, push_cast, seval])⟩
    · have hk3 : ((k : Int) < 2) = False := eq_false (by omega)
      simp -dsimp only [push_cast, seval, hk3]
      exact ⟨[], rfl, rfl, by simp -dsimp only [WeakTm, WeakBx, CLe, CLeL, push_cast, seval]⟩
theorem walkLeft_any (f : FsV) (n : Int) (hw : (Lit.int .u8 n).wf = true) : Fun Tryd.prog G0 5 [.agg (fsC f), .sc (.int .u8 n)] (boolC true) 0 := by
  have h : 0 ≤ n ∧ n ≤ 255 := by simpa [Lit.wf, IntKind.min, IntKind.max, IntKind.signed, IntKind.bits] using hw
  obtain ⟨q, rfl⟩ : ∃ q : Nat, n = (q : Int) := ⟨n.toNat, by omega⟩
  exact walkLeft_fun f q (by omega)
end Go.Proofs.YtnjglohgjhihjaaDoor.Vcg
end
section
set_option linter.unusedVariables false
namespace Go.Proofs.YtnjglohgjhihjaaDoor.PWalkLeft
open Go.ChangeShapes Go.WideShapes Go.ChangeAt Go.RowKit Vcg
theorem own : ownKnob Tryd.prog.godebug = none := by kernel_rfl
theorem laidOut : laidOutB Tryd.prog = true := by kernel_rfl
set_option maxRecDepth 100000 in
theorem contract (H : Type) (enc : TypeId × Value → H) (W : World) (base : Nat) (args : Array Value) (ds gs : List (DataW H)) (before : List MemPlace)
    (hval : ∀ (j : Nat) t v, Tryd.f5.params[j]? = some t → args[j]? = some v → Value.okWide Tryd.prog W .any base t v)
    (hW : DataW.Whole enc Tryd.prog Tryd.f5.params.toList Rows.walkLeftSpec.vars false W args.toList ds gs before) (hL : laidMetH Tryd.prog Rows.walkLeftRow.laid W) :
    Calls Tryd.prog 5 args W fun e W' => ∃ v, e = .returned v ∧ Rows.walkLeftSpec.post enc Tryd.prog Tryd.f5 false true false false W args v W' := by
  have hW' := hW
  obtain ⟨p, q, hA0, hV, rfl, hfz, hnd⟩ := hW
  have hA : DataW.TrodAll enc Tryd.prog W 0 (fun _ => true) true Tryd.f5.params.toList args.toList ds p := hA0
  rw [Tryd.params5] at hA hval
  obtain ⟨v0, vs0, d0, ds0, p0, q0, hargs, rfl, rfl, h0, r0⟩ := trodAll_cons hA
  obtain ⟨v1, vs1, d1, ds1, p1, q1, rfl, rfl, rfl, h1, r1⟩ := trodAll_cons r0
  obtain ⟨rfl, rfl, rfl⟩ := trodAll_nil r1
  obtain rfl : args = #[v0, v1] := by cases args; simp_all
  obtain ⟨rfl, rfl⟩ := trodVars_none hV
  have lt0 : ∀ x ∈ p0, x.block < W.heap.size := by obtain ⟨m, hm⟩ := h0; exact DataW.trod_lt m _ _ _ hm
  have lt1 : ∀ x ∈ p1, x.block < W.heap.size := by obtain ⟨m, hm⟩ := h1; exact DataW.trod_lt m _ _ _ hm
  obtain ⟨row0, ⟨a0, rfl, w0⟩, rep0⟩ := OpnRow.arg opn_fs Tryd.underlying24 (hval 0 24 v0 rfl rfl) h0
  obtain ⟨n1, hn1⟩ := okWide_int Tryd.underlying5 (hval 1 5 v1 rfl rfl)
  obtain ⟨_, ⟨a1, rfl, w1⟩, rep1⟩ := Opn.arg (r := .any) (b0 := base) (Opn.int Tryd.underlying5) (by rw [hn1]; rfl) h1
  clear hA0
  refine (Fun.answers (walkLeft_any a0 a1 w1) (globOk_any (fun _ => rfl) _) (repL_cons.2 ⟨_, _, rfl, rep0, repL_cons.2 ⟨_, _, rfl, rep1, repL_nil.2 rfl⟩⟩)).mono fun e W' ⟨he, bel⟩ => ?_
  subst he
  exact ⟨_, rfl, _, _, _, [], _, [], hW', trodAll_mk1 (shut_bool Tryd.underlying4 _), (trodAll_cons_mk (Below.trod laidOut (by kernel_rfl) (of_decide_eq_true (by kernel_rfl)) h0 bel lt0) (trodAll_cons_mk (Below.trod laidOut (by kernel_rfl) (of_decide_eq_true (by kernel_rfl)) h1 bel lt1) trodAll_mk0)), rfl, bel.frame _, fun h => by cases h⟩
set_option maxRecDepth 100000 in
theorem lifted (os : Os) (started : os.Started) (H : Type) (enc : TypeId × Value → H) :
    ReturnsInHanded {} Tryd.checked os 5 .any (fun w args => (Rows.walkLeftSpec.pre enc Tryd.prog Tryd.f5 Rows.walkLeftRow.domain false w args ∧ laidMetH Tryd.prog Rows.walkLeftRow.laid w) ∧ sizedMet enc Tryd.prog Tryd.f5 (OpenSpec.ofChange Rows.walkLeftSpec) false w args)
      (Rows.walkLeftSpec.post enc Tryd.prog Tryd.f5 false true false false) := by
  refine returnsInHanded_of_change_and (C := Tryd.checked) (X := fun w _ => laidMetH Tryd.prog Rows.walkLeftRow.laid w) (fun _ _ _ hh h => h.of_heap hh) own started (by kernel_rfl) Tryd.func5
    (ChangeSpec.witness_shaped (enc := enc) (C := Tryd.checked) (os := os) (X := fun w _ => laidMetH Tryd.prog Rows.walkLeftRow.laid w) false (World.laidAll Tryd.prog os Rows.walkLeftRow.laid) #[.agg #[.int .i64 0, .int .i64 0, .int .i64 0, .slice none 0 0], .int .u8 0] 8 (World.laidAll_os _ _ _)
      (World.shaped_of_ZipB (by kernel_rfl) (by kernel_rfl)) (by kernel_rfl) (by kernel_rfl) (by kernel_rfl)
      (by rw [MakeChecks.laidMetH_plain _ _ _ (by kernel_rfl)]; exact laidMet_laidAll _ (by kernel_rfl) (by kernel_rfl))) ?_
  intro W base args ds gs before hval hW _ _ hL _
  exact contract H enc W base args ds gs before hval hW hL
theorem said : Rows.WalkLeftSaid :=
  OpenClaim.holds_of_wide 5 Tryd.f5 rfl rfl rfl rfl rfl rfl rfl ⟨rfl, rfl, rfl, rfl, rfl⟩ rfl rfl rfl rfl rfl (by kernel_rfl) Tryd.func5 (by kernel_rfl)
    (of_decide_eq_true (by kernel_rfl)) (by unfold Func.isWrapper; first | (rw [if_pos (by decide +kernel)]; kernel_rfl) | (rw [if_neg (by decide +kernel)]; exact ⟨rfl, rfl⟩))
    (fun os started H enc _ => lifted os started H enc)
theorem plain (f : FuncId) (fn : Func) (hf : Tryd.pinned.checked.prog.funcNamed "drayman/draymanlaw08.WalkLeft" = some f) (hfn : Tryd.pinned.checked.prog.funcs[f]? = some fn) :
    false = Tryd.pinned.checked.prog.looks [] ∧ ∀ (j : Nat) t, fn.params[j]? = some t → Tryd.pinned.checked.prog.wantsStandIn t = false := by
  obtain rfl : f = 5 := Option.some.inj ((show Tryd.prog.funcNamed "drayman/draymanlaw08.WalkLeft" = some 5 by kernel_rfl).symm.trans hf) |>.symm
  obtain rfl : fn = Tryd.f5 := (Option.some.inj (Tryd.func5.symm.trans hfn)).symm
  exact ⟨by kernel_rfl, fun j t ht => by
    rw [Tryd.params5] at ht
    have hm : t ∈ [24, 5] := by simpa using Array.mem_of_getElem? ht
    have hall : ([24, 5].all fun u => !Tryd.prog.wantsStandIn u) = true := by kernel_rfl
    exact (show Tryd.prog.wantsStandIn t = false by simpa using List.all_eq_true.1 hall t hm)⟩
theorem card : Rows.WalkLeftCardSaid :=
  Claim7.holds_tied_plain_at .later [] _ _ _ _ said (fun _ h => by cases h) (by kernel_rfl) (fun _ h => by cases h) walkLeft_row_tie rfl ⟨rfl, rfl⟩ (by kernel_rfl) rfl plain (by kernel_rfl)
theorem proved : Rows.WalkLeftCardSaid := card
end Go.Proofs.YtnjglohgjhihjaaDoor.PWalkLeft
end
