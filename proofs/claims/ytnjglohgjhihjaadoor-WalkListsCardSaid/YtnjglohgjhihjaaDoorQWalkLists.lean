/- The statement of WalkLists is proved: for every input the law answers true, and each argument reads behind the call as it read before. Condition: none but what the row itself prints. -/
import Derived.Test.YtnjglohgjhihjaaDoorWalkListsKd
import Derived.Test.YtnjglohgjhihjaaDoorCards
import Derived.Test.YtnjglohgjhihjaaDoorTie
import Derived.WalkKit
import Derived.ProofKit
import Derived.OpenShut
import Derived.ShutString
import Derived.ChangeOld
import Derived.Below
import Derived.LaidMore
import Derived.Lay
import Derived.SevenTiedAt
import Derived.Stop.Joined
section
set_option linter.unusedVariables false
set_option linter.unusedSimpArgs false
namespace Go.Proofs.YtnjglohgjhihjaaDoor.Vcg
/-- n is come to by k steps from the root -/
inductive Dep (xs : List NodV) : Nat → Int → Prop
  | root : Dep xs 0 1
  | step {k : Nat} {n : Int} {e : EntV} : Dep xs k n → hasV n xs = true → e ∈ (gotV n xs).es → Dep xs (k + 1) e.ino
theorem okV_parts {f : FsV} (h : okV f) : fewV f.xs ∧ firstV f ∧ secondV f ∧ thirdV f ∧ fourthV f ∧ fifthV f ∧ fitsV f := by
  obtain ⟨h0, h⟩ := h
  unfold checkV at h
  refine ⟨h0, ?_⟩
  split at h
  · split at h
    · split at h
      · split at h
        · split at h
          · split at h
            · exact ⟨by assumption, by assumption, by assumption, by assumption, by assumption, by assumption⟩
            · cases h
          · cases h
        · cases h
      · cases h
    · cases h
  · cases h
theorem addV_mem {es : List EntV} : ∀ {S : List Int} {n : Int}, n ∈ addV S es ↔ n ∈ S ∨ ∃ e ∈ es, e.ino = n := by
  induction es with
  | nil => intro S n; simp [addV]
  | cons e r ih =>
    intro S n
    show n ∈ addV (addOne S e.ino) r ↔ _
    rw [ih, addOne_mem]
    constructor
    · rintro ((h | h) | ⟨e', he, h⟩)
      · exact .inl h
      · exact .inr ⟨e, List.mem_cons_self, h.symm⟩
      · exact .inr ⟨e', List.mem_cons_of_mem _ he, h⟩
    · rintro (h | ⟨e', he, h⟩)
      · exact .inl (.inl h)
      · rcases List.mem_cons.1 he with rfl | he
        · exact .inl (.inr h.symm)
        · exact .inr ⟨e', he, h⟩
theorem addV_seen {xs : List NodV} {es : List EntV} : ∀ {S : List Int}, SeenOk xs S → (∀ e ∈ es, hasV e.ino xs = true) → SeenOk xs (addV S es) := by
  induction es with
  | nil => intro S h _; exact h
  | cons e r ih => intro S h he; exact ih (h.one (he e List.mem_cons_self)) fun e' h' => he e' (List.mem_cons_of_mem _ h')
theorem seenV_ok {xs : List NodV} (h3 : ∀ x ∈ xs, ∀ e ∈ x.es, hasV e.ino xs = true) : ∀ (m i : Nat) (S : List Int), SeenOk xs S → (∀ n ∈ S, ∃ k, Dep xs k n) → SeenOk xs (seenV xs m i S) ∧ ∀ n ∈ seenV xs m i S, ∃ k, Dep xs k n
  | 0, i, S, h, hd => by unfold seenV; exact ⟨h, hd⟩
  | m + 1, i, S, h, hd => by
    unfold seenV
    split
    · rename_i n hn
      have hmem := List.mem_of_getElem? hn
      have hh := h.has n hmem
      obtain ⟨hm, _⟩ := got_has hh
      obtain ⟨k, hk⟩ := hd n hmem
      refine seenV_ok h3 m (i + 1) _ (addV_seen h fun e he => h3 _ hm e he) fun n' hn' => ?_
      rcases addV_mem.1 hn' with h' | ⟨e, he, rfl⟩
      · exact hd n' h'
      · exact ⟨k + 1, .step hk hh he⟩
    · exact ⟨h, hd⟩
theorem nodup_sub {S T : List Int} (hS : S.Nodup) (hs : ∀ n ∈ S, n ∈ T) (hl : T.length ≤ S.length) : ∀ n ∈ T, n ∈ S := by
  intro n hn
  by_cases h : n ∈ S
  · exact h
  · exfalso
    have := nodup_le (S := n :: S) (T := T) (List.nodup_cons.2 ⟨h, hS⟩) fun m hm => by
      rcases List.mem_cons.1 hm with rfl | hm
      · exact hn
      · exact hs m hm
    rw [List.length_cons] at this; omega
/-- every inode is come to -/
theorem all_dep {f : FsV} (h : okV f) {n : Int} (hn : hasV n f.xs = true) : ∃ k, Dep f.xs k n := by
  obtain ⟨_, h1, _, h3, _, h5, _⟩ := okV_parts h
  have hroot : SeenOk f.xs [1] := ⟨by simp, fun n hn => by simp at hn; subst hn; exact h1.2.2.2.2.2.2.2.1⟩
  obtain ⟨g1, g2⟩ := seenV_ok h3 41 0 [1] hroot fun n hn => by simp at hn; subst hn; exact ⟨0, .root⟩
  have hS := nodup_sub (T := f.xs.map (·.ino)) g1.nodup (fun m hm => has_mem.1 (g1.has m hm)) (by rw [List.length_map]; exact Nat.le_of_eq h5.symm) n (has_mem.1 hn)
  exact g2 n hS
theorem pair_mem {xs : List NodV} {n : Int} {e : EntV} (hh : hasV n xs = true) (he : e ∈ (gotV n xs).es) : (e.ino, n) ∈ pairsV xs := by
  obtain ⟨hm, hi⟩ := got_has hh
  unfold pairsV
  exact List.mem_flatMap.2 ⟨_, hm, List.mem_map.2 ⟨e, he, by rw [hi]⟩⟩
theorem cnt_pos {n p : Int} {l : List (Int × Int)} (h : (n, p) ∈ l) : 1 ≤ cntV n l := by
  unfold cntV
  exact List.length_pos_iff.2 (List.ne_nil_of_mem (List.mem_filter.2 ⟨h, by simp⟩))
theorem cnt_one {n p q : Int} {l : List (Int × Int)} (hp : (n, p) ∈ l) (hq : (n, q) ∈ l) (h : cntV n l = 1) : p = q := by
  unfold cntV at h
  obtain ⟨x, hx⟩ := List.length_eq_one_iff.1 h
  have h1 : (n, p) ∈ l.filter fun p => p.1 == n := List.mem_filter.2 ⟨hp, by simp⟩
  have h2 : (n, q) ∈ l.filter fun p => p.1 == n := List.mem_filter.2 ⟨hq, by simp⟩
  rw [hx] at h1 h2
  simp only [List.mem_singleton] at h1 h2
  exact congrArg Prod.snd (h1.trans h2.symm)
/-- a directory that names anything is one -/
theorem es_dir {f : FsV} (h : okV f) {n : Int} (hh : hasV n f.xs = true) {e : EntV} (he : e ∈ (gotV n f.xs).es) : (gotV n f.xs).kind = 2 := by
  obtain ⟨_, _, h2, _⟩ := okV_parts h
  obtain ⟨hm, _⟩ := got_has hh
  by_cases hk : (gotV n f.xs).kind = 2
  · exact hk
  · have := ((h2 _ hm).2.1 hk).1
    rw [this] at he; cases he
theorem root_unnamed {f : FsV} (h : okV f) {n : Int} (hh : hasV n f.xs = true) {e : EntV} (he : e ∈ (gotV n f.xs).es) : e.ino ≠ 1 := fun h1 => by
  obtain ⟨_, hf, _, _, h4, _⟩ := okV_parts h
  obtain ⟨hm, hi⟩ := got_has hf.2.2.2.2.2.2.2.1
  have hq := (h4 _ hm).2
  rw [if_pos hi, hi] at hq
  have := cnt_pos (pair_mem hh he)
  rw [h1] at this; omega
/-- a directory's depth is one -/
theorem dep_one {f : FsV} (h : okV f) : ∀ (k k' : Nat) (n : Int), Dep f.xs k n → Dep f.xs k' n → hasV n f.xs = true → (gotV n f.xs).kind = 2 → k = k'
  | 0, 0, _, _, _, _, _ => rfl
  | 0, k' + 1, _, h1, h2, hh, hk => by
    cases h1
    generalize hn : (1 : Int) = n at h2
    cases h2 with
    | step a b c => exact absurd hn.symm (root_unnamed h b c)
  | k + 1, 0, _, h1, h2, hh, hk => by
    cases h2
    generalize hn : (1 : Int) = n at h1
    cases h1 with
    | step a b c => exact absurd hn.symm (root_unnamed h b c)
  | k + 1, k' + 1, n, h1, h2, hh, hk => by
    obtain ⟨_, hf, _, _, h4, _⟩ := okV_parts h
    cases h1 with
    | @step _ p e a b c =>
      generalize hn : e.ino = n at h2 hh hk
      cases h2 with
      | @step _ p' e' a' b' c' =>
        have hp := pair_mem b c
        have hp' := pair_mem b' c'
        rw [hn] at hp
        obtain ⟨hm, hi⟩ := got_has hh
        have hq := (h4 _ hm).2
        rw [hi] at hq
        have hne : e'.ino ≠ 1 := root_unnamed h b' c'
        rw [if_neg hne] at hq
        have := cnt_one hp hp' (hq.2 hk).1
        subst this
        rw [dep_one h k k' p a a' b (es_dir h b c)]
end Go.Proofs.YtnjglohgjhihjaaDoor.Vcg
end
section
set_option linter.unusedVariables false
set_option linter.unusedSimpArgs false
namespace Go.Proofs.YtnjglohgjhihjaaDoor.Vcg
/-- the directories on the way, the last first: none twice -/
theorem dep_chain {f : FsV} (h : okV f) : ∀ (k : Nat) (n : Int), Dep f.xs k n → hasV n f.xs = true → (gotV n f.xs).kind = 2 → ∃ L : List Int, L.length = k + 1 ∧ L.Nodup ∧ (∀ m ∈ L, hasV m f.xs = true) ∧ ∀ m ∈ L, (gotV m f.xs).kind = 2 ∧ ∃ j, j ≤ k ∧ Dep f.xs j m
  | 0, n, hd, hh, hk => ⟨[n], rfl, by simp, fun m hm => by simp at hm; subst hm; exact hh, fun m hm => by simp at hm; subst hm; exact ⟨hk, 0, Nat.le_refl _, hd⟩⟩
  | k + 1, _, hd, hh, hk => by
    generalize hn : k + 1 = k1 at hd
    cases hd with
    | root => cases hn
    | @step k0 p e a b c =>
      obtain rfl : k = k0 := by omega
      obtain ⟨L, l1, l2, l3, l4⟩ := dep_chain h k p a b (es_dir h b c)
      refine ⟨e.ino :: L, by simp [l1], List.nodup_cons.2 ⟨fun hm => ?_, l2⟩, fun m hm => ?_, fun m hm => ?_⟩
      · obtain ⟨_, j, hj, hd⟩ := l4 _ hm
        have := dep_one h _ _ _ hd (.step a b c) hh hk
        omega
      · rcases List.mem_cons.1 hm with rfl | hm
        · exact hh
        · exact l3 m hm
      · rcases List.mem_cons.1 hm with rfl | hm
        · exact ⟨hk, k + 1, Nat.le_refl _, .step a b c⟩
        · obtain ⟨q1, j, q2, q3⟩ := l4 m hm
          exact ⟨q1, j, by omega, q3⟩
theorem dep_lt {f : FsV} (h : okV f) {k : Nat} {n : Int} (hd : Dep f.xs k n) (hh : hasV n f.xs = true) (hk : (gotV n f.xs).kind = 2) : k < f.xs.length := by
  obtain ⟨L, l1, l2, l3, _⟩ := dep_chain h k n hd hh hk
  have := seen_len l2 l3
  omega
/-- the walk, so deep at most -/
def treeV (xs : List NodV) : Nat → Int → List (List UInt8) → Items
  | 0, _, _ => []
  | m + 1, n, ns => if hasV n xs then (ns, gotV n xs) :: (gotV n xs).es.flatMap (fun e => treeV xs m e.ino (ns ++ [e.name])) else []
theorem flatMap_congr' {α β : Type} {l : List α} {g g' : α → List β} (h : ∀ a ∈ l, g a = g' a) : l.flatMap g = l.flatMap g' := by
  induction l with
  | nil => rfl
  | cons a r ih => rw [List.flatMap_cons, List.flatMap_cons, h a List.mem_cons_self, ih fun b hb => h b (List.mem_cons_of_mem _ hb)]
/-- what is deep enough is enough -/
theorem tree_fuel {f : FsV} (h : okV f) : ∀ (m m' k : Nat) (n : Int) (ns : List (List UInt8)), Dep f.xs k n → k ≤ f.xs.length → f.xs.length + 1 ≤ m + k → f.xs.length + 1 ≤ m' + k → treeV f.xs m n ns = treeV f.xs m' n ns
  | 0, m', k, n, ns, hd, hk, h1, h2 => by omega
  | m + 1, 0, k, n, ns, hd, hk, h1, h2 => by omega
  | m + 1, m' + 1, k, n, ns, hd, hk, h1, h2 => by
    unfold treeV
    split
    · rename_i hh
      congr 1
      refine flatMap_congr' fun e he => ?_
      have hdir := es_dir h hh he
      have hlt := dep_lt h hd hh hdir
      exact tree_fuel h m m' (k + 1) e.ino _ (.step hd hh he) (by omega) (by omega) (by omega)
    · rfl
abbrev trV (xs : List NodV) : Int → List (List UInt8) → Items := treeV xs (xs.length + 1)
theorem dep_le {f : FsV} (h : okV f) {n : Int} (hh : hasV n f.xs = true) : ∃ k, k ≤ f.xs.length ∧ Dep f.xs k n := by
  obtain ⟨k, hd⟩ := all_dep h hh
  refine ⟨k, ?_, hd⟩
  cases hd with
  | root => exact Nat.zero_le _
  | step a b c => exact dep_lt h a b (es_dir h b c)
theorem tree_ok {f : FsV} (h : okV f) : TreeOk f (trV f.xs) := ⟨fun n ns hh => by
  obtain ⟨k, hk, hd⟩ := dep_le h hh
  show treeV f.xs (f.xs.length + 1) n ns = _
  rw [treeV, if_pos hh]
  congr 1
  refine flatMap_congr' fun e he => ?_
  have hlt := dep_lt h hd hh (es_dir h hh he)
  exact tree_fuel h _ _ (k + 1) e.ino _ (.step hd hh he) (by omega) (by omega) (by omega), fun n ns hh => by
  show treeV f.xs (f.xs.length + 1) n ns = _
  rw [treeV, if_neg (by rw [hh]; decide)]⟩
theorem walk_ok {f : FsV} (h : okV f) : WalkOk f (trV f.xs) := by
  obtain ⟨p0, p1, p2, p3, _⟩ := okV_parts h
  exact ⟨tree_ok h, p0, p1.2.2.2.2.2.2.1, p3, fun x hx hk => ((p2 x hx).2.1 hk).1⟩
end Go.Proofs.YtnjglohgjhihjaaDoor.Vcg
end
section
set_option linter.unusedVariables false
set_option linter.unusedSimpArgs false
namespace Go.Proofs.YtnjglohgjhihjaaDoor.Vcg
theorem joinP_snoc (ns : List (List UInt8)) (x : List UInt8) (hne : ∀ y ∈ ns, y ≠ []) : joinP (ns ++ [x]) = underV (joinP ns) x := by
  have hj := join_take (ns ++ [x]) ns.length x (by simp)
  rw [List.take_of_length_le (by simp), List.take_left' rfl] at hj
  unfold joinP
  rw [if_neg (by simp), hj]
  by_cases h : ns = []
  · subst h; rfl
  · have hl : ns.length ≠ 0 := fun h0 => h (List.eq_nil_of_length_eq_zero h0)
    rw [if_neg hl, if_neg h]
    have hne47 : (47 :: Lib.join ns [47]) ≠ [47] := fun he => by
      have h1 : Lib.join ns [47] = [] := (List.cons.inj he).2
      have h2 := join_len ns h
      rw [h1] at h2
      cases ns with
      | nil => exact h rfl
      | cons y r =>
        have := List.length_pos_iff.2 (hne y List.mem_cons_self)
        simp at h2; omega
    unfold underV
    rw [if_neg hne47]
    simp
theorem name_ne {f : FsV} (h : okV f) {n : Int} (hh : hasV n f.xs = true) {e : EntV} (he : e ∈ (gotV n f.xs).es) : e.name ≠ [] := fun hn => by
  obtain ⟨_, _, h2, _⟩ := okV_parts h
  obtain ⟨hm, _⟩ := got_has hh
  obtain ⟨i, hi, rfl⟩ := List.getElem_of_mem he
  have := (((h2 _ hm).2.2.1 (es_dir h hh (List.getElem_mem hi))).2 i hi).1
  rw [hn] at this
  simp [may] at this
theorem below_tree {f : FsV} (h : okV f) : ∀ (m : Nat) (n : Int) (ns : List (List UInt8)), (∀ y ∈ ns, y ≠ []) → belowV f.xs m n (joinP ns) = (treeV f.xs m n ns).map seen1
  | 0, n, ns, _ => rfl
  | m + 1, n, ns, hne => by
    unfold belowV treeV
    split
    · rename_i hh
      obtain ⟨_, hi⟩ := got_has hh
      rw [List.map_cons, List.map_flatMap, show seen1 (ns, gotV n f.xs) = ⟨joinP ns, n⟩ by simp [seen1, hi]]
      congr 1
      refine flatMap_congr' fun e he => ?_
      have hn := name_ne h hh he
      rw [← joinP_snoc ns e.name hne]
      exact below_tree h m e.ino _ fun y hy => by
        rcases List.mem_append.1 hy with hy | hy
        · exact hne y hy
        · simp at hy; subst hy; exact hn
    · rfl
theorem list_tree {f : FsV} (h : okV f) : listV f.xs = (trV f.xs 1 []).map seen1 := below_tree h _ 1 [] fun y hy => by cases hy
/-- an inode's paths, both ways -/
theorem paths_tree {n : Int} {l : Items} : pathsV n (l.map seen1) = wpathsV n l := by
  unfold pathsV wpathsV
  rw [List.filter_map, List.map_map]
  rfl
end Go.Proofs.YtnjglohgjhihjaaDoor.Vcg
end
section
set_option linter.unusedVariables false
set_option linter.unusedSimpArgs false
namespace Go.Proofs.YtnjglohgjhihjaaDoor.Vcg
/-- d is come to from n by j steps -/
inductive Anc (xs : List NodV) (n : Int) : Nat → Int → Prop
  | same : Anc xs n 0 n
  | step {j : Nat} {p : Int} {e : EntV} : Anc xs n j p → hasV p xs = true → e ∈ (gotV p xs).es → Anc xs n (j + 1) e.ino
theorem Anc.dep {xs : List NodV} {n : Int} {k : Nat} (hd : Dep xs k n) : ∀ {j : Nat} {d : Int}, Anc xs n j d → Dep xs (k + j) d
  | _, _, .same => hd
  | _, _, .step a b c => .step (a.dep hd) b c
theorem Anc.up {xs : List NodV} {n : Int} {e : EntV} (hh : hasV n xs = true) (he : e ∈ (gotV n xs).es) : ∀ {j : Nat} {d : Int}, Anc xs e.ino j d → Anc xs n (j + 1) d
  | _, _, .same => .step .same hh he
  | _, _, .step a b c => .step (a.up hh he) b c
theorem tree_anc {xs : List NodV} : ∀ (m : Nat) (n : Int) (ns : List (List UInt8)), ∀ p ∈ treeV xs m n ns, ∃ j, Anc xs n j p.2.ino ∧ hasV p.2.ino xs = true ∧ gotV p.2.ino xs = p.2
  | 0, n, ns, p, hp => by cases hp
  | m + 1, n, ns, p, hp => by
    unfold treeV at hp
    split at hp
    · rename_i hh
      obtain ⟨_, hi⟩ := got_has hh
      rcases List.mem_cons.1 hp with rfl | hp
      · exact ⟨0, by rw [hi]; exact .same, by rw [hi]; exact hh, by rw [hi]⟩
      · obtain ⟨e, he, hp⟩ := List.mem_flatMap.1 hp
        obtain ⟨j, q1, q2⟩ := tree_anc m _ _ p hp
        exact ⟨j + 1, q1.up hh he, q2⟩
    · cases hp
/-- two roads of one length to one directory begin alike -/
theorem anc_same {f : FsV} (h : okV f) {a b : Int} : ∀ (j : Nat) (d : Int), Anc f.xs a j d → Anc f.xs b j d → hasV d f.xs = true → (gotV d f.xs).kind = 2 → a = b ∧ hasV a f.xs = true ∧ (gotV a f.xs).kind = 2
  | 0, d, h1, h2, hh, hk => by
    cases h1; cases h2
    exact ⟨rfl, hh, hk⟩
  | j + 1, d, h1, h2, hh, hk => by
    obtain ⟨_, _, _, _, h4, _⟩ := okV_parts h
    cases h1 with
    | @step _ p e x y z =>
      generalize hn : e.ino = d at h2 hh hk
      cases h2 with
      | @step _ p' e' x' y' z' =>
        have hp := pair_mem y z
        have hp' := pair_mem y' z'
        rw [hn] at hp
        obtain ⟨hm, hi⟩ := got_has hh
        have hq := (h4 _ hm).2
        rw [hi, if_neg (root_unnamed h y' z')] at hq
        have := cnt_one hp hp' (hq.2 hk).1
        subst this
        exact anc_same h j p x x' y (es_dir h y z)
theorem cnt_two {xs : List NodV} {n : Int} {e e' : EntV} (hh : hasV n xs = true) (hs : [e, e'].Sublist (gotV n xs).es) (hi : e.ino = e'.ino) : 2 ≤ cntV e.ino (pairsV xs) := by
  obtain ⟨hm, hino⟩ := got_has hh
  have h1 : ([e, e'].map fun e => (e.ino, (gotV n xs).ino)).Sublist (pairN (gotV n xs) (gotV n xs).es) := hs.map _
  obtain ⟨i, hi', hx⟩ := List.getElem_of_mem hm
  have h2 : (pairN (gotV n xs) (gotV n xs).es).Sublist (pairsV xs) := by
    obtain ⟨s, t, hst⟩ := List.append_of_mem hm
    unfold pairsV
    conv => rhs; rw [hst]
    rw [List.flatMap_append, List.flatMap_cons]
    exact (List.sublist_append_left _ _).trans (List.sublist_append_right _ _)
  have h3 := ((h1.trans h2).filter fun p => p.1 == e.ino).length_le
  unfold cntV
  simpa [hi] using h3
abbrev dirsV (l : Items) : List Int := (l.filter fun p => decide (p.2.kind = 2)).map fun p => p.2.ino
theorem dirs_mem {l : Items} {d : Int} (h : d ∈ dirsV l) : ∃ p ∈ l, p.2.kind = 2 ∧ p.2.ino = d := by
  obtain ⟨p, hp, rfl⟩ := List.mem_map.1 h
  obtain ⟨h1, h2⟩ := List.mem_filter.1 hp
  exact ⟨p, h1, of_decide_eq_true h2, rfl⟩
theorem dirs_flat {α : Type} {g : α → Items} {l : List α} : dirsV (l.flatMap g) = l.flatMap fun a => dirsV (g a) := by
  induction l with
  | nil => rfl
  | cons a r ih =>
    rw [List.flatMap_cons, List.flatMap_cons, ← ih]
    unfold dirsV
    rw [List.filter_append, List.map_append]
theorem dirs_nodup {f : FsV} (h : okV f) : ∀ (m : Nat) (n : Int) (ns : List (List UInt8)), hasV n f.xs = true → (dirsV (treeV f.xs m n ns)).Nodup
  | 0, n, ns, _ => List.nodup_nil
  | m + 1, n, ns, hh => by
    obtain ⟨k, hd⟩ := all_dep h hh
    obtain ⟨_, _, _, h3, h4, _⟩ := okV_parts h
    obtain ⟨hm, hi⟩ := got_has hh
    have key : ∀ L : List EntV, L.Sublist (gotV n f.xs).es → (dirsV (L.flatMap fun e => treeV f.xs m e.ino (ns ++ [e.name]))).Nodup := by
      intro L
      induction L with
      | nil => intro _; exact List.nodup_nil
      | cons e r ih =>
        intro hs
        have he : e ∈ (gotV n f.xs).es := hs.subset List.mem_cons_self
        have hr : r.Sublist (gotV n f.xs).es := (List.sublist_cons_self e r).trans hs
        have hap : dirsV ((e :: r).flatMap fun e => treeV f.xs m e.ino (ns ++ [e.name])) = dirsV (treeV f.xs m e.ino (ns ++ [e.name])) ++ dirsV (r.flatMap fun e => treeV f.xs m e.ino (ns ++ [e.name])) := by
          rw [List.flatMap_cons]; unfold dirsV; rw [List.filter_append, List.map_append]
        rw [hap, List.nodup_append]
        refine ⟨dirs_nodup h m e.ino _ (h3 _ hm e he), ih hr, fun d hd1 d' hd2 hdd => ?_⟩
        subst hdd
        obtain ⟨p, p1, p2, rfl⟩ := dirs_mem hd1
        obtain ⟨p', p1', p2', p3'⟩ := dirs_mem hd2
        obtain ⟨e', he', p1'⟩ := List.mem_flatMap.1 p1'
        obtain ⟨j, a1, a2, a3⟩ := tree_anc m _ _ p p1
        obtain ⟨j', b1, b2, b3⟩ := tree_anc m _ _ p' p1'
        rw [p3'] at b1
        have hk : (gotV p.2.ino f.xs).kind = 2 := by rw [a3]; exact p2
        have hdep := dep_one h _ _ _ (a1.dep (.step hd hh he)) (b1.dep (.step hd hh (hr.subset he'))) a2 hk
        obtain rfl : j = j' := by omega
        obtain ⟨q1, q2, q3⟩ := anc_same h j _ a1 b1 a2 hk
        have hs2 : [e, e'].Sublist (gotV n f.xs).es := (List.Sublist.cons_cons e (List.singleton_sublist.2 he')).trans hs
        have h2 := cnt_two hh hs2 q1
        obtain ⟨hm2, hi2⟩ := got_has q2
        have hq := (h4 _ hm2).2
        rw [hi2, if_neg (root_unnamed h hh he)] at hq
        have := (hq.2 q3).1
        omega
    unfold treeV
    rw [if_pos hh]
    by_cases hk : (gotV n f.xs).kind = 2
    · have hc : dirsV ((ns, gotV n f.xs) :: (gotV n f.xs).es.flatMap fun e => treeV f.xs m e.ino (ns ++ [e.name])) = n :: dirsV ((gotV n f.xs).es.flatMap fun e => treeV f.xs m e.ino (ns ++ [e.name])) := by
        unfold dirsV
        rw [List.filter_cons_of_pos (by simpa using hk), List.map_cons, hi]
      rw [hc, List.nodup_cons]
      refine ⟨fun hmem => ?_, key _ (List.Sublist.refl _)⟩
      obtain ⟨p, p1, p2, p3⟩ := dirs_mem hmem
      obtain ⟨e, he, p1⟩ := List.mem_flatMap.1 p1
      obtain ⟨j, a1, a2, a3⟩ := tree_anc m _ _ p p1
      rw [p3] at a1
      have := dep_one h _ _ _ (a1.dep (.step hd hh he)) hd hh hk
      omega
    · have hc : dirsV ((ns, gotV n f.xs) :: (gotV n f.xs).es.flatMap fun e => treeV f.xs m e.ino (ns ++ [e.name])) = dirsV ((gotV n f.xs).es.flatMap fun e => treeV f.xs m e.ino (ns ++ [e.name])) := by
        unfold dirsV
        rw [List.filter_cons_of_neg (by simpa using hk)]
      rw [hc]
      exact key _ (List.Sublist.refl _)
end Go.Proofs.YtnjglohgjhihjaaDoor.Vcg
end
section
set_option linter.unusedVariables false
set_option linter.unusedSimpArgs false
namespace Go.Proofs.YtnjglohgjhihjaaDoor.Vcg
def sumEs (l : Items) : Nat := (l.map fun p => p.2.es.length).sum
theorem sumEs_app (a b : Items) : sumEs (a ++ b) = sumEs a + sumEs b := by unfold sumEs; rw [List.map_append, List.sum_append]
theorem tree_sum {xs : List NodV} : ∀ (m : Nat) (n : Int) (ns : List (List UInt8)), (treeV xs m n ns).length ≤ 1 + sumEs (treeV xs m n ns)
  | 0, n, ns => Nat.zero_le _
  | m + 1, n, ns => by
    unfold treeV
    split
    · have key : ∀ L : List EntV, (L.flatMap fun e => treeV xs m e.ino (ns ++ [e.name])).length ≤ L.length + sumEs (L.flatMap fun e => treeV xs m e.ino (ns ++ [e.name])) := by
        intro L
        induction L with
        | nil => exact Nat.le_refl _
        | cons e r ih =>
          rw [List.flatMap_cons, List.length_append, sumEs_app, List.length_cons]
          have := tree_sum (xs := xs) m e.ino (ns ++ [e.name])
          omega
      have := key (gotV n xs).es
      have hs : ∀ l : Items, sumEs ((ns, gotV n xs) :: l) = (gotV n xs).es.length + sumEs l := fun l => by unfold sumEs; rw [List.map_cons, List.sum_cons]
      rw [List.length_cons, hs]
      omega
    · exact Nat.zero_le _
theorem sumEs_le {l : Items} (h : ∀ p ∈ l, p.2.es.length ≤ 40 ∧ (p.2.kind ≠ 2 → p.2.es = [])) : sumEs l ≤ 40 * (dirsV l).length := by
  induction l with
  | nil => exact Nat.zero_le _
  | cons p r ih =>
    have hp := h p List.mem_cons_self
    have ih := ih fun q hq => h q (List.mem_cons_of_mem _ hq)
    unfold sumEs at ih ⊢
    rw [List.map_cons, List.sum_cons]
    unfold dirsV at ih ⊢
    by_cases hk : p.2.kind = 2
    · rw [List.filter_cons_of_pos (by simpa using hk), List.map_cons, List.length_cons]; omega
    · rw [List.filter_cons_of_neg (by simpa using hk), hp.2 hk]
      simpa using ih
theorem tree_len {f : FsV} (h : okV f) (m : Nat) (n : Int) (ns : List (List UInt8)) : (treeV f.xs m n ns).length ≤ 1601 := by
  obtain ⟨h0, _, h2, _⟩ := okV_parts h
  cases hh : hasV n f.xs with
  | false =>
    cases m with
    | zero => exact Nat.zero_le _
    | succ m => unfold treeV; rw [hh]; exact Nat.zero_le _
  | true =>
    have h1 := tree_sum (xs := f.xs) m n ns
    have hg : ∀ p ∈ treeV f.xs m n ns, p.2 ∈ f.xs := fun p hp => by
      obtain ⟨j, _, q2, q3⟩ := tree_anc m n ns p hp
      rw [← q3]; exact (got_has q2).1
    have hs := sumEs_le (l := treeV f.xs m n ns) fun p hp => ⟨(h0.2 _ (hg p hp)).2.1, fun hk => ((h2 _ (hg p hp)).2.1 hk).1⟩
    have hd := seen_len (dirs_nodup h m n ns hh) fun d hd => by
      obtain ⟨p, p1, _, rfl⟩ := dirs_mem hd
      obtain ⟨_, _, q2, _⟩ := tree_anc m n ns p p1
      exact q2
    have := h0.1
    omega
def wsum (ns : List (List UInt8)) : Nat := (ns.map fun x => x.length + 1).sum
theorem wsum_snoc (ns : List (List UInt8)) (x : List UInt8) : wsum (ns ++ [x]) = wsum ns + (x.length + 1) := by
  unfold wsum; rw [List.map_append, List.sum_append]; simp
theorem tree_names {xs : List NodV} (h0 : fewV xs) : ∀ (m : Nat) (n : Int) (ns : List (List UInt8)), ∀ p ∈ treeV xs m n ns, p.1.length ≤ ns.length + m ∧ wsum p.1 ≤ wsum ns + m * 301
  | 0, n, ns, p, hp => by cases hp
  | m + 1, n, ns, p, hp => by
    unfold treeV at hp
    split at hp
    · rename_i hh
      obtain ⟨hm, _⟩ := got_has hh
      rcases List.mem_cons.1 hp with rfl | hp
      · exact ⟨Nat.le_add_right _ _, Nat.le_add_right _ _⟩
      · obtain ⟨e, he, hp⟩ := List.mem_flatMap.1 hp
        obtain ⟨q1, q2⟩ := tree_names h0 m _ _ p hp
        have := (h0.2 _ hm).2.2 e he
        rw [wsum_snoc] at q2
        rw [List.length_append, List.length_singleton] at q1
        exact ⟨by omega, by omega⟩
    · cases hp
theorem join_wsum (ns : List (List UInt8)) : (Lib.join ns [47]).length ≤ wsum ns := by
  by_cases h : ns = []
  · subst h; exact Nat.zero_le _
  · have := join_len ns h
    unfold wsum; omega
theorem start_ok {f : FsV} (h : okV f) (n : Int) (ns : List (List UInt8)) (h1 : ns.length ≤ 100000) (h2 : wsum ns ≤ 100000) : StartOk (trV f.xs) n ns := by
  obtain ⟨h0, _⟩ := okV_parts h
  refine ⟨Nat.le_trans (tree_len h _ n ns) (by decide), fun p hp => ?_⟩
  obtain ⟨q1, q2⟩ := tree_names h0 _ n ns p hp
  have := join_wsum p.1
  have := h0.1
  exact ⟨by omega, by omega⟩
theorem list_len {f : FsV} (h : okV f) : (listV f.xs).length ≤ 1000000 := by
  rw [list_tree h, List.length_map]
  exact Nat.le_trans (tree_len h _ 1 []) (by decide)
end Go.Proofs.YtnjglohgjhihjaaDoor.Vcg
end
section
set_option linter.unusedVariables false
set_option maxRecDepth 100000
set_option linter.unusedSimpArgs false
namespace Go.Proofs.YtnjglohgjhihjaaDoor.Vcg
open Go.RowKit
abbrev s8r : NodV := ⟨1, 2, 0, [], 1, [⟨[100], 3⟩]⟩
abbrev s8d : NodV := ⟨3, 2, 1, [], 1, [⟨[102], 4⟩]⟩
abbrev s8f : NodV := ⟨4, 1, 1, [], 0, []⟩
abbrev s8 : FsV := ⟨9, 9, 9, [s8r, s8d, s8f]⟩
theorem s8_ok : okV s8 := of_decide_eq_true (by kernel_rfl)
theorem s8_list : (trV s8.xs 1 []).map seen1 = [⟨[47], 1⟩, ⟨[47, 100], 3⟩, ⟨[47, 100, 47, 102], 4⟩] := by kernel_rfl
set_option maxHeartbeats 1000000 in
theorem small8_fun : Fun Tryd.prog G0 46 [] (.agg [.sc (.int .i64 9), .sc (.int .i64 9), .sc (.int .i64 9), .own 0 41 6 (nodsC s8.xs)]) 1 := by
  refine Fun.of (fun _ => []) (by kernel_rfl) Tryd.func46 rfl rfl (Nat.le_of_ble_eq_true rfl) (by kernel_rfl) ?_; dsimp only [Tryd.f46, List.append_eq, List.cons_append, List.nil_append]
  simp -dsimp only [push_cast, seval]
  (first | refine call (rnew_fun 9 9) ?_ | refine callP (rnew_fun 9 9) ?_); simp -dsimp only [push_cast, seval]
  have h1 := rset_fun (G := G0) ⟨9, 9, 9, [⟨1, 2, 0, [], 1, []⟩]⟩ s8r (by decide)
  rw [show setV s8r [⟨1, 2, 0, [], 1, []⟩] = [s8r] from rfl] at h1
  (first | refine call (h1) ?_ | refine callP (h1) ?_); simp -dsimp only [push_cast, seval]
  have h2 := rset_fun (G := G0) ⟨9, 9, 9, [s8r]⟩ s8d (by decide)
  rw [show setV s8d [s8r] = [s8r, s8d] from rfl] at h2
  (first | refine call (h2) ?_ | refine callP (h2) ?_); simp -dsimp only [push_cast, seval]
  have h3 := rset_fun (G := G0) ⟨9, 9, 9, [s8r, s8d]⟩ s8f (by decide)
  rw [show setV s8f [s8r, s8d] = [s8r, s8d, s8f] from rfl] at h3
  refine call (Fun.less h3 (by simp -dsimp only [WeakTm, WeakBx, CLe, CLeL, push_cast, seval])) ?_
  simp -dsimp only [push_cast, seval]
  exact ⟨[.inl 5], rfl, rfl, by simp -dsimp only [WeakTm, WeakBx, CLe, CLeL, push_cast, seval]⟩
set_option maxHeartbeats 1000000 in
theorem awake8 : Fun Tryd.prog G0 13 [] (boolC true) 0 := by
  have hw := walk_ok s8_ok
  have hs : ∀ n ns, ns.length ≤ 100000 → wsum ns ≤ 100000 → StartOk (trV s8.xs) n ns := fun n ns => start_ok s8_ok n ns
  have h1 := wlist_fun s8 _ hw (hs 1 [] (by decide) (by decide))
  rw [s8_list] at h1
  have h2 := wpathOf_fun s8 3 _ hw (hs 1 [] (by decide) (by decide))
  rw [show wdirV 3 (trV s8.xs 1 []) = some [47, 100] by kernel_rfl, Option.getD_some, Option.isSome_some] at h2
  have h3 := wpathOf_fun s8 4 _ hw (hs 1 [] (by decide) (by decide))
  rw [show wdirV 4 (trV s8.xs 1 []) = none by kernel_rfl, Option.getD_none, Option.isSome_none] at h3
  have h4 := wpaths_fun s8 4 _ hw (hs 1 [] (by decide) (by decide))
  rw [show wpathsV 4 (trV s8.xs 1 []) = [[47, 100, 47, 102]] by kernel_rfl] at h4
  have h5 := wbelow_fun s8 _ 3 [47, 120] (by decide) hw (hs 3 _ (by decide +kernel) (by decide +kernel))
  rw [show (trV s8.xs 3 (names [47, 120])).map seen1 = [⟨[47, 120], 3⟩, ⟨[47, 120, 47, 102], 4⟩] by kernel_rfl] at h5
  have h6 := wbelow_fun s8 _ 7 [47] (by decide) hw (hs 7 _ (by decide +kernel) (by decide +kernel))
  rw [show (trV s8.xs 7 (names [47])).map seen1 = [] by kernel_rfl] at h6
  have h7 := sees_fun (G := G0) [⟨[47], 1⟩, ⟨[47, 100], 3⟩, ⟨[47, 100, 47, 102], 4⟩] [⟨[47], 1⟩, ⟨[47, 100], 3⟩, ⟨[47, 100, 47, 102], 4⟩] (by decide) (by decide)
  rw [show decide (([⟨[47], 1⟩, ⟨[47, 100], 3⟩, ⟨[47, 100, 47, 102], 4⟩] : List SeeV) = [⟨[47], 1⟩, ⟨[47, 100], 3⟩, ⟨[47, 100, 47, 102], 4⟩]) = true from rfl] at h7
  refine Fun.of (fun _ => []) (by kernel_rfl) Tryd.func13 rfl rfl (Nat.le_of_ble_eq_true rfl) (by kernel_rfl) ?_; dsimp only [Tryd.f13, List.append_eq, List.cons_append, List.nil_append]
  simp -dsimp only [push_cast, seval]
  (first | refine call (small8_fun) ?_ | refine callP (small8_fun) ?_); simp -dsimp only [push_cast, seval]
  (first | refine call (h1) ?_ | refine callP (h1) ?_); simp -dsimp only [push_cast, seval]
  (first | refine call (h2) ?_ | refine callP (h2) ?_); simp -dsimp only [push_cast, seval]
  (first | refine call (h3) ?_ | refine callP (h3) ?_); simp -dsimp only [push_cast, seval]
  (first | refine call (h4) ?_ | refine callP (h4) ?_); simp -dsimp only [push_cast, seval]
  (first | refine call (h7) ?_ | refine callP (h7) ?_); simp -dsimp only [push_cast, seval]
  (try simp only [List.length_append, List.length_cons, List.length_nil, List.length_map, List.length_take, List.length_drop]); repeat (refine And.intro (by omega) ?_)
  (first | refine call (h5) ?_ | refine callP (h5) ?_); simp -dsimp only [push_cast, seval]
  (first | refine call (h6) ?_ | refine callP (h6) ?_); simp -dsimp only [push_cast, seval]
  exact ⟨[], rfl, rfl, by simp -dsimp only [WeakTm, WeakBx, CLe, CLeL, push_cast, seval]⟩
end Go.Proofs.YtnjglohgjhihjaaDoor.Vcg
end
section
set_option linter.unusedVariables false
set_option linter.unusedSimpArgs false
namespace Go.Proofs.YtnjglohgjhihjaaDoor.Vcg
open Go.RowKit
/-- a name that a text can have -/
def isName (x : List UInt8) : Prop := x ≠ [] ∧ (47 : UInt8) ∉ x
theorem spl_app : ∀ a t : List UInt8, splS (a ++ 47 :: t) = splS a ++ splS t
  | [], t => by
    have : splS (47 :: t) = [] :: splS t := rfl
    exact this
  | b :: a, t => by
    have ih := spl_app a t
    have e1 : splS (b :: (a ++ 47 :: t)) = if b = 47 then [] :: splS (a ++ 47 :: t) else match splS (a ++ 47 :: t) with
      | [] => [[b]]
      | x :: r => (b :: x) :: r := rfl
    have e2 : splS (b :: a) = if b = 47 then [] :: splS a else match splS a with
      | [] => [[b]]
      | x :: r => (b :: x) :: r := rfl
    rw [List.cons_append, e1, e2, ih]
    by_cases hb : b = 47
    · simp [hb]
    · rw [if_neg hb, if_neg hb]
      have hne := spl_ne a
      cases hs : splS a with
      | nil => exact absurd hs hne
      | cons x r => simp
theorem spl_one : ∀ x : List UInt8, (47 : UInt8) ∉ x → splS x = [x]
  | [], _ => rfl
  | b :: x, h => by
    have hb : ¬ (b = 47) := fun e => h (by rw [e]; exact List.mem_cons_self)
    have ih := spl_one x (fun hx => h (List.mem_cons_of_mem _ hx))
    unfold splS
    rw [if_neg hb, ih]
theorem spl_mem : ∀ (l x : List UInt8), x ∈ splS l → (47 : UInt8) ∉ x
  | [], x, h => by simp [splS] at h; subst h; simp
  | b :: l, x, h => by
    have ih := spl_mem l
    unfold splS at h
    by_cases hb : b = 47
    · rw [if_pos hb] at h
      rcases List.mem_cons.1 h with rfl | h
      · simp
      · exact ih x h
    · rw [if_neg hb] at h
      have hne := spl_ne l
      cases hs : splS l with
      | nil => exact absurd hs hne
      | cons y r =>
        rw [hs] at h ih
        simp only at h
        rcases List.mem_cons.1 h with rfl | h
        · intro hm
          rcases List.mem_cons.1 hm with e | hm
          · exact hb e.symm
          · exact ih y List.mem_cons_self hm
        · exact ih x (List.mem_cons_of_mem _ h)
theorem names_mem {l x : List UInt8} (h : x ∈ names l) : isName x := by
  rw [names_spl, List.mem_filter] at h
  exact ⟨by simpa using h.2, spl_mem l x h.1⟩
theorem names_app (a t : List UInt8) : names (a ++ 47 :: t) = names a ++ names t := by
  rw [names_spl, names_spl, names_spl, spl_app, List.filter_append]
theorem names_one {x : List UInt8} (h : isName x) : names x = [x] := by
  rw [names_spl, spl_one x h.2]
  simp [h.1]
theorem names_slash (l : List UInt8) : names (47 :: l) = names l := names_app [] l
theorem names_join : ∀ xs : List (List UInt8), (∀ x ∈ xs, isName x) → names (Lib.join xs [47]) = xs
  | [], _ => rfl
  | [x], h => by rw [Lib.join_one]; exact names_one (h x List.mem_cons_self)
  | x :: y :: r, h => by
    have ih := names_join (y :: r) fun z hz => h z (List.mem_cons_of_mem _ hz)
    rw [join_cons2, List.append_assoc]
    show names (x ++ 47 :: Lib.join (y :: r) [47]) = _
    rw [names_app, ih, names_one (h x List.mem_cons_self)]
    rfl
theorem names_joinP (xs : List (List UInt8)) (h : ∀ x ∈ xs, isName x) : names (joinP xs) = xs := by
  unfold joinP
  by_cases hx : xs = []
  · rw [if_pos hx, hx]; rfl
  · rw [if_neg hx, names_slash, names_join xs h]
theorem names_put (a : Bool) (xs : List (List UInt8)) (s : Bool) (h : ∀ x ∈ xs, isName x) : names (put a xs s) = xs := by
  have hj := names_join xs h
  unfold put
  have e1 : ∀ t : List UInt8, names ((if a then [47] else []) ++ t) = names t := fun t => by
    cases a
    · rfl
    · exact names_slash t
  rw [List.append_assoc, e1]
  split
  · rw [show Lib.join xs [47] ++ [47] = Lib.join xs [47] ++ 47 :: [] from rfl, names_app, hj]
    simp [names_nil]
  · rw [List.append_nil, hj]
theorem pre_cons (b : UInt8) (l : List UInt8) : Lib.hasPrefix (b :: l) [47] = decide (b = 47) := by
  have := pre_at (b :: l) b rfl
  rw [this]
  by_cases h : b = 47
  · subst h; rfl
  · have h2 : ¬ ((b.toNat : Int) = 47) := u8_ne h
    simp [h, h2]
theorem pre_nil : Lib.hasPrefix [] [47] = false := rfl
theorem join_head (x : List UInt8) (r : List (List UInt8)) : ∃ t, Lib.join (x :: r) [47] = x ++ t := by
  cases r with
  | nil => exact ⟨[], by rw [Lib.join_one]; simp⟩
  | cons y r => exact ⟨[47] ++ Lib.join (y :: r) [47], by rw [join_cons2, List.append_assoc]⟩
theorem put_abs (a : Bool) (xs : List (List UInt8)) (s : Bool) (h : ∀ x ∈ xs, isName x) : Lib.hasPrefix (put a xs s) [47] = a := by
  unfold put
  cases a
  · cases xs with
    | nil => simp [Lib.join, pre_nil]
    | cons x r =>
      obtain ⟨t, ht⟩ := join_head x r
      have hx := h x List.mem_cons_self
      rw [ht]
      cases x with
      | nil => exact absurd rfl hx.1
      | cons b x =>
        have : ¬ (b = 47) := fun e => hx.2 (by rw [e]; exact List.mem_cons_self)
        simp [pre_cons, this]
  · simp [pre_cons]
theorem suf_snoc (l : List UInt8) (b : UInt8) : Lib.hasSuffix (l ++ [b]) [47] = decide (b = 47) := by
  have := suf_at (l ++ [b]) b (by simp)
  rw [this]
  by_cases h : b = 47
  · subst h; rfl
  · have h2 : ¬ ((b.toNat : Int) = 47) := u8_ne h
    simp [h, h2]
theorem join_last : ∀ xs : List (List UInt8), xs ≠ [] → (∀ x ∈ xs, isName x) → ∃ t b, Lib.join xs [47] = t ++ [b] ∧ b ≠ 47
  | [], h, _ => absurd rfl h
  | [x], _, h => by
    have hx := h x List.mem_cons_self
    refine ⟨x.dropLast, x.getLast hx.1, ?_, fun e => hx.2 ?_⟩
    · rw [Lib.join_one, List.dropLast_concat_getLast]
    · rw [← e]; exact List.getLast_mem _
  | x :: y :: r, _, h => by
    obtain ⟨t, b, e, hb⟩ := join_last (y :: r) (by simp) fun z hz => h z (List.mem_cons_of_mem _ hz)
    exact ⟨x ++ [47] ++ t, b, by rw [join_cons2, e]; simp, hb⟩
theorem put_slash (a : Bool) (xs : List (List UInt8)) (s : Bool) (h : ∀ x ∈ xs, isName x) : (!decide (xs = []) && Lib.hasSuffix (put a xs s) [47]) = (s && !decide (xs = [])) := by
  by_cases hx : xs = []
  · simp [hx]
  · unfold put
    cases s
    · obtain ⟨t, b, e, hb⟩ := join_last xs hx h
      have := suf_snoc ((if a then [47] else []) ++ t) b
      simp only [Bool.false_and, Bool.false_eq_true, if_false, List.append_nil, e]
      rw [← List.append_assoc, this]
      simp [hb]
    · have := suf_snoc ((if a then [47] else []) ++ Lib.join xs [47]) 47
      simp only [hx, Bool.true_and, decide_false, Bool.not_false, if_true]
      rw [this]; rfl
theorem names_none (p : List UInt8) (h : names p = []) : Lib.hasPrefix p [47] = !decide (p = []) := by
  cases p with
  | nil => rfl
  | cons b l =>
    rw [pre_cons]
    by_cases hb : b = 47
    · simp [hb]
    · exfalso
      rw [names_spl] at h
      have hne := spl_ne l
      have : ∃ x r, splS (b :: l) = (b :: x) :: r := by
        unfold splS
        rw [if_neg hb]
        cases hs : splS l with
        | nil => exact absurd hs hne
        | cons x r => exact ⟨x, r, rfl⟩
      obtain ⟨x, r, e⟩ := this
      rw [e] at h
      simp at h
theorem may_name {x : List UInt8} (h : may x = true) : isName x := by
  simp only [may, Bool.and_eq_true, Bool.not_eq_true', decide_eq_false_iff_not] at h
  refine ⟨h.1.1.1.1, fun hm => ?_⟩
  have := List.any_eq_false.1 h.1.1.2 47 hm
  exact this (by decide)
theorem joinP_plain (xs : List (List UInt8)) (h : ∀ x ∈ xs, may x = true) : plain (joinP xs) = true := by
  have hn := names_joinP xs fun x hx => may_name (h x hx)
  unfold plain
  rw [hn]
  simp only [decide_true, Bool.true_and]
  exact List.all_eq_true.2 h
theorem joinP_app (xs zs : List (List UInt8)) (hx : xs ≠ []) (hz : zs ≠ []) : joinP (xs ++ zs) = joinP xs ++ 47 :: Lib.join zs [47] := by
  unfold joinP
  rw [if_neg hx, if_neg (by simp [hx])]
  simp only [List.cons_append, List.cons.injEq, true_and]
  induction xs with
  | nil => exact absurd rfl hx
  | cons x r ih =>
    cases r with
    | nil =>
      cases zs with
      | nil => exact absurd rfl hz
      | cons z zs => simp only [List.cons_append, List.nil_append]; rw [join_cons2, Lib.join_one]; simp
    | cons y r =>
      have := ih (by simp)
      simp only [List.cons_append] at this ⊢
      rw [join_cons2, join_cons2, this]
      simp
theorem under_joinP (xs ys : List (List UInt8)) (hx : ∀ x ∈ xs, isName x) (hy : ∀ y ∈ ys, isName y) : underP (joinP xs) (joinP ys) = decide (xs.take ys.length = ys) := by
  have nx := names_joinP xs hx
  have ny := names_joinP ys hy
  rw [Bool.eq_iff_iff]
  simp only [decide_eq_true_eq, underP, Bool.or_eq_true]
  constructor
  · rintro ((h | h) | h)
    · have : xs = ys := by rw [← nx, ← ny, h]
      rw [this, List.take_length]
    · have : ys = [] := by rw [← ny, h]; rfl
      rw [this]; rfl
    · unfold Lib.hasPrefix at h
      obtain ⟨t, ht⟩ := List.isPrefixOf_iff_prefix.1 h
      have : xs = ys ++ names t := by
        rw [← nx, ← ht, List.append_assoc]
        show names (joinP ys ++ 47 :: t) = _
        rw [names_app, ny]
      rw [this, List.take_left]
  · intro h
    have e : xs = ys ++ xs.drop ys.length := by
      conv => lhs; rw [← List.take_append_drop ys.length xs, h]
    by_cases hys : ys = []
    · exact .inl (.inr (by rw [hys]; rfl))
    · by_cases hd : xs.drop ys.length = []
      · refine .inl (.inl ?_)
        rw [hd, List.append_nil] at e
        rw [e]
      · refine .inr ?_
        rw [e, joinP_app _ _ hys hd]
        unfold Lib.hasPrefix
        refine List.isPrefixOf_iff_prefix.2 ⟨Lib.join (xs.drop ys.length) [47], ?_⟩
        simp
theorem plain_joinP {p : List UInt8} (h : plain p = true) : joinP (names p) = p := by
  unfold plain at h
  simp only [Bool.and_eq_true, decide_eq_true_eq] at h
  exact h.1
theorem under_plain (p q : List UInt8) (hp : plain p = true) (hq : plain q = true) : underP p q = refUnder p q := by
  have h := under_joinP (names p) (names q) (fun x hx => names_mem hx) (fun x hx => names_mem hx)
  rw [plain_joinP hp, plain_joinP hq] at h
  exact h
end Go.Proofs.YtnjglohgjhihjaaDoor.Vcg
end
section
set_option linter.unusedVariables false
set_option maxRecDepth 100000
set_option linter.unusedSimpArgs false
namespace Go.Proofs.YtnjglohgjhihjaaDoor.Vcg
open Go.RowKit
theorem plainC_eq1 (p : List UInt8) {b : Bool} (h : plain p = b) : plainC p = .tup [.own 0 9 1 (strs (if b then names p else [])), boolC b] := by subst h; rfl
theorem names_wsum (p : List UInt8) : wsum (names p) ≤ p.length + 1 := by
  unfold wsum
  rw [names_spl]
  exact Nat.le_trans (filter_sum _ _) (Nat.le_of_eq (spl_sum p))
set_option maxHeartbeats 1000000 in
theorem walkLists_fun (f : FsV) (n : Int) (p : List UInt8) : Fun Tryd.prog G0 3 [.agg (fsC f), .sc (.int .i64 n), .str p] (boolC true) 0 := by
  refine Fun.of (fun _ => []) (by kernel_rfl) Tryd.func3 rfl rfl (Nat.le_of_ble_eq_true rfl) (by kernel_rfl) ?_; dsimp only [Tryd.f3, List.append_eq, List.cons_append, List.nil_append]
  simp -dsimp only [push_cast, seval]
  by_cases h : okV f
  case neg =>
    (first | refine call (awake8) ?_ | refine callP (awake8) ?_); simp -dsimp only [push_cast, seval]
    (first | refine call (ok_fun f) ?_ | refine callP (ok_fun f) ?_); simp -dsimp only [push_cast, seval, decide_eq_false h]
    (first | refine call (awake8) ?_ | refine callP (awake8) ?_); simp -dsimp only [push_cast, seval]
    exact ⟨[], rfl, rfl, by simp -dsimp only [WeakTm, WeakBx, CLe, CLeL, push_cast, seval]⟩
  by_cases hp : p.length ≤ 1000
  case neg =>
    have hp2 : ((1000 : Int) < (p.length : Int)) = True := eq_true (by omega)
    (first | refine call (awake8) ?_ | refine callP (awake8) ?_); simp -dsimp only [push_cast, seval]
    (first | refine call (ok_fun f) ?_ | refine callP (ok_fun f) ?_); simp -dsimp only [push_cast, seval, decide_eq_true h, hp2]
    (first | refine call (awake8) ?_ | refine callP (awake8) ?_); simp -dsimp only [push_cast, seval]
    exact ⟨[], rfl, rfl, by simp -dsimp only [WeakTm, WeakBx, CLe, CLeL, push_cast, seval]⟩
  have hp2 : ((1000 : Int) < (p.length : Int)) = False := eq_false (by omega)
  have h0 := (okV_parts h).1
  have h40 := h0.1
  have hw := walk_ok h
  have hs := start_ok h 1 [] (by decide) (by decide)
  have hl := wlist_fun f _ hw hs
  have hr := list_fun (G := G0) f h0 (list_len h)
  rw [list_tree h] at hr
  have hlen := hs.len
  have hsame := sees_fun (G := G0) ((trV f.xs 1 []).map seen1) ((trV f.xs 1 []).map seen1) (by rw [List.length_map]; omega) (by rw [List.length_map]; omega)
  rw [decide_eq_true rfl] at hsame
  have hpl := refPlain_fun p (by omega)
  have hll : (nodsC f.xs).length = f.xs.length := List.length_map ..
  cases hb : plain p with
  | false =>
    rw [plainC_eq1 p hb] at hpl
    (first | refine call (awake8) ?_ | refine callP (awake8) ?_); simp -dsimp only [push_cast, seval]
    (first | refine call (ok_fun f) ?_ | refine callP (ok_fun f) ?_); simp -dsimp only [push_cast, seval, decide_eq_true h, hp2]
    (first | refine call (hpl) ?_ | refine callP (hpl) ?_); simp -dsimp only [push_cast, seval]
    (first | refine call (hl) ?_ | refine callP (hl) ?_); simp -dsimp only [push_cast, seval]
    (first | refine call (hr) ?_ | refine callP (hr) ?_); simp -dsimp only [push_cast, seval]
    (first | refine call (hsame) ?_ | refine callP (hsame) ?_); simp -dsimp only [push_cast, seval]
    exact ⟨[], rfl, rfl, by simp -dsimp only [WeakTm, WeakBx, CLe, CLeL, push_cast, seval]⟩
  | true =>
    rw [plainC_eq1 p hb] at hpl
    have hns := start_ok h n (names p) (by have := names_size p; omega) (by have := names_wsum p; omega)
    have hlen2 := hns.len
    have hq := wbelow_fun f _ n p (by omega) hw hns
    have he := below_tree h (f.xs.length + 1) n (names p) (fun y hy => (names_mem hy).1)
    rw [plain_joinP hb] at he
    have hq2 := below_fun (G := G0) f h0 (f.xs.length + 1) n p (by omega) (by omega) (by rw [he, List.length_map]; have := tree_len h (f.xs.length + 1) n (names p); omega)
    rw [he, show (((f.xs.length + 1 : Nat) : Int) - 1) = (f.xs.length : Int) by omega] at hq2
    have hsame2 := sees_fun (G := G0) ((trV f.xs n (names p)).map seen1) ((trV f.xs n (names p)).map seen1) (by rw [List.length_map]; omega) (by rw [List.length_map]; omega)
    rw [decide_eq_true rfl] at hsame2
    (first | refine call (awake8) ?_ | refine callP (awake8) ?_); simp -dsimp only [push_cast, seval]
    (first | refine call (ok_fun f) ?_ | refine callP (ok_fun f) ?_); simp -dsimp only [push_cast, seval, decide_eq_true h, hp2]
    (first | refine call (hpl) ?_ | refine callP (hpl) ?_); simp -dsimp only [push_cast, seval]
    (first | refine call (hl) ?_ | refine callP (hl) ?_); simp -dsimp only [push_cast, seval]
    (first | refine call (hr) ?_ | refine callP (hr) ?_); simp -dsimp only [push_cast, seval]
    (first | refine call (hsame) ?_ | refine callP (hsame) ?_); simp -dsimp only [push_cast, seval]
    (first | refine call (hq) ?_ | refine callP (hq) ?_); simp -dsimp only [push_cast, seval, hll]
    (first | refine call (hq2) ?_ | refine callP (hq2) ?_); simp -dsimp only [push_cast, seval]
    (first | refine call (hsame2) ?_ | refine callP (hsame2) ?_); simp -dsimp only [push_cast, seval]
    exact ⟨[], rfl, rfl, by simp -dsimp only [WeakTm, WeakBx, CLe, CLeL, push_cast, seval]⟩
end Go.Proofs.YtnjglohgjhihjaaDoor.Vcg
end
section
set_option linter.unusedVariables false
namespace Go.Proofs.YtnjglohgjhihjaaDoor.PWalkLists
open Go.ChangeShapes Go.WideShapes Go.ChangeAt Go.RowKit Vcg
theorem own : ownKnob Tryd.prog.godebug = none := by kernel_rfl
theorem laidOut : laidOutB Tryd.prog = true := by kernel_rfl
set_option maxRecDepth 100000 in
theorem contract (H : Type) (enc : TypeId × Value → H) (W : World) (base : Nat) (args : Array Value) (ds gs : List (DataW H)) (before : List MemPlace)
    (hval : ∀ (j : Nat) t v, Tryd.f3.params[j]? = some t → args[j]? = some v → Value.okWide Tryd.prog W .any base t v)
    (hW : DataW.Whole enc Tryd.prog Tryd.f3.params.toList Rows.walkListsSpec.vars false W args.toList ds gs before) (hL : laidMetH Tryd.prog Rows.walkListsRow.laid W) :
    Calls Tryd.prog 3 args W fun e W' => ∃ v, e = .returned v ∧ Rows.walkListsSpec.post enc Tryd.prog Tryd.f3 false true false false W args v W' := by
  have hW' := hW
  obtain ⟨p, q, hA0, hV, rfl, hfz, hnd⟩ := hW
  have hA : DataW.TrodAll enc Tryd.prog W 0 (fun _ => true) true Tryd.f3.params.toList args.toList ds p := hA0
  rw [Tryd.params3] at hA hval
  obtain ⟨v0, vs0, d0, ds0, p0, q0, hargs, rfl, rfl, h0, r0⟩ := trodAll_cons hA
  obtain ⟨v1, vs1, d1, ds1, p1, q1, rfl, rfl, rfl, h1, r1⟩ := trodAll_cons r0
  obtain ⟨v2, vs2, d2, ds2, p2, q2, rfl, rfl, rfl, h2, r2⟩ := trodAll_cons r1
  obtain ⟨rfl, rfl, rfl⟩ := trodAll_nil r2
  obtain rfl : args = #[v0, v1, v2] := by cases args; simp_all
  obtain ⟨rfl, rfl⟩ := trodVars_none hV
  have lt0 : ∀ x ∈ p0, x.block < W.heap.size := by obtain ⟨m, hm⟩ := h0; exact DataW.trod_lt m _ _ _ hm
  have lt1 : ∀ x ∈ p1, x.block < W.heap.size := by obtain ⟨m, hm⟩ := h1; exact DataW.trod_lt m _ _ _ hm
  have lt2 : ∀ x ∈ p2, x.block < W.heap.size := by obtain ⟨m, hm⟩ := h2; exact DataW.trod_lt m _ _ _ hm
  obtain ⟨row0, ⟨a0, rfl, w0⟩, rep0⟩ := OpnRow.arg opn_fs Tryd.underlying24 (hval 0 24 v0 rfl rfl) h0
  obtain ⟨n1, hn1⟩ := okWide_int Tryd.underlying3 (hval 1 3 v1 rfl rfl)
  obtain ⟨_, ⟨a1, rfl, w1⟩, rep1⟩ := Opn.arg (r := .any) (b0 := base) (Opn.int Tryd.underlying3) (by rw [hn1]; rfl) h1
  obtain ⟨n2, hn2⟩ := okWide_string Tryd.underlying9 (hval 2 9 v2 rfl rfl)
  obtain ⟨_, ⟨a2, rfl, w2⟩, rep2⟩ := Opn.arg (r := .any) (b0 := base) (Opn.str Tryd.underlying9) (by rw [hn2]; rfl) h2
  clear hA0
  refine (Fun.answers (walkLists_fun a0 a1 a2) (globOk_any (fun _ => rfl) _) (repL_cons.2 ⟨_, _, rfl, rep0, repL_cons.2 ⟨_, _, rfl, rep1, repL_cons.2 ⟨_, _, rfl, rep2, repL_nil.2 rfl⟩⟩⟩)).mono fun e W' ⟨he, bel⟩ => ?_
  subst he
  exact ⟨_, rfl, _, _, _, [], _, [], hW', trodAll_mk1 (shut_bool Tryd.underlying4 _), (trodAll_cons_mk (Below.trod laidOut (by kernel_rfl) (of_decide_eq_true (by kernel_rfl)) h0 bel lt0) (trodAll_cons_mk (Below.trod laidOut (by kernel_rfl) (of_decide_eq_true (by kernel_rfl)) h1 bel lt1) (trodAll_cons_mk (Below.trod laidOut (by kernel_rfl) (of_decide_eq_true (by kernel_rfl)) h2 bel lt2) trodAll_mk0))), rfl, bel.frame _, fun h => by cases h⟩
set_option maxRecDepth 100000 in
theorem lifted (os : Os) (started : os.Started) (H : Type) (enc : TypeId × Value → H) :
    ReturnsInHanded {} Tryd.checked os 3 .any (fun w args => (Rows.walkListsSpec.pre enc Tryd.prog Tryd.f3 Rows.walkListsRow.domain false w args ∧ laidMetH Tryd.prog Rows.walkListsRow.laid w) ∧ sizedMet enc Tryd.prog Tryd.f3 (OpenSpec.ofChange Rows.walkListsSpec) false w args)
      (Rows.walkListsSpec.post enc Tryd.prog Tryd.f3 false true false false) := by
  refine returnsInHanded_of_change_and (C := Tryd.checked) (X := fun w _ => laidMetH Tryd.prog Rows.walkListsRow.laid w) (fun _ _ _ hh h => h.of_heap hh) own started (by kernel_rfl) Tryd.func3
    (ChangeSpec.witness_shaped (enc := enc) (C := Tryd.checked) (os := os) (X := fun w _ => laidMetH Tryd.prog Rows.walkListsRow.laid w) false (World.laidAll Tryd.prog os Rows.walkListsRow.laid) #[.agg #[.int .i64 0, .int .i64 0, .int .i64 0, .slice none 0 0], .int .i64 0, .string ⟨#[]⟩] 8 (World.laidAll_os _ _ _)
      (World.shaped_of_ZipB (by kernel_rfl) (by kernel_rfl)) (by kernel_rfl) (by kernel_rfl) (by kernel_rfl)
      (by rw [MakeChecks.laidMetH_plain _ _ _ (by kernel_rfl)]; exact laidMet_laidAll _ (by kernel_rfl) (by kernel_rfl))) ?_
  intro W base args ds gs before hval hW _ _ hL _
  exact contract H enc W base args ds gs before hval hW hL
theorem said : Rows.WalkListsSaid :=
  OpenClaim.holds_of_wide 3 Tryd.f3 rfl rfl rfl rfl rfl rfl rfl ⟨rfl, rfl, rfl, rfl, rfl⟩ rfl rfl rfl rfl rfl (by kernel_rfl) Tryd.func3 (by kernel_rfl)
    (of_decide_eq_true (by kernel_rfl)) (by unfold Func.isWrapper; first | (rw [if_pos (by decide +kernel)]; kernel_rfl) | (rw [if_neg (by decide +kernel)]; exact ⟨rfl, rfl⟩))
    (fun os started H enc _ => lifted os started H enc)
theorem plain (f : FuncId) (fn : Func) (hf : Tryd.pinned.checked.prog.funcNamed "drayman/draymanlaw08.WalkLists" = some f) (hfn : Tryd.pinned.checked.prog.funcs[f]? = some fn) :
    false = Tryd.pinned.checked.prog.looks [] ∧ ∀ (j : Nat) t, fn.params[j]? = some t → Tryd.pinned.checked.prog.wantsStandIn t = false := by
  obtain rfl : f = 3 := Option.some.inj ((show Tryd.prog.funcNamed "drayman/draymanlaw08.WalkLists" = some 3 by kernel_rfl).symm.trans hf) |>.symm
  obtain rfl : fn = Tryd.f3 := (Option.some.inj (Tryd.func3.symm.trans hfn)).symm
  exact ⟨by kernel_rfl, fun j t ht => by
    rw [Tryd.params3] at ht
    have hm : t ∈ [24, 3, 9] := by simpa using Array.mem_of_getElem? ht
    have hall : ([24, 3, 9].all fun u => !Tryd.prog.wantsStandIn u) = true := by kernel_rfl
    exact (show Tryd.prog.wantsStandIn t = false by simpa using List.all_eq_true.1 hall t hm)⟩
theorem card : Rows.WalkListsCardSaid :=
  Claim7.holds_tied_plain_at .later [] _ _ _ _ said (fun _ h => by cases h) (by kernel_rfl) (fun _ h => by cases h) walkLists_row_tie rfl ⟨rfl, rfl⟩ (by kernel_rfl) rfl plain (by kernel_rfl)
theorem proved : Rows.WalkListsCardSaid := card
end Go.Proofs.YtnjglohgjhihjaaDoor.PWalkLists
end
