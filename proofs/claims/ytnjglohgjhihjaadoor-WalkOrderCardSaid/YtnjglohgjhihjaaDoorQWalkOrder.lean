/- The statement of WalkOrder is proved: for every input the law answers true, and each argument reads behind the call as it read before. Condition: none but what the row itself prints. -/
import Derived.Test.YtnjglohgjhihjaaDoorWalkOrderKd
import Derived.Sort.Walk0
import Derived.Test.YtnjglohgjhihjaaDoorCards
import Derived.Test.YtnjglohgjhihjaaDoorTie
import Derived.WalkKit
import Derived.ProofKit
import Derived.OpenShut
import Derived.ShutString
import Derived.ChangeOld
import Derived.Below
import Derived.LaidMore
import Derived.Lay
import Derived.SevenTiedAt
import Derived.Stop.Joined
section
set_option linter.unusedVariables false
set_option linter.unusedSimpArgs false
namespace Go.Proofs.YtnjglohgjhihjaaDoor.Vcg
/-- n is come to by k steps from the root -/
inductive Dep (xs : List NodV) : Nat → Int → Prop
  | root : Dep xs 0 1
  | step {k : Nat} {n : Int} {e : EntV} : Dep xs k n → hasV n xs = true → e ∈ (gotV n xs).es → Dep xs (k + 1) e.ino
theorem okV_parts {f : FsV} (h : okV f) : fewV f.xs ∧ firstV f ∧ secondV f ∧ thirdV f ∧ fourthV f ∧ fifthV f ∧ fitsV f := by
  obtain ⟨h0, h⟩ := h
  unfold checkV at h
  refine ⟨h0, ?_⟩
  split at h
  · split at h
    · split at h
      · split at h
        · split at h
          · split at h
            · exact ⟨by assumption, by assumption, by assumption, by assumption, by assumption, by assumption⟩
            · cases h
          · cases h
        · cases h
      · cases h
    · cases h
  · cases h
theorem addV_mem {es : List EntV} : ∀ {S : List Int} {n : Int}, n ∈ addV S es ↔ n ∈ S ∨ ∃ e ∈ es, e.ino = n := by
  induction es with
  | nil => intro S n; simp [addV]
  | cons e r ih =>
    intro S n
    show n ∈ addV (addOne S e.ino) r ↔ _
    rw [ih, addOne_mem]
    constructor
    · rintro ((h | h) | ⟨e', he, h⟩)
      · exact .inl h
      · exact .inr ⟨e, List.mem_cons_self, h.symm⟩
      · exact .inr ⟨e', List.mem_cons_of_mem _ he, h⟩
    · rintro (h | ⟨e', he, h⟩)
      · exact .inl (.inl h)
      · rcases List.mem_cons.1 he with rfl | he
        · exact .inl (.inr h.symm)
        · exact .inr ⟨e', he, h⟩
theorem addV_seen {xs : List NodV} {es : List EntV} : ∀ {S : List Int}, SeenOk xs S → (∀ e ∈ es, hasV e.ino xs = true) → SeenOk xs (addV S es) := by
  induction es with
  | nil => intro S h _; exact h
  | cons e r ih => intro S h he; exact ih (h.one (he e List.mem_cons_self)) fun e' h' => he e' (List.mem_cons_of_mem _ h')
theorem seenV_ok {xs : List NodV} (h3 : ∀ x ∈ xs, ∀ e ∈ x.es, hasV e.ino xs = true) : ∀ (m i : Nat) (S : List Int), SeenOk xs S → (∀ n ∈ S, ∃ k, Dep xs k n) → SeenOk xs (seenV xs m i S) ∧ ∀ n ∈ seenV xs m i S, ∃ k, Dep xs k n
  | 0, i, S, h, hd => by unfold seenV; exact ⟨h, hd⟩
  | m + 1, i, S, h, hd => by
    unfold seenV
    split
    · rename_i n hn
      have hmem := List.mem_of_getElem? hn
      have hh := h.has n hmem
      obtain ⟨hm, _⟩ := got_has hh
      obtain ⟨k, hk⟩ := hd n hmem
      refine seenV_ok h3 m (i + 1) _ (addV_seen h fun e he => h3 _ hm e he) fun n' hn' => ?_
      rcases addV_mem.1 hn' with h' | ⟨e, he, rfl⟩
      · exact hd n' h'
      · exact ⟨k + 1, .step hk hh he⟩
    · exact ⟨h, hd⟩
theorem nodup_sub {S T : List Int} (hS : S.Nodup) (hs : ∀ n ∈ S, n ∈ T) (hl : T.length ≤ S.length) : ∀ n ∈ T, n ∈ S := by
  intro n hn
  by_cases h : n ∈ S
  · exact h
  · exfalso
    have := nodup_le (S := n :: S) (T := T) (List.nodup_cons.2 ⟨h, hS⟩) fun m hm => by
      rcases List.mem_cons.1 hm with rfl | hm
      · exact hn
      · exact hs m hm
    rw [List.length_cons] at this; omega
/-- every inode is come to -/
theorem all_dep {f : FsV} (h : okV f) {n : Int} (hn : hasV n f.xs = true) : ∃ k, Dep f.xs k n := by
  obtain ⟨_, h1, _, h3, _, h5, _⟩ := okV_parts h
  have hroot : SeenOk f.xs [1] := ⟨by simp, fun n hn => by simp at hn; subst hn; exact h1.2.2.2.2.2.2.2.1⟩
  obtain ⟨g1, g2⟩ := seenV_ok h3 41 0 [1] hroot fun n hn => by simp at hn; subst hn; exact ⟨0, .root⟩
  have hS := nodup_sub (T := f.xs.map (·.ino)) g1.nodup (fun m hm => has_mem.1 (g1.has m hm)) (by rw [List.length_map]; exact Nat.le_of_eq h5.symm) n (has_mem.1 hn)
  exact g2 n hS
theorem pair_mem {xs : List NodV} {n : Int} {e : EntV} (hh : hasV n xs = true) (he : e ∈ (gotV n xs).es) : (e.ino, n) ∈ pairsV xs := by
  obtain ⟨hm, hi⟩ := got_has hh
  unfold pairsV
  exact List.mem_flatMap.2 ⟨_, hm, List.mem_map.2 ⟨e, he, by rw [hi]⟩⟩
theorem cnt_pos {n p : Int} {l : List (Int × Int)} (h : (n, p) ∈ l) : 1 ≤ cntV n l := by
  unfold cntV
  exact List.length_pos_iff.2 (List.ne_nil_of_mem (List.mem_filter.2 ⟨h, by simp⟩))
theorem cnt_one {n p q : Int} {l : List (Int × Int)} (hp : (n, p) ∈ l) (hq : (n, q) ∈ l) (h : cntV n l = 1) : p = q := by
  unfold cntV at h
  obtain ⟨x, hx⟩ := List.length_eq_one_iff.1 h
  have h1 : (n, p) ∈ l.filter fun p => p.1 == n := List.mem_filter.2 ⟨hp, by simp⟩
  have h2 : (n, q) ∈ l.filter fun p => p.1 == n := List.mem_filter.2 ⟨hq, by simp⟩
  rw [hx] at h1 h2
  simp only [List.mem_singleton] at h1 h2
  exact congrArg Prod.snd (h1.trans h2.symm)
/-- a directory that names anything is one -/
theorem es_dir {f : FsV} (h : okV f) {n : Int} (hh : hasV n f.xs = true) {e : EntV} (he : e ∈ (gotV n f.xs).es) : (gotV n f.xs).kind = 2 := by
  obtain ⟨_, _, h2, _⟩ := okV_parts h
  obtain ⟨hm, _⟩ := got_has hh
  by_cases hk : (gotV n f.xs).kind = 2
  · exact hk
  · have := ((h2 _ hm).2.1 hk).1
    rw [this] at he; cases he
theorem root_unnamed {f : FsV} (h : okV f) {n : Int} (hh : hasV n f.xs = true) {e : EntV} (he : e ∈ (gotV n f.xs).es) : e.ino ≠ 1 := fun h1 => by
  obtain ⟨_, hf, _, _, h4, _⟩ := okV_parts h
  obtain ⟨hm, hi⟩ := got_has hf.2.2.2.2.2.2.2.1
  have hq := (h4 _ hm).2
  rw [if_pos hi, hi] at hq
  have := cnt_pos (pair_mem hh he)
  rw [h1] at this; omega
/-- a directory's depth is one -/
theorem dep_one {f : FsV} (h : okV f) : ∀ (k k' : Nat) (n : Int), Dep f.xs k n → Dep f.xs k' n → hasV n f.xs = true → (gotV n f.xs).kind = 2 → k = k'
  | 0, 0, _, _, _, _, _ => rfl
  | 0, k' + 1, _, h1, h2, hh, hk => by
    cases h1
    generalize hn : (1 : Int) = n at h2
    cases h2 with
    | step a b c => exact absurd hn.symm (root_unnamed h b c)
  | k + 1, 0, _, h1, h2, hh, hk => by
    cases h2
    generalize hn : (1 : Int) = n at h1
    cases h1 with
    | step a b c => exact absurd hn.symm (root_unnamed h b c)
  | k + 1, k' + 1, n, h1, h2, hh, hk => by
    obtain ⟨_, hf, _, _, h4, _⟩ := okV_parts h
    cases h1 with
    | @step _ p e a b c =>
      generalize hn : e.ino = n at h2 hh hk
      cases h2 with
      | @step _ p' e' a' b' c' =>
        have hp := pair_mem b c
        have hp' := pair_mem b' c'
        rw [hn] at hp
        obtain ⟨hm, hi⟩ := got_has hh
        have hq := (h4 _ hm).2
        rw [hi] at hq
        have hne : e'.ino ≠ 1 := root_unnamed h b' c'
        rw [if_neg hne] at hq
        have := cnt_one hp hp' (hq.2 hk).1
        subst this
        rw [dep_one h k k' p a a' b (es_dir h b c)]
end Go.Proofs.YtnjglohgjhihjaaDoor.Vcg
end
section
set_option linter.unusedVariables false
set_option linter.unusedSimpArgs false
namespace Go.Proofs.YtnjglohgjhihjaaDoor.Vcg
/-- the directories on the way, the last first: none twice -/
theorem dep_chain {f : FsV} (h : okV f) : ∀ (k : Nat) (n : Int), Dep f.xs k n → hasV n f.xs = true → (gotV n f.xs).kind = 2 → ∃ L : List Int, L.length = k + 1 ∧ L.Nodup ∧ (∀ m ∈ L, hasV m f.xs = true) ∧ ∀ m ∈ L, (gotV m f.xs).kind = 2 ∧ ∃ j, j ≤ k ∧ Dep f.xs j m
  | 0, n, hd, hh, hk => ⟨[n], rfl, by simp, fun m hm => by simp at hm; subst hm; exact hh, fun m hm => by simp at hm; subst hm; exact ⟨hk, 0, Nat.le_refl _, hd⟩⟩
  | k + 1, _, hd, hh, hk => by
    generalize hn : k + 1 = k1 at hd
    cases hd with
    | root => cases hn
    | @step k0 p e a b c =>
      obtain rfl : k = k0 := by omega
      obtain ⟨L, l1, l2, l3, l4⟩ := dep_chain h k p a b (es_dir h b c)
      refine ⟨e.ino :: L, by simp [l1], List.nodup_cons.2 ⟨fun hm => ?_, l2⟩, fun m hm => ?_, fun m hm => ?_⟩
      · obtain ⟨_, j, hj, hd⟩ := l4 _ hm
        have := dep_one h _ _ _ hd (.step a b c) hh hk
        omega
      · rcases List.mem_cons.1 hm with rfl | hm
        · exact hh
        · exact l3 m hm
      · rcases List.mem_cons.1 hm with rfl | hm
        · exact ⟨hk, k + 1, Nat.le_refl _, .step a b c⟩
        · obtain ⟨q1, j, q2, q3⟩ := l4 m hm
          exact ⟨q1, j, by omega, q3⟩
theorem dep_lt {f : FsV} (h : okV f) {k : Nat} {n : Int} (hd : Dep f.xs k n) (hh : hasV n f.xs = true) (hk : (gotV n f.xs).kind = 2) : k < f.xs.length := by
  obtain ⟨L, l1, l2, l3, _⟩ := dep_chain h k n hd hh hk
  have := seen_len l2 l3
  omega
/-- the walk, so deep at most -/
def treeV (xs : List NodV) : Nat → Int → List (List UInt8) → Items
  | 0, _, _ => []
  | m + 1, n, ns => if hasV n xs then (ns, gotV n xs) :: (gotV n xs).es.flatMap (fun e => treeV xs m e.ino (ns ++ [e.name])) else []
theorem flatMap_congr' {α β : Type} {l : List α} {g g' : α → List β} (h : ∀ a ∈ l, g a = g' a) : l.flatMap g = l.flatMap g' := by
  induction l with
  | nil => rfl
  | cons a r ih => rw [List.flatMap_cons, List.flatMap_cons, h a List.mem_cons_self, ih fun b hb => h b (List.mem_cons_of_mem _ hb)]
/-- what is deep enough is enough -/
theorem tree_fuel {f : FsV} (h : okV f) : ∀ (m m' k : Nat) (n : Int) (ns : List (List UInt8)), Dep f.xs k n → k ≤ f.xs.length → f.xs.length + 1 ≤ m + k → f.xs.length + 1 ≤ m' + k → treeV f.xs m n ns = treeV f.xs m' n ns
  | 0, m', k, n, ns, hd, hk, h1, h2 => by omega
  | m + 1, 0, k, n, ns, hd, hk, h1, h2 => by omega
  | m + 1, m' + 1, k, n, ns, hd, hk, h1, h2 => by
    unfold treeV
    split
    · rename_i hh
      congr 1
      refine flatMap_congr' fun e he => ?_
      have hdir := es_dir h hh he
      have hlt := dep_lt h hd hh hdir
      exact tree_fuel h m m' (k + 1) e.ino _ (.step hd hh he) (by omega) (by omega) (by omega)
    · rfl
abbrev trV (xs : List NodV) : Int → List (List UInt8) → Items := treeV xs (xs.length + 1)
theorem dep_le {f : FsV} (h : okV f) {n : Int} (hh : hasV n f.xs = true) : ∃ k, k ≤ f.xs.length ∧ Dep f.xs k n := by
  obtain ⟨k, hd⟩ := all_dep h hh
  refine ⟨k, ?_, hd⟩
  cases hd with
  | root => exact Nat.zero_le _
  | step a b c => exact dep_lt h a b (es_dir h b c)
theorem tree_ok {f : FsV} (h : okV f) : TreeOk f (trV f.xs) := ⟨fun n ns hh => by
  obtain ⟨k, hk, hd⟩ := dep_le h hh
  show treeV f.xs (f.xs.length + 1) n ns = _
  rw [treeV, if_pos hh]
  congr 1
  refine flatMap_congr' fun e he => ?_
  have hlt := dep_lt h hd hh (es_dir h hh he)
  exact tree_fuel h _ _ (k + 1) e.ino _ (.step hd hh he) (by omega) (by omega) (by omega), fun n ns hh => by
  show treeV f.xs (f.xs.length + 1) n ns = _
  rw [treeV, if_neg (by rw [hh]; decide)]⟩
theorem walk_ok {f : FsV} (h : okV f) : WalkOk f (trV f.xs) := by
  obtain ⟨p0, p1, p2, p3, _⟩ := okV_parts h
  exact ⟨tree_ok h, p0, p1.2.2.2.2.2.2.1, p3, fun x hx hk => ((p2 x hx).2.1 hk).1⟩
end Go.Proofs.YtnjglohgjhihjaaDoor.Vcg
end
section
set_option linter.unusedVariables false
set_option linter.unusedSimpArgs false
namespace Go.Proofs.YtnjglohgjhihjaaDoor.Vcg
theorem joinP_snoc (ns : List (List UInt8)) (x : List UInt8) (hne : ∀ y ∈ ns, y ≠ []) : joinP (ns ++ [x]) = underV (joinP ns) x := by
  have hj := join_take (ns ++ [x]) ns.length x (by simp)
  rw [List.take_of_length_le (by simp), List.take_left' rfl] at hj
  unfold joinP
  rw [if_neg (by simp), hj]
  by_cases h : ns = []
  · subst h; rfl
  · have hl : ns.length ≠ 0 := fun h0 => h (List.eq_nil_of_length_eq_zero h0)
    rw [if_neg hl, if_neg h]
    have hne47 : (47 :: Lib.join ns [47]) ≠ [47] := fun he => by
      have h1 : Lib.join ns [47] = [] := (List.cons.inj he).2
      have h2 := join_len ns h
      rw [h1] at h2
      cases ns with
      | nil => exact h rfl
      | cons y r =>
        have := List.length_pos_iff.2 (hne y List.mem_cons_self)
        simp at h2; omega
    unfold underV
    rw [if_neg hne47]
    simp
theorem name_ne {f : FsV} (h : okV f) {n : Int} (hh : hasV n f.xs = true) {e : EntV} (he : e ∈ (gotV n f.xs).es) : e.name ≠ [] := fun hn => by
  obtain ⟨_, _, h2, _⟩ := okV_parts h
  obtain ⟨hm, _⟩ := got_has hh
  obtain ⟨i, hi, rfl⟩ := List.getElem_of_mem he
  have := (((h2 _ hm).2.2.1 (es_dir h hh (List.getElem_mem hi))).2 i hi).1
  rw [hn] at this
  simp [may] at this
theorem below_tree {f : FsV} (h : okV f) : ∀ (m : Nat) (n : Int) (ns : List (List UInt8)), (∀ y ∈ ns, y ≠ []) → belowV f.xs m n (joinP ns) = (treeV f.xs m n ns).map seen1
  | 0, n, ns, _ => rfl
  | m + 1, n, ns, hne => by
    unfold belowV treeV
    split
    · rename_i hh
      obtain ⟨_, hi⟩ := got_has hh
      rw [List.map_cons, List.map_flatMap, show seen1 (ns, gotV n f.xs) = ⟨joinP ns, n⟩ by simp [seen1, hi]]
      congr 1
      refine flatMap_congr' fun e he => ?_
      have hn := name_ne h hh he
      rw [← joinP_snoc ns e.name hne]
      exact below_tree h m e.ino _ fun y hy => by
        rcases List.mem_append.1 hy with hy | hy
        · exact hne y hy
        · simp at hy; subst hy; exact hn
    · rfl
theorem list_tree {f : FsV} (h : okV f) : listV f.xs = (trV f.xs 1 []).map seen1 := below_tree h _ 1 [] fun y hy => by cases hy
/-- an inode's paths, both ways -/
theorem paths_tree {n : Int} {l : Items} : pathsV n (l.map seen1) = wpathsV n l := by
  unfold pathsV wpathsV
  rw [List.filter_map, List.map_map]
  rfl
end Go.Proofs.YtnjglohgjhihjaaDoor.Vcg
end
section
set_option linter.unusedVariables false
set_option linter.unusedSimpArgs false
namespace Go.Proofs.YtnjglohgjhihjaaDoor.Vcg
/-- d is come to from n by j steps -/
inductive Anc (xs : List NodV) (n : Int) : Nat → Int → Prop
  | same : Anc xs n 0 n
  | step {j : Nat} {p : Int} {e : EntV} : Anc xs n j p → hasV p xs = true → e ∈ (gotV p xs).es → Anc xs n (j + 1) e.ino
theorem Anc.dep {xs : List NodV} {n : Int} {k : Nat} (hd : Dep xs k n) : ∀ {j : Nat} {d : Int}, Anc xs n j d → Dep xs (k + j) d
  | _, _, .same => hd
  | _, _, .step a b c => .step (a.dep hd) b c
theorem Anc.up {xs : List NodV} {n : Int} {e : EntV} (hh : hasV n xs = true) (he : e ∈ (gotV n xs).es) : ∀ {j : Nat} {d : Int}, Anc xs e.ino j d → Anc xs n (j + 1) d
  | _, _, .same => .step .same hh he
  | _, _, .step a b c => .step (a.up hh he) b c
theorem tree_anc {xs : List NodV} : ∀ (m : Nat) (n : Int) (ns : List (List UInt8)), ∀ p ∈ treeV xs m n ns, ∃ j, Anc xs n j p.2.ino ∧ hasV p.2.ino xs = true ∧ gotV p.2.ino xs = p.2
  | 0, n, ns, p, hp => by cases hp
  | m + 1, n, ns, p, hp => by
    unfold treeV at hp
    split at hp
    · rename_i hh
      obtain ⟨_, hi⟩ := got_has hh
      rcases List.mem_cons.1 hp with rfl | hp
      · exact ⟨0, by rw [hi]; exact .same, by rw [hi]; exact hh, by rw [hi]⟩
      · obtain ⟨e, he, hp⟩ := List.mem_flatMap.1 hp
        obtain ⟨j, q1, q2⟩ := tree_anc m _ _ p hp
        exact ⟨j + 1, q1.up hh he, q2⟩
    · cases hp
/-- two roads of one length to one directory begin alike -/
theorem anc_same {f : FsV} (h : okV f) {a b : Int} : ∀ (j : Nat) (d : Int), Anc f.xs a j d → Anc f.xs b j d → hasV d f.xs = true → (gotV d f.xs).kind = 2 → a = b ∧ hasV a f.xs = true ∧ (gotV a f.xs).kind = 2
  | 0, d, h1, h2, hh, hk => by
    cases h1; cases h2
    exact ⟨rfl, hh, hk⟩
  | j + 1, d, h1, h2, hh, hk => by
    obtain ⟨_, _, _, _, h4, _⟩ := okV_parts h
    cases h1 with
    | @step _ p e x y z =>
      generalize hn : e.ino = d at h2 hh hk
      cases h2 with
      | @step _ p' e' x' y' z' =>
        have hp := pair_mem y z
        have hp' := pair_mem y' z'
        rw [hn] at hp
        obtain ⟨hm, hi⟩ := got_has hh
        have hq := (h4 _ hm).2
        rw [hi, if_neg (root_unnamed h y' z')] at hq
        have := cnt_one hp hp' (hq.2 hk).1
        subst this
        exact anc_same h j p x x' y (es_dir h y z)
theorem cnt_two {xs : List NodV} {n : Int} {e e' : EntV} (hh : hasV n xs = true) (hs : [e, e'].Sublist (gotV n xs).es) (hi : e.ino = e'.ino) : 2 ≤ cntV e.ino (pairsV xs) := by
  obtain ⟨hm, hino⟩ := got_has hh
  have h1 : ([e, e'].map fun e => (e.ino, (gotV n xs).ino)).Sublist (pairN (gotV n xs) (gotV n xs).es) := hs.map _
  obtain ⟨i, hi', hx⟩ := List.getElem_of_mem hm
  have h2 : (pairN (gotV n xs) (gotV n xs).es).Sublist (pairsV xs) := by
    obtain ⟨s, t, hst⟩ := List.append_of_mem hm
    unfold pairsV
    conv => rhs; rw [hst]
    rw [List.flatMap_append, List.flatMap_cons]
    exact (List.sublist_append_left _ _).trans (List.sublist_append_right _ _)
  have h3 := ((h1.trans h2).filter fun p => p.1 == e.ino).length_le
  unfold cntV
  simpa [hi] using h3
abbrev dirsV (l : Items) : List Int := (l.filter fun p => decide (p.2.kind = 2)).map fun p => p.2.ino
theorem dirs_mem {l : Items} {d : Int} (h : d ∈ dirsV l) : ∃ p ∈ l, p.2.kind = 2 ∧ p.2.ino = d := by
  obtain ⟨p, hp, rfl⟩ := List.mem_map.1 h
  obtain ⟨h1, h2⟩ := List.mem_filter.1 hp
  exact ⟨p, h1, of_decide_eq_true h2, rfl⟩
theorem dirs_flat {α : Type} {g : α → Items} {l : List α} : dirsV (l.flatMap g) = l.flatMap fun a => dirsV (g a) := by
  induction l with
  | nil => rfl
  | cons a r ih =>
    rw [List.flatMap_cons, List.flatMap_cons, ← ih]
    unfold dirsV
    rw [List.filter_append, List.map_append]
theorem dirs_nodup {f : FsV} (h : okV f) : ∀ (m : Nat) (n : Int) (ns : List (List UInt8)), hasV n f.xs = true → (dirsV (treeV f.xs m n ns)).Nodup
  | 0, n, ns, _ => List.nodup_nil
  | m + 1, n, ns, hh => by
    obtain ⟨k, hd⟩ := all_dep h hh
    obtain ⟨_, _, _, h3, h4, _⟩ := okV_parts h
    obtain ⟨hm, hi⟩ := got_has hh
    have key : ∀ L : List EntV, L.Sublist (gotV n f.xs).es → (dirsV (L.flatMap fun e => treeV f.xs m e.ino (ns ++ [e.name]))).Nodup := by
      intro L
      induction L with
      | nil => intro _; exact List.nodup_nil
      | cons e r ih =>
        intro hs
        have he : e ∈ (gotV n f.xs).es := hs.subset List.mem_cons_self
        have hr : r.Sublist (gotV n f.xs).es := (List.sublist_cons_self e r).trans hs
        have hap : dirsV ((e :: r).flatMap fun e => treeV f.xs m e.ino (ns ++ [e.name])) = dirsV (treeV f.xs m e.ino (ns ++ [e.name])) ++ dirsV (r.flatMap fun e => treeV f.xs m e.ino (ns ++ [e.name])) := by
          rw [List.flatMap_cons]; unfold dirsV; rw [List.filter_append, List.map_append]
        rw [hap, List.nodup_append]
        refine ⟨dirs_nodup h m e.ino _ (h3 _ hm e he), ih hr, fun d hd1 d' hd2 hdd => ?_⟩
        subst hdd
        obtain ⟨p, p1, p2, rfl⟩ := dirs_mem hd1
        obtain ⟨p', p1', p2', p3'⟩ := dirs_mem hd2
        obtain ⟨e', he', p1'⟩ := List.mem_flatMap.1 p1'
        obtain ⟨j, a1, a2, a3⟩ := tree_anc m _ _ p p1
        obtain ⟨j', b1, b2, b3⟩ := tree_anc m _ _ p' p1'
        rw [p3'] at b1
        have hk : (gotV p.2.ino f.xs).kind = 2 := by rw [a3]; exact p2
        have hdep := dep_one h _ _ _ (a1.dep (.step hd hh he)) (b1.dep (.step hd hh (hr.subset he'))) a2 hk
        obtain rfl : j = j' := by omega
        obtain ⟨q1, q2, q3⟩ := anc_same h j _ a1 b1 a2 hk
        have hs2 : [e, e'].Sublist (gotV n f.xs).es := (List.Sublist.cons_cons e (List.singleton_sublist.2 he')).trans hs
        have h2 := cnt_two hh hs2 q1
        obtain ⟨hm2, hi2⟩ := got_has q2
        have hq := (h4 _ hm2).2
        rw [hi2, if_neg (root_unnamed h hh he)] at hq
        have := (hq.2 q3).1
        omega
    unfold treeV
    rw [if_pos hh]
    by_cases hk : (gotV n f.xs).kind = 2
    · have hc : dirsV ((ns, gotV n f.xs) :: (gotV n f.xs).es.flatMap fun e => treeV f.xs m e.ino (ns ++ [e.name])) = n :: dirsV ((gotV n f.xs).es.flatMap fun e => treeV f.xs m e.ino (ns ++ [e.name])) := by
        unfold dirsV
        rw [List.filter_cons_of_pos (by simpa using hk), List.map_cons, hi]
      rw [hc, List.nodup_cons]
      refine ⟨fun hmem => ?_, key _ (List.Sublist.refl _)⟩
      obtain ⟨p, p1, p2, p3⟩ := dirs_mem hmem
      obtain ⟨e, he, p1⟩ := List.mem_flatMap.1 p1
      obtain ⟨j, a1, a2, a3⟩ := tree_anc m _ _ p p1
      rw [p3] at a1
      have := dep_one h _ _ _ (a1.dep (.step hd hh he)) hd hh hk
      omega
    · have hc : dirsV ((ns, gotV n f.xs) :: (gotV n f.xs).es.flatMap fun e => treeV f.xs m e.ino (ns ++ [e.name])) = dirsV ((gotV n f.xs).es.flatMap fun e => treeV f.xs m e.ino (ns ++ [e.name])) := by
        unfold dirsV
        rw [List.filter_cons_of_neg (by simpa using hk)]
      rw [hc]
      exact key _ (List.Sublist.refl _)
end Go.Proofs.YtnjglohgjhihjaaDoor.Vcg
end
section
set_option linter.unusedVariables false
set_option linter.unusedSimpArgs false
namespace Go.Proofs.YtnjglohgjhihjaaDoor.Vcg
def sumEs (l : Items) : Nat := (l.map fun p => p.2.es.length).sum
theorem sumEs_app (a b : Items) : sumEs (a ++ b) = sumEs a + sumEs b := by unfold sumEs; rw [List.map_append, List.sum_append]
theorem tree_sum {xs : List NodV} : ∀ (m : Nat) (n : Int) (ns : List (List UInt8)), (treeV xs m n ns).length ≤ 1 + sumEs (treeV xs m n ns)
  | 0, n, ns => Nat.zero_le _
  | m + 1, n, ns => by
    unfold treeV
    split
    · have key : ∀ L : List EntV, (L.flatMap fun e => treeV xs m e.ino (ns ++ [e.name])).length ≤ L.length + sumEs (L.flatMap fun e => treeV xs m e.ino (ns ++ [e.name])) := by
        intro L
        induction L with
        | nil => exact Nat.le_refl _
        | cons e r ih =>
          rw [List.flatMap_cons, List.length_append, sumEs_app, List.length_cons]
          have := tree_sum (xs := xs) m e.ino (ns ++ [e.name])
          omega
      have := key (gotV n xs).es
      have hs : ∀ l : Items, sumEs ((ns, gotV n xs) :: l) = (gotV n xs).es.length + sumEs l := fun l => by unfold sumEs; rw [List.map_cons, List.sum_cons]
      rw [List.length_cons, hs]
      omega
    · exact Nat.zero_le _
theorem sumEs_le {l : Items} (h : ∀ p ∈ l, p.2.es.length ≤ 40 ∧ (p.2.kind ≠ 2 → p.2.es = [])) : sumEs l ≤ 40 * (dirsV l).length := by
  induction l with
  | nil => exact Nat.zero_le _
  | cons p r ih =>
    have hp := h p List.mem_cons_self
    have ih := ih fun q hq => h q (List.mem_cons_of_mem _ hq)
    unfold sumEs at ih ⊢
    rw [List.map_cons, List.sum_cons]
    unfold dirsV at ih ⊢
    by_cases hk : p.2.kind = 2
    · rw [List.filter_cons_of_pos (by simpa using hk), List.map_cons, List.length_cons]; omega
    · rw [List.filter_cons_of_neg (by simpa using hk), hp.2 hk]
      simpa using ih
theorem tree_len {f : FsV} (h : okV f) (m : Nat) (n : Int) (ns : List (List UInt8)) : (treeV f.xs m n ns).length ≤ 1601 := by
  obtain ⟨h0, _, h2, _⟩ := okV_parts h
  cases hh : hasV n f.xs with
  | false =>
    cases m with
    | zero => exact Nat.zero_le _
    | succ m => unfold treeV; rw [hh]; exact Nat.zero_le _
  | true =>
    have h1 := tree_sum (xs := f.xs) m n ns
    have hg : ∀ p ∈ treeV f.xs m n ns, p.2 ∈ f.xs := fun p hp => by
      obtain ⟨j, _, q2, q3⟩ := tree_anc m n ns p hp
      rw [← q3]; exact (got_has q2).1
    have hs := sumEs_le (l := treeV f.xs m n ns) fun p hp => ⟨(h0.2 _ (hg p hp)).2.1, fun hk => ((h2 _ (hg p hp)).2.1 hk).1⟩
    have hd := seen_len (dirs_nodup h m n ns hh) fun d hd => by
      obtain ⟨p, p1, _, rfl⟩ := dirs_mem hd
      obtain ⟨_, _, q2, _⟩ := tree_anc m n ns p p1
      exact q2
    have := h0.1
    omega
def wsum (ns : List (List UInt8)) : Nat := (ns.map fun x => x.length + 1).sum
theorem wsum_snoc (ns : List (List UInt8)) (x : List UInt8) : wsum (ns ++ [x]) = wsum ns + (x.length + 1) := by
  unfold wsum; rw [List.map_append, List.sum_append]; simp
theorem tree_names {xs : List NodV} (h0 : fewV xs) : ∀ (m : Nat) (n : Int) (ns : List (List UInt8)), ∀ p ∈ treeV xs m n ns, p.1.length ≤ ns.length + m ∧ wsum p.1 ≤ wsum ns + m * 301
  | 0, n, ns, p, hp => by cases hp
  | m + 1, n, ns, p, hp => by
    unfold treeV at hp
    split at hp
    · rename_i hh
      obtain ⟨hm, _⟩ := got_has hh
      rcases List.mem_cons.1 hp with rfl | hp
      · exact ⟨Nat.le_add_right _ _, Nat.le_add_right _ _⟩
      · obtain ⟨e, he, hp⟩ := List.mem_flatMap.1 hp
        obtain ⟨q1, q2⟩ := tree_names h0 m _ _ p hp
        have := (h0.2 _ hm).2.2 e he
        rw [wsum_snoc] at q2
        rw [List.length_append, List.length_singleton] at q1
        exact ⟨by omega, by omega⟩
    · cases hp
theorem join_wsum (ns : List (List UInt8)) : (Lib.join ns [47]).length ≤ wsum ns := by
  by_cases h : ns = []
  · subst h; exact Nat.zero_le _
  · have := join_len ns h
    unfold wsum; omega
theorem start_ok {f : FsV} (h : okV f) (n : Int) (ns : List (List UInt8)) (h1 : ns.length ≤ 100000) (h2 : wsum ns ≤ 100000) : StartOk (trV f.xs) n ns := by
  obtain ⟨h0, _⟩ := okV_parts h
  refine ⟨Nat.le_trans (tree_len h _ n ns) (by decide), fun p hp => ?_⟩
  obtain ⟨q1, q2⟩ := tree_names h0 _ n ns p hp
  have := join_wsum p.1
  have := h0.1
  exact ⟨by omega, by omega⟩
theorem list_len {f : FsV} (h : okV f) : (listV f.xs).length ≤ 1000000 := by
  rw [list_tree h, List.length_map]
  exact Nat.le_trans (tree_len h _ 1 []) (by decide)
end Go.Proofs.YtnjglohgjhihjaaDoor.Vcg
end
section
set_option linter.unusedVariables false
set_option maxRecDepth 100000
set_option linter.unusedSimpArgs false
namespace Go.Proofs.YtnjglohgjhihjaaDoor.Vcg
open Go.RowKit
abbrev s8r : NodV := ⟨1, 2, 0, [], 1, [⟨[100], 3⟩]⟩
abbrev s8d : NodV := ⟨3, 2, 1, [], 1, [⟨[102], 4⟩]⟩
abbrev s8f : NodV := ⟨4, 1, 1, [], 0, []⟩
abbrev s8 : FsV := ⟨9, 9, 9, [s8r, s8d, s8f]⟩
theorem s8_ok : okV s8 := of_decide_eq_true (by kernel_rfl)
theorem s8_list : (trV s8.xs 1 []).map seen1 = [⟨[47], 1⟩, ⟨[47, 100], 3⟩, ⟨[47, 100, 47, 102], 4⟩] := by kernel_rfl
set_option maxHeartbeats 1000000 in
theorem small8_fun : Fun Tryd.prog G0 46 [] (.agg [.sc (.int .i64 9), .sc (.int .i64 9), .sc (.int .i64 9), .own 0 41 6 (nodsC s8.xs)]) 1 := by
  refine Fun.of (fun _ => []) (by kernel_rfl) Tryd.func46 rfl rfl (Nat.le_of_ble_eq_true rfl) (by kernel_rfl) ?_; dsimp only [Tryd.f46, List.append_eq, List.cons_append, List.nil_append]
  simp -dsimp only [push_cast, seval]
  (first | refine call (rnew_fun 9 9) ?_ | refine callP (rnew_fun 9 9) ?_); simp -dsimp only [push_cast, seval]
  have h1 := rset_fun (G := G0) ⟨9, 9, 9, [⟨1, 2, 0, [], 1, []⟩]⟩ s8r (by decide)
  rw [show setV s8r [⟨1, 2, 0, [], 1, []⟩] = [s8r] from rfl] at h1
  (first | refine call (h1) ?_ | refine callP (h1) ?_); simp -dsimp only [push_cast, seval]
  have h2 := rset_fun (G := G0) ⟨9, 9, 9, [s8r]⟩ s8d (by decide)
  rw [show setV s8d [s8r] = [s8r, s8d] from rfl] at h2
  (first | refine call (h2) ?_ | refine callP (h2) ?_); simp -dsimp only [push_cast, seval]
  have h3 := rset_fun (G := G0) ⟨9, 9, 9, [s8r, s8d]⟩ s8f (by decide)
  rw [show setV s8f [s8r, s8d] = [s8r, s8d, s8f] from rfl] at h3
  refine call (Fun.less h3 (by simp -dsimp only [WeakTm, WeakBx, CLe, CLeL, push_cast, seval])) ?_
  simp -dsimp only [push_cast, seval]
  exact ⟨[.inl 5], rfl, rfl, by simp -dsimp only [WeakTm, WeakBx, CLe, CLeL, push_cast, seval]⟩
set_option maxHeartbeats 1000000 in
theorem awake8 : Fun Tryd.prog G0 13 [] (boolC true) 0 := by
  have hw := walk_ok s8_ok
  have hs : ∀ n ns, ns.length ≤ 100000 → wsum ns ≤ 100000 → StartOk (trV s8.xs) n ns := fun n ns => start_ok s8_ok n ns
  have h1 := wlist_fun s8 _ hw (hs 1 [] (by decide) (by decide))
  rw [s8_list] at h1
  have h2 := wpathOf_fun s8 3 _ hw (hs 1 [] (by decide) (by decide))
  rw [show wdirV 3 (trV s8.xs 1 []) = some [47, 100] by kernel_rfl, Option.getD_some, Option.isSome_some] at h2
  have h3 := wpathOf_fun s8 4 _ hw (hs 1 [] (by decide) (by decide))
  rw [show wdirV 4 (trV s8.xs 1 []) = none by kernel_rfl, Option.getD_none, Option.isSome_none] at h3
  have h4 := wpaths_fun s8 4 _ hw (hs 1 [] (by decide) (by decide))
  rw [show wpathsV 4 (trV s8.xs 1 []) = [[47, 100, 47, 102]] by kernel_rfl] at h4
  have h5 := wbelow_fun s8 _ 3 [47, 120] (by decide) hw (hs 3 _ (by decide +kernel) (by decide +kernel))
  rw [show (trV s8.xs 3 (names [47, 120])).map seen1 = [⟨[47, 120], 3⟩, ⟨[47, 120, 47, 102], 4⟩] by kernel_rfl] at h5
  have h6 := wbelow_fun s8 _ 7 [47] (by decide) hw (hs 7 _ (by decide +kernel) (by decide +kernel))
  rw [show (trV s8.xs 7 (names [47])).map seen1 = [] by kernel_rfl] at h6
  have h7 := sees_fun (G := G0) [⟨[47], 1⟩, ⟨[47, 100], 3⟩, ⟨[47, 100, 47, 102], 4⟩] [⟨[47], 1⟩, ⟨[47, 100], 3⟩, ⟨[47, 100, 47, 102], 4⟩] (by decide) (by decide)
  rw [show decide (([⟨[47], 1⟩, ⟨[47, 100], 3⟩, ⟨[47, 100, 47, 102], 4⟩] : List SeeV) = [⟨[47], 1⟩, ⟨[47, 100], 3⟩, ⟨[47, 100, 47, 102], 4⟩]) = true from rfl] at h7
  refine Fun.of (fun _ => []) (by kernel_rfl) Tryd.func13 rfl rfl (Nat.le_of_ble_eq_true rfl) (by kernel_rfl) ?_; dsimp only [Tryd.f13, List.append_eq, List.cons_append, List.nil_append]
  simp -dsimp only [push_cast, seval]
  (first | refine call (small8_fun) ?_ | refine callP (small8_fun) ?_); simp -dsimp only [push_cast, seval]
  (first | refine call (h1) ?_ | refine callP (h1) ?_); simp -dsimp only [push_cast, seval]
  (first | refine call (h2) ?_ | refine callP (h2) ?_); simp -dsimp only [push_cast, seval]
  (first | refine call (h3) ?_ | refine callP (h3) ?_); simp -dsimp only [push_cast, seval]
  (first | refine call (h4) ?_ | refine callP (h4) ?_); simp -dsimp only [push_cast, seval]
  (first | refine call (h7) ?_ | refine callP (h7) ?_); simp -dsimp only [push_cast, seval]
  (try simp only [List.length_append, List.length_cons, List.length_nil, List.length_map, List.length_take, List.length_drop]); repeat (refine And.intro (by omega) ?_)
  (first | refine call (h5) ?_ | refine callP (h5) ?_); simp -dsimp only [push_cast, seval]
  (first | refine call (h6) ?_ | refine callP (h6) ?_); simp -dsimp only [push_cast, seval]
  exact ⟨[], rfl, rfl, by simp -dsimp only [WeakTm, WeakBx, CLe, CLeL, push_cast, seval]⟩
end Go.Proofs.YtnjglohgjhihjaaDoor.Vcg
end
section
set_option linter.unusedVariables false
set_option linter.unusedSimpArgs false
namespace Go.Proofs.YtnjglohgjhihjaaDoor.Vcg
/-- what stands in what is come to is come to, where there is fuel -/
theorem tree_child {xs : List NodV} : ∀ (m : Nat) (n : Int) (ns : List (List UInt8)) (j : Nat) (d : Int), Anc xs n j d → j < m → hasV n xs = true → (∀ x ∈ xs, ∀ e ∈ x.es, hasV e.ino xs = true) → ∃ p ∈ treeV xs m n ns, p.2.ino = d
  | 0, n, ns, j, d, ha, hj, hh, h3 => by omega
  | m + 1, n, ns, 0, d, ha, hj, hh, h3 => by
    cases ha
    obtain ⟨_, hi⟩ := got_has hh
    refine ⟨(ns, gotV n xs), ?_, hi⟩
    unfold treeV
    rw [if_pos hh]
    exact List.mem_cons_self
  | m + 1, n, ns, j + 1, d, ha, hj, hh, h3 => by
    have key : ∀ (j : Nat) (d : Int), Anc xs n (j + 1) d → ∃ e ∈ (gotV n xs).es, Anc xs e.ino j d := by
      intro j
      induction j with
      | zero =>
        intro d ha
        cases ha with
        | step a b c => cases a; exact ⟨_, c, .same⟩
      | succ j ih =>
        intro d ha
        cases ha with
        | step a b c =>
          obtain ⟨e, he, h⟩ := ih _ a
          exact ⟨e, he, .step h b c⟩
    obtain ⟨e, he, h⟩ := key j d ha
    obtain ⟨hm, _⟩ := got_has hh
    obtain ⟨p, p1, p2⟩ := tree_child m e.ino (ns ++ [e.name]) j d h (by omega) (h3 _ hm e he) h3
    refine ⟨p, ?_, p2⟩
    unfold treeV
    rw [if_pos hh]
    exact List.mem_cons_of_mem _ (List.mem_flatMap.2 ⟨e, he, p1⟩)
theorem dep_anc {xs : List NodV} : ∀ {k : Nat} {n : Int}, Dep xs k n → Anc xs 1 k n
  | _, _, .root => .same
  | _, _, .step a b c => .step (dep_anc a) b c
theorem all_in {f : FsV} (h : okV f) {n : Int} (hh : hasV n f.xs = true) : ∃ p ∈ trV f.xs 1 [], p.2.ino = n := by
  obtain ⟨_, h1, _, h3, _⟩ := okV_parts h
  obtain ⟨k, hk, hd⟩ := dep_le h hh
  exact tree_child _ 1 [] k n (dep_anc hd) (by omega) h1.2.2.2.2.2.2.2.1 h3
theorem items_got {f : FsV} {m : Nat} {n : Int} {ns : List (List UInt8)} {p : List (List UInt8) × NodV} (hp : p ∈ treeV f.xs m n ns) : hasV p.2.ino f.xs = true ∧ gotV p.2.ino f.xs = p.2 := by
  obtain ⟨_, _, q⟩ := tree_anc m n ns p hp
  exact q
/-- one item of a directory -/
theorem dir_once : ∀ {l : Items} {n : Int}, (dirsV l).Nodup → (∀ p ∈ l, p.2.ino = n → p.2.kind = 2) → (∃ p ∈ l, p.2.ino = n) → ∃ p, l.filter (fun p => decide (p.2.ino = n)) = [p]
  | [], n, _, _, ⟨p, hp, _⟩ => by cases hp
  | q :: l, n, hn, hk, hex => by
    have hk' : ∀ p ∈ l, p.2.ino = n → p.2.kind = 2 := fun p hp => hk p (List.mem_cons_of_mem _ hp)
    by_cases hq : q.2.ino = n
    · have hk2 := hk q List.mem_cons_self hq
      have hc : dirsV (q :: l) = q.2.ino :: dirsV l := by
        unfold dirsV; rw [List.filter_cons_of_pos (by simpa using hk2), List.map_cons]
      rw [hc, List.nodup_cons, hq] at hn
      have he : l.filter (fun p => decide (p.2.ino = n)) = [] := by
        rw [List.filter_eq_nil_iff]
        intro p hp hpn
        have hpn := of_decide_eq_true hpn
        refine hn.1 ?_
        exact List.mem_map.2 ⟨p, List.mem_filter.2 ⟨hp, by simpa using hk' p hp hpn⟩, hpn⟩
      exact ⟨q, by rw [List.filter_cons_of_pos (by simpa using hq), he]⟩
    · have hn' : (dirsV l).Nodup := by
        unfold dirsV at hn ⊢
        by_cases hk2 : q.2.kind = 2
        · rw [List.filter_cons_of_pos (by simpa using hk2), List.map_cons, List.nodup_cons] at hn; exact hn.2
        · rw [List.filter_cons_of_neg (by simpa using hk2)] at hn; exact hn
      obtain ⟨p, hp, hpn⟩ := hex
      have hpl : p ∈ l := by
        rcases List.mem_cons.1 hp with rfl | hp
        · exact absurd hpn hq
        · exact hp
      obtain ⟨p', h⟩ := dir_once hn' hk' ⟨p, hpl, hpn⟩
      exact ⟨p', by rw [List.filter_cons_of_neg (by simpa using hq)]; exact h⟩
theorem dir_paths {f : FsV} (h : okV f) {n : Int} (hh : hasV n f.xs = true) (hk : (gotV n f.xs).kind = 2) : ∃ p, wpathsV n (trV f.xs 1 []) = [p] ∧ wdirV n (trV f.xs 1 []) = some p := by
  obtain ⟨_, h1, _⟩ := okV_parts h
  have hkk : ∀ p ∈ trV f.xs 1 [], p.2.ino = n → p.2.kind = 2 := fun p hp hpn => by
    obtain ⟨_, q⟩ := items_got hp
    rw [hpn] at q; rw [← q]; exact hk
  obtain ⟨p, hp⟩ := dir_once (dirs_nodup h _ 1 [] h1.2.2.2.2.2.2.2.1) hkk (all_in h hh)
  refine ⟨joinP p.1, by unfold wpathsV; rw [hp]; rfl, ?_⟩
  unfold wdirV
  have he : (fun q : List (List UInt8) × NodV => decide (q.2.ino = n) && decide (q.2.kind = 2)) = fun q => decide (q.2.ino = n) && decide (q.2.kind = 2) := rfl
  rw [← List.head?_filter]
  have hf : (trV f.xs 1 []).filter (fun q => decide (q.2.ino = n) && decide (q.2.kind = 2)) = (trV f.xs 1 []).filter fun q => decide (q.2.ino = n) := by
    refine List.filter_congr fun q hq => ?_
    by_cases hqn : q.2.ino = n
    · simp [hqn, hkk q hq hqn]
    · simp [hqn]
  rw [hf, hp]; rfl
theorem dir_none {f : FsV} (h : okV f) {n : Int} (hk : ¬ (hasV n f.xs = true ∧ (gotV n f.xs).kind = 2)) : wdirV n (trV f.xs 1 []) = none := by
  unfold wdirV
  rw [Option.map_eq_none_iff, List.find?_eq_none]
  intro p hp hc
  simp only [Bool.and_eq_true, decide_eq_true_eq] at hc
  obtain ⟨q1, q2⟩ := items_got hp
  rw [hc.1] at q1 q2
  exact hk ⟨q1, by rw [q2]; exact hc.2⟩
end Go.Proofs.YtnjglohgjhihjaaDoor.Vcg
end
section
set_option linter.unusedVariables false
set_option linter.unusedSimpArgs false
namespace Go.Proofs.YtnjglohgjhihjaaDoor.Vcg
open Go.RowKit
/-- a name that a text can have -/
def isName (x : List UInt8) : Prop := x ≠ [] ∧ (47 : UInt8) ∉ x
theorem spl_app : ∀ a t : List UInt8, splS (a ++ 47 :: t) = splS a ++ splS t
  | [], t => by
    have : splS (47 :: t) = [] :: splS t := rfl
    exact this
  | b :: a, t => by
    have ih := spl_app a t
    have e1 : splS (b :: (a ++ 47 :: t)) = if b = 47 then [] :: splS (a ++ 47 :: t) else match splS (a ++ 47 :: t) with
      | [] => [[b]]
      | x :: r => (b :: x) :: r := rfl
    have e2 : splS (b :: a) = if b = 47 then [] :: splS a else match splS a with
      | [] => [[b]]
      | x :: r => (b :: x) :: r := rfl
    rw [List.cons_append, e1, e2, ih]
    by_cases hb : b = 47
    · simp [hb]
    · rw [if_neg hb, if_neg hb]
      have hne := spl_ne a
      cases hs : splS a with
      | nil => exact absurd hs hne
      | cons x r => simp
theorem spl_one : ∀ x : List UInt8, (47 : UInt8) ∉ x → splS x = [x]
  | [], _ => rfl
  | b :: x, h => by
    have hb : ¬ (b = 47) := fun e => h (by rw [e]; exact List.mem_cons_self)
    have ih := spl_one x (fun hx => h (List.mem_cons_of_mem _ hx))
    unfold splS
    rw [if_neg hb, ih]
theorem spl_mem : ∀ (l x : List UInt8), x ∈ splS l → (47 : UInt8) ∉ x
  | [], x, h => by simp [splS] at h; subst h; simp
  | b :: l, x, h => by
    have ih := spl_mem l
    unfold splS at h
    by_cases hb : b = 47
    · rw [if_pos hb] at h
      rcases List.mem_cons.1 h with rfl | h
      · simp
      · exact ih x h
    · rw [if_neg hb] at h
      have hne := spl_ne l
      cases hs : splS l with
      | nil => exact absurd hs hne
      | cons y r =>
        rw [hs] at h ih
        simp only at h
        rcases List.mem_cons.1 h with rfl | h
        · intro hm
          rcases List.mem_cons.1 hm with e | hm
          · exact hb e.symm
          · exact ih y List.mem_cons_self hm
        · exact ih x (List.mem_cons_of_mem _ h)
theorem names_mem {l x : List UInt8} (h : x ∈ names l) : isName x := by
  rw [names_spl, List.mem_filter] at h
  exact ⟨by simpa using h.2, spl_mem l x h.1⟩
theorem names_app (a t : List UInt8) : names (a ++ 47 :: t) = names a ++ names t := by
  rw [names_spl, names_spl, names_spl, spl_app, List.filter_append]
theorem names_one {x : List UInt8} (h : isName x) : names x = [x] := by
  rw [names_spl, spl_one x h.2]
  simp [h.1]
theorem names_slash (l : List UInt8) : names (47 :: l) = names l := names_app [] l
theorem names_join : ∀ xs : List (List UInt8), (∀ x ∈ xs, isName x) → names (Lib.join xs [47]) = xs
  | [], _ => rfl
  | [x], h => by rw [Lib.join_one]; exact names_one (h x List.mem_cons_self)
  | x :: y :: r, h => by
    have ih := names_join (y :: r) fun z hz => h z (List.mem_cons_of_mem _ hz)
    rw [join_cons2, List.append_assoc]
    show names (x ++ 47 :: Lib.join (y :: r) [47]) = _
    rw [names_app, ih, names_one (h x List.mem_cons_self)]
    rfl
theorem names_joinP (xs : List (List UInt8)) (h : ∀ x ∈ xs, isName x) : names (joinP xs) = xs := by
  unfold joinP
  by_cases hx : xs = []
  · rw [if_pos hx, hx]; rfl
  · rw [if_neg hx, names_slash, names_join xs h]
theorem names_put (a : Bool) (xs : List (List UInt8)) (s : Bool) (h : ∀ x ∈ xs, isName x) : names (put a xs s) = xs := by
  have hj := names_join xs h
  unfold put
  have e1 : ∀ t : List UInt8, names ((if a then [47] else []) ++ t) = names t := fun t => by
    cases a
    · rfl
    · exact names_slash t
  rw [List.append_assoc, e1]
  split
  · rw [show Lib.join xs [47] ++ [47] = Lib.join xs [47] ++ 47 :: [] from rfl, names_app, hj]
    simp [names_nil]
  · rw [List.append_nil, hj]
theorem pre_cons (b : UInt8) (l : List UInt8) : Lib.hasPrefix (b :: l) [47] = decide (b = 47) := by
  have := pre_at (b :: l) b rfl
  rw [this]
  by_cases h : b = 47
  · subst h; rfl
  · have h2 : ¬ ((b.toNat : Int) = 47) := u8_ne h
    simp [h, h2]
theorem pre_nil : Lib.hasPrefix [] [47] = false := rfl
theorem join_head (x : List UInt8) (r : List (List UInt8)) : ∃ t, Lib.join (x :: r) [47] = x ++ t := by
  cases r with
  | nil => exact ⟨[], by rw [Lib.join_one]; simp⟩
  | cons y r => exact ⟨[47] ++ Lib.join (y :: r) [47], by rw [join_cons2, List.append_assoc]⟩
theorem put_abs (a : Bool) (xs : List (List UInt8)) (s : Bool) (h : ∀ x ∈ xs, isName x) : Lib.hasPrefix (put a xs s) [47] = a := by
  unfold put
  cases a
  · cases xs with
    | nil => simp [Lib.join, pre_nil]
    | cons x r =>
      obtain ⟨t, ht⟩ := join_head x r
      have hx := h x List.mem_cons_self
      rw [ht]
      cases x with
      | nil => exact absurd rfl hx.1
      | cons b x =>
        have : ¬ (b = 47) := fun e => hx.2 (by rw [e]; exact List.mem_cons_self)
        simp [pre_cons, this]
  · simp [pre_cons]
theorem suf_snoc (l : List UInt8) (b : UInt8) : Lib.hasSuffix (l ++ [b]) [47] = decide (b = 47) := by
  have := suf_at (l ++ [b]) b (by simp)
  rw [this]
  by_cases h : b = 47
  · subst h; rfl
  · have h2 : ¬ ((b.toNat : Int) = 47) := u8_ne h
    simp [h, h2]
theorem join_last : ∀ xs : List (List UInt8), xs ≠ [] → (∀ x ∈ xs, isName x) → ∃ t b, Lib.join xs [47] = t ++ [b] ∧ b ≠ 47
  | [], h, _ => absurd rfl h
  | [x], _, h => by
    have hx := h x List.mem_cons_self
    refine ⟨x.dropLast, x.getLast hx.1, ?_, fun e => hx.2 ?_⟩
    · rw [Lib.join_one, List.dropLast_concat_getLast]
    · rw [← e]; exact List.getLast_mem _
  | x :: y :: r, _, h => by
    obtain ⟨t, b, e, hb⟩ := join_last (y :: r) (by simp) fun z hz => h z (List.mem_cons_of_mem _ hz)
    exact ⟨x ++ [47] ++ t, b, by rw [join_cons2, e]; simp, hb⟩
theorem put_slash (a : Bool) (xs : List (List UInt8)) (s : Bool) (h : ∀ x ∈ xs, isName x) : (!decide (xs = []) && Lib.hasSuffix (put a xs s) [47]) = (s && !decide (xs = [])) := by
  by_cases hx : xs = []
  · simp [hx]
  · unfold put
    cases s
    · obtain ⟨t, b, e, hb⟩ := join_last xs hx h
      have := suf_snoc ((if a then [47] else []) ++ t) b
      simp only [Bool.false_and, Bool.false_eq_true, if_false, List.append_nil, e]
      rw [← List.append_assoc, this]
      simp [hb]
    · have := suf_snoc ((if a then [47] else []) ++ Lib.join xs [47]) 47
      simp only [hx, Bool.true_and, decide_false, Bool.not_false, if_true]
      rw [this]; rfl
theorem names_none (p : List UInt8) (h : names p = []) : Lib.hasPrefix p [47] = !decide (p = []) := by
  cases p with
  | nil => rfl
  | cons b l =>
    rw [pre_cons]
    by_cases hb : b = 47
    · simp [hb]
    · exfalso
      rw [names_spl] at h
      have hne := spl_ne l
      have : ∃ x r, splS (b :: l) = (b :: x) :: r := by
        unfold splS
        rw [if_neg hb]
        cases hs : splS l with
        | nil => exact absurd hs hne
        | cons x r => exact ⟨x, r, rfl⟩
      obtain ⟨x, r, e⟩ := this
      rw [e] at h
      simp at h
theorem may_name {x : List UInt8} (h : may x = true) : isName x := by
  simp only [may, Bool.and_eq_true, Bool.not_eq_true', decide_eq_false_iff_not] at h
  refine ⟨h.1.1.1.1, fun hm => ?_⟩
  have := List.any_eq_false.1 h.1.1.2 47 hm
  exact this (by decide)
theorem joinP_plain (xs : List (List UInt8)) (h : ∀ x ∈ xs, may x = true) : plain (joinP xs) = true := by
  have hn := names_joinP xs fun x hx => may_name (h x hx)
  unfold plain
  rw [hn]
  simp only [decide_true, Bool.true_and]
  exact List.all_eq_true.2 h
theorem joinP_app (xs zs : List (List UInt8)) (hx : xs ≠ []) (hz : zs ≠ []) : joinP (xs ++ zs) = joinP xs ++ 47 :: Lib.join zs [47] := by
  unfold joinP
  rw [if_neg hx, if_neg (by simp [hx])]
  simp only [List.cons_append, List.cons.injEq, true_and]
  induction xs with
  | nil => exact absurd rfl hx
  | cons x r ih =>
    cases r with
    | nil =>
      cases zs with
      | nil => exact absurd rfl hz
      | cons z zs => simp only [List.cons_append, List.nil_append]; rw [join_cons2, Lib.join_one]; simp
    | cons y r =>
      have := ih (by simp)
      simp only [List.cons_append] at this ⊢
      rw [join_cons2, join_cons2, this]
      simp
theorem under_joinP (xs ys : List (List UInt8)) (hx : ∀ x ∈ xs, isName x) (hy : ∀ y ∈ ys, isName y) : underP (joinP xs) (joinP ys) = decide (xs.take ys.length = ys) := by
  have nx := names_joinP xs hx
  have ny := names_joinP ys hy
  rw [Bool.eq_iff_iff]
  simp only [decide_eq_true_eq, underP, Bool.or_eq_true]
  constructor
  · rintro ((h | h) | h)
    · have : xs = ys := by rw [← nx, ← ny, h]
      rw [this, List.take_length]
    · have : ys = [] := by rw [← ny, h]; rfl
      rw [this]; rfl
    · unfold Lib.hasPrefix at h
      obtain ⟨t, ht⟩ := List.isPrefixOf_iff_prefix.1 h
      have : xs = ys ++ names t := by
        rw [← nx, ← ht, List.append_assoc]
        show names (joinP ys ++ 47 :: t) = _
        rw [names_app, ny]
      rw [this, List.take_left]
  · intro h
    have e : xs = ys ++ xs.drop ys.length := by
      conv => lhs; rw [← List.take_append_drop ys.length xs, h]
    by_cases hys : ys = []
    · exact .inl (.inr (by rw [hys]; rfl))
    · by_cases hd : xs.drop ys.length = []
      · refine .inl (.inl ?_)
        rw [hd, List.append_nil] at e
        rw [e]
      · refine .inr ?_
        rw [e, joinP_app _ _ hys hd]
        unfold Lib.hasPrefix
        refine List.isPrefixOf_iff_prefix.2 ⟨Lib.join (xs.drop ys.length) [47], ?_⟩
        simp
theorem plain_joinP {p : List UInt8} (h : plain p = true) : joinP (names p) = p := by
  unfold plain at h
  simp only [Bool.and_eq_true, decide_eq_true_eq] at h
  exact h.1
theorem under_plain (p q : List UInt8) (hp : plain p = true) (hq : plain q = true) : underP p q = refUnder p q := by
  have h := under_joinP (names p) (names q) (fun x hx => names_mem hx) (fun x hx => names_mem hx)
  rw [plain_joinP hp, plain_joinP hq] at h
  exact h
end Go.Proofs.YtnjglohgjhihjaaDoor.Vcg
end
section
set_option linter.unusedVariables false
set_option linter.unusedSimpArgs false
namespace Go.Proofs.YtnjglohgjhihjaaDoor.Vcg
theorem flat_split {α β : Type} {g : α → List β} : ∀ {es : List α} {A B : List β} {p : β}, es.flatMap g = A ++ p :: B → ∃ e ∈ es, ∃ A0 A' B', A = A0 ++ A' ∧ g e = A' ++ p :: B'
  | [], A, B, p, h => by simp at h
  | a :: es, A, B, p, h => by
    rw [List.flatMap_cons, List.append_eq_append_iff] at h
    rcases h with ⟨a', rfl, h⟩ | ⟨c', h1, h2⟩
    · obtain ⟨e, he, A0, A', B', rfl, hx⟩ := flat_split h
      exact ⟨e, List.mem_cons_of_mem _ he, g a ++ A0, A', B', by rw [List.append_assoc], hx⟩
    · cases c' with
      | nil =>
        obtain ⟨e, he, A0, A', B', h3, hx⟩ := flat_split (A := []) h2.symm
        obtain ⟨rfl, rfl⟩ := List.append_eq_nil_iff.1 h3.symm
        exact ⟨e, List.mem_cons_of_mem _ he, A, [], B', by simp, hx⟩
      | cons c c'' =>
        rw [List.cons_append] at h2
        obtain ⟨rfl, h2⟩ := List.cons.inj h2
        exact ⟨a, List.mem_cons_self, [], A, c'', rfl, h1⟩
theorem tree_par {xs : List NodV} : ∀ (m : Nat) (n : Int) (ns : List (List UInt8)) (A B : Items) (p : List (List UInt8) × NodV), treeV xs m n ns = A ++ p :: B → A ≠ [] → ∃ q ∈ A, ∃ e ∈ q.2.es, p.1 = q.1 ++ [e.name] ∧ p.2.ino = e.ino
  | 0, n, ns, A, B, p, h, _ => by unfold treeV at h; simp at h
  | m + 1, n, ns, A, B, p, h, hA => by
    unfold treeV at h
    split at h
    · cases A with
      | nil => exact absurd rfl hA
      | cons a A1 =>
        rw [List.cons_append] at h
        obtain ⟨rfl, hfl⟩ := List.cons.inj h
        clear h
        obtain ⟨e, he, A0, A', B', rfl, h⟩ := flat_split hfl
        clear hfl
        by_cases hA' : A' = []
        · subst hA'
          cases m with
          | zero => unfold treeV at h; simp at h
          | succ m =>
            unfold treeV at h
            split at h
            · rename_i hh
              rw [List.nil_append] at h
              obtain ⟨rfl, _⟩ := List.cons.inj h
              exact ⟨_, List.mem_cons_self, e, he, rfl, (got_has hh).2⟩
            · simp at h
        · obtain ⟨q, hq, r⟩ := tree_par m e.ino _ A' B' p h hA'
          exact ⟨q, List.mem_cons_of_mem _ (List.mem_append_right _ hq), r⟩
    · simp at h
theorem tree_pre {xs : List NodV} (hm : ∀ x ∈ xs, ∀ e ∈ x.es, may e.name = true) : ∀ (m : Nat) (n : Int) (ns : List (List UInt8)), ∀ p ∈ treeV xs m n ns, ∃ zs, p.1 = ns ++ zs ∧ ∀ z ∈ zs, may z = true
  | 0, n, ns, p, hp => by unfold treeV at hp; cases hp
  | m + 1, n, ns, p, hp => by
    unfold treeV at hp
    split at hp
    · rename_i hh
      rcases List.mem_cons.1 hp with rfl | hp
      · exact ⟨[], by simp, fun z hz => by cases hz⟩
      · obtain ⟨e, he, hp⟩ := List.mem_flatMap.1 hp
        obtain ⟨zs, h1, h2⟩ := tree_pre hm m e.ino _ p hp
        refine ⟨e.name :: zs, by rw [h1, List.append_assoc]; rfl, fun z hz => ?_⟩
        rcases List.mem_cons.1 hz with rfl | hz
        · exact hm _ (got_has hh).1 e he
        · exact h2 z hz
    · cases hp
theorem tree_new {xs : List NodV} (hm : ∀ x ∈ xs, ∀ e ∈ x.es, may e.name = true) (hd : ∀ x ∈ xs, x.es.Pairwise fun a b => a.name ≠ b.name) : ∀ (m : Nat) (n : Int) (ns : List (List UInt8)), (treeV xs m n ns).Pairwise fun p q => p.1 ≠ q.1
  | 0, n, ns => by unfold treeV; exact List.Pairwise.nil
  | m + 1, n, ns => by
    unfold treeV
    split
    · rename_i hh
      refine List.pairwise_cons.2 ⟨fun q hq => ?_, List.pairwise_flatMap.2 ⟨fun e he => tree_new hm hd m e.ino _, (hd _ (got_has hh).1).imp fun {a b} hab x hx y hy hxy => ?_⟩⟩
      · obtain ⟨e, he, hq⟩ := List.mem_flatMap.1 hq
        obtain ⟨zs, h1, _⟩ := tree_pre hm m e.ino _ q hq
        intro h
        have := congrArg List.length h
        rw [h1] at this
        simp at this
      · obtain ⟨z1, h1, _⟩ := tree_pre hm m a.ino _ x hx
        obtain ⟨z2, h2, _⟩ := tree_pre hm m b.ino _ y hy
        rw [h1, h2, List.append_assoc, List.append_assoc, List.append_cancel_left_eq] at hxy
        exact hab (List.cons.inj hxy).1
    · exact List.Pairwise.nil
theorem right_new {es : List EntV} (h : rightV es) : es.Pairwise fun a b => a.name ≠ b.name := by
  have key : ∀ (d i : Nat) (hj : i + d + 1 < es.length), es[i].name < es[i + d + 1].name := by
    intro d
    induction d with
    | zero =>
      intro i hj
      have h1 := (h (i + 1) hj).2.2 (by omega)
      rw [bytesLess_eq] at h1
      exact of_decide_eq_true h1
    | succ d ih =>
      intro i hj
      have h1 := (h (i + (d + 1) + 1) hj).2.2 (by omega)
      rw [bytesLess_eq] at h1
      have h1 := of_decide_eq_true h1
      have h2 := ih i (by omega)
      exact List.lt_trans h2 h1
  refine List.pairwise_iff_getElem.2 fun i j hi hj hij he => ?_
  obtain ⟨d, rfl⟩ : ∃ d, j = i + d + 1 := ⟨j - i - 1, by omega⟩
  have h1 := key d i hj
  rw [he] at h1
  exact List.lt_irrefl _ h1
theorem tree_eq {f : FsV} (h : okV f) : ∀ (m k : Nat) (n : Int) (ns : List (List UInt8)), Dep f.xs k n → k ≤ f.xs.length → f.xs.length + 1 ≤ m + k → hasV n f.xs = true → (treeV f.xs m n ns).length = 1 + sumEs (treeV f.xs m n ns)
  | 0, k, n, ns, hd, hk, h1, hh => by omega
  | m + 1, k, n, ns, hd, hk, h1, hh => by
    unfold treeV
    rw [if_pos hh]
    have key : ∀ es : List EntV, (∀ e ∈ es, e ∈ (gotV n f.xs).es) → (es.flatMap fun e => treeV f.xs m e.ino (ns ++ [e.name])).length = es.length + sumEs (es.flatMap fun e => treeV f.xs m e.ino (ns ++ [e.name])) := by
      intro es
      induction es with
      | nil => intro _; rfl
      | cons e r ih =>
        intro he
        have he0 := he e List.mem_cons_self
        have hlt := dep_lt h hd hh (es_dir h hh he0)
        have h3 := (okV_parts h).2.2.2.1 _ (got_has hh).1 e he0
        have ih1 := tree_eq h m (k + 1) e.ino (ns ++ [e.name]) (.step hd hh he0) (by omega) (by omega) h3
        have ih2 := ih fun e' h' => he e' (List.mem_cons_of_mem _ h')
        rw [List.flatMap_cons, List.length_append, sumEs_app, ih1, ih2, List.length_cons]
        omega
    have hkey := key _ fun e he => he
    generalize (gotV n f.xs).es.flatMap (fun e => treeV f.xs m e.ino (ns ++ [e.name])) = F at hkey
    rw [List.length_cons, hkey]
    show _ = 1 + sumEs ([(ns, gotV n f.xs)] ++ _)
    rw [sumEs_app]
    have : sumEs [(ns, gotV n f.xs)] = (gotV n f.xs).es.length := by simp [sumEs]
    omega
/-- the entries of all inodes -/
def entsN (xs : List NodV) : Nat := (xs.map fun x => x.es.length).sum
theorem sum_dirs {l : Items} {g : Int → Nat} (h : ∀ p ∈ l, (p.2.kind ≠ 2 → p.2.es = []) ∧ g p.2.ino = p.2.es.length) : sumEs l = ((dirsV l).map g).sum := by
  induction l with
  | nil => rfl
  | cons p r ih =>
    have hp := h p List.mem_cons_self
    have ih := ih fun q hq => h q (List.mem_cons_of_mem _ hq)
    unfold sumEs at ih ⊢
    unfold dirsV at ih ⊢
    rw [List.map_cons, List.sum_cons, ih]
    by_cases hk : p.2.kind = 2
    · rw [List.filter_cons_of_pos (by simpa using hk), List.map_cons, List.map_cons, List.sum_cons, hp.2]
    · rw [List.filter_cons_of_neg (by simpa using hk), hp.1 hk]; simp
theorem sum_dirs2 {xs : List NodV} {g : Int → Nat} (h : ∀ x ∈ xs, (x.kind ≠ 2 → x.es = []) ∧ g x.ino = x.es.length) : entsN xs = (((xs.filter fun x => decide (x.kind = 2)).map (·.ino)).map g).sum := by
  induction xs with
  | nil => rfl
  | cons p r ih =>
    have hp := h p List.mem_cons_self
    have ih := ih fun q hq => h q (List.mem_cons_of_mem _ hq)
    unfold entsN at ih ⊢
    rw [List.map_cons, List.sum_cons, ih]
    by_cases hk : p.kind = 2
    · rw [List.filter_cons_of_pos (by simpa using hk), List.map_cons, List.map_cons, List.sum_cons, hp.2]
    · rw [List.filter_cons_of_neg (by simpa using hk), hp.1 hk]; simp
theorem got_self {xs : List NodV} (hr : Rises xs) {x : NodV} (hx : x ∈ xs) : hasV x.ino xs = true ∧ gotV x.ino xs = x := by
  obtain ⟨i, hi, rfl⟩ := List.getElem_of_mem hx
  refine get_take hi ?_ rfl
  unfold hasV
  rw [List.any_eq_false]
  intro y hy hc
  obtain ⟨j, hj, rfl⟩ := List.getElem_of_mem hy
  have hji : j < i := by simp at hj; omega
  rw [List.getElem_take] at hc
  have := List.pairwise_iff_getElem.1 hr j i (by omega) hi hji
  simp at hc
  omega
theorem tree_count {f : FsV} (h : okV f) : (trV f.xs 1 []).length = 1 + entsN f.xs := by
  obtain ⟨h0, h1, h2, h3, _⟩ := okV_parts h
  have hr : Rises f.xs := h1.2.2.2.2.2.2.1
  have h11 : hasV 1 f.xs = true := h1.2.2.2.2.2.2.2.1
  rw [tree_eq h _ 0 1 [] .root (Nat.zero_le _) (by omega) h11]
  congr 1
  have s1 : sumEs (trV f.xs 1 []) = _ := sum_dirs (g := fun n => (gotV n f.xs).es.length) fun p hp => by
    obtain ⟨q1, q2⟩ := items_got hp
    have hx : p.2 ∈ f.xs := by rw [← q2]; exact (got_has q1).1
    exact ⟨fun hk => ((h2 _ hx).2.1 hk).1, by rw [q2]⟩
  have s2 : entsN f.xs = _ := sum_dirs2 (g := fun n => (gotV n f.xs).es.length) fun x hx => ⟨fun hk => ((h2 _ hx).2.1 hk).1, by rw [(got_self hr hx).2]⟩
  rw [s1, s2]
  · refine List.Perm.sum_nat (List.Perm.map _ ?_)
    refine (List.perm_ext_iff_of_nodup (dirs_nodup h _ 1 [] h11) ?_).2 fun n => ?_
    · refine List.Nodup.sublist (List.Sublist.map _ List.filter_sublist) ?_
      exact List.pairwise_map.2 (hr.imp fun {a b} hab => by omega)
    · constructor
      · intro hn
        obtain ⟨p, hp, hk, rfl⟩ := dirs_mem hn
        obtain ⟨q1, q2⟩ := items_got hp
        exact List.mem_map.2 ⟨p.2, List.mem_filter.2 ⟨by rw [← q2]; exact (got_has q1).1, by simpa using hk⟩, rfl⟩
      · intro hn
        obtain ⟨x, hx, rfl⟩ := List.mem_map.1 hn
        obtain ⟨hx, hk⟩ := List.mem_filter.1 hx
        obtain ⟨g1, g2⟩ := got_self hr hx
        obtain ⟨p, hp, he⟩ := all_in h g1
        obtain ⟨_, q2⟩ := items_got hp
        refine List.mem_map.2 ⟨p, List.mem_filter.2 ⟨hp, ?_⟩, he⟩
        rw [← q2, he, g2]; exact hk
theorem names_right {f : FsV} (h : okV f) : (∀ x ∈ f.xs, ∀ e ∈ x.es, may e.name = true) ∧ ∀ x ∈ f.xs, x.es.Pairwise fun a b => a.name ≠ b.name := by
  obtain ⟨_, _, h2, _⟩ := okV_parts h
  have key : ∀ x ∈ f.xs, rightV x.es := fun x hx => by
    by_cases hk : x.kind = 2
    · exact ((h2 x hx).2.2.1 hk).2
    · rw [((h2 x hx).2.1 hk).1]; intro i hi; simp at hi
  refine ⟨fun x hx e he => ?_, fun x hx => right_new (key x hx)⟩
  obtain ⟨i, hi, rfl⟩ := List.getElem_of_mem he
  exact (key x hx i hi).1
end Go.Proofs.YtnjglohgjhihjaaDoor.Vcg
end
section
set_option linter.unusedVariables false
set_option maxRecDepth 100000
set_option linter.unusedSimpArgs false
namespace Go.Proofs.YtnjglohgjhihjaaDoor.Vcg
open Go.RowKit
def isE (nm : List UInt8) (n : Int) (e : EntV) : Bool := decide (e = ⟨nm, n⟩)
def parB (dn : List (List UInt8)) (nm : List UInt8) (n : Int) (q : List (List UInt8) × NodV) : Bool := decide (q.1 = dn) && q.2.es.any (isE nm n)
theorem any_succ {α : Type} {P : α → Bool} {l : List α} {k : Nat} (h : k < l.length) : (l.take (k + 1)).any P = ((l.take k).any P || P l[k]) := by
  rw [List.take_add_one, List.getElem?_eq_getElem h, List.any_append]; simp
theorem ents_succ {xs : List NodV} {k : Nat} (h : k < xs.length) : entsN (xs.take (k + 1)) = entsN (xs.take k) + xs[k].es.length := by
  unfold entsN
  rw [List.take_add_one, List.getElem?_eq_getElem h, List.map_append, List.sum_append]; simp
theorem ents_le {xs : List NodV} (h : fewV xs) (k : Nat) : entsN (xs.take k) ≤ 40 * k := by
  induction k with
  | zero => simp [entsN]
  | succ k ih =>
    by_cases hk : k < xs.length
    · rw [ents_succ hk]
      have := (h.2 _ (List.getElem_mem hk)).2.1
      omega
    · rw [List.take_of_length_le (by omega)]
      rw [List.take_of_length_le (by omega)] at ih
      omega
theorem joinP_inj {a b : List (List UInt8)} (ha : ∀ x ∈ a, may x = true) (hb : ∀ x ∈ b, may x = true) (h : joinP a = joinP b) : a = b := by
  have h1 := names_joinP a fun x hx => may_name (ha x hx)
  have h2 := names_joinP b fun x hx => may_name (hb x hx)
  rw [← h1, ← h2, h]
theorem plainC_eq2 (p : List UInt8) {b : Bool} (h : plain p = b) : plainC p = .tup [.own 0 9 1 (strs (if b then names p else [])), boolC b] := by subst h; rfl
set_option maxHeartbeats 2000000 in
theorem walkOrder_fun (f : FsV) : Fun Tryd.prog G0 6 [.agg (fsC f)] (boolC true) 0 := by
  refine Fun.of (fun i => if i = 21 then lateB 10 11 else []) (by kernel_rfl) Tryd.func6 rfl rfl (Nat.le_of_ble_eq_true rfl) (by kernel_rfl) ?_; dsimp only [Tryd.f6, List.append_eq, List.cons_append, List.nil_append]
  simp -dsimp only [push_cast, seval]
  by_cases h : okV f
  case neg =>
    (first | refine call (awake8) ?_ | refine callP (awake8) ?_); simp -dsimp only [push_cast, seval]
    (first | refine call (ok_fun f) ?_ | refine callP (ok_fun f) ?_); simp -dsimp only [push_cast, seval, decide_eq_false h]
    (first | refine call (awake8) ?_ | refine callP (awake8) ?_); simp -dsimp only [push_cast, seval]
    exact ⟨[], rfl, rfl, by simp -dsimp only [WeakTm, WeakBx, CLe, CLeL, push_cast, seval]⟩
  have h0 := (okV_parts h).1
  have h40 := h0.1
  have hw := walk_ok h
  have hs := start_ok h 1 [] (by decide) (by decide)
  have hl := wlist_fun f _ hw hs
  have hlen : (trV f.xs 1 []).length ≤ 1601 := tree_len h (f.xs.length + 1) 1 []
  have hcnt := tree_count h
  have hbound : ∀ p ∈ trV f.xs 1 [], p.1.length ≤ 41 ∧ (joinP p.1).length ≤ 20000 ∧ wsum p.1 ≤ 20000 := fun p hp => by
    obtain ⟨q1, q2⟩ := tree_names h0 _ 1 [] p hp
    have q3 := join_wsum p.1
    have q4 : wsum [] = 0 := rfl
    have q5 : (joinP p.1).length ≤ (Lib.join p.1 [47]).length + 1 := by unfold joinP; split <;> simp
    simp only [List.length_nil, q4] at q1 q2
    exact ⟨by omega, by omega, by omega⟩
  have hgot : ∀ p ∈ trV f.xs 1 [], hasV p.2.ino f.xs = true ∧ gotV p.2.ino f.xs = p.2 := fun p hp => items_got hp
  have hpar : ∀ (A B : Items) (p : List (List UInt8) × NodV), trV f.xs 1 [] = A ++ p :: B → A ≠ [] → ∃ q ∈ A, ∃ e ∈ q.2.es, p.1 = q.1 ++ [e.name] ∧ p.2.ino = e.ino := tree_par (xs := f.xs) (f.xs.length + 1) 1 []
  obtain ⟨hm, hd⟩ := names_right h
  have hmay : ∀ p ∈ trV f.xs 1 [], ∀ z ∈ p.1, may z = true := fun p hp => by
    obtain ⟨zs, h1, h2⟩ := tree_pre hm _ 1 [] p hp
    rw [h1]; exact h2
  have hnew : (trV f.xs 1 []).Pairwise fun p q => p.1 ≠ q.1 := tree_new hm hd (f.xs.length + 1) 1 []
  have hhead : ∃ t, trV f.xs 1 [] = ([], gotV 1 f.xs) :: t := by
    unfold trV treeV
    rw [if_pos (okV_parts h).2.1.2.2.2.2.2.2.2.1]
    exact ⟨_, rfl⟩
  have hroot : (gotV 1 f.xs).ino = 1 := (got_has (okV_parts h).2.1.2.2.2.2.2.2.2.1).2
  (first | refine call (awake8) ?_ | refine callP (awake8) ?_); simp -dsimp only [push_cast, seval]
  (first | refine call (ok_fun f) ?_ | refine callP (ok_fun f) ?_); simp -dsimp only [push_cast, seval, decide_eq_true h]
  (first | refine call (hl) ?_ | refine callP (hl) ?_); simp -dsimp only [push_cast, seval]
  clear hl hs hw
  generalize trV f.xs 1 [] = l at hlen hcnt hbound hgot hpar hmay hnew hhead
  have hll : (nodsC f.xs).length = f.xs.length := List.length_map ..
  have hsl : (seesC (l.map seen1)).length = l.length := by simp
  have hcnt2 := ents_le h0 f.xs.length
  rw [List.take_of_length_le (Nat.le_refl _)] at hcnt2
  refine loop (fun i : Nat => ⟨[(1, .ptr 0 0), (3, .own 0 51 2 (seesC (l.map seen1))), (4, .sc (.int .i64 ((1 + entsN (f.xs.take i) : Nat) : Int))), (5, .sc (.int .i64 i))], [fsC f], 1, 0⟩) (fun i => i ≤ f.xs.length) (fun i => f.xs.length - i) 0 (Nat.zero_le _) ?_ ?_
  · exact Weak.mk [.inl 0] rfl rfl (Nat.zero_le _) rfl (by simp -dsimp only [WeakTm, WeakBx, CLe, CLeL, push_cast, seval, List.take_zero, show entsN [] = 0 from rfl]) (by simp -dsimp only [WeakTm, WeakBx, CLe, CLeL, push_cast, seval])
  · intro i hi
    by_cases hk : i < f.xs.length
    · have g1 := nods_at f.xs i hk
      have hle : (entsC f.xs[i].es).length = f.xs[i].es.length := List.length_map ..
      have he := ents_succ hk
      have h1 := ents_le h0 i
      have h2 := (h0.2 _ (List.getElem_mem hk)).2.1
      have he' : (1 + (entsN (f.xs.take (i + 1)) : Int)) = 1 + (entsN (f.xs.take i) : Int) + (f.xs[i].es.length : Int) := by omega
      simp -dsimp only [push_cast, seval, hll, hk, g1, hle]
      exact ⟨by omega, ⟨by omega, by omega⟩, ⟨by omega, by omega⟩, i + 1, hk, by omega, Weak.mk [.inl 0] rfl rfl (Nat.zero_le _) rfl (by simp -dsimp only [WeakTm, WeakBx, CLe, CLeL, push_cast, seval, he']) (by simp -dsimp only [WeakTm, WeakBx, CLe, CLeL, push_cast, seval])⟩
    · have hk2 : f.xs.take i = f.xs := List.take_of_length_le (by omega)
      rw [hk2, ← hcnt]
      obtain ⟨t, ht⟩ := hhead
      have g0 : (seesC (l.map seen1))[0]? = some [.str [47], .sc (.int .i64 1)] := by rw [ht]; simp [hroot, joinP]
      simp -dsimp only [push_cast, seval, hll, hk, hsl, g0]
      have hl1 : 1 ≤ l.length := by rw [ht]; simp
      clear g0 ht t hk2 hk hi hcnt hcnt2 hroot
      refine loop (fun i : Nat => ⟨[(1, .ptr 0 0), (3, .own 0 51 2 (seesC (l.map seen1))), (6, .sc (.int .i64 i))], [fsC f], 1, 0⟩) (fun i => 1 ≤ i ∧ i ≤ l.length) (fun i => l.length - i) 1 ⟨Nat.le_refl _, by omega⟩ ?_ ?_
      · exact Weak.mk [.inl 0] rfl rfl (Nat.zero_le _) rfl (by simp -dsimp only [WeakTm, WeakBx, CLe, CLeL, push_cast, seval]) (by simp -dsimp only [WeakTm, WeakBx, CLe, CLeL, push_cast, seval])
      · rintro i ⟨hi1, hi⟩
        by_cases hk : i < l.length
        · have g1 : (seesC (l.map seen1))[i]? = some [.str (joinP l[i].1), .sc (.int .i64 l[i].2.ino)] := by simp [List.getElem?_eq_getElem hk]
          have hpi := List.getElem_mem hk
          have hb := hbound _ hpi
          have hmp := hmay _ hpi
          have hni := List.pairwise_iff_getElem.1 hnew
          have hsplit : l = l.take i ++ l[i] :: l.drop (i + 1) := by rw [List.getElem_cons_drop, List.take_append_drop]
          obtain ⟨q0, hq0, e0, he0, hp1, hp2⟩ := hpar _ _ _ hsplit (fun hnil => by
            have := congrArg List.length hnil
            rw [List.length_take, List.length_nil] at this; omega)
          have hpl := refPlain_fun (joinP l[i].1) (by omega)
          rw [plainC_eq2 _ (joinP_plain _ hmp), names_joinP _ (fun x hx => may_name (hmp x hx)), if_pos rfl] at hpl
          have hne : ∀ k (hki : k < i), joinP l[k].1 ≠ joinP l[i].1 := fun k hki he => hni k i (by omega) hk hki (joinP_inj (hmay _ (List.getElem_mem (by omega))) hmp he)
          generalize l[i] = p at g1 hpi hb hmp hp1 hp2 hpl hne
          obtain ⟨dn, hdn⟩ : ∃ dn, q0.1 = dn := ⟨_, rfl⟩
          obtain ⟨nm, hnm⟩ : ∃ nm, e0.name = nm := ⟨_, rfl⟩
          rw [hdn, hnm] at hp1
          have hdm : ∀ z ∈ dn, may z = true := fun z hz => hmp z (by rw [hp1]; exact List.mem_append_left _ hz)
          have hdl : dn.length ≤ 41 := by have := hb.1; rw [hp1, List.length_append] at this; omega
          have hjd := refJoin_fun dn (by omega) (by
            have h1 := join_wsum dn
            have h2 := hb.2.2
            rw [hp1, wsum_snoc] at h2
            omega)
          have hfd : (l.take i).any (parB dn nm p.2.ino) = true := List.any_eq_true.2 ⟨q0, hq0, by
            unfold parB
            rw [decide_eq_true hdn, Bool.true_and, List.any_eq_true]
            exact ⟨e0, he0, decide_eq_true (by rw [← hnm, hp2])⟩⟩
          have htn : ((dn.length : Int) + 1 - 1).toNat = dn.length := by omega
          have hjd2 : Fun Tryd.prog G0 28 [.sl 1 (strs ((dn ++ [nm]).take ((dn.length : Int) + 1 - 1).toNat))] (.str (joinP dn)) 0 := by rw [htn, List.take_left]; exact hjd
          have hgk : (strs (dn ++ [nm]))[((dn.length : Int) + 1 - 1).toNat]? = some [.str nm] := by rw [htn]; simp
          have hsn : (strs (dn ++ [nm])).length = dn.length + 1 := by simp
          have hdn0 : ((dn.length : Int) + 1 = 0) = False := eq_false (by omega)
          generalize joinP p.1 = P at g1 hpl hne
          rw [hp1] at hpl
          simp -dsimp only [push_cast, seval, hsl, hk, g1]
          refine ⟨by omega, ?_⟩
          (first | refine call (hpl) ?_ | refine callP (hpl) ?_); simp -dsimp only [push_cast, seval, hsn, hdn0]
          refine loop (fun k : Nat => ⟨[(1, .ptr 0 0), (3, .own 0 51 2 (seesC (l.map seen1))), (6, .sc (.int .i64 i)), (7, .own 1 9 1 (strs (dn ++ [nm]))), (9, .sc (.bool ((l.take k).any (parB dn nm p.2.ino)))), (10, .sc (.int .i64 k))], [fsC f], 2, 0⟩) (fun k => k ≤ i) (fun k => i - k) 0 (Nat.zero_le _) ?_ ?_
          · exact Weak.mk [.inl 0, .inl 1] rfl rfl (Nat.zero_le _) rfl (by simp -dsimp only [WeakTm, WeakBx, CLe, CLeL, push_cast, seval, List.take_zero, List.any_nil]) (by simp -dsimp only [WeakTm, WeakBx, CLe, CLeL, push_cast, seval])
          · intro k hki
            by_cases hkk : k < i
            · have hkl : k < l.length := by omega
              have g2 : (seesC (l.map seen1))[k]? = some [.str (joinP l[k].1), .sc (.int .i64 l[k].2.ino)] := by simp [List.getElem?_eq_getElem hkl]
              have ha := any_succ (P := parB dn nm p.2.ino) hkl
              have hnek := hne k hkk
              have hqi := List.getElem_mem hkl
              obtain ⟨h3, h4⟩ := hgot _ hqi
              have hget := rget_fun (G := G0) f l[k].2.ino (by omega)
              rw [h3, h4] at hget
              have hqm := hmay _ hqi
              have hjj : joinP l[k].1 = joinP dn → l[k].1 = dn := fun he => joinP_inj hqm hdm he
              have hes : l[k].2.es.length ≤ 40 := (h0.2 _ (by rw [← h4]; exact (got_has h3).1)).2.1
              generalize l[k] = q at g2 ha hnek hqi hget hqm hjj hes
              generalize hA : (l.take k).any (parB dn nm p.2.ino) = a at ha
              have hnek2 : (joinP q.1 = P) = False := eq_false hnek
              simp -dsimp only [push_cast, seval, hkk, g2, hsl, hkl]
              refine ⟨by omega, ?_⟩
              (first | refine call (hget) ?_ | refine callP (hget) ?_); simp -dsimp only [push_cast, seval, g1, hk, hnek2, g2, hsl, hkl, hsn]
              repeat (refine And.intro (by omega) ?_)
              by_cases hqd : q.1 = dn
              · have hqj : (joinP q.1 = joinP dn) = True := eq_true (by rw [hqd])
                have hpb : parB dn nm p.2.ino q = q.2.es.any (isE nm p.2.ino) := by unfold parB; rw [decide_eq_true hqd, Bool.true_and]
                rw [hpb] at ha
                clear hpb hjj hnek hnek2
                (first | refine call (hjd2) ?_ | refine callP (hjd2) ?_); simp -dsimp only [push_cast, seval, hqj]
                have hle2 : (entsC q.2.es).length = q.2.es.length := List.length_map ..
                refine loop (fun j : Nat => ⟨[(1, .ptr 0 0), (3, .own 0 51 2 (seesC (l.map seen1))), (6, .sc (.int .i64 i)), (7, .own 1 9 1 (strs (dn ++ [nm]))), (9, .sc (.bool (a || (q.2.es.take j).any (isE nm p.2.ino)))), (10, .sc (.int .i64 k)), (11, .ptr 1 0), (13, .sc (.int .i64 j))], [fsC f, nodC q.2], 2, 0⟩) (fun j => j ≤ q.2.es.length) (fun j => q.2.es.length - j) 0 (Nat.zero_le _) ?_ ?_
                · exact Weak.mk [.inl 0, .inl 1] rfl rfl (Nat.zero_le _) rfl (by simp -dsimp only [WeakTm, WeakBx, CLe, CLeL, push_cast, seval, List.take_zero, List.any_nil, Bool.or_false]) (by simp -dsimp only [WeakTm, WeakBx, CLe, CLeL, push_cast, seval])
                · intro j hj
                  by_cases hjk : j < q.2.es.length
                  · have g3 := ents_at q.2.es j hjk
                    have hb2 := any_succ (P := isE nm p.2.ino) hjk
                    have hde : (decide (q.2.es[j].name = nm) && decide (q.2.es[j].ino = p.2.ino)) = isE nm p.2.ino q.2.es[j] := by
                      unfold isE
                      cases q.2.es[j]; simp
                    have hjk2 : ((j : Int) < q.2.es.length) = True := eq_true (by omega)
                    generalize q.2.es[j] = e at g3 hb2 hde
                    have hb3 : (a || (q.2.es.take (j + 1)).any (isE nm p.2.ino)) = ((a || (q.2.es.take j).any (isE nm p.2.ino)) || isE nm p.2.ino e) := by rw [hb2, Bool.or_assoc]
                    clear hb2
                    by_cases hbt : (a || (q.2.es.take j).any (isE nm p.2.ino)) = true
                    · rw [hbt, Bool.true_or] at hb3
                      simp -dsimp only [push_cast, seval, hle2, hjk, g3, hbt]
                      exact ⟨⟨by omega, by omega⟩, j + 1, hjk, by omega, Weak.mk [.inl 0, .inl 1] rfl rfl (Nat.zero_le _) rfl (by simp -dsimp only [WeakTm, WeakBx, CLe, CLeL, push_cast, seval, hb3]) (by simp -dsimp only [WeakTm, WeakBx, CLe, CLeL, push_cast, seval])⟩
                    · have hbt := Bool.eq_false_iff.2 hbt
                      rw [hbt, Bool.false_or] at hb3
                      simp -dsimp only [push_cast, seval, hle2, hjk, g3, hbt, hsn, hgk, hk, g1, hsl, hde]
                      exact ⟨by omega, ⟨by omega, by omega⟩, by omega, by omega, ⟨by omega, by omega⟩, j + 1, hjk, by omega, Weak.mk [.inl 0, .inl 1] rfl rfl (Nat.zero_le _) rfl (by simp -dsimp only [WeakTm, WeakBx, CLe, CLeL, push_cast, seval, hb3]) (by simp -dsimp only [WeakTm, WeakBx, CLe, CLeL, push_cast, seval])⟩
                  · have hjt : q.2.es.take j = q.2.es := List.take_of_length_le (by omega)
                    rw [← hjt] at ha
                    simp -dsimp only [push_cast, seval, hle2, hjk]
                    exact ⟨⟨by omega, by omega⟩, k + 1, hkk, by omega, Weak.mk [.inl 0, .inl 1] rfl rfl (Nat.zero_le _) rfl (by simp -dsimp only [WeakTm, WeakBx, CLe, CLeL, push_cast, seval, ha]) (by simp -dsimp only [WeakTm, WeakBx, CLe, CLeL, push_cast, seval])⟩
              · have hqj : (joinP q.1 = joinP dn) = False := eq_false fun he => hqd (hjj he)
                have hpb : parB dn nm p.2.ino q = false := by unfold parB; rw [decide_eq_false hqd, Bool.false_and]
                rw [hpb, Bool.or_false] at ha
                (first | refine call (hjd2) ?_ | refine callP (hjd2) ?_); simp -dsimp only [push_cast, seval, hqj]
                exact ⟨⟨by omega, by omega⟩, k + 1, hkk, by omega, Weak.mk [.inl 0, .inl 1] rfl rfl (Nat.zero_le _) rfl (by simp -dsimp only [WeakTm, WeakBx, CLe, CLeL, push_cast, seval, ha]) (by simp -dsimp only [WeakTm, WeakBx, CLe, CLeL, push_cast, seval])⟩
            · have hki2 : k = i := by omega
              subst hki2
              simp -dsimp only [push_cast, seval, hkk, hfd]
              exact ⟨⟨by omega, by omega⟩, k + 1, ⟨by omega, by omega⟩, by omega, Weak.mk [.inl 0] rfl rfl (Nat.zero_le _) rfl (by simp -dsimp only [WeakTm, WeakBx, CLe, CLeL, push_cast, seval]) (by simp -dsimp only [WeakTm, WeakBx, CLe, CLeL, push_cast, seval])⟩
        · simp -dsimp only [push_cast, seval, hsl, hk]
          exact ⟨[], rfl, rfl, by simp -dsimp only [WeakTm, WeakBx, CLe, CLeL, push_cast, seval]⟩
end Go.Proofs.YtnjglohgjhihjaaDoor.Vcg
end
section
set_option linter.unusedVariables false
namespace Go.Proofs.YtnjglohgjhihjaaDoor.PWalkOrder
open Go.ChangeShapes Go.WideShapes Go.ChangeAt Go.RowKit Vcg
theorem own : ownKnob Tryd.prog.godebug = none := by kernel_rfl
theorem laidOut : laidOutB Tryd.prog = true := by kernel_rfl
set_option maxRecDepth 100000 in
theorem contract (H : Type) (enc : TypeId × Value → H) (W : World) (base : Nat) (args : Array Value) (ds gs : List (DataW H)) (before : List MemPlace)
    (hval : ∀ (j : Nat) t v, Tryd.f6.params[j]? = some t → args[j]? = some v → Value.okWide Tryd.prog W .any base t v)
    (hW : DataW.Whole enc Tryd.prog Tryd.f6.params.toList Rows.walkOrderSpec.vars false W args.toList ds gs before) (hL : laidMetH Tryd.prog Rows.walkOrderRow.laid W) :
    Calls Tryd.prog 6 args W fun e W' => ∃ v, e = .returned v ∧ Rows.walkOrderSpec.post enc Tryd.prog Tryd.f6 false true false false W args v W' := by
  have hW' := hW
  obtain ⟨p, q, hA0, hV, rfl, hfz, hnd⟩ := hW
  have hA : DataW.TrodAll enc Tryd.prog W 0 (fun _ => true) true Tryd.f6.params.toList args.toList ds p := hA0
  rw [Tryd.params6] at hA hval
  obtain ⟨v0, vs0, d0, ds0, p0, q0, hargs, rfl, rfl, h0, r0⟩ := trodAll_cons hA
  obtain ⟨rfl, rfl, rfl⟩ := trodAll_nil r0
  obtain rfl : args = #[v0] := by cases args; simp_all
  obtain ⟨rfl, rfl⟩ := trodVars_none hV
  have lt0 : ∀ x ∈ p0, x.block < W.heap.size := by obtain ⟨m, hm⟩ := h0; exact DataW.trod_lt m _ _ _ hm
  obtain ⟨row0, ⟨a0, rfl, w0⟩, rep0⟩ := OpnRow.arg opn_fs Tryd.underlying24 (hval 0 24 v0 rfl rfl) h0
  clear hA0
  refine (Fun.answers (walkOrder_fun a0) (globOk_any (fun _ => rfl) _) (repL_cons.2 ⟨_, _, rfl, rep0, repL_nil.2 rfl⟩)).mono fun e W' ⟨he, bel⟩ => ?_
  subst he
  exact ⟨_, rfl, _, _, _, [], _, [], hW', trodAll_mk1 (shut_bool Tryd.underlying4 _), (trodAll_cons_mk (Below.trod laidOut (by kernel_rfl) (of_decide_eq_true (by kernel_rfl)) h0 bel lt0) trodAll_mk0), rfl, bel.frame _, fun h => by cases h⟩
set_option maxRecDepth 100000 in
theorem lifted (os : Os) (started : os.Started) (H : Type) (enc : TypeId × Value → H) :
    ReturnsInHanded {} Tryd.checked os 6 .any (fun w args => (Rows.walkOrderSpec.pre enc Tryd.prog Tryd.f6 Rows.walkOrderRow.domain false w args ∧ laidMetH Tryd.prog Rows.walkOrderRow.laid w) ∧ sizedMet enc Tryd.prog Tryd.f6 (OpenSpec.ofChange Rows.walkOrderSpec) false w args)
      (Rows.walkOrderSpec.post enc Tryd.prog Tryd.f6 false true false false) := by
  refine returnsInHanded_of_change_and (C := Tryd.checked) (X := fun w _ => laidMetH Tryd.prog Rows.walkOrderRow.laid w) (fun _ _ _ hh h => h.of_heap hh) own started (by kernel_rfl) Tryd.func6
    (ChangeSpec.witness_shaped (enc := enc) (C := Tryd.checked) (os := os) (X := fun w _ => laidMetH Tryd.prog Rows.walkOrderRow.laid w) false (World.laidAll Tryd.prog os Rows.walkOrderRow.laid) #[.agg #[.int .i64 0, .int .i64 0, .int .i64 0, .slice none 0 0]] 8 (World.laidAll_os _ _ _)
      (World.shaped_of_ZipB (by kernel_rfl) (by kernel_rfl)) (by kernel_rfl) (by kernel_rfl) (by kernel_rfl)
      (by rw [MakeChecks.laidMetH_plain _ _ _ (by kernel_rfl)]; exact laidMet_laidAll _ (by kernel_rfl) (by kernel_rfl))) ?_
  intro W base args ds gs before hval hW _ _ hL _
  exact contract H enc W base args ds gs before hval hW hL
theorem said : Rows.WalkOrderSaid :=
  OpenClaim.holds_of_wide 6 Tryd.f6 rfl rfl rfl rfl rfl rfl rfl ⟨rfl, rfl, rfl, rfl, rfl⟩ rfl rfl rfl rfl rfl (by kernel_rfl) Tryd.func6 (by kernel_rfl)
    (of_decide_eq_true (by kernel_rfl)) (by unfold Func.isWrapper; first | (rw [if_pos (by decide +kernel)]; kernel_rfl) | (rw [if_neg (by decide +kernel)]; exact ⟨rfl, rfl⟩))
    (fun os started H enc _ => lifted os started H enc)
theorem plain (f : FuncId) (fn : Func) (hf : Tryd.pinned.checked.prog.funcNamed "drayman/draymanlaw08.WalkOrder" = some f) (hfn : Tryd.pinned.checked.prog.funcs[f]? = some fn) :
    false = Tryd.pinned.checked.prog.looks [] ∧ ∀ (j : Nat) t, fn.params[j]? = some t → Tryd.pinned.checked.prog.wantsStandIn t = false := by
  obtain rfl : f = 6 := Option.some.inj ((show Tryd.prog.funcNamed "drayman/draymanlaw08.WalkOrder" = some 6 by kernel_rfl).symm.trans hf) |>.symm
  obtain rfl : fn = Tryd.f6 := (Option.some.inj (Tryd.func6.symm.trans hfn)).symm
  exact ⟨by kernel_rfl, fun j t ht => by
    rw [Tryd.params6] at ht
    have hm : t ∈ [24] := by simpa using Array.mem_of_getElem? ht
    have hall : ([24].all fun u => !Tryd.prog.wantsStandIn u) = true := by kernel_rfl
    exact (show Tryd.prog.wantsStandIn t = false by simpa using List.all_eq_true.1 hall t hm)⟩
theorem card : Rows.WalkOrderCardSaid :=
  Claim7.holds_tied_plain_at .later [] _ _ _ _ said (fun _ h => by cases h) (by kernel_rfl) (fun _ h => by cases h) walkOrder_row_tie rfl ⟨rfl, rfl⟩ (by kernel_rfl) rfl plain (by kernel_rfl)
theorem proved : Rows.WalkOrderCardSaid := card
end Go.Proofs.YtnjglohgjhihjaaDoor.PWalkOrder
end
