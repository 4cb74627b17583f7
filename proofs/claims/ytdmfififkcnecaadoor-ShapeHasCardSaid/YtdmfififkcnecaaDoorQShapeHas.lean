/- The statement of ShapeHas is proved: for every input the law answers true, and each argument reads behind the call as it read before. Condition: none but what the row itself prints. -/
import Derived.Test.YtdmfififkcnecaaDoorShapeHasKd
import Derived.Test.YtdmfififkcnecaaDoorCards
import Derived.Test.YtdmfififkcnecaaDoorTie
import Derived.WalkKit
import Derived.ProofKit
import Derived.OpenShut
import Derived.ShutString
import Derived.ChangeOld
import Derived.Below
import Derived.LaidMore
import Derived.Lay
import Derived.SevenTiedAt
import Derived.Stop.Joined
section
set_option linter.unusedVariables false
set_option maxRecDepth 100000
set_option linter.unusedSimpArgs false
namespace Go.Proofs.YtdmfififkcnecaaDoor.Vcg
open Go.RowKit
def hasP (k : Int) (d : List UInt8) (x : NodV) : Bool := decide (x.kind = k) && decide (x.data = d)
theorem has1_fun (x : NodV) (k : Int) (d : List UInt8) : Fun Tryd.prog G0 24 [.agg (nodC x), .row [intC k], .row [.str d]] (.sc (.bool (hasP k d x))) 0 := by
  refine Fun.of (fun _ => []) (by kernel_rfl) Tryd.func24 rfl rfl (Nat.le_of_ble_eq_true rfl) (by kernel_rfl) ?_; dsimp only [Tryd.f24, List.append_eq, List.cons_append, List.nil_append]
  simp -dsimp only [push_cast, seval]
  by_cases h : x.kind = k
  · simp -dsimp only [push_cast, seval, h]
    exact ⟨[], rfl, rfl, by simp -dsimp only [WeakTm, WeakBx, CLe, CLeL, push_cast, seval, hasP, h]⟩
  · simp -dsimp only [push_cast, seval, h]
    exact ⟨[], rfl, rfl, by simp -dsimp only [WeakTm, WeakBx, CLe, CLeL, push_cast, seval, hasP, h, Bool.false_and]⟩
def ixHas (k : Int) (d : List UInt8) (xs : List NodV) : Int := match xs.findIdx? (hasP k d) with | some i => (i : Int) | none => -1
theorem ixHas_ge (k : Int) (d : List UInt8) (xs : List NodV) : decide (0 ≤ ixHas k d xs) = xs.any (hasP k d) := by
  unfold ixHas
  cases h : xs.findIdx? (hasP k d) with
  | none =>
    have h2 : xs.any (hasP k d) = false := List.any_eq_false.2 fun x hx => by simpa using List.findIdx?_eq_none_iff.1 h x hx
    rw [h2]; simp
  | some i =>
    obtain ⟨hi, hp, _⟩ := List.findIdx?_eq_some_iff_getElem.1 h
    have h2 : xs.any (hasP k d) = true := List.any_eq_true.2 ⟨xs[i], List.getElem_mem hi, hp⟩
    rw [h2]; simp
set_option maxHeartbeats 1000000 in
theorem indexHas_fun (xs : List NodV) (k : Int) (d : List UInt8) (hx : xs.length ≤ 1000001) : Fun Tryd.prog G0 35 [.sl 6 (nodsC xs), .clo (.func 24) [] [.row [intC k], .row [.str d]]] (.sc (.int .i64 (ixHas k d xs))) 0 := by
  have hll : (nodsC xs).length = xs.length := List.length_map ..
  refine Fun.of (fun _ => []) (by kernel_rfl) Tryd.func35 rfl rfl (Nat.le_of_ble_eq_true rfl) (by kernel_rfl) ?_; dsimp only [Tryd.f35, List.append_eq, List.cons_append, List.nil_append]
  simp -dsimp only [push_cast, seval, hll]
  refine loop (fun i : Nat => ⟨[(0, .sl 6 (nodsC xs)), (1, .clo (.func 24) [] [.row [intC k], .row [.str d]]), (7, .sc (.int .i64 (xs.length : Int))), (8, .sc (.int .i64 i))], [], 0, 0⟩) (fun i => i ≤ xs.length ∧ ∀ j (hj : j < xs.length), j < i → hasP k d (xs[j]'hj) = false) (fun i => xs.length - i) 0 ⟨Nat.zero_le _, fun j _ hj => by omega⟩ ?_ ?_
  · exact Weak.mk [] rfl rfl (Nat.le_refl _) rfl (by simp -dsimp only [WeakTm, WeakBx, CLe, CLeL, push_cast, seval]) (by simp -dsimp only [WeakTm, WeakBx, CLe, CLeL, push_cast, seval])
  · intro i hi
    have hi1 := hi.1
    have hi2 := hi.2
    by_cases h : i < xs.length
    · have hg := nods_at xs i h
      simp -dsimp only [push_cast, seval, h, hg]
      refine ⟨by omega, ?_⟩
      refine call (has1_fun (xs[i]'h) k d) ?_
      cases hm : hasP k d (xs[i]'h) with
      | false =>
        simp -dsimp only [push_cast, seval]
        refine ⟨by omega, i + 1, ⟨by omega, fun j hj hjk => ?_⟩, by omega, Weak.mk [] rfl rfl (Nat.le_refl _) rfl (by simp -dsimp only [WeakTm, WeakBx, CLe, CLeL, push_cast, seval]) (by simp -dsimp only [WeakTm, WeakBx, CLe, CLeL, push_cast, seval])⟩
        rcases Nat.lt_or_ge j i with g | g
        · exact hi2 j hj g
        · have : j = i := by omega
          subst this; exact hm
      | true =>
        simp -dsimp only [push_cast, seval]
        refine ⟨[], rfl, rfl, ?_⟩
        simp -dsimp only [WeakTm, WeakBx, CLe, CLeL, push_cast, seval]
        have : xs.findIdx? (hasP k d) = some i := List.findIdx?_eq_some_iff_getElem.2 ⟨h, hm, fun j hj => by simp [hi2 j (by omega) hj]⟩
        simp [ixHas, this]
    · simp -dsimp only [push_cast, seval, h]
      refine ⟨[], rfl, rfl, ?_⟩
      simp -dsimp only [WeakTm, WeakBx, CLe, CLeL, push_cast, seval]
      have : xs.findIdx? (hasP k d) = none := List.findIdx?_eq_none_iff.2 fun x hx => by
        obtain ⟨j, hj, rfl⟩ := List.getElem_of_mem hx
        exact hi2 j hj (by omega)
      simp [ixHas, this]
theorem containsHas_fun (xs : List NodV) (k : Int) (d : List UInt8) (hx : xs.length ≤ 1000001) : Fun Tryd.prog G0 23 [.sl 6 (nodsC xs), .clo (.func 24) [] [.row [intC k], .row [.str d]]] (.sc (.bool (xs.any (hasP k d)))) 0 := by
  have h := ixHas_ge k d xs
  refine Fun.of (fun _ => []) (by kernel_rfl) Tryd.func23 rfl rfl (Nat.le_of_ble_eq_true rfl) (by kernel_rfl) ?_; dsimp only [Tryd.f23, List.append_eq, List.cons_append, List.nil_append]
  simp -dsimp only [push_cast, seval]
  refine call (indexHas_fun xs k d hx) ?_
  simp -dsimp only [push_cast, seval]
  exact ⟨[], rfl, rfl, by simp -dsimp only [WeakTm, WeakBx, CLe, CLeL, push_cast, seval, h]⟩
theorem has_fun (f : FsV) (d : List UInt8) (k : Int) (hx : f.xs.length ≤ 1000001) : Fun Tryd.prog G0 13 [.agg (fsC f), .str d, .sc (.int .i64 k)] (.sc (.bool (f.xs.any (hasP k d)))) 0 := by
  refine Fun.of (fun _ => []) (by kernel_rfl) Tryd.func13 rfl rfl (Nat.le_of_ble_eq_true rfl) (by kernel_rfl) ?_; dsimp only [Tryd.f13, List.append_eq, List.cons_append, List.nil_append]
  simp -dsimp only [push_cast, seval]
  refine callR [.sl 6 (nodsC f.xs), .clo (.func 24) [] [.row [intC k], .row [.str d]]] (containsHas_fun f.xs k d hx) rfl ?_ ?_
  · simp [lendsL, lends, C.frz, C.frzL]
  · simp -dsimp only [push_cast, seval]
    exact ⟨[], rfl, rfl, by simp -dsimp only [WeakTm, WeakBx, CLe, CLeL, push_cast, seval]⟩
theorem shps_at (xs : List ShpV) (i : Nat) (h : i < xs.length) : (shpsC xs)[i]? = some (shpC xs[i]) := by simp [List.getElem?_map, List.getElem?_eq_getElem h]
theorem shp_eq (a b : ShpV) : (decide (a.path = b.path) && decide (a.kind = b.kind) && decide (a.data = b.data) && decide (a.first = b.first)) = decide (a = b) := by
  cases a; cases b; simp [Bool.and_assoc]
section
variable {G : Globs}
theorem lines_fun (a b : List ShpV) (ha : a.length ≤ 9223372036854775806) (hb : b.length ≤ 9223372036854775806) : Fun Tryd.prog G 8 [.sl 4 (shpsC a), .sl 4 (shpsC b)] (.sc (.bool (decide (a = b)))) 0 := by
  refine Fun.of (fun _ => []) (by kernel_rfl) Tryd.func8 rfl rfl (Nat.le_of_ble_eq_true rfl) (by kernel_rfl) ?_; dsimp only [Tryd.f8, List.append_eq, List.cons_append, List.nil_append]
  have hla : (shpsC a).length = a.length := List.length_map ..
  have hlb : (shpsC b).length = b.length := List.length_map ..
  by_cases hab : a.length = b.length
  · simp -dsimp only [push_cast, seval, hla, hlb, hab]
    refine loop (fun i : Nat => ⟨[(0, .sl 4 (shpsC a)), (1, .sl 4 (shpsC b)), (5, .sc (.int .i64 i))], [], 0, 0⟩) (fun i => i ≤ b.length ∧ a.take i = b.take i) (fun i => b.length - i) 0 ⟨Nat.zero_le _, rfl⟩ ?_ ?_
    · exact Weak.mk [] rfl rfl (Nat.le_refl _) rfl (by simp -dsimp only [WeakTm, WeakBx, CLe, CLeL, push_cast, seval]) (by simp -dsimp only [WeakTm, WeakBx, CLe, CLeL, push_cast, seval])
    · rintro i ⟨h1, h2⟩
      by_cases h : i < b.length
      · have g1 := shps_at a i (by omega)
        have g2 := shps_at b i h
        simp -dsimp only [push_cast, seval, hla, hab, h, g1, g2]
        (try simp only [List.length_append, List.length_cons, List.length_nil, List.length_map, List.length_take, List.length_drop]); repeat (refine And.intro (by omega) ?_)
        have hd := shp_eq a[i] b[i]
        by_cases he : a[i] = b[i]
        · rw [decide_eq_true he] at hd
          simp -dsimp only [push_cast, seval, hd]
          (try simp only [List.length_append, List.length_cons, List.length_nil, List.length_map, List.length_take, List.length_drop]); repeat (refine And.intro (by omega) ?_)
          exact ⟨i + 1, ⟨h, (take_succ_eq (by omega) h h2).2 he⟩, by omega, Weak.mk [] rfl rfl (Nat.zero_le _) rfl (by simp -dsimp only [WeakTm, WeakBx, CLe, CLeL, push_cast, seval]) (by simp -dsimp only [WeakTm, WeakBx, CLe, CLeL, push_cast, seval])⟩
        · rw [decide_eq_false he] at hd
          simp -dsimp only [push_cast, seval, hd]
          have : a ≠ b := fun h => he (by subst h; rfl)
          exact ⟨[], rfl, rfl, by simp -dsimp only [WeakTm, WeakBx, CLe, CLeL, push_cast, seval, this]⟩
      · simp -dsimp only [push_cast, seval, hla, hab, h]
        have : a = b := by rw [← List.take_of_length_le (l := a) (i := i) (by omega), h2, List.take_of_length_le (by omega)]
        exact ⟨[], rfl, rfl, by simp -dsimp only [WeakTm, WeakBx, CLe, CLeL, push_cast, seval, this]⟩
  · simp -dsimp only [push_cast, seval, hla, hlb, hab]
    have : a ≠ b := fun h => hab (by rw [h])
    exact ⟨[], rfl, rfl, by simp -dsimp only [WeakTm, WeakBx, CLe, CLeL, push_cast, seval, this]⟩
theorem equalS_fun (a b : List ShpV) (ha : a.length ≤ 9223372036854775806) (hb : b.length ≤ 9223372036854775806) : Fun Tryd.prog G 22 [.sl 4 (shpsC a), .sl 4 (shpsC b)] (.sc (.bool (decide (a = b)))) 0 := by
  refine Fun.of (fun _ => []) (by kernel_rfl) Tryd.func22 rfl rfl (Nat.le_of_ble_eq_true rfl) (by kernel_rfl) ?_; dsimp only [Tryd.f22, List.append_eq, List.cons_append, List.nil_append]
  have hla : (shpsC a).length = a.length := List.length_map ..
  have hlb : (shpsC b).length = b.length := List.length_map ..
  by_cases hab : a.length = b.length
  · simp -dsimp only [push_cast, seval, hla, hlb, hab]
    refine loop (fun i : Nat => ⟨[(0, .sl 4 (shpsC a)), (1, .sl 4 (shpsC b)), (12, .sc (.int .i64 b.length)), (13, .sc (.int .i64 i))], [], 0, 0⟩) (fun i => i ≤ b.length ∧ a.take i = b.take i) (fun i => b.length - i) 0 ⟨Nat.zero_le _, rfl⟩ ?_ ?_
    · exact Weak.mk [] rfl rfl (Nat.le_refl _) rfl (by simp -dsimp only [WeakTm, WeakBx, CLe, CLeL, push_cast, seval]) (by simp -dsimp only [WeakTm, WeakBx, CLe, CLeL, push_cast, seval])
    · rintro i ⟨h1, h2⟩
      by_cases h : i < b.length
      · have g1 := shps_at a i (by omega)
        have g2 := shps_at b i h
        simp -dsimp only [push_cast, seval, hla, hlb, hab, h, g1, g2]
        (try simp only [List.length_append, List.length_cons, List.length_nil, List.length_map, List.length_take, List.length_drop]); repeat (refine And.intro (by omega) ?_)
        have hd := shp_eq a[i] b[i]
        by_cases he : a[i] = b[i]
        · rw [decide_eq_true he] at hd
          simp -dsimp only [push_cast, seval, hd]
          (try simp only [List.length_append, List.length_cons, List.length_nil, List.length_map, List.length_take, List.length_drop]); repeat (refine And.intro (by omega) ?_)
          exact ⟨i + 1, ⟨h, (take_succ_eq (by omega) h h2).2 he⟩, by omega, Weak.mk [] rfl rfl (Nat.zero_le _) rfl (by simp -dsimp only [WeakTm, WeakBx, CLe, CLeL, push_cast, seval]) (by simp -dsimp only [WeakTm, WeakBx, CLe, CLeL, push_cast, seval])⟩
        · rw [decide_eq_false he] at hd
          simp -dsimp only [push_cast, seval, hd]
          have : a ≠ b := fun h => he (by subst h; rfl)
          exact ⟨[], rfl, rfl, by simp -dsimp only [WeakTm, WeakBx, CLe, CLeL, push_cast, seval, this]⟩
      · simp -dsimp only [push_cast, seval, h]
        have : a = b := by rw [← List.take_of_length_le (l := a) (i := i) (by omega), h2, List.take_of_length_le (by omega)]
        exact ⟨[], rfl, rfl, by simp -dsimp only [WeakTm, WeakBx, CLe, CLeL, push_cast, seval, this]⟩
  · simp -dsimp only [push_cast, seval, hla, hlb, hab]
    have : a ≠ b := fun h => hab (by rw [h])
    exact ⟨[], rfl, rfl, by simp -dsimp only [WeakTm, WeakBx, CLe, CLeL, push_cast, seval, this]⟩
end
end Go.Proofs.YtdmfififkcnecaaDoor.Vcg
end
section
set_option linter.unusedVariables false
set_option maxRecDepth 100000
set_option linter.unusedSimpArgs false
namespace Go.Proofs.YtdmfififkcnecaaDoor.Vcg
open Go.RowKit
theorem idx_spec (a : Int) : ∀ L : List Int, a ∈ L → L[L.idxOf a]? = some a ∧ ∀ n, n < L.idxOf a → L[n]? ≠ some a
  | [], h => by cases h
  | x :: r, h => by
    by_cases hx : x = a
    · subst hx
      rw [List.idxOf_cons_self]
      exact ⟨rfl, fun n hn => by omega⟩
    · have hr : a ∈ r := by
        rcases List.mem_cons.1 h with h | h
        · exact absurd h.symm hx
        · exact h
      obtain ⟨h1, h2⟩ := idx_spec a r hr
      have e : (x :: r).idxOf a = r.idxOf a + 1 := by rw [List.idxOf_cons, beq_false_of_ne hx]; rfl
      rw [e]
      refine ⟨by simpa using h1, fun n hn => ?_⟩
      cases n with
      | zero => simpa using hx
      | succ n => simpa using h2 n (by omega)
theorem shape_len (l : Items) : (shapeV l).length = l.length := by unfold shapeV; rw [List.length_map]
set_option maxHeartbeats 1000000 in
theorem rof_fun (f : FsV) (h : okV f) : Fun Tryd.prog G0 10 [.agg (fsC f)] (.own 0 37 4 (shpsC (shapeV (trV f.xs 1 [])))) 1 := by
  have h0 := (okV_parts h).1
  have h40 := h0.1
  have hs := start_ok h 1 [] (by decide) (by decide)
  have hr := list_fun (G := G0) f h0 (list_len h)
  rw [list_tree h] at hr
  have hlen := hs.len
  have hgot : ∀ p ∈ trV f.xs 1 [], hasV p.2.ino f.xs = true ∧ gotV p.2.ino f.xs = p.2 := fun p hp => by
    obtain ⟨_, _, q⟩ := tree_anc _ 1 [] p hp
    exact q
  refine Fun.of (fun i => if i = 6 then lateB 10 11 else if i = 10 then [false, false, false, false, false, false, false, false, false, false, false, false, false, true] else []) (by kernel_rfl) Tryd.func10 rfl rfl (Nat.le_of_ble_eq_true rfl) (by kernel_rfl) ?_; dsimp only [Tryd.f10, List.append_eq, List.cons_append, List.nil_append]
  simp -dsimp only [push_cast, seval]
  (first | refine call (hr) ?_ | refine callP (hr) ?_); simp -dsimp only [push_cast, seval]
  generalize trV f.xs 1 [] = l at hr hlen hgot
  have hsl : (seesC (l.map seen1)).length = l.length := by simp
  obtain ⟨L, hL⟩ : ∃ L, l.map (fun q => q.2.ino) = L := ⟨_, rfl⟩
  have hLl : L.length = l.length := by rw [← hL, List.length_map]
  have hLk : ∀ k (hk : k < l.length), L[k]'(by omega) = l[k].2.ino := fun k hk => by subst hL; simp
  refine loop (fun k : Nat => ⟨[(1, .ptr 0 0), (3, .own 1 44 2 (seesC (l.map seen1))), (4, .own 0 37 4 (shpsC ((l.take k).map (shp1 l)))), (5, .sc (.int .i64 k))], [fsC f], 2, 0⟩) (fun k => k ≤ l.length) (fun k => l.length - k) 0 (Nat.zero_le _) ?_ ?_
  · exact Weak.mk [.inr (37, 4), .inl 0] rfl rfl (Nat.zero_le _) rfl (by simp -dsimp only [WeakTm, WeakBx, CLe, CLeL, push_cast, seval]) (by simp -dsimp only [WeakTm, WeakBx, CLe, CLeL, push_cast, seval])
  · intro k hkl
    by_cases hk : k < l.length
    · have g1 : (seesC (l.map seen1))[k]? = some [.str (joinP l[k].1), .sc (.int .i64 l[k].2.ino)] := by simp [List.getElem?_eq_getElem hk]
      have hpi := List.getElem_mem hk
      obtain ⟨q1, q2⟩ := hgot _ hpi
      have hget := rget_fun (G := G0) f l[k].2.ino (by omega)
      rw [q1, q2] at hget
      have hol : (shpsC ((l.take k).map (shp1 l))).length = k := by simp; omega
      have htk : (l.take (k + 1)).map (shp1 l) = (l.take k).map (shp1 l) ++ [shp1 l l[k]] := by rw [List.take_add_one, List.getElem?_eq_getElem hk, List.map_append]; rfl
      have hsh : shp1 l l[k] = ⟨joinP l[k].1, l[k].2.kind, l[k].2.data, (L.idxOf l[k].2.ino : Int)⟩ := by rw [← hL]; rfl
      rw [hsh] at htk
      have hkL : L[k]? = some l[k].2.ino := by rw [← hLk k hk]; exact List.getElem?_eq_getElem (by omega)
      obtain ⟨s1, s2⟩ := idx_spec l[k].2.ino L (List.mem_of_getElem? hkL)
      have hix : L.idxOf l[k].2.ino ≤ k := Nat.not_lt.1 fun hlt => s2 k hlt hkL
      generalize l[k] = p at g1 hpi hget htk hsh hix s1 s2 hkL
      obtain ⟨m, hm⟩ : ∃ m, L.idxOf p.2.ino = m := ⟨_, rfl⟩
      rw [hm] at htk hix s1 s2
      simp -dsimp only [push_cast, seval, hk, g1, hsl]
      refine ⟨by omega, ?_⟩
      (first | refine call (hget) ?_ | refine callP (hget) ?_); simp -dsimp only [push_cast, seval]
      refine loop (fun n : Nat => ⟨[(1, .ptr 0 0), (3, .own 1 44 2 (seesC (l.map seen1))), (4, .own 0 37 4 (shpsC ((l.take k).map (shp1 l)))), (5, .sc (.int .i64 k)), (6, .ptr 1 0), (8, .sc (.int .i64 n))], [fsC f, nodC p.2], 2, 0⟩) (fun n => n ≤ m) (fun n => m - n) 0 (Nat.zero_le _) ?_ ?_
      · exact Weak.mk [.inl 0, .inl 1] rfl rfl (Nat.zero_le _) rfl (by simp -dsimp only [WeakTm, WeakBx, CLe, CLeL, push_cast, seval]) (by simp -dsimp only [WeakTm, WeakBx, CLe, CLeL, push_cast, seval])
      · intro n hn
        have hnl : n < l.length := by omega
        have g2 : (seesC (l.map seen1))[n]? = some [.str (joinP l[n].1), .sc (.int .i64 l[n].2.ino)] := by simp [List.getElem?_eq_getElem hnl]
        have hln : L[n]? = some l[n].2.ino := by rw [← hLk n hnl]; exact List.getElem?_eq_getElem (by omega)
        by_cases hnm : n = m
        · subst hnm
          have he : (l[n].2.ino = p.2.ino) = True := eq_true (by rw [s1] at hln; exact (Option.some.inj hln).symm)
          simp -dsimp only [push_cast, seval, g2, g1, hsl, he]
          rw [hol]
          exact ⟨by omega, by omega, by omega, by omega, by omega, ⟨by omega, by omega⟩, k + 1, hk, by omega, Weak.mk [.inl 0, .inl 1] rfl rfl (Nat.zero_le _) rfl (by simp -dsimp only [WeakTm, WeakBx, CLe, CLeL, push_cast, seval, htk, List.map_append]) (by simp -dsimp only [WeakTm, WeakBx, CLe, CLeL, push_cast, seval])⟩
        · have he : (l[n].2.ino = p.2.ino) = False := eq_false fun e => s2 n (by omega) (by rw [hln, e])
          simp -dsimp only [push_cast, seval, g2, g1, hsl, he]
          exact ⟨by omega, by omega, ⟨by omega, by omega⟩, n + 1, by omega, by omega, Weak.mk [.inl 0, .inl 1] rfl rfl (Nat.zero_le _) rfl (by simp -dsimp only [WeakTm, WeakBx, CLe, CLeL, push_cast, seval]) (by simp -dsimp only [WeakTm, WeakBx, CLe, CLeL, push_cast, seval])⟩
    · simp -dsimp only [push_cast, seval, hk, hsl]
      refine ⟨[.inl 0], rfl, rfl, ?_⟩
      rw [List.take_of_length_le (by omega)]
      simp -dsimp only [WeakTm, WeakBx, CLe, CLeL, push_cast, seval, shapeV]
/-- alike in shape -/
def alikeV (f g : FsV) : Bool := decide (shapeV (trV f.xs 1 []) = shapeV (trV g.xs 1 []))
theorem ralike_fun (f g : FsV) (hf : okV f) (hg : okV g) : Fun Tryd.prog G0 12 [.agg (fsC f), .agg (fsC g)] (.sc (.bool (alikeV f g))) 0 := by
  have h1 := rof_fun f hf
  have h2 := rof_fun g hg
  have l1 := (start_ok hf 1 [] (by decide) (by decide)).len
  have l2 := (start_ok hg 1 [] (by decide) (by decide)).len
  have h3 := lines_fun (G := G0) (shapeV (trV f.xs 1 [])) (shapeV (trV g.xs 1 [])) (by rw [shape_len]; omega) (by rw [shape_len]; omega)
  refine Fun.of (fun _ => []) (by kernel_rfl) Tryd.func12 rfl rfl (Nat.le_of_ble_eq_true rfl) (by kernel_rfl) ?_; dsimp only [Tryd.f12, List.append_eq, List.cons_append, List.nil_append]
  simp -dsimp only [push_cast, seval]
  (first | refine call (h1) ?_ | refine callP (h1) ?_); simp -dsimp only [push_cast, seval]
  (first | refine call (h2) ?_ | refine callP (h2) ?_); simp -dsimp only [push_cast, seval]
  (first | refine call (h3) ?_ | refine callP (h3) ?_); simp -dsimp only [push_cast, seval]
  exact ⟨[], rfl, rfl, by simp -dsimp only [WeakTm, WeakBx, CLe, CLeL, push_cast, seval, alikeV]⟩
theorem alike16_fun (f g : FsV) (hf : okV f) (hg : okV g) : Fun Tryd.prog G0 11 [.agg (fsC f), .agg (fsC g)] (.sc (.bool (alikeV f g))) 0 := by
  have h1 := of_fun f hf
  have h2 := of_fun g hg
  have l1 := (start_ok hf 1 [] (by decide) (by decide)).len
  have l2 := (start_ok hg 1 [] (by decide) (by decide)).len
  have h3 := equalS_fun (G := G0) (shapeV (trV f.xs 1 [])) (shapeV (trV g.xs 1 [])) (by rw [shape_len]; omega) (by rw [shape_len]; omega)
  refine Fun.of (fun _ => []) (by kernel_rfl) Tryd.func11 rfl rfl (Nat.le_of_ble_eq_true rfl) (by kernel_rfl) ?_; dsimp only [Tryd.f11, List.append_eq, List.cons_append, List.nil_append]
  simp -dsimp only [push_cast, seval]
  (first | refine call (h1) ?_ | refine callP (h1) ?_); simp -dsimp only [push_cast, seval]
  (first | refine call (h2) ?_ | refine callP (h2) ?_); simp -dsimp only [push_cast, seval]
  (first | refine call (h3) ?_ | refine callP (h3) ?_); simp -dsimp only [push_cast, seval]
  exact ⟨[], rfl, rfl, by simp -dsimp only [WeakTm, WeakBx, CLe, CLeL, push_cast, seval, alikeV]⟩
end Go.Proofs.YtdmfififkcnecaaDoor.Vcg
end
section
set_option linter.unusedVariables false
set_option maxRecDepth 100000
set_option linter.unusedSimpArgs false
namespace Go.Proofs.YtdmfififkcnecaaDoor.Vcg
open Go.RowKit
abbrev h16r : NodV := ⟨1, 2, 0, [], 1, [⟨[100], 3⟩, ⟨[103], 4⟩]⟩
abbrev h16d : NodV := ⟨3, 2, 1, [], 1, [⟨[102], 4⟩]⟩
abbrev h16f : NodV := ⟨4, 1, 2, [122], 0, []⟩
abbrev h16 : FsV := ⟨9, 9, 9, [h16r, h16d, h16f]⟩
abbrev h16g : FsV := ⟨9, 9, 99, [h16r, h16d, h16f]⟩
abbrev h16n : FsV := ⟨9, 9, 2, [⟨1, 2, 0, [], 1, []⟩]⟩
theorem h16_ok : okV h16 := of_decide_eq_true (by kernel_rfl)
theorem h16g_ok : okV h16g := of_decide_eq_true (by kernel_rfl)
theorem h16n_ok : okV h16n := of_decide_eq_true (by kernel_rfl)
abbrev h16l : List ShpV := [⟨[47], 2, [], 0⟩, ⟨[47, 100], 2, [], 1⟩, ⟨[47, 100, 47, 102], 1, [122], 2⟩, ⟨[47, 103], 1, [122], 2⟩]
theorem h16_shape : shapeV (trV h16.xs 1 []) = h16l := by kernel_rfl
set_option maxHeartbeats 1000000 in
theorem small16_fun : Fun Tryd.prog G0 14 [] (.agg [.sc (.int .i64 9), .sc (.int .i64 9), .sc (.int .i64 9), .own 0 33 6 (nodsC h16.xs)]) 1 := by
  refine Fun.of (fun _ => []) (by kernel_rfl) Tryd.func14 rfl rfl (Nat.le_of_ble_eq_true rfl) (by kernel_rfl) ?_; dsimp only [Tryd.f14, List.append_eq, List.cons_append, List.nil_append]
  simp -dsimp only [push_cast, seval]
  (first | refine call (rnew_fun 9 9) ?_ | refine callP (rnew_fun 9 9) ?_); simp -dsimp only [push_cast, seval]
  have h1 := rset_fun (G := G0) ⟨9, 9, 9, [⟨1, 2, 0, [], 1, []⟩]⟩ h16r (by decide)
  rw [show setV h16r [⟨1, 2, 0, [], 1, []⟩] = [h16r] from rfl] at h1
  (first | refine call (h1) ?_ | refine callP (h1) ?_); simp -dsimp only [push_cast, seval]
  have h2 := rset_fun (G := G0) ⟨9, 9, 9, [h16r]⟩ h16d (by decide)
  rw [show setV h16d [h16r] = [h16r, h16d] from rfl] at h2
  (first | refine call (h2) ?_ | refine callP (h2) ?_); simp -dsimp only [push_cast, seval]
  have h3 := rset_fun (G := G0) ⟨9, 9, 9, [h16r, h16d]⟩ h16f (by decide)
  rw [show setV h16f [h16r, h16d] = [h16r, h16d, h16f] from rfl] at h3
  refine call (Fun.less h3 (by simp -dsimp only [WeakTm, WeakBx, CLe, CLeL, push_cast, seval])) ?_
  simp -dsimp only [push_cast, seval]
  exact ⟨[.inl 5], rfl, rfl, by simp -dsimp only [WeakTm, WeakBx, CLe, CLeL, push_cast, seval]⟩
set_option maxHeartbeats 1000000 in
theorem awake16 : Fun Tryd.prog G0 6 [] (boolC true) 0 := by
  have h1 := of_fun h16 h16_ok
  rw [h16_shape] at h1
  have h2 := lines_fun (G := G0) h16l h16l (by decide) (by decide)
  rw [decide_eq_true rfl] at h2
  have h3 := alike16_fun h16 h16g h16_ok h16g_ok
  rw [show alikeV h16 h16g = true by kernel_rfl] at h3
  have h4 := alike16_fun h16 h16n h16_ok h16n_ok
  rw [show alikeV h16 h16n = false by kernel_rfl] at h4
  have h5 := has_fun h16 [122] 1 (by decide)
  rw [show h16.xs.any (hasP 1 [122]) = true by decide] at h5
  have h6 := has_fun h16 [122] 3 (by decide)
  rw [show h16.xs.any (hasP 3 [122]) = false by decide] at h6
  refine Fun.of (fun _ => []) (by kernel_rfl) Tryd.func6 rfl rfl (Nat.le_of_ble_eq_true rfl) (by kernel_rfl) ?_; dsimp only [Tryd.f6, List.append_eq, List.cons_append, List.nil_append]
  simp -dsimp only [push_cast, seval]
  (first | refine call (small16_fun) ?_ | refine callP (small16_fun) ?_); simp -dsimp only [push_cast, seval]
  (first | refine call (h1) ?_ | refine callP (h1) ?_); simp -dsimp only [push_cast, seval]
  (first | refine call (h2) ?_ | refine callP (h2) ?_); simp -dsimp only [push_cast, seval]
  (first | refine call (h3) ?_ | refine callP (h3) ?_); simp -dsimp only [push_cast, seval]
  (first | refine call (rnew_fun 9 9) ?_ | refine callP (rnew_fun 9 9) ?_); simp -dsimp only [push_cast, seval]
  (first | refine call (h4) ?_ | refine callP (h4) ?_); simp -dsimp only [push_cast, seval]
  (first | refine call (h5) ?_ | refine callP (h5) ?_); simp -dsimp only [push_cast, seval]
  (first | refine call (h6) ?_ | refine callP (h6) ?_); simp -dsimp only [push_cast, seval]
  exact ⟨[], rfl, rfl, by simp -dsimp only [WeakTm, WeakBx, CLe, CLeL, push_cast, seval]⟩
theorem shapeOf_fun (f : FsV) : Fun Tryd.prog G0 3 [.agg (fsC f)] (boolC true) 0 := by
  refine Fun.of (fun _ => []) (by kernel_rfl) Tryd.func3 rfl rfl (Nat.le_of_ble_eq_true rfl) (by kernel_rfl) ?_; dsimp only [Tryd.f3, List.append_eq, List.cons_append, List.nil_append]
  simp -dsimp only [push_cast, seval]
  by_cases h : okV f
  case neg =>
    (first | refine call (awake16) ?_ | refine callP (awake16) ?_); simp -dsimp only [push_cast, seval]
    (first | refine call (ok_fun f) ?_ | refine callP (ok_fun f) ?_); simp -dsimp only [push_cast, seval, decide_eq_false h]
    (first | refine call (awake16) ?_ | refine callP (awake16) ?_); simp -dsimp only [push_cast, seval]
    exact ⟨[], rfl, rfl, by simp -dsimp only [WeakTm, WeakBx, CLe, CLeL, push_cast, seval]⟩
  have l1 := (start_ok h 1 [] (by decide) (by decide)).len
  have h2 := lines_fun (G := G0) (shapeV (trV f.xs 1 [])) (shapeV (trV f.xs 1 [])) (by rw [shape_len]; omega) (by rw [shape_len]; omega)
  rw [decide_eq_true rfl] at h2
  (first | refine call (awake16) ?_ | refine callP (awake16) ?_); simp -dsimp only [push_cast, seval]
  (first | refine call (ok_fun f) ?_ | refine callP (ok_fun f) ?_); simp -dsimp only [push_cast, seval, decide_eq_true h]
  (first | refine call (of_fun f h) ?_ | refine callP (of_fun f h) ?_); simp -dsimp only [push_cast, seval]
  (first | refine call (rof_fun f h) ?_ | refine callP (rof_fun f h) ?_); simp -dsimp only [push_cast, seval]
  (first | refine call (h2) ?_ | refine callP (h2) ?_); simp -dsimp only [push_cast, seval]
  exact ⟨[], rfl, rfl, by simp -dsimp only [WeakTm, WeakBx, CLe, CLeL, push_cast, seval]⟩
theorem alike_comm (f g : FsV) : alikeV f g = alikeV g f := by
  unfold alikeV
  exact decide_eq_decide.2 ⟨fun h => h.symm, fun h => h.symm⟩
set_option maxHeartbeats 1000000 in
theorem shapeSames_fun (f g : FsV) : Fun Tryd.prog G0 4 [.agg (fsC f), .agg (fsC g)] (boolC true) 0 := by
  refine Fun.of (fun _ => []) (by kernel_rfl) Tryd.func4 rfl rfl (Nat.le_of_ble_eq_true rfl) (by kernel_rfl) ?_; dsimp only [Tryd.f4, List.append_eq, List.cons_append, List.nil_append]
  simp -dsimp only [push_cast, seval]
  by_cases h : okV f
  case neg =>
    (first | refine call (awake16) ?_ | refine callP (awake16) ?_); simp -dsimp only [push_cast, seval]
    (first | refine call (ok_fun f) ?_ | refine callP (ok_fun f) ?_); simp -dsimp only [push_cast, seval, decide_eq_false h]
    (first | refine call (awake16) ?_ | refine callP (awake16) ?_); simp -dsimp only [push_cast, seval]
    exact ⟨[], rfl, rfl, by simp -dsimp only [WeakTm, WeakBx, CLe, CLeL, push_cast, seval]⟩
  by_cases h2 : okV g
  case neg =>
    (first | refine call (awake16) ?_ | refine callP (awake16) ?_); simp -dsimp only [push_cast, seval]
    (first | refine call (ok_fun f) ?_ | refine callP (ok_fun f) ?_); simp -dsimp only [push_cast, seval, decide_eq_true h]
    (first | refine call (ok_fun g) ?_ | refine callP (ok_fun g) ?_); simp -dsimp only [push_cast, seval, decide_eq_false h2]
    (first | refine call (awake16) ?_ | refine callP (awake16) ?_); simp -dsimp only [push_cast, seval]
    exact ⟨[], rfl, rfl, by simp -dsimp only [WeakTm, WeakBx, CLe, CLeL, push_cast, seval]⟩
  have e1 := alike16_fun f g h h2
  have e2 := ralike_fun f g h h2
  have e3 := alike16_fun g f h2 h
  rw [alike_comm] at e3
  have e4 := alike16_fun f f h h
  rw [show alikeV f f = true from decide_eq_true rfl] at e4
  have hq : (alikeV f g == alikeV f g) = true := by simp
  generalize alikeV f g = q at e1 e2 e3 hq
  (first | refine call (awake16) ?_ | refine callP (awake16) ?_); simp -dsimp only [push_cast, seval]
  (first | refine call (ok_fun f) ?_ | refine callP (ok_fun f) ?_); simp -dsimp only [push_cast, seval, decide_eq_true h]
  (first | refine call (ok_fun g) ?_ | refine callP (ok_fun g) ?_); simp -dsimp only [push_cast, seval, decide_eq_true h2]
  (first | refine call (e1) ?_ | refine callP (e1) ?_); simp -dsimp only [push_cast, seval]
  (first | refine call (e2) ?_ | refine callP (e2) ?_); simp -dsimp only [push_cast, seval, hq]
  (first | refine call (e3) ?_ | refine callP (e3) ?_); simp -dsimp only [push_cast, seval]
  (first | refine call (e2) ?_ | refine callP (e2) ?_); simp -dsimp only [push_cast, seval, hq]
  (first | refine call (e4) ?_ | refine callP (e4) ?_); simp -dsimp only [push_cast, seval]
  exact ⟨[], rfl, rfl, by simp -dsimp only [WeakTm, WeakBx, CLe, CLeL, push_cast, seval]⟩
set_option maxHeartbeats 1000000 in
theorem shapeHas_fun (f : FsV) (d : List UInt8) (k : Int) : Fun Tryd.prog G0 5 [.agg (fsC f), .str d, .sc (.int .i64 k)] (boolC true) 0 := by
  refine Fun.of (fun _ => []) (by kernel_rfl) Tryd.func5 rfl rfl (Nat.le_of_ble_eq_true rfl) (by kernel_rfl) ?_; dsimp only [Tryd.f5, List.append_eq, List.cons_append, List.nil_append]
  simp -dsimp only [push_cast, seval]
  by_cases h : okV f
  case neg =>
    (first | refine call (awake16) ?_ | refine callP (awake16) ?_); simp -dsimp only [push_cast, seval]
    (first | refine call (ok_fun f) ?_ | refine callP (ok_fun f) ?_); simp -dsimp only [push_cast, seval, decide_eq_false h]
    (first | refine call (awake16) ?_ | refine callP (awake16) ?_); simp -dsimp only [push_cast, seval]
    exact ⟨[], rfl, rfl, by simp -dsimp only [WeakTm, WeakBx, CLe, CLeL, push_cast, seval]⟩
  by_cases hp : d.length ≤ 1000
  case neg =>
    have hp2 : ((1000 : Int) < (d.length : Int)) = True := eq_true (by omega)
    (first | refine call (awake16) ?_ | refine callP (awake16) ?_); simp -dsimp only [push_cast, seval]
    (first | refine call (ok_fun f) ?_ | refine callP (ok_fun f) ?_); simp -dsimp only [push_cast, seval, decide_eq_true h, hp2]
    (first | refine call (awake16) ?_ | refine callP (awake16) ?_); simp -dsimp only [push_cast, seval]
    exact ⟨[], rfl, rfl, by simp -dsimp only [WeakTm, WeakBx, CLe, CLeL, push_cast, seval]⟩
  have hp2 : ((1000 : Int) < (d.length : Int)) = False := eq_false (by omega)
  have h0 := (okV_parts h).1
  have h40 := h0.1
  have hll : (nodsC f.xs).length = f.xs.length := List.length_map ..
  (first | refine call (awake16) ?_ | refine callP (awake16) ?_); simp -dsimp only [push_cast, seval]
  (first | refine call (ok_fun f) ?_ | refine callP (ok_fun f) ?_); simp -dsimp only [push_cast, seval, decide_eq_true h, hp2]
  refine loop (fun i : Nat => ⟨[(1, .str d), (2, .sc (.int .i64 k)), (3, .ptr 0 0), (7, .sc (.bool ((f.xs.take i).any (hasP k d)))), (8, .sc (.int .i64 i))], [fsC f], 0, 0⟩) (fun i => i ≤ f.xs.length) (fun i => f.xs.length - i) 0 (Nat.zero_le _) ?_ ?_
  · exact Weak.mk [] rfl rfl (Nat.zero_le _) rfl (by simp -dsimp only [WeakTm, WeakBx, CLe, CLeL, push_cast, seval, List.take_zero, List.any_nil]) (by simp -dsimp only [WeakTm, WeakBx, CLe, CLeL, push_cast, seval])
  · intro i hi
    by_cases hk : i < f.xs.length
    · have g1 := nods_at f.xs i hk
      have hx := List.getElem_mem hk
      have hs := has_fun f f.xs[i].data f.xs[i].kind (by omega)
      rw [show f.xs.any (hasP f.xs[i].kind f.xs[i].data) = true from List.any_eq_true.2 ⟨_, hx, by simp [hasP]⟩] at hs
      have ha : (f.xs.take (i + 1)).any (hasP k d) = ((f.xs.take i).any (hasP k d) || hasP k d f.xs[i]) := by
        rw [List.take_add_one, List.getElem?_eq_getElem hk, List.any_append]; simp
      have hd : hasP k d f.xs[i] = (decide (f.xs[i].data = d) && decide (f.xs[i].kind = k)) := by unfold hasP; rw [Bool.and_comm]
      rw [hd] at ha
      generalize f.xs[i] = x at g1 hx hs ha hd
      by_cases hbt : (f.xs.take i).any (hasP k d) = true
      · rw [hbt, Bool.true_or] at ha
        simp -dsimp only [push_cast, seval, hll, hk, g1, hbt]
        refine ⟨by omega, ?_⟩
        (first | refine call (hs) ?_ | refine callP (hs) ?_); simp -dsimp only [push_cast, seval]
        exact ⟨⟨by omega, by omega⟩, i + 1, hk, by omega, Weak.mk [] rfl rfl (Nat.zero_le _) rfl (by simp -dsimp only [WeakTm, WeakBx, CLe, CLeL, push_cast, seval, ha]) (by simp -dsimp only [WeakTm, WeakBx, CLe, CLeL, push_cast, seval])⟩
      · have hbt := Bool.eq_false_iff.2 hbt
        rw [hbt, Bool.false_or] at ha
        simp -dsimp only [push_cast, seval, hll, hk, g1, hbt]
        refine ⟨by omega, ?_⟩
        by_cases hxd : x.data = d
        · rw [decide_eq_true hxd, Bool.true_and] at ha
          simp -dsimp only [push_cast, seval, hxd]
          rw [hxd] at hs
          (first | refine call (hs) ?_ | refine callP (hs) ?_); simp -dsimp only [push_cast, seval]
          exact ⟨⟨by omega, by omega⟩, i + 1, hk, by omega, Weak.mk [] rfl rfl (Nat.zero_le _) rfl (by simp -dsimp only [WeakTm, WeakBx, CLe, CLeL, push_cast, seval, ha]) (by simp -dsimp only [WeakTm, WeakBx, CLe, CLeL, push_cast, seval])⟩
        · rw [decide_eq_false hxd, Bool.false_and] at ha
          simp -dsimp only [push_cast, seval, hxd]
          (first | refine call (hs) ?_ | refine callP (hs) ?_); simp -dsimp only [push_cast, seval]
          exact ⟨⟨by omega, by omega⟩, i + 1, hk, by omega, Weak.mk [] rfl rfl (Nat.zero_le _) rfl (by simp -dsimp only [WeakTm, WeakBx, CLe, CLeL, push_cast, seval, ha]) (by simp -dsimp only [WeakTm, WeakBx, CLe, CLeL, push_cast, seval])⟩
    · have ht : f.xs.take i = f.xs := List.take_of_length_le (by omega)
      have hs := has_fun f d k (by omega)
      have hq : (f.xs.any (hasP k d) == f.xs.any (hasP k d)) = true := by simp
      simp -dsimp only [push_cast, seval, hll, hk, ht]
      (first | refine call (hs) ?_ | refine callP (hs) ?_); simp -dsimp only [push_cast, seval, hq]
      exact ⟨[], rfl, rfl, by simp -dsimp only [WeakTm, WeakBx, CLe, CLeL, push_cast, seval, hq]⟩
end Go.Proofs.YtdmfififkcnecaaDoor.Vcg
end
section
set_option linter.unusedVariables false
namespace Go.Proofs.YtdmfififkcnecaaDoor.PShapeHas
open Go.ChangeShapes Go.WideShapes Go.ChangeAt Go.RowKit Vcg
theorem own : ownKnob Tryd.prog.godebug = none := by kernel_rfl
theorem laidOut : laidOutB Tryd.prog = true := by kernel_rfl
set_option maxRecDepth 100000 in
theorem contract (H : Type) (enc : TypeId × Value → H) (W : World) (base : Nat) (args : Array Value) (ds gs : List (DataW H)) (before : List MemPlace)
    (hval : ∀ (j : Nat) t v, Tryd.f5.params[j]? = some t → args[j]? = some v → Value.okWide Tryd.prog W .any base t v)
    (hW : DataW.Whole enc Tryd.prog Tryd.f5.params.toList Rows.shapeHasSpec.vars false W args.toList ds gs before) (hL : laidMetH Tryd.prog Rows.shapeHasRow.laid W) :
    Calls Tryd.prog 5 args W fun e W' => ∃ v, e = .returned v ∧ Rows.shapeHasSpec.post enc Tryd.prog Tryd.f5 false true false false W args v W' := by
  have hW' := hW
  obtain ⟨p, q, hA0, hV, rfl, hfz, hnd⟩ := hW
  have hA : DataW.TrodAll enc Tryd.prog W 0 (fun _ => true) true Tryd.f5.params.toList args.toList ds p := hA0
  rw [Tryd.params5] at hA hval
  obtain ⟨v0, vs0, d0, ds0, p0, q0, hargs, rfl, rfl, h0, r0⟩ := trodAll_cons hA
  obtain ⟨v1, vs1, d1, ds1, p1, q1, rfl, rfl, rfl, h1, r1⟩ := trodAll_cons r0
  obtain ⟨v2, vs2, d2, ds2, p2, q2, rfl, rfl, rfl, h2, r2⟩ := trodAll_cons r1
  obtain ⟨rfl, rfl, rfl⟩ := trodAll_nil r2
  obtain rfl : args = #[v0, v1, v2] := by cases args; simp_all
  obtain ⟨rfl, rfl⟩ := trodVars_none hV
  have lt0 : ∀ x ∈ p0, x.block < W.heap.size := by obtain ⟨m, hm⟩ := h0; exact DataW.trod_lt m _ _ _ hm
  have lt1 : ∀ x ∈ p1, x.block < W.heap.size := by obtain ⟨m, hm⟩ := h1; exact DataW.trod_lt m _ _ _ hm
  have lt2 : ∀ x ∈ p2, x.block < W.heap.size := by obtain ⟨m, hm⟩ := h2; exact DataW.trod_lt m _ _ _ hm
  obtain ⟨row0, ⟨a0, rfl, w0⟩, rep0⟩ := OpnRow.arg opn_fs Tryd.underlying24 (hval 0 24 v0 rfl rfl) h0
  obtain ⟨n1, hn1⟩ := okWide_string Tryd.underlying9 (hval 1 9 v1 rfl rfl)
  obtain ⟨_, ⟨a1, rfl, w1⟩, rep1⟩ := Opn.arg (r := .any) (b0 := base) (Opn.str Tryd.underlying9) (by rw [hn1]; rfl) h1
  obtain ⟨n2, hn2⟩ := okWide_int Tryd.underlying3 (hval 2 3 v2 rfl rfl)
  obtain ⟨_, ⟨a2, rfl, w2⟩, rep2⟩ := Opn.arg (r := .any) (b0 := base) (Opn.int Tryd.underlying3) (by rw [hn2]; rfl) h2
  clear hA0
  refine (Fun.answers (shapeHas_fun a0 a1 a2) (globOk_any (fun _ => rfl) _) (repL_cons.2 ⟨_, _, rfl, rep0, repL_cons.2 ⟨_, _, rfl, rep1, repL_cons.2 ⟨_, _, rfl, rep2, repL_nil.2 rfl⟩⟩⟩)).mono fun e W' ⟨he, bel⟩ => ?_
  subst he
  exact ⟨_, rfl, _, _, _, [], _, [], hW', trodAll_mk1 (shut_bool Tryd.underlying4 _), (trodAll_cons_mk (Below.trod laidOut (by kernel_rfl) (of_decide_eq_true (by kernel_rfl)) h0 bel lt0) (trodAll_cons_mk (Below.trod laidOut (by kernel_rfl) (of_decide_eq_true (by kernel_rfl)) h1 bel lt1) (trodAll_cons_mk (Below.trod laidOut (by kernel_rfl) (of_decide_eq_true (by kernel_rfl)) h2 bel lt2) trodAll_mk0))), rfl, bel.frame _, fun h => by cases h⟩
set_option maxRecDepth 100000 in
theorem lifted (os : Os) (started : os.Started) (H : Type) (enc : TypeId × Value → H) :
    ReturnsInHanded {} Tryd.checked os 5 .any (fun w args => (Rows.shapeHasSpec.pre enc Tryd.prog Tryd.f5 Rows.shapeHasRow.domain false w args ∧ laidMetH Tryd.prog Rows.shapeHasRow.laid w) ∧ sizedMet enc Tryd.prog Tryd.f5 (OpenSpec.ofChange Rows.shapeHasSpec) false w args)
      (Rows.shapeHasSpec.post enc Tryd.prog Tryd.f5 false true false false) := by
  refine returnsInHanded_of_change_and (C := Tryd.checked) (X := fun w _ => laidMetH Tryd.prog Rows.shapeHasRow.laid w) (fun _ _ _ hh h => h.of_heap hh) own started (by kernel_rfl) Tryd.func5
    (ChangeSpec.witness_shaped (enc := enc) (C := Tryd.checked) (os := os) (X := fun w _ => laidMetH Tryd.prog Rows.shapeHasRow.laid w) false (World.laidAll Tryd.prog os Rows.shapeHasRow.laid) #[.agg #[.int .i64 0, .int .i64 0, .int .i64 0, .slice none 0 0], .string ⟨#[]⟩, .int .i64 0] 8 (World.laidAll_os _ _ _)
      (World.shaped_of_ZipB (by kernel_rfl) (by kernel_rfl)) (by kernel_rfl) (by kernel_rfl) (by kernel_rfl)
      (by rw [MakeChecks.laidMetH_plain _ _ _ (by kernel_rfl)]; exact laidMet_laidAll _ (by kernel_rfl) (by kernel_rfl))) ?_
  intro W base args ds gs before hval hW _ _ hL _
  exact contract H enc W base args ds gs before hval hW hL
theorem said : Rows.ShapeHasSaid :=
  OpenClaim.holds_of_wide 5 Tryd.f5 rfl rfl rfl rfl rfl rfl rfl ⟨rfl, rfl, rfl, rfl, rfl⟩ rfl rfl rfl rfl rfl (by kernel_rfl) Tryd.func5 (by kernel_rfl)
    (of_decide_eq_true (by kernel_rfl)) (by unfold Func.isWrapper; first | (rw [if_pos (by decide +kernel)]; kernel_rfl) | (rw [if_neg (by decide +kernel)]; exact ⟨rfl, rfl⟩))
    (fun os started H enc _ => lifted os started H enc)
theorem plain (f : FuncId) (fn : Func) (hf : Tryd.pinned.checked.prog.funcNamed "drayman/draymanlaw16.ShapeHas" = some f) (hfn : Tryd.pinned.checked.prog.funcs[f]? = some fn) :
    false = Tryd.pinned.checked.prog.looks [] ∧ ∀ (j : Nat) t, fn.params[j]? = some t → Tryd.pinned.checked.prog.wantsStandIn t = false := by
  obtain rfl : f = 5 := Option.some.inj ((show Tryd.prog.funcNamed "drayman/draymanlaw16.ShapeHas" = some 5 by kernel_rfl).symm.trans hf) |>.symm
  obtain rfl : fn = Tryd.f5 := (Option.some.inj (Tryd.func5.symm.trans hfn)).symm
  exact ⟨by kernel_rfl, fun j t ht => by
    rw [Tryd.params5] at ht
    have hm : t ∈ [24, 9, 3] := by simpa using Array.mem_of_getElem? ht
    have hall : ([24, 9, 3].all fun u => !Tryd.prog.wantsStandIn u) = true := by kernel_rfl
    exact (show Tryd.prog.wantsStandIn t = false by simpa using List.all_eq_true.1 hall t hm)⟩
theorem card : Rows.ShapeHasCardSaid :=
  Claim7.holds_tied_plain_at .later [] _ _ _ _ said (fun _ h => by cases h) (by kernel_rfl) (fun _ h => by cases h) shapeHas_row_tie rfl ⟨rfl, rfl⟩ (by kernel_rfl) rfl plain (by kernel_rfl)
theorem proved : Rows.ShapeHasCardSaid := card
end Go.Proofs.YtdmfififkcnecaaDoor.PShapeHas
end
