/- Are two lists of inodes alike? The library's way, with the program's test, and the reference's. (printed by gen_tab5.py) -/
import Derived.Test.YteaemnjomlcfcaaTabWalk4
import Derived.Lib.QuietBelow
set_option linter.unusedVariables false
set_option linter.unusedSimpArgs false
namespace Go.Proofs.Yteaemnjomlcfcaa.Tab
open Go.RowKit Go.Proofs.Yteaemnjomlcfcaa.Kit
theorem likes_len : ∀ {xs ys : List Nod}, xs.length ≠ ys.length → likes xs ys = false
  | [], [], h => absurd rfl h
  | [], _ :: _, _ => rfl
  | _ :: _, [], _ => rfl
  | x :: r, y :: s, h => by
    rw [likes, likes_len (xs := r) (ys := s) (fun e => h (by simp [e])), Bool.and_false]
theorem likes_at : ∀ {xs ys : List Nod} {k : Nat} (h : k < xs.length) (h' : k < ys.length), xs[k].like ys[k] = false → likes xs ys = false
  | x :: r, y :: s, 0, _, _, e => by rw [likes, show x.like y = false from e, Bool.false_and]
  | x :: r, y :: s, k + 1, h, h', e => by rw [likes, likes_at (xs := r) (ys := s) (k := k) (by simpa using h) (by simpa using h') (by simpa using e), Bool.and_false]
theorem likes_all : ∀ {xs ys : List Nod}, xs.length = ys.length → (∀ j (h : j < xs.length) (h' : j < ys.length), xs[j].like ys[j] = true) → likes xs ys = true
  | [], [], _, _ => rfl
  | x :: r, y :: s, hl, h => by
    rw [likes, show x.like y = true from h 0 (by simp) (by simp), Bool.true_and]
    exact likes_all (by simpa using hl) fun j h1 h2 => h (j + 1) (by simp; omega) (by simp; omega)
set_option maxHeartbeats 4000000 in
set_option maxRecDepth 100000 in
theorem ones_len (xs ys : List Nod) (a b : Option Addr) (c d : Nat) (w : World) (hS : Nods w a c xs) (hT : Nods w b d ys) (h : xs.length ≠ ys.length) :
    Calls Try.prog 24 #[.slice a xs.length c, .slice b ys.length d] w fun e w' => e = .returned (.bool (likes xs ys)) ∧ Below w.heap.size w w' := by
  have hd := Lib.hid (likes_len h)
  have hn : ((xs.length : Int) != (ys.length : Int)) = true := by rw [bne_iff_ne]; omega
  obtain ⟨l1, l2, l3⟩ := hS.len
  obtain ⟨m1, m2, m3⟩ := hT.len
  clear hS hT
  go_enter Try.func24, Try.ntmps24
  go_wp2
  go_ret
  exact ⟨ret_bool hd.out.symm, Below.refl _ _⟩
set_option maxHeartbeats 4000000 in
set_option maxRecDepth 100000 in
theorem ones_eq (xs ys : List Nod) (a b : Option Addr) (c d : Nat) (w : World) (hS : Nods w a c xs) (hT : Nods w b d ys) (h : xs.length = ys.length) :
    Calls Try.prog 24 #[.slice a xs.length c, .slice b ys.length d] w fun e w' => e = .returned (.bool (likes xs ys)) ∧ Below w.heap.size w w' := by
  have HS := Lib.hid hS
  have HT := Lib.hid hT
  have hl := Lib.hid h
  have hn : ((xs.length : Int) != (ys.length : Int)) = false := by rw [bne_eq_false_iff_eq]; omega
  have hlle : xs.length ≤ ys.length := by omega
  obtain ⟨l1, l2, l3⟩ := hS.len
  obtain ⟨m1, m2, m3⟩ := hT.len
  clear hS hT h
  go_enter Try.func24, Try.ntmps24
  go_wp2
  go_loopw [5] (fun s5 wr => ∃ k : Nat, k ≤ xs.length ∧ s5 = .int .i64 k ∧ Hid (∀ j (h : j < xs.length) (h' : j < ys.length), j < k → xs[j].like ys[j] = true) ∧ Below w.heap.size w wr) (fun s5 _ => xs.length - (intOf s5).toNat)
  case atStart => exact ⟨0, by omega, rfl, Lib.hid fun j h _ hj => absurd hj (Nat.not_lt_zero _), Below.refl _ _⟩
  case round =>
    obtain ⟨k, hk, rfl, I, hB⟩ := hrel
    by_cases hlt : k < xs.length
    · have hlt2 : k < ys.length := by omega
      obtain ⟨b1, o1, rfl, hb1, c0, c1, c2, c3, c4, c5⟩ := (HS.out.below hB (Nat.le_refl _)).at k hlt
      obtain ⟨b2, o2, rfl, hb2, d0, d1, d2, d3, d4, d5⟩ := (HT.out.below hB (Nat.le_refl _)).at k hlt2
      have hox : ∀ W, Below w.heap.size w W → NodOk W xs[k] := fun W hW => (HS.out.2 _ (List.getElem_mem hlt)).below hW (Nat.le_refl _)
      have hoy : ∀ W, Below w.heap.size w W → NodOk W ys[k] := fun W hW => (HT.out.2 _ (List.getElem_mem hlt2)).below hW (Nat.le_refl _)
      have hc := fun W (hW : Below w.heap.size w W) => one_walk xs[k] ys[k] W (hox W hW) (hoy W hW)
      have hf := Lib.hid (show xs[k].like ys[k] = false → likes xs ys = false from likes_at hlt hlt2)
      have I2 := Lib.hid (show xs[k].like ys[k] = true → ∀ j (h : j < xs.length) (h' : j < ys.length), j < k + 1 → xs[j].like ys[j] = true from fun e j h h' hj => by
        by_cases h1 : j = k
        · subst h1; exact e
        · exact I.out j h h' (by omega))
      obtain ⟨x, hx⟩ : ∃ x, x = xs[k] := ⟨_, rfl⟩
      obtain ⟨y, hy⟩ : ∃ y, y = ys[k] := ⟨_, rfl⟩
      rw [← hx, ← hy] at hc hf I2
      rw [← hx] at c0 c1 c2 c3 c4 c5
      rw [← hy] at d0 d1 d2 d3 d4 d5
      have HC := Lib.hid hc
      clear hx hy hox hoy hc
      have hBs := hB.size
      have e0 := cell_regrown c0
      have f0 := cell_regrown d0
      have e1 := cell_regrown c1
      have f1 := cell_regrown d1
      have e2 := cell_regrown c2
      have f2 := cell_regrown d2
      have e3 := cell_regrown c3
      have f3 := cell_regrown d3
      have e4 := cell_regrown c4
      have f4 := cell_regrown d4
      have e5 := cell_regrown c5
      have f5 := cell_regrown d5
      cases hlk : x.like y with
      | true =>
        rw [hlk] at HC
        have I3 := Lib.hid (I2.out hlk)
        clear I2 hf hlk
        have cO := fun d os => Calls.regrown_of (HC.out (Go.Sort.grow (redrawn wr d) os) (hB.trans ((below_regrown wr d os).mono hB.size)))
        go_wp2
        refine wp_region_quiet_below (by kernel_rfl) (by kernel_rfl) ?_
        repeat (quiet_step (exact cO _ _))
        refine wpQuiet_nil ?_
        intro _ hw'
        obtain ⟨⟨dq, osq⟩, hw''⟩ := hw'
        have hB3 : Below w.heap.size w (Go.Sort.grow (redrawn wr dq) osq) := hB.trans ((below_regrown wr dq osq).mono hB.size)
        subst hw''
        go_wp2
        go_roundw
        case rel => exact ⟨k + 1, by omega, by go_num, I3, hB3⟩
        case measure => simp [intOf]; omega
      | false =>
        rw [hlk] at HC
        have hf2 := Lib.hid (hf.out hlk)
        clear I2 hf hlk
        have cO := fun d os => Calls.regrown_of (HC.out (Go.Sort.grow (redrawn wr d) os) (hB.trans ((below_regrown wr d os).mono hB.size)))
        go_wp2
        refine wp_region_quiet_below (by kernel_rfl) (by kernel_rfl) ?_
        repeat (quiet_step (exact cO _ _))
        refine wpQuiet_nil ?_
        intro _ hw'
        obtain ⟨⟨dq, osq⟩, hw''⟩ := hw'
        have hB3 : Below w.heap.size w (Go.Sort.grow (redrawn wr dq) osq) := hB.trans ((below_regrown wr dq osq).mono hB.size)
        subst hw''
        go_wp2
        go_ret
        exact ⟨ret_bool hf2.out.symm, hB3⟩
    · have hf := Lib.hid (likes_all hl.out fun j h h' => I.out j h h' (by omega))
      go_wp2
      go_ret
      exact ⟨ret_bool hf.out.symm, hB⟩
theorem ones_walk (xs ys : List Nod) (a b : Option Addr) (c d : Nat) (w : World) (hS : Nods w a c xs) (hT : Nods w b d ys) :
    Calls Try.prog 24 #[.slice a xs.length c, .slice b ys.length d] w fun e w' => e = .returned (.bool (likes xs ys)) ∧ Below w.heap.size w w' := by
  by_cases h : xs.length = ys.length
  · exact ones_eq xs ys a b c d w hS hT h
  · exact ones_len xs ys a b c d w hS hT h
set_option maxHeartbeats 4000000 in
set_option maxRecDepth 100000 in
theorem eqfunc_len (xs ys : List Nod) (a b : Option Addr) (c d : Nat) (w : World) (hS : Nods w a c xs) (hT : Nods w b d ys) (h : xs.length ≠ ys.length) :
    Calls Try.prog 30 #[.slice a xs.length c, .slice b ys.length d, .func (.func 31) #[] #[]] w fun e w' => e = .returned (.bool (likes xs ys)) ∧ Below w.heap.size w w' := by
  have hd := Lib.hid (likes_len h)
  have hn : ((xs.length : Int) != (ys.length : Int)) = true := by rw [bne_iff_ne]; omega
  obtain ⟨l1, l2, l3⟩ := hS.len
  obtain ⟨m1, m2, m3⟩ := hT.len
  clear hS hT
  go_enter Try.func30, Try.ntmps30
  go_wp2
  go_ret
  exact ⟨ret_bool hd.out.symm, Below.refl _ _⟩
set_option maxHeartbeats 4000000 in
set_option maxRecDepth 100000 in
theorem eqfunc_eq (xs ys : List Nod) (a b : Option Addr) (c d : Nat) (w : World) (hS : Nods w a c xs) (hT : Nods w b d ys) (h : xs.length = ys.length) :
    Calls Try.prog 30 #[.slice a xs.length c, .slice b ys.length d, .func (.func 31) #[] #[]] w fun e w' => e = .returned (.bool (likes xs ys)) ∧ Below w.heap.size w w' := by
  have HS := Lib.hid hS
  have HT := Lib.hid hT
  have hl := Lib.hid h
  have hn : ((xs.length : Int) != (ys.length : Int)) = false := by rw [bne_eq_false_iff_eq]; omega
  have hlle : xs.length ≤ ys.length := by omega
  obtain ⟨l1, l2, l3⟩ := hS.len
  obtain ⟨m1, m2, m3⟩ := hT.len
  clear hS hT h
  go_enter Try.func30, Try.ntmps30
  go_wp2
  go_loopw [17] (fun s17 wr => ∃ k : Nat, k ≤ xs.length ∧ s17 = .int .i64 k ∧ Hid (∀ j (h : j < xs.length) (h' : j < ys.length), j < k → xs[j].like ys[j] = true) ∧ Below w.heap.size w wr) (fun s17 _ => xs.length - (intOf s17).toNat)
  case atStart => exact ⟨0, by omega, rfl, Lib.hid fun j h _ hj => absurd hj (Nat.not_lt_zero _), Below.refl _ _⟩
  case round =>
    obtain ⟨k, hk, rfl, I, hB⟩ := hrel
    by_cases hlt : k < xs.length
    · have hlt2 : k < ys.length := by omega
      obtain ⟨b1, o1, rfl, hb1, c0, c1, c2, c3, c4, c5⟩ := (HS.out.below hB (Nat.le_refl _)).at k hlt
      obtain ⟨b2, o2, rfl, hb2, d0, d1, d2, d3, d4, d5⟩ := (HT.out.below hB (Nat.le_refl _)).at k hlt2
      have hox : ∀ W, Below w.heap.size w W → NodOk W xs[k] := fun W hW => (HS.out.2 _ (List.getElem_mem hlt)).below hW (Nat.le_refl _)
      have hoy : ∀ W, Below w.heap.size w W → NodOk W ys[k] := fun W hW => (HT.out.2 _ (List.getElem_mem hlt2)).below hW (Nat.le_refl _)
      have hc := fun W (hW : Below w.heap.size w W) => alike_walk xs[k] ys[k] W (hox W hW) (hoy W hW)
      have hf := Lib.hid (show xs[k].like ys[k] = false → likes xs ys = false from likes_at hlt hlt2)
      have I2 := Lib.hid (show xs[k].like ys[k] = true → ∀ j (h : j < xs.length) (h' : j < ys.length), j < k + 1 → xs[j].like ys[j] = true from fun e j h h' hj => by
        by_cases h1 : j = k
        · subst h1; exact e
        · exact I.out j h h' (by omega))
      obtain ⟨x, hx⟩ : ∃ x, x = xs[k] := ⟨_, rfl⟩
      obtain ⟨y, hy⟩ : ∃ y, y = ys[k] := ⟨_, rfl⟩
      rw [← hx, ← hy] at hc hf I2
      rw [← hx] at c0 c1 c2 c3 c4 c5
      rw [← hy] at d0 d1 d2 d3 d4 d5
      have HC := Lib.hid hc
      clear hx hy hox hoy hc
      have hBs := hB.size
      cases hlk : x.like y with
      | true =>
        rw [hlk] at HC
        have I3 := Lib.hid (I2.out hlk)
        clear I2 hf hlk
        go_wp2_with fail
        refine (HC.out _ (by (repeat' (first | with_reducible assumption | with_reducible exact Below.refl _ _ | with_reducible refine Below.setCell ?_ ?_ _ | with_reducible refine Below.alloc ?_ ?_ _ | with_reducible refine Below.drew ?_ | omega | (simp; done) | (simp; omega))))).mono ?_
        rintro e w' ⟨rfl, hB2⟩
        have hB3 := Below.trans (a := w) (B := w.heap.size) (by (repeat' (first | with_reducible assumption | with_reducible exact Below.refl _ _ | with_reducible refine Below.setCell ?_ ?_ _ | with_reducible refine Below.alloc ?_ ?_ _ | with_reducible refine Below.drew ?_ | omega | (simp; done) | (simp; omega)))) (hB2.mono (by have := hB.size; simp; try omega))
        go_wp2
        go_roundw
        case rel => exact ⟨k + 1, by omega, by go_num, I3, hB3⟩
        case measure => simp [intOf]; omega
      | false =>
        rw [hlk] at HC
        have hf2 := Lib.hid (hf.out hlk)
        clear I2 hf hlk
        go_wp2_with fail
        refine (HC.out _ (by (repeat' (first | with_reducible assumption | with_reducible exact Below.refl _ _ | with_reducible refine Below.setCell ?_ ?_ _ | with_reducible refine Below.alloc ?_ ?_ _ | with_reducible refine Below.drew ?_ | omega | (simp; done) | (simp; omega))))).mono ?_
        rintro e w' ⟨rfl, hB2⟩
        have hB3 := Below.trans (a := w) (B := w.heap.size) (by (repeat' (first | with_reducible assumption | with_reducible exact Below.refl _ _ | with_reducible refine Below.setCell ?_ ?_ _ | with_reducible refine Below.alloc ?_ ?_ _ | with_reducible refine Below.drew ?_ | omega | (simp; done) | (simp; omega)))) (hB2.mono (by have := hB.size; simp; try omega))
        go_wp2
        go_ret
        exact ⟨ret_bool hf2.out.symm, hB3⟩
    · have hf := Lib.hid (likes_all hl.out fun j h h' => I.out j h h' (by omega))
      go_wp2
      go_ret
      exact ⟨ret_bool hf.out.symm, hB⟩
theorem eqfunc_walk (xs ys : List Nod) (a b : Option Addr) (c d : Nat) (w : World) (hS : Nods w a c xs) (hT : Nods w b d ys) :
    Calls Try.prog 30 #[.slice a xs.length c, .slice b ys.length d, .func (.func 31) #[] #[]] w fun e w' => e = .returned (.bool (likes xs ys)) ∧ Below w.heap.size w w' := by
  by_cases h : xs.length = ys.length
  · exact eqfunc_eq xs ys a b c d w hS hT h
  · exact eqfunc_len xs ys a b c d w hS hT h
end Go.Proofs.Yteaemnjomlcfcaa.Tab
