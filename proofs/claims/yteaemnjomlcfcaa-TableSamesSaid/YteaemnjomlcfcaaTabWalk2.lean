/- Getting an inode: the program's way and the reference's. -/
import Derived.Test.YteaemnjomlcfcaaTabWalk1
import Derived.Laws.ResultCell
set_option linter.unusedVariables false
set_option linter.unusedSimpArgs false
namespace Go.Proofs.Yteaemnjomlcfcaa.Tab
open Go.RowKit Go.Proofs.Yteaemnjomlcfcaa.Kit
def GetPost (n : Int) (xs : List Nod) (B : Nat) (w : World) (e : Ending) (w' : World) : Prop :=
  e = .returned (.tuple #[((get n xs).getD Nod.zero).val, .bool (get n xs).isSome]) ∧ Below B w w'
set_option maxHeartbeats 4000000 in
theorem get_walk (mi mb nx : Int) (xs : List Nod) (a : Option Addr) (c : Nat) (n : Int) (w : World) (hN : Nods w a c xs) (hR : Rises xs) (hz : xs.length < 4611686018427387904) :
    Calls Try.prog 15 #[.agg #[.int .i64 mi, .int .i64 mb, .int .i64 nx, .slice a xs.length c], .int .i64 n] w (GetPost n xs w.heap.size w) := by
  have hc := fun W (hW : Below w.heap.size w W) => at_walk mi mb nx xs a c n W (hN.below hW (Nat.le_refl _)) hR hz
  have HC := Lib.hid hc
  obtain ⟨l1, l2, l3⟩ := hN.len
  have hB1 := ((Below.refl w.heap.size w).alloc (Nat.le_refl _) (Obj.cells #[.int .i64 mi, .int .i64 mb, .int .i64 nx, .slice a xs.length c] 25)).alloc (by simp) (Obj.cells #[.int .i64 0, .int .i64 0, .int .i64 0, .string ⟨#[]⟩, .int .i64 0, .slice none 0 0] 35)
  by_cases hh : has n xs = true
  · obtain ⟨hlt, hg⟩ := get_rank hR hh
    have hcell := fun W (hW : Below w.heap.size w W) => (hN.below hW (Nat.le_refl _)).at _ hlt
    have HL := Lib.hid hcell
    rw [hh] at HC
    obtain ⟨k, hk⟩ : ∃ k, k = rank n xs := ⟨_, rfl⟩
    rw [← hk] at HC
    clear hN hR hcell hc
    have G := Lib.hid hg
    have K := Lib.hid hk
    clear hg hk
    go_enter Try.func15, Try.ntmps15
    go_wp2_with fail
    refine (HC.out _ hB1).mono ?_
    rintro e w' ⟨rfl, hB⟩
    obtain ⟨bc, bf⟩ := bcell hB
    have hB3 := hB1.trans (hB.mono hB1.size)
    obtain ⟨b, o, rfl, hb, c0, c1, c2, c3, c4, c5⟩ := HL.out w' hB3
    obtain ⟨x, hx⟩ : ∃ x, x = xs[rank n xs] := ⟨_, rfl⟩
    rw [← hx] at c0 c1 c2 c3 c4 c5
    have X := Lib.hid hx
    rw [← K.out] at c0 c1 c2 c3 c4 c5 hlt
    clear hx
    go_wp2
    (try simp only [Exit.inBlock, Exit.then])
    refine bodyPost_ret (v := .tuple #[x.val, .bool true]) ?_ rfl ?_
    · rw [results_cell_tmp rfl]; go_simp; rfl
    · refine ⟨by rw [G.out, ← X.out]; rfl, ?_⟩
      (repeat' (first | with_reducible assumption | with_reducible exact Below.refl _ _ | with_reducible refine Below.setCell ?_ ?_ _ | with_reducible refine Below.alloc ?_ ?_ _ | with_reducible refine Below.drew ?_ | omega | (simp; done) | (simp; omega)))
  · rw [Bool.eq_false_iff.2 hh] at HC
    have G := Lib.hid (get_none (Bool.eq_false_iff.2 hh))
    obtain ⟨k, hk⟩ : ∃ k, k = rank n xs := ⟨_, rfl⟩
    rw [← hk] at HC
    clear hN hR hc hk
    go_enter Try.func15, Try.ntmps15
    go_wp2_with fail
    refine (HC.out _ hB1).mono ?_
    rintro e w' ⟨rfl, hB⟩
    obtain ⟨bc, bf⟩ := bcell hB
    have hB3 := hB1.trans (hB.mono hB1.size)
    go_wp2
    (try simp only [Exit.inBlock, Exit.then])
    refine bodyPost_ret (v := .tuple #[Nod.zero.val, .bool false]) ?_ rfl ?_
    · rw [results_cell_tmp rfl]; go_simp; rfl
    · refine ⟨by rw [G.out]; rfl, ?_⟩
      (repeat' (first | with_reducible assumption | with_reducible exact Below.refl _ _ | with_reducible refine Below.setCell ?_ ?_ _ | with_reducible refine Below.alloc ?_ ?_ _ | with_reducible refine Below.drew ?_ | omega | (simp; done) | (simp; omega)))
theorem get_skip {n : Int} {xs : List Nod} {k : Nat} (hno : ∀ j (h : j < xs.length), j < k → xs[j].ino ≠ n) (hk : k < xs.length) (he : xs[k].ino = n) : get n xs = some xs[k] := by
  unfold get
  rw [List.find?_eq_some_iff_getElem]
  exact ⟨by simp [he], k, hk, rfl, fun j hj => by have := hno j (by omega) hj; simpa using this⟩
theorem get_none_of {n : Int} {xs : List Nod} (hno : ∀ j (h : j < xs.length), xs[j].ino ≠ n) : get n xs = none := by
  unfold get
  rw [List.find?_eq_none]
  intro x hx
  obtain ⟨j, hj, rfl⟩ := List.getElem_of_mem hx
  simpa using hno j hj
set_option maxHeartbeats 4000000 in
set_option maxRecDepth 100000 in
theorem rget_walk (mi mb nx : Int) (xs : List Nod) (a : Option Addr) (c : Nat) (n : Int) (w : World) (hN : Nods w a c xs) (hz : xs.length < 4611686018427387904) :
    Calls Try.prog 16 #[.agg #[.int .i64 mi, .int .i64 mb, .int .i64 nx, .slice a xs.length c], .int .i64 n] w (GetPost n xs w.heap.size w) := by
  obtain ⟨l1, l2, l3⟩ := hN.len
  have H := Lib.hid hN
  clear hN
  go_enter Try.func16, Try.ntmps16
  go_wp2
  go_loop [6] (fun s6 => ∃ k : Nat, s6 = .int .i64 k ∧ k ≤ xs.length ∧ Hid (∀ j (h : j < xs.length), j < k → xs[j].ino ≠ n)) (fun s6 => xs.length - (intOf s6).toNat)
  case atStart => exact ⟨0, rfl, Nat.zero_le _, Lib.hid fun j _ h => absurd h (Nat.not_lt_zero _)⟩
  case round =>
    obtain ⟨k, rfl, hk, I⟩ := hrel
    by_cases hlt : k < xs.length
    · obtain ⟨b, o, rfl, hb, c0, c1, c2, c3, c4, c5⟩ := H.out.at k hlt
      obtain ⟨x, hx⟩ : ∃ x, x = xs[k] := ⟨_, rfl⟩
      rw [← hx] at c0 c1 c2 c3 c4 c5
      have X := Lib.hid hx
      clear hx
      by_cases he : x.ino = n
      · have hb : (x.ino == n) = true := beq_iff_eq.2 he
        have G := Lib.hid (get_skip I.out hlt (by rw [← X.out]; exact he))
        clear he
        go_wp2
        (try simp only [Exit.inBlock, Exit.then])
        refine bodyPost_ret (v := .tuple #[x.val, .bool true]) ?_ rfl ?_
        · rw [results_cell_tmp rfl]; go_simp; rfl
        · refine ⟨by rw [G.out, ← X.out]; rfl, ?_⟩
          (repeat' (first | with_reducible assumption | with_reducible exact Below.refl _ _ | with_reducible refine Below.setCell ?_ ?_ _ | with_reducible refine Below.alloc ?_ ?_ _ | with_reducible refine Below.drew ?_ | omega | (simp; done) | (simp; omega)))
      · have hb : (x.ino == n) = false := beq_eq_false_iff_ne.2 he
        have I2 : Hid (∀ j (h : j < xs.length), j < k + 1 → xs[j].ino ≠ n) := Lib.hid fun j h hj => by
          rcases Nat.lt_or_ge j k with h1 | h1
          · exact I.out j h h1
          · obtain rfl : j = k := by omega
            rw [← X.out]; exact he
        go_wp2
        go_round
        case rel => exact ⟨k + 1, rfl, by omega, I2⟩
        case measure => simp [intOf]; omega
    · have G := Lib.hid (get_none_of (fun j h => I.out j h (by omega)))
      go_wp2
      (try simp only [Exit.inBlock, Exit.then])
      refine bodyPost_ret (v := .tuple #[Nod.zero.val, .bool false]) ?_ rfl ?_
      · rw [results_cell_tmp rfl]; go_simp; rfl
      · refine ⟨by rw [G.out]; rfl, ?_⟩
        (repeat' (first | with_reducible assumption | with_reducible exact Below.refl _ _ | with_reducible refine Below.setCell ?_ ?_ _ | with_reducible refine Below.alloc ?_ ?_ _ | with_reducible refine Below.drew ?_ | omega | (simp; done) | (simp; omega)))
end Go.Proofs.Yteaemnjomlcfcaa.Tab
