/- The search in a table of inodes. -/
import Derived.Test.YteaemnjomlcfcaaShelf
import Derived.Test.YteaemnjomlcfcaaTabPlain
import Derived.Deep.LoopGhost
import Derived.Lib.Walk
import Derived.Lib.SliceRun
set_option linter.unusedVariables false
set_option linter.unusedSimpArgs false
namespace Go.Proofs.Yteaemnjomlcfcaa.Tab
open Go.RowKit Go.Proofs.Yteaemnjomlcfcaa.Kit
theorem at1_walk (x : Nod) (n : Int) (w : World) :
    Calls Try.prog 33 #[.agg #[.int .i64 x.ino, .int .i64 x.kind, .int .i64 x.links, .string x.data, .int .i64 x.parent, .slice x.ea x.es.length x.ec], .int .i64 n] w fun e w' =>
      e = .returned (.int .i64 (Lib.compareInt x.ino n)) ∧ Below w.heap.size w w' := by
  go_enter Try.func33, Try.ntmps33
  go_wp2_with (go_at_call 34; refine (Try.cmp_Compare_int _ _ _).mono ?_; rintro e w1 ⟨rfl, rfl⟩)
  go_ret
  exact ⟨rfl, (Below.refl _ w).alloc (Nat.le_refl _) _⟩
theorem cmp_neg {x n : Int} : Lib.compareInt x n < 0 ↔ x < n := by unfold Lib.compareInt; split <;> (try split) <;> omega
theorem cmp_zero {x n : Int} : Lib.compareInt x n = 0 ↔ x = n := by unfold Lib.compareInt; split <;> (try split) <;> omega
def Parts (xs : List Nod) (n : Int) (lo hi : Nat) : Prop := (∀ t (h : t < xs.length), t < lo → xs[t].ino < n) ∧ (∀ t (h : t < xs.length), hi ≤ t → n ≤ xs[t].ino)
theorem Parts.left {xs : List Nod} {n : Int} {lo hi m : Nat} (h : Parts xs n lo hi) (hR : Rises xs) (hm : m < xs.length) (hx : xs[m].ino < n) : Parts xs n (m + 1) hi := by
  refine ⟨fun t ht h1 => ?_, h.2⟩
  rcases Nat.lt_or_ge t m with h2 | h2
  · have := (List.pairwise_iff_getElem.1 hR) t m ht hm h2; omega
  · obtain rfl : t = m := by omega
    exact hx
theorem Parts.right {xs : List Nod} {n : Int} {lo hi m : Nat} (h : Parts xs n lo hi) (hR : Rises xs) (hm : m < xs.length) (hx : ¬ xs[m].ino < n) : Parts xs n lo m := by
  refine ⟨h.1, fun t ht h1 => ?_⟩
  rcases Nat.lt_or_ge m t with h2 | h2
  · have := (List.pairwise_iff_getElem.1 hR) m t hm ht h2; omega
  · obtain rfl : t = m := by omega
    omega
set_option maxHeartbeats 4000000 in
set_option maxRecDepth 1000000 in
theorem bs_walk (xs : List Nod) (a : Option Addr) (c : Nat) (n : Int) (w : World) (hN : Nods w a c xs) (hR : Rises xs) (hz : xs.length < 4611686018427387904) :
    Calls Try.prog 32 #[.slice a xs.length c, .int .i64 n, .func (.func 33) #[] #[]] w fun e w' =>
      e = .returned (.tuple #[.int .i64 (rank n xs : Nat), .bool (has n xs)]) ∧ Below w.heap.size w w' := by
  have H := Lib.hid hN
  have R := Lib.hid hR
  obtain ⟨l1, l2, l3⟩ := hN.len
  clear hN hR
  go_enter Try.func32, Try.ntmps32
  go_wp2
  go_loopg [9, 10] xs.length (fun kx s9 s10 wr => ∃ lo hi : Nat, s9 = .int .i64 lo ∧ s10 = .int .i64 hi ∧ lo ≤ hi ∧ hi ≤ xs.length ∧ hi - lo ≤ kx ∧ Below w.heap.size w wr ∧ Hid (Parts xs n lo hi))
  case atStart => exact ⟨0, xs.length, rfl, rfl, Nat.zero_le _, Nat.le_refl _, by omega, Below.refl _ _, Lib.hid ⟨fun t h ht => absurd ht (Nat.not_lt_zero _), fun t h h2 => by omega⟩⟩
  case round =>
    obtain ⟨lo, hi, rfl, rfl, hlh, hin, hg, hB, I⟩ := hrel
    by_cases hlt : lo < hi
    · have hm : (lo + hi) / 2 < xs.length := by omega
      obtain ⟨b, o, rfl, hb, c0, c1, c2, c3, c4, c5⟩ := (H.out.below hB (Nat.le_refl _)).at ((lo + hi) / 2) hm
      obtain ⟨x, hx⟩ : ∃ x, x = xs[(lo + hi) / 2] := ⟨_, rfl⟩
      rw [← hx] at c0 c1 c2 c3 c4 c5
      have X := Lib.hid hx
      clear hx
      have hc := at1_walk x n wr
      by_cases hlt2 : x.ino < n
      · have hcm : Lib.compareInt x.ino n < 0 := cmp_neg.2 hlt2
        go_wp2_with fail
        refine hc.mono ?_
        rintro e w' ⟨rfl, hB2⟩
        go_wp2
        go_roundg (hi - ((lo + hi) / 2 + 1))
        case measure => omega
        case rel =>
          have I2 : Hid (Parts xs n ((lo + hi) / 2 + 1) hi) := Lib.hid (I.out.left R.out hm (by rw [← X.out]; exact hlt2))
          exact ⟨(lo + hi) / 2 + 1, hi, by rw [show ((lo : Int) + (hi : Int)) / 2 + 1 = (((lo + hi) / 2 + 1 : Nat) : Int) by omega], rfl, by omega, hin, Nat.le_refl _, hB.trans (hB2.mono hB.size), I2⟩
      · have hcm : ¬ Lib.compareInt x.ino n < 0 := fun h => hlt2 (cmp_neg.1 h)
        go_wp2_with fail
        refine hc.mono ?_
        rintro e w' ⟨rfl, hB2⟩
        go_wp2
        go_roundg ((lo + hi) / 2 - lo)
        case measure => omega
        case rel =>
          have I2 : Hid (Parts xs n lo ((lo + hi) / 2)) := Lib.hid (I.out.right R.out hm (by rw [← X.out]; omega))
          exact ⟨lo, (lo + hi) / 2, rfl, by rw [show ((lo : Int) + (hi : Int)) / 2 = (((lo + hi) / 2 : Nat) : Int) by omega], by omega, by omega, Nat.le_refl _, hB.trans (hB2.mono hB.size), I2⟩
    · obtain rfl : hi = lo := by omega
      have hr := Lib.hid (rank_at n xs hi hin I.out.1 I.out.2)
      by_cases hn : hi < xs.length
      · obtain ⟨b, o, rfl, hb, c0, c1, c2, c3, c4, c5⟩ := (H.out.below hB (Nat.le_refl _)).at hi hn
        have hh := has_at n xs hi hn I.out.1 (I.out.2 hi hn (Nat.le_refl _)) R.out
        obtain ⟨x, hx⟩ : ∃ x, x = xs[hi] := ⟨_, rfl⟩
        rw [← hx] at c0 c1 c2 c3 c4 c5 hh
        have hh' := Lib.hid hh
        clear hx hh
        have hc := at1_walk x n wr
        by_cases hyx : x.ino = n
        · have hcm : (Lib.compareInt x.ino n == 0) = true := beq_iff_eq.2 (cmp_zero.2 hyx)
          have hy := Lib.hid hyx
          clear hyx
          go_wp2_with fail
          refine hc.mono ?_
          rintro e w' ⟨rfl, hB2⟩
          go_wp2
          go_ret2
          refine ⟨?_, hB.trans (hB2.mono hB.size)⟩
          rw [hr.out, hh'.out, decide_eq_true hy.out]; rfl
        · have hcm : (Lib.compareInt x.ino n == 0) = false := beq_eq_false_iff_ne.2 (fun h => hyx (cmp_zero.1 h))
          go_wp2_with fail
          refine hc.mono ?_
          rintro e w' ⟨rfl, hB2⟩
          go_wp2
          go_ret2
          refine ⟨?_, hB.trans (hB2.mono hB.size)⟩
          rw [hr.out, hh'.out, decide_eq_false hyx]; rfl
      · have hh := Lib.hid (has_end n xs (fun t h => I.out.1 t h (by omega)))
        go_wp2
        go_ret2
        refine ⟨?_, hB⟩
        rw [hr.out, hh.out]; rfl
set_option maxHeartbeats 4000000 in
theorem at_walk (mi mb nx : Int) (xs : List Nod) (a : Option Addr) (c : Nat) (n : Int) (w : World) (hN : Nods w a c xs) (hR : Rises xs) (hz : xs.length < 4611686018427387904) :
    Calls Try.prog 25 #[.agg #[.int .i64 mi, .int .i64 mb, .int .i64 nx, .slice a xs.length c], .int .i64 n] w fun e w' =>
      e = .returned (.tuple #[.int .i64 (rank n xs : Nat), .bool (has n xs)]) ∧ Below w.heap.size w w' := by
  have hc := fun W (hW : Below w.heap.size w W) => bs_walk xs a c n W (hN.below hW (Nat.le_refl _)) hR hz
  have HC := Lib.hid hc
  clear hc hN hR
  go_enter Try.func25, Try.ntmps25
  go_wp2_with fail
  refine (HC.out _ ((Below.refl _ w).alloc (Nat.le_refl _) _)).mono ?_
  rintro e w' ⟨rfl, hB⟩
  go_wp2
  go_ret2
  exact ⟨rfl, ((Below.refl _ w).alloc (Nat.le_refl _) _).trans (hB.mono (by simp))⟩
end Go.Proofs.Yteaemnjomlcfcaa.Tab
