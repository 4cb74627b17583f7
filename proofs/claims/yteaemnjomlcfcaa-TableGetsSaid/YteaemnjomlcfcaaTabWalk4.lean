/- Are two inodes alike? The program's way and the reference's. (printed by gen_tab4.py) -/
import Derived.Test.YteaemnjomlcfcaaTabWalk3
set_option linter.unusedVariables false
set_option linter.unusedSimpArgs false
namespace Go.Proofs.Yteaemnjomlcfcaa.Tab
open Go.RowKit Go.Proofs.Yteaemnjomlcfcaa.Kit
theorem like_eq (x y : Nod) : x.like y = ((x.ino == y.ino) && (x.kind == y.kind) && (x.links == y.links) && (x.data.toList == y.data.toList) && (x.parent == y.parent) && decide (x.es = y.es)) := by
  rw [seq_dec]; rfl
set_option maxHeartbeats 4000000 in
set_option maxRecDepth 100000 in
theorem one_walk (x y : Nod) (w : World) (hx : NodOk w x) (hy : NodOk w y) :
    Calls Try.prog 17 #[.agg #[.int .i64 x.ino, .int .i64 x.kind, .int .i64 x.links, .string x.data, .int .i64 x.parent, .slice x.ea x.es.length x.ec], .agg #[.int .i64 y.ino, .int .i64 y.kind, .int .i64 y.links, .string y.data, .int .i64 y.parent, .slice y.ea y.es.length y.ec]] w fun e w' =>
      e = .returned (.bool (x.like y)) ∧ Below w.heap.size w w' := by
  have hc := fun W (hW : Below w.heap.size w W) => esame_walk x.es y.es x.ea y.ea x.ec y.ec W (hx.below hW (Nat.le_refl _)) (hy.below hW (Nat.le_refl _))
  have HC := Lib.hid hc
  have hB1 := ((Below.refl w.heap.size w).alloc (Nat.le_refl _) (Obj.cells #[.int .i64 x.ino, .int .i64 x.kind, .int .i64 x.links, .string x.data, .int .i64 x.parent, .slice x.ea x.es.length x.ec] 35)).alloc (by simp) (Obj.cells #[.int .i64 y.ino, .int .i64 y.kind, .int .i64 y.links, .string y.data, .int .i64 y.parent, .slice y.ea y.es.length y.ec] 35)
  have HL := Lib.hid (like_eq x y)
  clear hc hx hy
  cases h0 : (x.ino == y.ino) with
  | false =>
    have hf := Lib.hid (show x.like y = false by rw [HL.out, h0]; simp)
    go_enter Try.func17, Try.ntmps17
    go_wp2
    go_ret
    exact ⟨ret_bool hf.out.symm, hB1⟩
  | true =>
    cases h1 : (x.kind == y.kind) with
    | false =>
      have hf := Lib.hid (show x.like y = false by rw [HL.out, h1]; simp)
      go_enter Try.func17, Try.ntmps17
      go_wp2
      go_ret
      exact ⟨ret_bool hf.out.symm, hB1⟩
    | true =>
      cases h2 : (x.links == y.links) with
      | false =>
        have hf := Lib.hid (show x.like y = false by rw [HL.out, h2]; simp)
        go_enter Try.func17, Try.ntmps17
        go_wp2
        go_ret
        exact ⟨ret_bool hf.out.symm, hB1⟩
      | true =>
        cases h3 : (x.data.toList == y.data.toList) with
        | false =>
          have hf := Lib.hid (show x.like y = false by rw [HL.out, h3]; simp)
          go_enter Try.func17, Try.ntmps17
          go_wp2
          go_ret
          exact ⟨ret_bool hf.out.symm, hB1⟩
        | true =>
          cases h4 : (x.parent == y.parent) with
          | false =>
            have hf := Lib.hid (show x.like y = false by rw [HL.out, h4]; simp)
            go_enter Try.func17, Try.ntmps17
            go_wp2
            go_ret
            exact ⟨ret_bool hf.out.symm, hB1⟩
          | true =>
            have hf := Lib.hid (show x.like y = decide (x.es = y.es) by rw [HL.out, h0, h1, h2, h3, h4]; simp)
            go_enter Try.func17, Try.ntmps17
            go_wp2_with fail
            refine (HC.out _ hB1).mono ?_
            rintro e w1 ⟨rfl, hB⟩
            go_wp2
            go_ret
            exact ⟨ret_bool hf.out.symm, hB1.trans (hB.mono hB1.size)⟩
set_option maxHeartbeats 4000000 in
set_option maxRecDepth 100000 in
theorem alike_walk (x y : Nod) (w : World) (hx : NodOk w x) (hy : NodOk w y) :
    Calls Try.prog 31 #[.agg #[.int .i64 x.ino, .int .i64 x.kind, .int .i64 x.links, .string x.data, .int .i64 x.parent, .slice x.ea x.es.length x.ec], .agg #[.int .i64 y.ino, .int .i64 y.kind, .int .i64 y.links, .string y.data, .int .i64 y.parent, .slice y.ea y.es.length y.ec]] w fun e w' =>
      e = .returned (.bool (x.like y)) ∧ Below w.heap.size w w' := by
  have hc := fun W (hW : Below w.heap.size w W) => eequal_walk x.es y.es x.ea y.ea x.ec y.ec W (hx.below hW (Nat.le_refl _)) (hy.below hW (Nat.le_refl _))
  have HC := Lib.hid hc
  have hB1 := ((Below.refl w.heap.size w).alloc (Nat.le_refl _) (Obj.cells #[.int .i64 x.ino, .int .i64 x.kind, .int .i64 x.links, .string x.data, .int .i64 x.parent, .slice x.ea x.es.length x.ec] 35)).alloc (by simp) (Obj.cells #[.int .i64 y.ino, .int .i64 y.kind, .int .i64 y.links, .string y.data, .int .i64 y.parent, .slice y.ea y.es.length y.ec] 35)
  have HL := Lib.hid (like_eq x y)
  clear hc hx hy
  cases h0 : (x.ino == y.ino) with
  | false =>
    have hf := Lib.hid (show x.like y = false by rw [HL.out, h0]; simp)
    go_enter Try.func31, Try.ntmps31
    go_wp2
    go_ret
    exact ⟨ret_bool hf.out.symm, hB1⟩
  | true =>
    cases h1 : (x.kind == y.kind) with
    | false =>
      have hf := Lib.hid (show x.like y = false by rw [HL.out, h1]; simp)
      go_enter Try.func31, Try.ntmps31
      go_wp2
      go_ret
      exact ⟨ret_bool hf.out.symm, hB1⟩
    | true =>
      cases h2 : (x.links == y.links) with
      | false =>
        have hf := Lib.hid (show x.like y = false by rw [HL.out, h2]; simp)
        go_enter Try.func31, Try.ntmps31
        go_wp2
        go_ret
        exact ⟨ret_bool hf.out.symm, hB1⟩
      | true =>
        cases h3 : (x.data.toList == y.data.toList) with
        | false =>
          have hf := Lib.hid (show x.like y = false by rw [HL.out, h3]; simp)
          go_enter Try.func31, Try.ntmps31
          go_wp2
          go_ret
          exact ⟨ret_bool hf.out.symm, hB1⟩
        | true =>
          cases h4 : (x.parent == y.parent) with
          | false =>
            have hf := Lib.hid (show x.like y = false by rw [HL.out, h4]; simp)
            go_enter Try.func31, Try.ntmps31
            go_wp2
            go_ret
            exact ⟨ret_bool hf.out.symm, hB1⟩
          | true =>
            have hf := Lib.hid (show x.like y = decide (x.es = y.es) by rw [HL.out, h0, h1, h2, h3, h4]; simp)
            go_enter Try.func31, Try.ntmps31
            go_wp2_with fail
            refine (HC.out _ hB1).mono ?_
            rintro e w1 ⟨rfl, hB⟩
            go_wp2
            go_ret
            exact ⟨ret_bool hf.out.symm, hB1.trans (hB.mono hB1.size)⟩
end Go.Proofs.Yteaemnjomlcfcaa.Tab
