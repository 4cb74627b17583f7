/- The anchor of the statements on tables is met. -/
import Derived.Test.YteaemnjomlcfcaaTabNew
import Derived.Deep.RegionHeld3
set_option linter.unusedVariables false
set_option linter.unusedSimpArgs false
namespace Go.Proofs.Yteaemnjomlcfcaa.Tab
open Go.RowKit Go.Proofs.Yteaemnjomlcfcaa.Kit
theorem Nods.bare (w : World) (a : Option Addr) (c : Nat) (xs : List Nod) {v : Value} {B : Nat} (h : OwnNods w B (.slice a xs.length c) xs) (hx : ∀ x ∈ xs, x.es = []) (hm : ∀ x ∈ xs, x.ec ≤ maxLen) : Nods w a c xs := by
  obtain ⟨a', c', e, h1, _⟩ := h.nods fun x hx' => by
    unfold NodOk
    rw [hx x hx']
    exact Sl.nil _ _ _ _ _ (hm x hx')
  have h2 : a' = a ∧ c' = c := by simp at e; exact ⟨e.1.symm, e.2.symm⟩
  rw [← h2.1, ← h2.2]; exact h1
def Nod.zed : Nod := ⟨2, 1, 0, ⟨#[122]⟩, 0, none, 0, []⟩
theorem set_zed : set Nod.zed [Nod.root] = [Nod.root, Nod.zed] := rfl
abbrev Held (w7 : World) (f h x : Nat) (a1 : Option Addr) (c1 : Nat) (a4 : Option Addr) (c4 : Nat) (W : World) : Prop :=
  Below w7.heap.size w7 W ∧ (W.cell? ⟨f, 0, none⟩ = some (.int .i64 10) ∧ W.cell? ⟨f, 1, none⟩ = some (.int .i64 100) ∧ W.cell? ⟨f, 2, none⟩ = some (.int .i64 2) ∧ W.cell? ⟨f, 3, none⟩ = some (.slice a1 1 c1)) ∧ (W.cell? ⟨h, 0, none⟩ = some (.int .i64 10) ∧ W.cell? ⟨h, 1, none⟩ = some (.int .i64 100) ∧ W.cell? ⟨h, 2, none⟩ = some (.int .i64 3) ∧ W.cell? ⟨h, 3, none⟩ = some (.slice a4 2 c4)) ∧ W.cell? ⟨x, 3, none⟩ = some (.string ⟨#[122]⟩)
set_option maxHeartbeats 8000000 in
set_option maxRecDepth 100000 in
theorem awake_walk (w : World) : Calls Try.prog 9 #[] w fun e w' => e = .returned (.bool true) ∧ Below w.heap.size w w' := by
  have N1 := Lib.hid (fun W => new_walk 10 100 W (by omega) (by omega) (by omega) (by omega))
  have N2 := Lib.hid (fun W => new_bad 0 100 W (by omega))
  go_enter Try.func9, Try.ntmps9
  go_wp2_with fail
  refine (N1.out _).mono ?_
  rintro e w1 ⟨v1, rfl, own1, hB1⟩
  obtain ⟨a1, c1, hv1⟩ : ∃ a c, v1 = .slice a 1 c := own1.slice
  subst hv1
  have nod1 := Nods.bare w1 a1 c1 [Nod.root] (v := .slice a1 1 c1) own1 (by simp [Nod.root]) (by simp [Nod.root])
  have HN1 := Lib.hid nod1
  clear own1 nod1
  unfold FsVal
  have hs1 := hB1.size
  go_wp2_with fail
  refine (N2.out _).mono ?_
  rintro e w2 ⟨rfl, hB2⟩
  have tf := laid0 w1 (.cells #[.int .i64 10, .int .i64 100, .int .i64 2, .slice a1 1 c1] 25)
  rw [← hB2.block _ (by simp)] at tf
  have hs2 := hB2.size
  simp only [World.size_alloc] at hs2
  have nod2 := HN1.out.below ((Below.alloc (Below.refl w1.heap.size w1) (Nat.le_refl _) (.cells #[.int .i64 10, .int .i64 100, .int .i64 2, .slice a1 1 c1] 25)).trans (hB2.mono (by simp))) (Nat.le_refl _)
  have hB20 : Below w.heap.size w w2 := hB1.trans (((Below.refl w1.heap.size w1).alloc (Nat.le_refl _) _).trans (hB2.mono (by simp)) |>.mono hs1)
  obtain ⟨f0, f1, f2, f3, ff⟩ := box4 tf
  have hT : ∀ W, Below w2.heap.size w2 W → Calls Try.prog 22 #[.agg #[.int .i64 10, .int .i64 100, .int .i64 2, .slice a1 1 c1]] W (TakePost 10 100 2 [Nod.root] W.heap.size W) := fun W hW => take_walk 10 100 2 [Nod.root] a1 c1 W (nod2.below hW (Nat.le_refl _)) (by decide) (by omega) (by omega)
  have HT := Lib.hid hT
  have HN2 := Lib.hid nod2
  have TF := Lib.hid tf
  clear HN1 hB1 hs1 hB2 tf nod2 hT N1 N2
  unfold FsVal
  have hw : w1.heap.size < w2.heap.size := by omega
  go_wp2_with fail
  refine (HT.out _ (by (repeat' (first | with_reducible assumption | with_reducible exact Below.refl _ _ | with_reducible refine Below.setCell ?_ ?_ _ | with_reducible refine Below.alloc ?_ ?_ _ | with_reducible refine Below.drew ?_ | omega | (simp; done) | (simp; omega))))).mono ?_
  rintro e w3 ⟨v3, rfl, own3, hB3⟩
  have hs3 := hB3.size
  simp only [World.size_alloc] at hs3
  obtain ⟨a3, c3, hv3⟩ : ∃ a c, v3 = .slice a 1 c := own3.slice
  subst hv3
  have nod3 := Nods.bare w3 a3 c3 [Nod.root] (v := .slice a3 1 c3) own3 (by simp [Nod.root]) (by simp [Nod.root])
  have b23 : Below w2.heap.size w2 w3 := ((Below.refl w2.heap.size w2).alloc (Nat.le_refl _) _).trans (hB3.mono (by simp))
  have hS : ∀ W, Below w3.heap.size w3 W → Calls Try.prog 20 #[.agg #[.int .i64 10, .int .i64 100, .int .i64 3, .slice a3 1 c3], .agg #[.int .i64 2, .int .i64 1, .int .i64 0, .string ⟨#[122]⟩, .int .i64 0, .slice none 0 0]] W (FsPost 10 100 3 [Nod.root, Nod.zed] W.heap.size W) := fun W hW => set_any 10 100 3 [Nod.root] Nod.zed a3 c3 W (nod3.below hW (Nat.le_refl _)) (by decide) (by decide)
  have HS := Lib.hid hS
  have TF3 := TF.out
  rw [← b23.block _ (by omega)] at TF3
  have TF3h := Lib.hid TF3
  have HN3 := Lib.hid (HN2.out.below b23 (Nat.le_refl _))
  have hB30 : Below w.heap.size w w3 := hB20.trans (b23.mono (by have := hB20.size; omega))
  clear own3 hB3 nod3 b23 hS TF TF3 HN2 HT f0 f1 f2 f3 ff
  unfold FsVal
  go_wp2_with fail
  refine (HS.out _ (by (repeat' (first | with_reducible assumption | with_reducible exact Below.refl _ _ | with_reducible refine Below.setCell ?_ ?_ _ | with_reducible refine Below.alloc ?_ ?_ _ | with_reducible refine Below.drew ?_ | omega | (simp; done) | (simp; omega))))).mono ?_
  rintro e w4 ⟨v4, rfl, own4, hB4⟩
  have hs4 := hB4.size
  obtain ⟨a4, c4, hv4⟩ : ∃ a c, v4 = .slice a 2 c := own4.slice
  subst hv4
  have th := laid0 w3 (.cells #[.int .i64 10, .int .i64 100, .int .i64 3, .slice a3 1 c3] 25)
  rw [← hB4.block _ (by simp)] at th
  have b34 : Below w3.heap.size w3 w4 := ((Below.refl w3.heap.size w3).alloc (Nat.le_refl _) _).trans (hB4.mono (by simp))
  have TF4 := TF3h.out
  rw [← b34.block _ (by omega)] at TF4
  obtain ⟨h0, h1, h2, h3, hf⟩ := box4 th
  have b45 : Below w3.heap.size w3 ((((w4.setCell ⟨w3.heap.size, 0, none⟩ (.int .i64 10)).setCell ⟨w3.heap.size, 1, none⟩ (.int .i64 100)).setCell ⟨w3.heap.size, 2, none⟩ (.int .i64 3)).setCell ⟨w3.heap.size, 3, none⟩ (.slice a4 2 c4)) := by (repeat' (first | with_reducible assumption | with_reducible exact Below.refl _ _ | with_reducible refine Below.setCell ?_ ?_ _ | with_reducible refine Below.alloc ?_ ?_ _ | with_reducible refine Below.drew ?_ | omega | (simp; done) | (simp; omega)))
  have own5 := own_boxes (r := w3.heap.size) own4 (by simp) (.int .i64 10) (.int .i64 100) (.int .i64 3) (.slice a4 2 c4)
  have th5 := heap_setCell_same _ _ 3 _ _ (.slice a4 2 c4) (heap_setCell_same _ _ 2 _ _ (.int .i64 3) (heap_setCell_same _ _ 1 _ _ (.int .i64 100) (heap_setCell_same _ _ 0 _ _ (.int .i64 10) th)))
  obtain ⟨w5, hw5⟩ : ∃ w5, w5 = ((((w4.setCell ⟨w3.heap.size, 0, none⟩ (.int .i64 10)).setCell ⟨w3.heap.size, 1, none⟩ (.int .i64 100)).setCell ⟨w3.heap.size, 2, none⟩ (.int .i64 3)).setCell ⟨w3.heap.size, 3, none⟩ (.slice a4 2 c4)) := ⟨_, rfl⟩
  rw [← hw5] at b45 own5 th5
  have hz5 : w5.heap.size = w4.heap.size := by rw [hw5]; simp
  have th5' : w5.heap[w3.heap.size]? = some (.cells #[.int .i64 10, .int .i64 100, .int .i64 3, .slice a4 2 c4] 25 (0, 0)) := th5
  have TF5 := TF3h.out
  rw [← b45.block _ (by omega)] at TF5
  have nod5 := Nods.bare w5 a4 c4 [Nod.root, Nod.zed] (v := .slice a4 2 c4) own5 (by simp [Nod.root, Nod.zed]) (by simp [Nod.root, Nod.zed])
  have nod5f := HN3.out.below b45 (Nat.le_refl _)
  have hB50 : Below w.heap.size w w5 := hB30.trans (b45.mono (by have := hB30.size; omega))
  have hG : ∀ W, Below w5.heap.size w5 W → Calls Try.prog 15 #[.agg #[.int .i64 10, .int .i64 100, .int .i64 3, .slice a4 2 c4], .int .i64 2] W fun e w' => e = .returned (.tuple #[.agg #[.int .i64 2, .int .i64 1, .int .i64 0, .string ⟨#[122]⟩, .int .i64 0, .slice none 0 0], .bool true]) ∧ Below W.heap.size W w' := fun W hW => get_walk 10 100 3 [Nod.root, Nod.zed] a4 c4 2 W (nod5.below hW (Nat.le_refl _)) (by decide) (by decide)
  have hG2 : ∀ W, Below w5.heap.size w5 W → Calls Try.prog 15 #[.agg #[.int .i64 10, .int .i64 100, .int .i64 2, .slice a1 1 c1], .int .i64 2] W fun e w' => e = .returned (.tuple #[.agg #[.int .i64 0, .int .i64 0, .int .i64 0, .string ⟨#[]⟩, .int .i64 0, .slice none 0 0], .bool false]) ∧ Below W.heap.size W w' := fun W hW => get_walk 10 100 2 [Nod.root] a1 c1 2 W (nod5f.below hW (Nat.le_refl _)) (by decide) (by decide)
  have HG := Lib.hid hG
  have HG2 := Lib.hid hG2
  have HN5 := Lib.hid nod5
  have HN5f := Lib.hid nod5f
  have TH5 := Lib.hid th5'
  have TF5h := Lib.hid TF5
  have hs35 := b45.size
  have W5 := Lib.hid hw5
  have n35 : w3.heap.size < w5.heap.size := by rw [hz5]; have := hB4.size; simp at this; omega
  clear own4 hB4 th b34 TF4 b45 own5 th5 th5' TF5 nod5 nod5f hG hG2 HS TF3h HN3 hz5 hw5
  unfold FsVal
  go_wp2_with fail
  rw [← W5.out]
  refine (HG.out _ (Below.refl _ _)).mono ?_
  rintro e w6 ⟨rfl, hB6⟩
  have hs6 := hB6.size
  have tf6 := TF5h.out
  rw [← hB6.block _ (by omega)] at tf6
  have th6 := TH5.out
  rw [← hB6.block _ (by omega)] at th6
  obtain ⟨f0, f1, f2, f3, ff⟩ := box4 tf6
  have TF6 := Lib.hid tf6
  have TH6 := Lib.hid th6
  have n6 : w1.heap.size < w6.heap.size := by omega
  clear tf6 th6 h0 h1 h2 h3 hf
  go_wp2_with fail
  refine (HG2.out _ (hB6.alloc hs6 _)).mono ?_
  rintro e w7 ⟨rfl, hB7⟩
  have tf7 := TF6.out
  rw [← laid_past w6 (.cells #[.int .i64 2, .int .i64 1, .int .i64 0, .string ⟨#[122]⟩, .int .i64 0, .slice none 0 0] 35) (by omega), ← hB7.block _ (by simp; omega)] at tf7
  have th7 := TH6.out
  rw [← laid_past w6 (.cells #[.int .i64 2, .int .i64 1, .int .i64 0, .string ⟨#[122]⟩, .int .i64 0, .slice none 0 0] 35) (by omega), ← hB7.block _ (by simp; omega)] at th7
  have tx7 := laid0 w6 (.cells #[.int .i64 2, .int .i64 1, .int .i64 0, .string ⟨#[122]⟩, .int .i64 0, .slice none 0 0] 35)
  rw [← hB7.block _ (by simp)] at tx7
  have hs7 := hB7.size
  simp only [World.size_alloc] at hs7
  have b57 : Below w5.heap.size w5 w7 := (hB6.alloc hs6 _).trans (hB7.mono (by simp; omega))
  have hB70 : Below w.heap.size w w7 := hB50.trans (b57.mono (by have := hB50.size; omega))
  have nf := HN5f.out.below b57 (Nat.le_refl _)
  have nh := HN5.out.below b57 (Nat.le_refl _)
  have R1 := fun W => rnew_walk 10 100 W
  have R2 : ∀ W b d, Nods W b d [Nod.root] → Held w7 w1.heap.size w3.heap.size w6.heap.size a1 c1 a4 c4 W → Calls Try.prog 11 #[.agg #[.int .i64 10, .int .i64 100, .int .i64 2, .slice a1 1 c1], .agg #[.int .i64 10, .int .i64 100, .int .i64 2, .slice b 1 d]] W fun e w' => e = .returned (.bool true) ∧ Below W.heap.size W w' := fun W b d h1 h2 => rsame_walk 10 100 2 10 100 2 [Nod.root] [Nod.root] a1 b c1 d W (nf.below h2.1 (Nat.le_refl _)) h1
  have R3 : ∀ W, Held w7 w1.heap.size w3.heap.size w6.heap.size a1 c1 a4 c4 W → Calls Try.prog 18 #[.agg #[.int .i64 10, .int .i64 100, .int .i64 3, .slice a4 2 c4], .int .i64 2] W (FsPost 10 100 3 [Nod.root] W.heap.size W) := fun W h => drop_any 10 100 3 [Nod.root, Nod.zed] 2 a4 c4 W (nh.below h.1 (Nat.le_refl _)) (by decide) (by decide)
  have R4 : ∀ W, Held w7 w1.heap.size w3.heap.size w6.heap.size a1 c1 a4 c4 W → Calls Try.prog 23 #[.agg #[.int .i64 10, .int .i64 100, .int .i64 2, .slice a1 1 c1], .agg #[.int .i64 10, .int .i64 100, .int .i64 2, .slice a1 1 c1]] W fun e w' => e = .returned (.bool true) ∧ Below W.heap.size W w' := fun W h => tsame_walk 10 100 2 10 100 2 [Nod.root] [Nod.root] a1 a1 c1 c1 W (nf.below h.1 (Nat.le_refl _)) (nf.below h.1 (Nat.le_refl _))
  have R5 : ∀ W, Held w7 w1.heap.size w3.heap.size w6.heap.size a1 c1 a4 c4 W → Calls Try.prog 23 #[.agg #[.int .i64 10, .int .i64 100, .int .i64 2, .slice a1 1 c1], .agg #[.int .i64 10, .int .i64 100, .int .i64 3, .slice a4 2 c4]] W fun e w' => e = .returned (.bool false) ∧ Below W.heap.size W w' := fun W h => tsame_walk 10 100 2 10 100 3 [Nod.root] [Nod.root, Nod.zed] a1 a4 c1 c4 W (nf.below h.1 (Nat.le_refl _)) (nh.below h.1 (Nat.le_refl _))
  have HK : Hid (∀ W, Below w7.heap.size w7 W → Held w7 w1.heap.size w3.heap.size w6.heap.size a1 c1 a4 c4 W) := Lib.hid fun W hb => by
    rw [← hb.block _ (by omega)] at tf7 th7 tx7
    obtain ⟨f0', f1', f2', f3', -⟩ := box4 tf7
    obtain ⟨h0, h1, h2, h3, -⟩ := box4 th7
    obtain ⟨-, -, -, x3, -⟩ := box6 tx7
    exact ⟨hb, ⟨f0', f1', f2', f3'⟩, ⟨h0, h1, h2, h3⟩, x3⟩
  have HS : Hid (∀ W u, Held w7 w1.heap.size w3.heap.size w6.heap.size a1 c1 a4 c4 W → Below W.heap.size W u → Below w7.heap.size w7 u) := Lib.hid fun W u h hb => h.1.trans (hb.mono h.1.size)
  have H1 := Lib.hid R1
  have H2 := Lib.hid R2
  have H3 := Lib.hid R3
  have H4 := Lib.hid R4
  have H5 := Lib.hid R5
  have n1 : w1.heap.size < w7.heap.size := by omega
  have n3 : w3.heap.size < w7.heap.size := by omega
  have n6' : w6.heap.size < w7.heap.size := by omega
  have hfs := field_fs
  clear f0 f1 f2 f3 ff TF6 TH6 tf7 th7 tx7 hB6 hB7 hs6 n35 W5 hs35 TF5h TH5 HN5 HN5f HG HG2 hB50 nf nh R1 R2 R3 R4 R5 hB30 hs4 hs3 hw hB20 hs2 b57 n6
  go_wp2
  go_region_held3 (fun W => Below w7.heap.size w7 W ∧ (W.cell? ⟨w1.heap.size, 0, none⟩ = some (.int .i64 10) ∧ W.cell? ⟨w1.heap.size, 1, none⟩ = some (.int .i64 100) ∧ W.cell? ⟨w1.heap.size, 2, none⟩ = some (.int .i64 2) ∧ W.cell? ⟨w1.heap.size, 3, none⟩ = some (.slice a1 1 c1)) ∧ (W.cell? ⟨w3.heap.size, 0, none⟩ = some (.int .i64 10) ∧ W.cell? ⟨w3.heap.size, 1, none⟩ = some (.int .i64 100) ∧ W.cell? ⟨w3.heap.size, 2, none⟩ = some (.int .i64 3) ∧ W.cell? ⟨w3.heap.size, 3, none⟩ = some (.slice a4 2 c4)) ∧ W.cell? ⟨w6.heap.size, 3, none⟩ = some (.string ⟨#[122]⟩)) ((refine HK.out _ ?_; (repeat' (first | with_reducible assumption | with_reducible exact Below.refl _ _ | with_reducible refine Below.setCell ?_ ?_ _ | with_reducible refine Below.alloc ?_ ?_ _ | with_reducible refine Below.drew ?_ | omega | (simp; done) | (simp; omega))))) (first | (go_at_call 12; refine (H1.out _).mono ?_; rintro e u1 ⟨vr, rfl, ownr, hBv1⟩; have hBu1 := HS.out _ _ (by assumption) hBv1; clear hBv1; obtain ⟨ar, cr, hvr⟩ : ∃ a c, vr = .slice a 1 c := ownr.slice; subst hvr; have nodr := Lib.hid (Nods.bare u1 ar cr [Nod.root] (v := .slice ar 1 cr) ownr (by simp [Nod.root]) (by simp [Nod.root])); clear ownr; unfold FsVal) | (go_at_call 11; refine (H2.out _ _ _ nodr.out (by assumption)).mono ?_; rintro e u2 ⟨rfl, hBv2⟩; have hBu2 := HS.out _ _ (by assumption) hBv2; clear hBv2) | (go_at_call 18; refine (H3.out _ (by assumption)).mono ?_; rintro e u3 ⟨vd, rfl, ownd, hBv3⟩; have hBu3 := HS.out _ _ (by assumption) hBv3; clear hBv3; obtain ⟨adr, cdr, hvd⟩ : ∃ a c, vd = .slice a 1 c := ownd.slice; subst hvd; clear ownd; unfold FsVal) | (go_at_call_of 23 (Value.slice a4 2 c4); refine (H5.out _ (by assumption)).mono ?_; rintro e u5 ⟨rfl, hBv5⟩; have hBu5 := HS.out _ _ (by assumption) hBv5; clear hBv5) | (go_at_call 23; refine (H4.out _ (by assumption)).mono ?_; rintro e u4 ⟨rfl, hBv4⟩; have hBu4 := HS.out _ _ (by assumption) hBv4; clear hBv4))
  go_wp2
  go_ret
  exact ⟨rfl, hB70.trans (hBu5.mono hB70.size)⟩
end Go.Proofs.Yteaemnjomlcfcaa.Tab
