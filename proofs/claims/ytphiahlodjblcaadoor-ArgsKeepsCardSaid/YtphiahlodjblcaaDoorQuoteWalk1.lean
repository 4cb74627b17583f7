/- Walks of quote's and the reference's small functions: a byte that stands for itself, a plain word, a byte's form. No condition but lengths that Go knows. -/
import Derived.Test.YtphiahlodjblcaaDoorProg
import Derived.Test.YtphiahlodjblcaaDoorKitBytes
import Derived.Test.YtphiahlodjblcaaDoorQuotePlain2
import Derived.WalkLawsBesides
import Derived.WalkSpells

set_option maxRecDepth 100000
namespace Go.Proofs.YtphiahlodjblcaaDoor
open Go.RowKit
namespace QuoteWalk
open Kit QuotePlain
theorem bad_cases {c : UInt8} (h : good c = false) : ¬ (32 : Int) ≤ (c.toNat : Int) ∨ ((32 : Int) ≤ (c.toNat : Int) ∧ ¬ (c.toNat : Int) ≤ 126) ∨ ((32 : Int) ≤ (c.toNat : Int) ∧ (c.toNat : Int) ≤ 126 ∧ ((c.toNat : Int) != 34) = false) ∨
    ((32 : Int) ≤ (c.toNat : Int) ∧ (c.toNat : Int) ≤ 126 ∧ ((c.toNat : Int) != 34) = true ∧ ((c.toNat : Int) != 92) = false) := by
  simp only [good, decide_eq_false_iff_not] at h
  simp only [bne_iff_ne, ne_eq, bne_eq_false_iff_eq]
  omega
theorem good_parts {c : UInt8} (h : good c = true) : (32 : Int) ≤ (c.toNat : Int) ∧ (c.toNat : Int) ≤ 126 ∧ ((c.toNat : Int) != 34) = true ∧ ((c.toNat : Int) != 92) = true := by
  simp only [good, decide_eq_true_eq] at h
  refine ⟨by omega, by omega, ?_, ?_⟩ <;> (simp only [bne_iff_ne, ne_eq]; omega)
theorem itself_walk (c : UInt8) (w : World) :
    Calls Tryd.prog 29 #[.int .u8 c.toNat] w fun e w' => e = .returned (.bool (good c)) ∧ w = w' := by
  have hc := c.toNat_lt
  cases hg : good c with
  | true =>
    obtain ⟨g1, g2, g3, g4⟩ := good_parts hg
    clear hg
    go_enter Tryd.func29, Tryd.ntmps29
    go_wp2
    go_ret
    exact ⟨rfl, rfl⟩
  | false =>
    rcases bad_cases hg with h | ⟨h0, h⟩ | ⟨h0, h1, h2⟩ | ⟨h0, h1, h2, h3⟩
    all_goals clear hg
    · go_enter Tryd.func29, Tryd.ntmps29
      go_wp2
      go_ret
      exact ⟨rfl, rfl⟩
    · go_enter Tryd.func29, Tryd.ntmps29
      go_wp2
      go_ret
      exact ⟨rfl, rfl⟩
    · go_enter Tryd.func29, Tryd.ntmps29
      go_wp2
      go_ret
      exact ⟨rfl, rfl⟩
    · go_enter Tryd.func29, Tryd.ntmps29
      go_wp2
      go_ret
      exact ⟨rfl, rfl⟩
/-- a text's byte, by its place -/
theorem at_list (s : ByteArray) (k : Nat) (h : k < s.size) : (toL s)[k]'(by rw [size_toL]; exact h) = s[k] := rfl
theorem mem_at (s : ByteArray) (c : UInt8) (h : c ∈ toL s) : ∃ k, ∃ h : k < s.size, s[k] = c := by
  obtain ⟨k, hk, e⟩ := List.mem_iff_getElem.1 h
  rw [size_toL] at hk
  exact ⟨k, hk, e⟩
theorem plain_no {s : ByteArray} {k : Nat} {h : k < s.size} {c : UInt8} (hc : s[k] = c) (hb : ¬ (33 ≤ c.toNat ∧ c.toNat ≤ 126 ∧ c.toNat ≠ 34)) : plainL (toL s) = false := by
  cases e : plainL (toL s) with
  | false => rfl
  | true => exact absurd (plain_mem e c (by rw [← hc, ← at_list s k h]; exact List.getElem_mem _)) hb
theorem plain_yes {s : ByteArray} (h : ∀ j (hj : j < s.size), 33 ≤ s[j].toNat ∧ s[j].toNat ≤ 126 ∧ s[j].toNat ≠ 34) : plainL (toL s) = !s.toList.isEmpty := by
  have h1 : ((toL s).all fun c => decide (33 ≤ c.toNat ∧ c.toNat ≤ 126 ∧ c.toNat ≠ 34)) = true := by
    rw [List.all_eq_true]
    intro c hc
    obtain ⟨k, hk, rfl⟩ := mem_at s c hc
    exact decide_eq_true (h k hk)
  rw [plainL, h1, ByteArray.toList_eq]
  show _ = !(toL s).isEmpty
  cases toL s <;> rfl
theorem refByte_good (c : UInt8) (w : World) (hg : good c = true) :
    Calls Tryd.prog 33 #[.int .u8 c.toNat] w fun e w' => e = .returned (.string (ofL (qb c))) ∧ Below w.heap.size w w' := by
  have hc := c.toNat_lt
  have hq := Lib.hid (show qb c = [c] by rw [qb, if_pos hg])
  obtain ⟨g1, g2, g3, g4⟩ := good_parts hg
  have hcv := conv_new (P := Tryd.prog) w [c] 34 5 9 Tryd.underlying34 Tryd.underlying5 Tryd.underlying9 #[.int .u8 c.toNat] rfl (0, 0) w.heap.size 1 1 rfl rfl
  clear hg
  go_enter Tryd.func33, Tryd.ntmps33
  go_wp2
  go_ret
  exact ⟨by rw [hq.out]; rfl, (Below.refl _ _).alloc (Nat.le_refl _) _⟩
theorem hexi (n : Nat) (h : n < 16) (w : World) : (Instr.index 9 (.string ⟨#[48, 49, 50, 51, 52, 53, 54, 55, 56, 57, 97, 98, 99, 100, 101, 102]⟩) (.int .u8 (n : Int))).run Tryd.prog w = .ok (.int .u8 ((hexd n).toNat : Int)) w := by
  rcases (by omega : n = 0 ∨ n = 1 ∨ n = 2 ∨ n = 3 ∨ n = 4 ∨ n = 5 ∨ n = 6 ∨ n = 7 ∨ n = 8 ∨ n = 9 ∨ n = 10 ∨ n = 11 ∨ n = 12 ∨ n = 13 ∨ n = 14 ∨ n = 15) with rfl | rfl | rfl | rfl | rfl | rfl | rfl | rfl | rfl | rfl | rfl | rfl | rfl | rfl | rfl | rfl
  all_goals kernel_rfl
theorem hex_hi (c : UInt8) (w : World) : (Instr.index 9 (.string ⟨#[48, 49, 50, 51, 52, 53, 54, 55, 56, 57, 97, 98, 99, 100, 101, 102]⟩) (.int .u8 ((c.toNat : Int) / 16))).run Tryd.prog w = .ok (.int .u8 ((hexd (c.toNat / 16)).toNat : Int)) w :=
  hexi (c.toNat / 16) (by have := c.toNat_lt; omega) w
theorem hex_lo (c : UInt8) (w : World) : (Instr.index 9 (.string ⟨#[48, 49, 50, 51, 52, 53, 54, 55, 56, 57, 97, 98, 99, 100, 101, 102]⟩) (.int .u8 ((c.toNat : Int) % 16))).run Tryd.prog w = .ok (.int .u8 ((hexd (c.toNat % 16)).toNat : Int)) w :=
  hexi (c.toNat % 16) (by omega) w
theorem wrap_hi (c : UInt8) : IntKind.u8.wrap ((c.toNat : Int) / 16) = (c.toNat : Int) / 16 := by
  have := c.toNat_lt
  exact IntWalk.u8_in _ (by omega)
theorem wrap_lo (c : UInt8) : IntKind.u8.wrap ((c.toNat : Int) % 16) = (c.toNat : Int) % 16 := by
  have := c.toNat_lt
  exact IntWalk.u8_in _ (by omega)
theorem tmod_lo (c : UInt8) : (c.toNat : Int).tmod 16 = (c.toNat : Int) % 16 := Int.tmod_eq_emod_of_nonneg (by omega)
theorem refByte_bad (c : UInt8) (w : World) (hg : good c = false) :
    Calls Tryd.prog 33 #[.int .u8 c.toNat] w fun e w' => e = .returned (.string (ofL (qb c))) ∧ Below w.heap.size w w' := by
  have hc := c.toNat_lt
  have hq := Lib.hid (show qb c = [92, 120, hexd (c.toNat / 16), hexd (c.toNat % 16)] by rw [qb, hg]; rfl)
  have hb := bad_cases hg
  have x1 := hex_hi c
  have x2 := hex_lo c
  have y1 := wrap_hi c
  have y2 := wrap_lo c
  have y3 := tmod_lo c
  have hcv := fun w2 : World => conv_new (P := Tryd.prog) w2 [92, 120, hexd (c.toNat / 16), hexd (c.toNat % 16)] 34 5 9 Tryd.underlying34 Tryd.underlying5 Tryd.underlying9 #[.int .u8 92, .int .u8 120, .int .u8 (hexd (c.toNat / 16)).toNat, .int .u8 (hexd (c.toNat % 16)).toNat] rfl (0, 0) w2.heap.size 4 4 rfl rfl
  clear hg
  rcases hb with h | ⟨h0, h⟩ | ⟨h0, h1, h2⟩ | ⟨h0, h1, h2, h3⟩
  · go_enter Tryd.func33, Tryd.ntmps33
    go_wp2
    go_still_tail 6, (by kernel_rfl)
    change wpList _ _ _ _ _ w.drew
    obtain ⟨w2, hw2, hsz⟩ : ∃ w2 : World, Below w.heap.size w w2 ∧ w2 = w.drew := ⟨_, (Below.refl _ _).drew, rfl⟩
    rw [← hsz]
    clear hsz
    go_wp2
    go_ret
    exact ⟨by rw [hq.out]; rfl, hw2.alloc hw2.size _⟩
  · go_enter Tryd.func33, Tryd.ntmps33
    go_wp2
    go_still_tail 6, (by kernel_rfl)
    change wpList _ _ _ _ _ w.drew
    obtain ⟨w2, hw2, hsz⟩ : ∃ w2 : World, Below w.heap.size w w2 ∧ w2 = w.drew := ⟨_, (Below.refl _ _).drew, rfl⟩
    rw [← hsz]
    clear hsz
    go_wp2
    go_ret
    exact ⟨by rw [hq.out]; rfl, hw2.alloc hw2.size _⟩
  · go_enter Tryd.func33, Tryd.ntmps33
    go_wp2
    go_still_tail 6, (by kernel_rfl)
    change wpList _ _ _ _ _ w.drew
    obtain ⟨w2, hw2, hsz⟩ : ∃ w2 : World, Below w.heap.size w w2 ∧ w2 = w.drew := ⟨_, (Below.refl _ _).drew, rfl⟩
    rw [← hsz]
    clear hsz
    go_wp2
    go_ret
    exact ⟨by rw [hq.out]; rfl, hw2.alloc hw2.size _⟩
  · go_enter Tryd.func33, Tryd.ntmps33
    go_wp2
    go_still_tail 6, (by kernel_rfl)
    change wpList _ _ _ _ _ w.drew
    obtain ⟨w2, hw2, hsz⟩ : ∃ w2 : World, Below w.heap.size w w2 ∧ w2 = w.drew := ⟨_, (Below.refl _ _).drew, rfl⟩
    rw [← hsz]
    clear hsz
    go_wp2
    go_ret
    exact ⟨by rw [hq.out]; rfl, hw2.alloc hw2.size _⟩
theorem refByte_walk (c : UInt8) (w : World) :
    Calls Tryd.prog 33 #[.int .u8 c.toNat] w fun e w' => e = .returned (.string (ofL (qb c))) ∧ Below w.heap.size w w' := by
  cases h : good c with
  | true => exact refByte_good c w h
  | false => exact refByte_bad c w h
end QuoteWalk
end Go.Proofs.YtphiahlodjblcaaDoor
