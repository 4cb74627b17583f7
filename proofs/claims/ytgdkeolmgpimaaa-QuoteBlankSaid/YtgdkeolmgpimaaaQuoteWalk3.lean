/- Walks of quote's readers: what stands for one byte, and a quoted text at the beginning of a text. Condition: lengths that Go knows. -/
import Derived.Test.YtgdkeolmgpimaaaQuoteWalk2
import Derived.Deep.QuietTactic
import Derived.BigQuiet
namespace Go.Proofs.Ytgdkeolmgpimaaa
open Go.RowKit
namespace QuoteWalk
open Kit QuotePlain
theorem idx_hexv (c : UInt8) : Lib.indexByte digits c = if hexv c < 16 then (hexv c : Int) else -1 := by
  have := all_bytes (p := fun c => decide (Lib.indexByte digits c = if hexv c < 16 then (hexv c : Int) else -1)) (by decide +kernel) c
  exact of_decide_eq_true this
theorem indexByte_walk (c : UInt8) (w : World) :
    Calls Try.prog 32 #[.string ⟨#[48, 49, 50, 51, 52, 53, 54, 55, 56, 57, 97, 98, 99, 100, 101, 102]⟩, .int .u8 (c.toNat : Int)] w fun e w' => e = .returned (.int .i64 (if hexv c < 16 then (hexv c : Int) else -1)) ∧ w' = w := by
  have h := Try.strings_IndexByte ⟨#[48, 49, 50, 51, 52, 53, 54, 55, 56, 57, 97, 98, 99, 100, 101, 102]⟩ (c.toNat : Int) w
  refine h.mono ?_
  rintro e w' ⟨h1, h2⟩
  refine ⟨?_, h2⟩
  rw [h1, ← idx_hexv]
  simp
  rfl
def TakenPost (l : Bs) (w : World) (e : Ending) (w' : World) : Prop := e = .returned (.tuple #[.int .u8 ((taken l).1.toNat : Int), .int .i64 ((taken l).2 : Int)]) ∧ ∃ n, w' = w.drewN n
theorem takenPost_of {l : Bs} {w : World} {x y : Int} {c : UInt8} {n : Nat} (h : taken l = (c, n)) (hx : x = c.toNat) (hy : y = n) : TakenPost l w (.returned (.tuple #[.int .u8 x, .int .i64 y])) w := by
  subst hx hy
  exact ⟨by rw [h], 0, rfl⟩
theorem taken_one (c : UInt8) (s : ByteArray) (w : World) (h : 0 < s.size) (hc : s[0] = c) (h92 : c ≠ 92) (l : Bs) (hl : taken l = if good c then (c, 1) else (0, 0)) :
    Calls Try.prog 29 #[.string s] w (TakenPost l w) := by
  have hn : ((c.toNat : Int) != 92) = true := by
    rw [bne_iff_ne]; intro e; apply h92; apply UInt8.toNat_inj.1; show c.toNat = 92; omega
  clear h92
  cases hg : good c with
  | true =>
    rw [hg, if_pos rfl] at hl
    have hl' := Lib.hid hl
    have hg' := Lib.hid hg
    clear hl hg
    go_enter Try.func29, Try.ntmps29
    go_wp2_with fail
    refine (itself_walk c _).mono ?_
    rintro e w' ⟨rfl, rfl⟩
    rw [hg'.out]
    go_wp2
    go_ret2
    exact takenPost_of hl'.out rfl rfl
  | false =>
    rw [hg, if_neg (by decide)] at hl
    have hl' := Lib.hid hl
    have hg' := Lib.hid hg
    clear hl hg
    go_enter Try.func29, Try.ntmps29
    go_wp2_with fail
    refine (itself_walk c _).mono ?_
    rintro e w' ⟨rfl, rfl⟩
    rw [hg'.out]
    go_wp2
    go_ret2
    exact takenPost_of hl'.out rfl rfl
theorem taken_short (s : ByteArray) (w : World) (h : 0 < s.size) (hc : s[0] = 92) (h4 : s.size < 4) (l : Bs) (hl : taken l = (0, 0)) :
    Calls Try.prog 29 #[.string s] w (TakenPost l w) := by
  have hl' := Lib.hid hl
  clear hl
  go_enter Try.func29, Try.ntmps29
  go_wp2
  go_ret2
  exact takenPost_of hl'.out rfl rfl
theorem taken_nox (x : UInt8) (s : ByteArray) (w : World) (h : 4 ≤ s.size) (hc : s[0] = 92) (hx : s[1] = x) (h4 : x ≠ 120) (l : Bs) (hl : taken l = (0, 0)) :
    Calls Try.prog 29 #[.string s] w (TakenPost l w) := by
  have hl' := Lib.hid hl
  clear hl
  have hn : ((x.toNat : Int) != 120) = true := by
    rw [bne_iff_ne]; intro e; apply h4; apply UInt8.toNat_inj.1; show x.toNat = 120; omega
  clear h4
  go_enter Try.func29, Try.ntmps29
  go_wp2
  go_ret2
  exact takenPost_of hl'.out rfl rfl
theorem takenPost_drew {l : Bs} {w w2 : World} {x y : Int} {c : UInt8} {n : Nat} (h : taken l = (c, n)) (hx : x = c.toNat) (hy : y = n) (hw : ∃ n, w2 = w.drewN n) : TakenPost l w (.returned (.tuple #[.int .u8 x, .int .i64 y])) w2 := by
  subst hx hy
  exact ⟨by rw [h], hw⟩
theorem or_hex : ∀ m : Nat, m < 16 → ∀ n : Nat, n < 16 → bits BinOp.or IntKind.i64 ((m : Int) * 16) (n : Int) % 256 = ((UInt8.ofNat (m * 16 + n)).toNat : Int) := by decide +kernel
set_option maxHeartbeats 1000000 in
theorem taken_hex (a b : UInt8) (s : ByteArray) (w : World) (h : 4 ≤ s.size) (hc : s[0] = 92) (hx : s[1] = 120) (ha : s[2] = a) (hb : s[3] = b) (l : Bs) (m n : Nat) (h1 : hexv a = m) (h2 : hexv b = n) (hm : m < 16) (hn : n < 16) (v : UInt8) (hv : UInt8.ofNat (m * 16 + n) = v) (hl : taken l = if good v then (0, 0) else (v, 4)) :
    Calls Try.prog 29 #[.string s] w (TakenPost l w) := by
  have c1 := indexByte_walk a
  have c2 := indexByte_walk b
  rw [h1, if_pos hm] at c1
  rw [h2, if_pos hn] at c2
  have d1 := Lib.hid c1
  have d2 := Lib.hid c2
  have hor := or_hex m hm n hn
  rw [hv] at hor
  have hor' := Lib.hid hor
  cases hg : good v with
  | true =>
    rw [hg, if_pos rfl] at hl
    have hl' := Lib.hid hl
    have hg' := Lib.hid hg
    clear hl h1 h2 c1 c2 hor hv hg
    go_enter Try.func29, Try.ntmps29
    go_wp2_with fail
    go_quiet ((first | (go_at_call 32; exact Calls.quiet_of_same (d1.out _)) | (go_at_call 32; exact Calls.quiet_of_same (d2.out _))))
    go_wp2_with fail
    rw [hor'.out]
    refine (itself_walk v _).mono ?_
    rintro e w' ⟨rfl, rfl⟩
    rw [hg'.out]
    go_wp2
    go_ret2
    exact takenPost_drew hl'.out rfl rfl ⟨_, rfl⟩
  | false =>
    rw [hg, if_neg (by decide)] at hl
    have hl' := Lib.hid hl
    have hg' := Lib.hid hg
    clear hl h1 h2 c1 c2 hor hv hg
    go_enter Try.func29, Try.ntmps29
    go_wp2_with fail
    go_quiet ((first | (go_at_call 32; exact Calls.quiet_of_same (d1.out _)) | (go_at_call 32; exact Calls.quiet_of_same (d2.out _))))
    go_wp2_with fail
    rw [hor'.out]
    refine (itself_walk v _).mono ?_
    rintro e w' ⟨rfl, rfl⟩
    rw [hg'.out]
    go_wp2
    go_ret2
    exact takenPost_drew hl'.out rfl rfl ⟨_, rfl⟩
theorem taken_bad1a (a b : UInt8) (s : ByteArray) (w : World) (h : 4 ≤ s.size) (hc : s[0] = 92) (hx : s[1] = 120) (ha : s[2] = a) (hb : s[3] = b) (l : Bs) (h1 : ¬ hexv a < 16) (n : Nat) (h2 : hexv b = n) (hn : n < 16) (hl : taken l = (0, 0)) :
    Calls Try.prog 29 #[.string s] w (TakenPost l w) := by
  have c1 := indexByte_walk a
  have c2 := indexByte_walk b
  rw [if_neg h1] at c1
  rw [h2, if_pos hn] at c2
  have d1 := Lib.hid c1
  have d2 := Lib.hid c2
  have hl' := Lib.hid hl
  clear hl h1 h2 c1 c2
  go_enter Try.func29, Try.ntmps29
  go_wp2_with fail
  go_quiet ((first | (go_at_call 32; exact Calls.quiet_of_same (d1.out _)) | (go_at_call 32; exact Calls.quiet_of_same (d2.out _))))
  go_wp2_with fail
  go_ret2
  exact takenPost_drew hl'.out rfl rfl ⟨_, rfl⟩
theorem taken_bad1b (a b : UInt8) (s : ByteArray) (w : World) (h : 4 ≤ s.size) (hc : s[0] = 92) (hx : s[1] = 120) (ha : s[2] = a) (hb : s[3] = b) (l : Bs) (h1 : ¬ hexv a < 16) (h2 : ¬ hexv b < 16) (hl : taken l = (0, 0)) :
    Calls Try.prog 29 #[.string s] w (TakenPost l w) := by
  have c1 := indexByte_walk a
  have c2 := indexByte_walk b
  rw [if_neg h1] at c1
  rw [if_neg h2] at c2
  have d1 := Lib.hid c1
  have d2 := Lib.hid c2
  have hl' := Lib.hid hl
  clear hl h1 h2 c1 c2
  go_enter Try.func29, Try.ntmps29
  go_wp2_with fail
  go_quiet ((first | (go_at_call 32; exact Calls.quiet_of_same (d1.out _)) | (go_at_call 32; exact Calls.quiet_of_same (d2.out _))))
  go_wp2_with fail
  go_ret2
  exact takenPost_drew hl'.out rfl rfl ⟨_, rfl⟩
theorem taken_bad2 (a b : UInt8) (s : ByteArray) (w : World) (h : 4 ≤ s.size) (hc : s[0] = 92) (hx : s[1] = 120) (ha : s[2] = a) (hb : s[3] = b) (l : Bs) (m : Nat) (h1 : hexv a = m) (hm : m < 16) (h2 : ¬ hexv b < 16) (hl : taken l = (0, 0)) :
    Calls Try.prog 29 #[.string s] w (TakenPost l w) := by
  have c1 := indexByte_walk a
  have c2 := indexByte_walk b
  rw [h1, if_pos hm] at c1
  rw [if_neg h2] at c2
  have d1 := Lib.hid c1
  have d2 := Lib.hid c2
  have hl' := Lib.hid hl
  clear hl h1 h2 c1 c2
  go_enter Try.func29, Try.ntmps29
  go_wp2_with fail
  go_quiet ((first | (go_at_call 32; exact Calls.quiet_of_same (d1.out _)) | (go_at_call 32; exact Calls.quiet_of_same (d2.out _))))
  go_wp2_with fail
  go_ret2
  exact takenPost_drew hl'.out rfl rfl ⟨_, rfl⟩
theorem toL_get (s : ByteArray) (k : Nat) (h : k < s.size) : (toL s)[k]? = some s[k] := by
  rw [List.getElem?_eq_getElem (by rw [size_toL]; exact h)]; rfl
theorem taken_walk (s : ByteArray) (w : World) (h : 0 < s.size) : Calls Try.prog 29 #[.string s] w (TakenPost (toL s) w) := by
  have g0 := toL_get s 0 h
  have hsz := size_toL s
  generalize hl : toL s = l at *
  match l, g0 with
  | c :: r, g0 =>
    simp only [List.getElem?_cons_zero, Option.some.injEq] at g0
    by_cases h92 : c = 92
    · subst h92
      by_cases h4 : s.size < 4
      · refine taken_short s w h g0.symm h4 _ ?_
        match r, hsz with
        | [], _ => rfl
        | [_], _ => rfl
        | [_, _], _ => rfl
        | _ :: _ :: _ :: _, hsz => simp at hsz; omega
      · have h4' : 4 ≤ s.size := by omega
        match r, hsz with
        | [], hsz => simp at hsz; omega
        | [_], hsz => simp at hsz; omega
        | [_, _], hsz => simp at hsz; omega
        | x :: a :: b :: r, hsz =>
          have g1 := toL_get s 1 (by omega)
          have g2 := toL_get s 2 (by omega)
          have g3 := toL_get s 3 (by omega)
          rw [hl] at g1 g2 g3
          simp only [List.getElem?_cons_succ, List.getElem?_cons_zero, Option.some.injEq] at g1 g2 g3
          have ht : taken (92 :: x :: a :: b :: r) = if x = 120 ∧ hexv a < 16 ∧ hexv b < 16 ∧ good (UInt8.ofNat (hexv a * 16 + hexv b)) = false then (UInt8.ofNat (hexv a * 16 + hexv b), 4) else (0, 0) := by
            rw [taken_cons, if_neg (by simp)]
          by_cases hx : x = 120
          · subst hx
            by_cases h1 : hexv a < 16
            · by_cases h2 : hexv b < 16
              · refine taken_hex a b s w h4' g0.symm g1.symm g2.symm g3.symm _ _ _ rfl rfl h1 h2 _ rfl ?_
                rw [ht]
                cases good (UInt8.ofNat (hexv a * 16 + hexv b)) <;> simp [h1, h2]
              · refine taken_bad2 a b s w h4' g0.symm g1.symm g2.symm g3.symm _ _ rfl h1 h2 ?_
                rw [ht, if_neg (fun e => h2 e.2.2.1)]
            · have ht' : taken (92 :: 120 :: a :: b :: r) = (0, 0) := by rw [ht, if_neg (fun e => h1 e.2.1)]
              by_cases h2 : hexv b < 16
              · exact taken_bad1a a b s w h4' g0.symm g1.symm g2.symm g3.symm _ h1 _ rfl h2 ht'
              · exact taken_bad1b a b s w h4' g0.symm g1.symm g2.symm g3.symm _ h1 h2 ht'
          · refine taken_nox x s w h4' g0.symm g1.symm hx _ ?_
            rw [ht, if_neg (fun e => hx e.1)]
    · refine taken_one c s w h g0.symm h92 _ ?_
      rw [taken_cons, if_pos h92]
end QuoteWalk
end Go.Proofs.Ytgdkeolmgpimaaa
