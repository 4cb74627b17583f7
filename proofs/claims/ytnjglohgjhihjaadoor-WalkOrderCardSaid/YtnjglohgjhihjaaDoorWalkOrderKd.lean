/- What the proof of WalkOrder leans on, part 4: OpenT Tab2 TabR Snd1 Snd2 Snd3 Snd4 Snd5 PathN Ref1 Shelf Path1 Path2 Path3 Path4 May1 May2 May3 Path5 Ref3 Snd6 Snd7 Ref8 Wlk1 Wlk2. No condition beyond what each theorem states. -/
import Derived.Test.YtnjglohgjhihjaaDoorWalkOrderKc
import Derived.Test.YtnjglohgjhihjaaDoorRows
import Derived.Shelf.Strings.Builder1
import Derived.Shelf.Strings.Builder2
import Derived.Shelf.Strings.OnBuilder
import Derived.Shelf.Small.Utf8
import Derived.Shelf.Small.Strs
import Derived.Shelf.Small.Wraps
import Derived.Shelf.Strings.BuilderF
import Derived.Shelf.Strings.Search1
import Derived.Shelf.Strings.Search2
import Derived.Shelf.Strings.Search3
import Derived.Shelf.LaysM
import Derived.Shelf.Strings.Shaped
import Derived.Shelf.Strings.Prefix
import Derived.Shelf.Unicode.Decode
import Derived.Shelf.Strings.Runes
import Derived.Shelf.Strings.IndexAny
import Derived.Shelf.Strings.AsciiSet
import Derived.Shelf.Strings.IndexAnyAll
import Derived.Shelf.Unicode.DecodeSlow
import Derived.Test.YtnjglohgjhihjaaDoorProg
import Derived.Laws.Runes
import Derived.Laws.RangeString
import Derived.WalkKit
import Derived.Deep.LoopGhost
import Derived.Lib.QuoteLoop
section
set_option linter.unusedVariables false
namespace Go.Proofs.YtnjglohgjhihjaaDoor.Vcg
open Go.RowKit Go.ChangeMaps Go.ChangeShapes Go.WideShapes Go.Deep Go.Joins
theorem rows_of {α : Type} {f : α → List C} {q : α → Prop} : ∀ {rows : List (List C)}, (∀ r ∈ rows, ∃ a, r = f a ∧ q a) → ∃ xs : List α, rows = xs.map f ∧ ∀ x ∈ xs, q x
  | [], _ => ⟨[], rfl, fun x h => by cases h⟩
  | r :: rows, h => by
    obtain ⟨xs, rfl, hq⟩ := rows_of fun r' hr => h r' (List.mem_cons_of_mem _ hr)
    obtain ⟨o, rfl, ho⟩ := h r List.mem_cons_self
    exact ⟨o :: xs, rfl, fun x hx => by
      rcases List.mem_cons.1 hx with rfl | hx
      · exact ho
      · exact hq x hx⟩
section
variable {H : Type} {enc : TypeId × Value → H} {W : World}
theorem opn_u8s : Opn enc Tryd.prog W 67 fun c => ∃ xs : List UInt8, c = .sl 1 (bytesC xs) ∧ xs.length ≤ maxLen := fun fuel cs x hx => by
  obtain ⟨v, c, rfl, ⟨rows, rfl, hl, hr⟩, h1, h2⟩ := Opn.slice (W := W) (enc := enc) Tryd.underlying67 (show Tryd.prog.cellsOf 5 = 1 by kernel_rfl) (Nat.zero_lt_one) (OpnRow.one (Opn.int Tryd.underlying5)) fuel cs x hx
  obtain ⟨xs, rfl, _⟩ := rows_of (f := fun b : UInt8 => [C.sc (.int .u8 (b.toNat : Int))]) (q := fun _ => True) (rows := rows) fun r hr' => by
    obtain ⟨c, rfl, n, rfl, hw⟩ := hr r hr'
    have hb : 0 ≤ n ∧ n ≤ 255 := by simpa [Lit.wf, IntKind.min, IntKind.max, IntKind.signed, IntKind.bits] using hw
    refine ⟨UInt8.ofNat n.toNat, ?_, trivial⟩
    rw [UInt8.toNat_ofNat_of_lt' (by show _ < 256; omega), Int.toNat_of_nonneg hb.1]
  exact ⟨v, _, rfl, ⟨xs, rfl, by simpa using hl⟩, h1, h2⟩
theorem opn_ent : OpnRow enc Tryd.prog W 55 2 fun row => ∃ o : EntV, row = entC o ∧ o.name.length ≤ maxLen := fun fuel cs x hx => by
  obtain ⟨row, ⟨hl, hq⟩, h1, h2, h3⟩ := OpnRow.struct (W := W) (enc := enc) (Qs := fun j c => match j with | 0 => ∃ l : List UInt8, c = .str l ∧ l.length ≤ maxLen | 1 => ∃ n, c = .sc (.int .i64 n) ∧ (Lit.int .i64 n).wf = true | _ => True) Tryd.underlying55 (by kernel_rfl) (by kernel_rfl) (fun j f hj => by
    match j, hj with
    | 0, hj => cases hj; exact Opn.str Tryd.underlying9
    | 1, hj => cases hj; exact Opn.int Tryd.underlying3
    | j + 2, hj => simp at hj) fuel cs x hx
  match row, h1, hq, h3 with
  | [c0, c1], _, hq, h3 =>
    obtain ⟨a, rfl, ha⟩ := hq 0 c0 rfl
    obtain ⟨k, rfl, _⟩ := hq 1 c1 rfl
    exact ⟨_, ⟨⟨a, k⟩, rfl, ha⟩, rfl, h2, h3⟩
theorem opn_ents : Opn enc Tryd.prog W 39 fun c => ∃ xs : List EntV, c = .sl 2 (entsC xs) ∧ xs.length ≤ maxLen ∧ ∀ x ∈ xs, x.name.length ≤ maxLen := fun fuel cs x hx => by
  obtain ⟨v, c, rfl, ⟨rows, rfl, hl, hr⟩, h1, h2⟩ := Opn.slice (W := W) (enc := enc) Tryd.underlying39 (show Tryd.prog.cellsOf 55 = 2 by kernel_rfl) (by decide) opn_ent fuel cs x hx
  obtain ⟨xs, rfl, hq⟩ := rows_of hr
  exact ⟨v, _, rfl, ⟨xs, rfl, by simpa using hl, hq⟩, h1, h2⟩
/-- what is known of an inode that is handed in -/
def nodOk (x : NodV) : Prop := x.data.length ≤ maxLen ∧ x.es.length ≤ maxLen ∧ ∀ e ∈ x.es, e.name.length ≤ maxLen
theorem opn_inode : OpnRow enc Tryd.prog W 41 6 fun row => ∃ o : NodV, row = nodC o ∧ nodOk o := fun fuel cs x hx => by
  obtain ⟨row, ⟨hl, hq⟩, h1, h2, h3⟩ := OpnRow.struct (W := W) (enc := enc) (Qs := fun j c => match j with | 0 => ∃ n, c = .sc (.int .i64 n) ∧ (Lit.int .i64 n).wf = true | 1 => ∃ n, c = .sc (.int .i64 n) ∧ (Lit.int .i64 n).wf = true | 2 => ∃ n, c = .sc (.int .i64 n) ∧ (Lit.int .i64 n).wf = true | 3 => ∃ l : List UInt8, c = .str l ∧ l.length ≤ maxLen | 4 => ∃ n, c = .sc (.int .i64 n) ∧ (Lit.int .i64 n).wf = true | 5 => ∃ xs : List EntV, c = .sl 2 (entsC xs) ∧ xs.length ≤ maxLen ∧ ∀ x ∈ xs, x.name.length ≤ maxLen | _ => True) Tryd.underlying41 (by kernel_rfl) (by kernel_rfl) (fun j f hj => by
    match j, hj with
    | 0, hj => cases hj; exact Opn.int Tryd.underlying3
    | 1, hj => cases hj; exact Opn.int Tryd.underlying3
    | 2, hj => cases hj; exact Opn.int Tryd.underlying3
    | 3, hj => cases hj; exact Opn.str Tryd.underlying9
    | 4, hj => cases hj; exact Opn.int Tryd.underlying3
    | 5, hj => cases hj; exact opn_ents
    | j + 6, hj => simp at hj) fuel cs x hx
  match row, h1, hq, h3 with
  | [c0, c1, c2, c3, c4, c5], _, hq, h3 =>
    obtain ⟨a, rfl, _⟩ := hq 0 c0 rfl
    obtain ⟨b, rfl, _⟩ := hq 1 c1 rfl
    obtain ⟨c, rfl, _⟩ := hq 2 c2 rfl
    obtain ⟨d, rfl, hd⟩ := hq 3 c3 rfl
    obtain ⟨e, rfl, _⟩ := hq 4 c4 rfl
    obtain ⟨f, rfl, hf⟩ := hq 5 c5 rfl
    exact ⟨_, ⟨⟨a, b, c, d, e, f⟩, rfl, hd, hf⟩, rfl, h2, h3⟩
theorem opn_nods : Opn enc Tryd.prog W 22 fun c => ∃ xs : List NodV, c = .sl 6 (nodsC xs) ∧ xs.length ≤ maxLen ∧ ∀ x ∈ xs, nodOk x := fun fuel cs x hx => by
  obtain ⟨v, c, rfl, ⟨rows, rfl, hl, hr⟩, h1, h2⟩ := Opn.slice (W := W) (enc := enc) Tryd.underlying22 (show Tryd.prog.cellsOf 41 = 6 by kernel_rfl) (by decide) opn_inode fuel cs x hx
  obtain ⟨xs, rfl, hq⟩ := rows_of hr
  exact ⟨v, _, rfl, ⟨xs, rfl, by simpa using hl, hq⟩, h1, h2⟩
theorem opn_fs : OpnRow enc Tryd.prog W 24 4 fun row => ∃ f : FsV, row = fsC f ∧ f.xs.length ≤ maxLen ∧ ∀ x ∈ f.xs, nodOk x := fun fuel cs x hx => by
  obtain ⟨row, ⟨hl, hq⟩, h1, h2, h3⟩ := OpnRow.struct (W := W) (enc := enc) (Qs := fun j c => match j with | 0 => ∃ n, c = .sc (.int .i64 n) ∧ (Lit.int .i64 n).wf = true | 1 => ∃ n, c = .sc (.int .i64 n) ∧ (Lit.int .i64 n).wf = true | 2 => ∃ n, c = .sc (.int .i64 n) ∧ (Lit.int .i64 n).wf = true | 3 => ∃ xs : List NodV, c = .sl 6 (nodsC xs) ∧ xs.length ≤ maxLen ∧ ∀ x ∈ xs, nodOk x | _ => True) Tryd.underlying24 (by kernel_rfl) (by kernel_rfl) (fun j f hj => by
    match j, hj with
    | 0, hj => cases hj; exact Opn.int Tryd.underlying3
    | 1, hj => cases hj; exact Opn.int Tryd.underlying3
    | 2, hj => cases hj; exact Opn.int Tryd.underlying3
    | 3, hj => cases hj; exact opn_nods
    | j + 4, hj => simp at hj) fuel cs x hx
  match row, h1, hq, h3 with
  | [c0, c1, c2, c3], _, hq, h3 =>
    obtain ⟨a, rfl, _⟩ := hq 0 c0 rfl
    obtain ⟨b, rfl, _⟩ := hq 1 c1 rfl
    obtain ⟨c, rfl, _⟩ := hq 2 c2 rfl
    obtain ⟨d, rfl, hd⟩ := hq 3 c3 rfl
    exact ⟨_, ⟨⟨a, b, c, d⟩, rfl, hd⟩, rfl, h2, h3⟩
end
end Go.Proofs.YtnjglohgjhihjaaDoor.Vcg
end
section
set_option linter.unusedVariables false
set_option maxRecDepth 20000
set_option linter.unusedSimpArgs false
namespace Go.Proofs.YtnjglohgjhihjaaDoor.Vcg
open Go.RowKit
section
variable {G : Globs}
theorem get_fun (f : FsV) (n : Int) (hl : f.xs.length ≤ 100000) (hR : Rises f.xs) : Fun Tryd.prog G 70 [.agg (fsC f), .sc (.int .i64 n)] (.tup [.agg (nodC (gotV n f.xs)), .sc (.bool (hasV n f.xs))]) 0 := by
  refine Fun.of (fun _ => []) (by kernel_rfl) Tryd.func70 rfl rfl (Nat.le_of_ble_eq_true rfl) (by kernel_rfl) ?_; dsimp only [Tryd.f70, List.append_eq, List.cons_append, List.nil_append]
  simp -dsimp only [push_cast, seval]
  (first | refine call (at_fun f n hl hR) ?_ | refine callP (at_fun f n hl hR) ?_); simp -dsimp only [push_cast, seval]
  cases hh : hasV n f.xs with
  | false =>
    have hg : gotV n f.xs = zNod := by unfold gotV; rw [get_none hh]; rfl
    simp -dsimp only [push_cast, seval, hh]
    exact ⟨[], rfl, rfl, by simp -dsimp only [WeakTm, WeakBx, CLe, CLeL, push_cast, seval, hg, zNod]⟩
  | true =>
    obtain ⟨hlt, hg⟩ := get_rank hR hh
    have hg : gotV n f.xs = f.xs[rankV n f.xs] := by unfold gotV; rw [hg]; rfl
    have hat := nods_at f.xs _ hlt
    simp -dsimp only [push_cast, seval, hh, hat]
    (try simp only [List.length_append, List.length_cons, List.length_nil, List.length_map, List.length_take, List.length_drop]); repeat (refine And.intro (by omega) ?_)
    exact ⟨[], rfl, rfl, by simp -dsimp only [WeakTm, WeakBx, CLe, CLeL, push_cast, seval, hg]⟩
theorem nods_len {xs : List NodV} : ∀ r ∈ nodsC xs, r.length = 6 := fun r hr => by
  obtain ⟨x, _, rfl⟩ := List.mem_map.1 hr; rfl
theorem nods_stay {xs : List NodV} : staysR (nodsC xs) := fun r hr => by
  obtain ⟨x, _, rfl⟩ := List.mem_map.1 hr; rfl
theorem rep_root {R : Env} {L : Loc} {id e : Nat} {v : Value} (h : Rep R L (.own id e 6 [[.sc (.int .i64 1), .sc (.int .i64 2), .sc (.int .i64 0), .str [], .sc (.int .i64 1), .sc (.slice none 0 0)]]) v) : Rep R L (.own id e 6 (nodsC [⟨1, 2, 0, [], 1, []⟩])) v :=
  rep_own_le (by simp [RLe, CLeL, CLe]) h
theorem take_succ_eq {α : Type} {a b : List α} {i : Nat} (ha : i < a.length) (hb : i < b.length) (h : a.take i = b.take i) : (a.take (i + 1) = b.take (i + 1)) ↔ a[i] = b[i] := by
  rw [List.take_add_one, List.take_add_one, h, List.append_right_inj, List.getElem?_eq_getElem ha, List.getElem?_eq_getElem hb]
  simp
theorem ent_eq (a b : EntV) : (decide (a.name = b.name) && decide (a.ino = b.ino)) = decide (a = b) := by
  cases a; cases b; simp
theorem nod_eq (a b : NodV) : a = b ↔ a.ino = b.ino ∧ a.kind = b.kind ∧ a.links = b.links ∧ a.data = b.data ∧ a.parent = b.parent ∧ a.es = b.es := by
  cases a; cases b; simp
theorem fs_eq (a b : FsV) : a = b ↔ a.maxI = b.maxI ∧ a.maxB = b.maxB ∧ a.next = b.next ∧ a.xs = b.xs := by
  cases a; cases b; simp
end
end Go.Proofs.YtnjglohgjhihjaaDoor.Vcg
end
section
set_option linter.unusedVariables false
set_option maxRecDepth 20000
set_option linter.unusedSimpArgs false
namespace Go.Proofs.YtnjglohgjhihjaaDoor.Vcg
open Go.RowKit
section
variable {G : Globs}
theorem rEnts_fun (a b : List EntV) (ha : a.length ≤ 9223372036854775807) : Fun Tryd.prog G 52 [.sl 2 (entsC a), .sl 2 (entsC b)] (.sc (.bool (decide (a = b)))) 0 := by
  refine Fun.of (fun _ => []) (by kernel_rfl) Tryd.func52 rfl rfl (Nat.le_of_ble_eq_true rfl) (by kernel_rfl) ?_; dsimp only [Tryd.f52, List.append_eq, List.cons_append, List.nil_append]
  have hla : (entsC a).length = a.length := List.length_map ..
  have hlb : (entsC b).length = b.length := List.length_map ..
  by_cases hab : a.length = b.length
  · simp -dsimp only [push_cast, seval, hla, hlb, hab]
    refine loop (fun i : Nat => ⟨[(0, .sl 2 (entsC a)), (1, .sl 2 (entsC b)), (5, .sc (.int .i64 i))], [], 0, 0⟩) (fun i => i ≤ b.length ∧ a.take i = b.take i) (fun i => b.length - i) 0 ⟨Nat.zero_le _, rfl⟩ ?_ ?_
    · exact Weak.mk [] rfl rfl (Nat.le_refl _) rfl (by simp -dsimp only [WeakTm, WeakBx, CLe, CLeL, push_cast, seval]) (by simp -dsimp only [WeakTm, WeakBx, CLe, CLeL, push_cast, seval])
    · rintro i ⟨h1, h2⟩
      by_cases h : i < b.length
      · have g1 := ents_at a i (by omega)
        have g2 := ents_at b i h
        simp -dsimp only [push_cast, seval, hla, hab, h, g1, g2]
        (try simp only [List.length_append, List.length_cons, List.length_nil, List.length_map, List.length_take, List.length_drop]); repeat (refine And.intro (by omega) ?_)
        have hd := ent_eq a[i] b[i]
        by_cases he : a[i] = b[i]
        · have hd : (decide (a[i].name = b[i].name) && decide (a[i].ino = b[i].ino)) = true := by rw [hd, decide_eq_true he]
          simp -dsimp only [push_cast, seval, hd]
          (try simp only [List.length_append, List.length_cons, List.length_nil, List.length_map, List.length_take, List.length_drop]); repeat (refine And.intro (by omega) ?_)
          exact ⟨i + 1, ⟨h, (take_succ_eq (by omega) h h2).2 he⟩, by omega, Weak.mk [] rfl rfl (Nat.le_refl _) rfl (by simp -dsimp only [WeakTm, WeakBx, CLe, CLeL, push_cast, seval]) (by simp -dsimp only [WeakTm, WeakBx, CLe, CLeL, push_cast, seval])⟩
        · have hd : (decide (a[i].name = b[i].name) && decide (a[i].ino = b[i].ino)) = false := by rw [hd, decide_eq_false he]
          simp -dsimp only [push_cast, seval, hd]
          have : a ≠ b := fun h => he (by subst h; rfl)
          exact ⟨[], rfl, rfl, by simp -dsimp only [WeakTm, WeakBx, CLe, CLeL, push_cast, seval, this]⟩
      · simp -dsimp only [push_cast, seval, hla, hab, h]
        have : a = b := by rw [← List.take_of_length_le (l := a) (i := i) (by omega), h2, List.take_of_length_le (by omega)]
        exact ⟨[], rfl, rfl, by simp -dsimp only [WeakTm, WeakBx, CLe, CLeL, push_cast, seval, this]⟩
  · simp -dsimp only [push_cast, seval, hla, hlb, hab]
    have : a ≠ b := fun h => hab (by rw [h])
    exact ⟨[], rfl, rfl, by simp -dsimp only [WeakTm, WeakBx, CLe, CLeL, push_cast, seval, this]⟩
theorem one_fun (x y : NodV) (hx : x.es.length ≤ 9223372036854775807) : Fun Tryd.prog G 27 [.agg (nodC x), .agg (nodC y)] (.sc (.bool (decide (x = y)))) 0 := by
  refine Fun.of (fun _ => []) (by kernel_rfl) Tryd.func27 rfl rfl (Nat.le_of_ble_eq_true rfl) (by kernel_rfl) ?_; dsimp only [Tryd.f27, List.append_eq, List.cons_append, List.nil_append]
  by_cases e0 : x.ino = y.ino
  case neg =>
    have hn : ¬ x = y := fun h => e0 (by rw [h])
    simp -dsimp only [push_cast, seval, e0]
    exact ⟨[], rfl, rfl, by simp -dsimp only [WeakTm, WeakBx, CLe, CLeL, push_cast, seval, hn]⟩
  by_cases e1 : x.kind = y.kind
  case neg =>
    have hn : ¬ x = y := fun h => e1 (by rw [h])
    simp -dsimp only [push_cast, seval, e0, e1]
    exact ⟨[], rfl, rfl, by simp -dsimp only [WeakTm, WeakBx, CLe, CLeL, push_cast, seval, hn]⟩
  by_cases e2 : x.links = y.links
  case neg =>
    have hn : ¬ x = y := fun h => e2 (by rw [h])
    simp -dsimp only [push_cast, seval, e0, e1, e2]
    exact ⟨[], rfl, rfl, by simp -dsimp only [WeakTm, WeakBx, CLe, CLeL, push_cast, seval, hn]⟩
  by_cases e3 : x.data = y.data
  case neg =>
    have hn : ¬ x = y := fun h => e3 (by rw [h])
    simp -dsimp only [push_cast, seval, e0, e1, e2, e3]
    exact ⟨[], rfl, rfl, by simp -dsimp only [WeakTm, WeakBx, CLe, CLeL, push_cast, seval, hn]⟩
  by_cases e4 : x.parent = y.parent
  case neg =>
    have hn : ¬ x = y := fun h => e4 (by rw [h])
    simp -dsimp only [push_cast, seval, e0, e1, e2, e3, e4]
    exact ⟨[], rfl, rfl, by simp -dsimp only [WeakTm, WeakBx, CLe, CLeL, push_cast, seval, hn]⟩
  by_cases e5 : x.es = y.es
  case neg =>
    have hn : ¬ x = y := fun h => e5 (by rw [h])
    simp -dsimp only [push_cast, seval, e0, e1, e2, e3, e4]
    (first | refine call (rEnts_fun x.es y.es hx) ?_ | refine callP (rEnts_fun x.es y.es hx) ?_); simp -dsimp only [push_cast, seval, e5, hn]
    exact ⟨[], rfl, rfl, by simp -dsimp only [WeakTm, WeakBx, CLe, CLeL, push_cast, seval, hn]⟩
  have hn : x = y := (nod_eq x y).2 ⟨e0, e1, e2, e3, e4, e5⟩
  simp -dsimp only [push_cast, seval, e0, e1, e2, e3, e4]
  (first | refine call (rEnts_fun x.es y.es hx) ?_ | refine callP (rEnts_fun x.es y.es hx) ?_); simp -dsimp only [push_cast, seval, e5]
  exact ⟨[], rfl, rfl, by simp -dsimp only [WeakTm, WeakBx, CLe, CLeL, push_cast, seval, hn]⟩
/-- do the inodes rise up to a place? -/
theorem rises_take {xs : List NodV} {i : Nat} (hi : i < xs.length) (h0 : 0 < i) : Rises (xs.take (i + 1)) ↔ Rises (xs.take i) ∧ xs[i - 1].ino < xs[i].ino := by
  rw [List.take_add_one, List.getElem?_eq_getElem hi]
  unfold Rises
  rw [List.pairwise_append]
  simp only [Option.toList_some, List.pairwise_singleton, true_and, List.mem_singleton, forall_eq]
  constructor
  · rintro ⟨h1, h2⟩
    exact ⟨h1, h2 _ (List.mem_take_iff_getElem.2 ⟨i - 1, by omega, rfl⟩)⟩
  · rintro ⟨h1, h2⟩
    refine ⟨h1, fun a ha => ?_⟩
    obtain ⟨j, hj, rfl⟩ := List.mem_take_iff_getElem.1 ha
    rcases Nat.lt_or_ge j (i - 1) with q | q
    · have := (List.pairwise_iff_getElem.1 h1) j (i - 1) (by simp; omega) (by simp; omega) q
      simp at this
      omega
    · have : j = i - 1 := by omega
      subst this; exact h2
instance (xs : List NodV) : Decidable (Rises xs) := by unfold Rises; infer_instance
theorem rise_fun (f : FsV) (hl : f.xs.length ≤ 100000) : Fun Tryd.prog G 82 [.agg (fsC f)] (.sc (.bool (decide (Rises f.xs)))) 0 := by
  have hll : (nodsC f.xs).length = f.xs.length := List.length_map ..
  refine Fun.of (fun _ => []) (by kernel_rfl) Tryd.func82 rfl rfl (Nat.le_of_ble_eq_true rfl) (by kernel_rfl) ?_; dsimp only [Tryd.f82, List.append_eq, List.cons_append, List.nil_append]
  simp -dsimp only [push_cast, seval]
  refine loop (fun i : Nat => ⟨[(1, .ptr 0 0), (3, .sc (.int .i64 i))], [fsC f], 0, 0⟩) (fun i => 1 ≤ i ∧ Rises (f.xs.take i)) (fun i => f.xs.length - i) 1 ⟨Nat.le_refl _, by
    cases f.xs with
    | nil => exact List.Pairwise.nil
    | cons x r => exact List.pairwise_singleton _ _⟩ ?_ ?_
  · exact Weak.mk [] rfl rfl (Nat.zero_le _) rfl (by simp -dsimp only [WeakTm, WeakBx, CLe, CLeL, push_cast, seval]) (by simp -dsimp only [WeakTm, WeakBx, CLe, CLeL, push_cast, seval])
  · rintro i ⟨h1, h2⟩
    by_cases h : i < f.xs.length
    · have g1 := nods_at f.xs i h
      have g2 := nods_at f.xs (i - 1) (by omega)
      have e1 : (i : Int) - 1 = ((i - 1 : Nat) : Int) := by omega
      simp -dsimp only [push_cast, seval, hll, h, e1, g1, g2]
      by_cases hc : f.xs[i].ino ≤ f.xs[i - 1].ino
      · simp -dsimp only [push_cast, seval, hc]
        (try simp only [List.length_append, List.length_cons, List.length_nil, List.length_map, List.length_take, List.length_drop]); repeat (refine And.intro (by omega) ?_)
        have hn : ¬ Rises f.xs := fun hR => by
          have := (List.pairwise_iff_getElem.1 hR) (i - 1) i (by omega) h (by omega)
          omega
        exact ⟨[], rfl, rfl, by simp -dsimp only [WeakTm, WeakBx, CLe, CLeL, push_cast, seval, hn]⟩
      · simp -dsimp only [push_cast, seval, hc]
        (try simp only [List.length_append, List.length_cons, List.length_nil, List.length_map, List.length_take, List.length_drop]); repeat (refine And.intro (by omega) ?_)
        exact ⟨i + 1, ⟨by omega, (rises_take h (by omega)).2 ⟨h2, by omega⟩⟩, by omega, Weak.mk [] rfl rfl (Nat.zero_le _) rfl (by simp -dsimp only [WeakTm, WeakBx, CLe, CLeL, push_cast, seval]) (by simp -dsimp only [WeakTm, WeakBx, CLe, CLeL, push_cast, seval])⟩
    · simp -dsimp only [push_cast, seval, hll, h]
      rw [List.take_of_length_le (by omega)] at h2
      exact ⟨[], rfl, rfl, by simp -dsimp only [WeakTm, WeakBx, CLe, CLeL, push_cast, seval, h2]⟩
def smallN (x : NodV) : Prop := x.data.length ≤ 5000 ∧ x.es.length ≤ 40 ∧ ∀ e ∈ x.es, e.name.length ≤ 300
instance (x : NodV) : Decidable (smallN x) := by unfold smallN; infer_instance
def fewV (xs : List NodV) : Prop := xs.length ≤ 40 ∧ ∀ x ∈ xs, smallN x
instance (xs : List NodV) : Decidable (fewV xs) := by unfold fewV; infer_instance
theorem fewT_fun (f : FsV) : Fun Tryd.prog G 47 [.agg (fsC f)] (.sc (.bool (decide (fewV f.xs)))) 0 := by
  have hll : (nodsC f.xs).length = f.xs.length := List.length_map ..
  refine Fun.of (fun _ => []) (by kernel_rfl) Tryd.func47 rfl rfl (Nat.le_of_ble_eq_true rfl) (by kernel_rfl) ?_; dsimp only [Tryd.f47, List.append_eq, List.cons_append, List.nil_append]
  simp -dsimp only [push_cast, seval]
  refine loop (fun i : Nat => ⟨[(1, .ptr 0 0), (3, .sc (.int .i64 i))], [fsC f], 0, 0⟩) (fun i => i ≤ 100 ∧ ∀ t (h : t < f.xs.length), t < i → smallN f.xs[t]) (fun i => 100 - i) 0 ⟨Nat.zero_le _, fun t h h' => absurd h' (Nat.not_lt_zero _)⟩ ?_ ?_
  · exact Weak.mk [] rfl rfl (Nat.zero_le _) rfl (by simp -dsimp only [WeakTm, WeakBx, CLe, CLeL, push_cast, seval]) (by simp -dsimp only [WeakTm, WeakBx, CLe, CLeL, push_cast, seval])
  · rintro i ⟨h1, h2⟩
    have hend : ¬ (i < f.xs.length ∧ i < 100) → decide ((f.xs.length : Int) ≤ 40) = decide (fewV f.xs) := fun h => by
      rw [decide_eq_decide]
      constructor
      · intro hle
        refine ⟨by omega, fun x hx => ?_⟩
        obtain ⟨t, ht, rfl⟩ := List.getElem_of_mem hx
        exact h2 t ht (by omega)
      · intro h; have := h.1; omega
    by_cases h : i < f.xs.length
    · by_cases h100 : i < 100
      · have g1 := nods_at f.xs i h
        have h100' : (i : Int) < 100 := by omega
        have hbad : ¬ smallN f.xs[i] → ¬ fewV f.xs := fun hs hf => hs (hf.2 _ (List.getElem_mem h))
        by_cases hd : 5000 < (f.xs[i].data.length : Int)
        · have hn := hbad fun hs => by have := hs.1; omega
          simp -dsimp only [push_cast, seval, hll, h, h100', g1, hd]
          (try simp only [List.length_append, List.length_cons, List.length_nil, List.length_map, List.length_take, List.length_drop]); repeat (refine And.intro (by omega) ?_)
          exact ⟨[], rfl, rfl, by simp -dsimp only [WeakTm, WeakBx, CLe, CLeL, push_cast, seval, hn]⟩
        · by_cases he : 40 < (f.xs[i].es.length : Int)
          · have hn := hbad fun hs => by have := hs.2.1; omega
            simp -dsimp only [push_cast, seval, hll, h, h100', g1, hd, List.length_map, he]
            (try simp only [List.length_append, List.length_cons, List.length_nil, List.length_map, List.length_take, List.length_drop]); repeat (refine And.intro (by omega) ?_)
            exact ⟨[], rfl, rfl, by simp -dsimp only [WeakTm, WeakBx, CLe, CLeL, push_cast, seval, hn]⟩
          · simp -dsimp only [push_cast, seval, hll, h, h100', g1, hd, List.length_map, he]
            (try simp only [List.length_append, List.length_cons, List.length_nil, List.length_map, List.length_take, List.length_drop]); repeat (refine And.intro (by omega) ?_)
            refine loop (fun j : Nat => ⟨[(1, .ptr 0 0), (3, .sc (.int .i64 i)), (4, .ptr 1 0), (5, .sc (.int .i64 j))], [fsC f, nodC f.xs[i]], 0, 0⟩) (fun j => j ≤ f.xs[i].es.length ∧ ∀ t (h' : t < f.xs[i].es.length), t < j → f.xs[i].es[t].name.length ≤ 300) (fun j => f.xs[i].es.length - j) 0 ⟨Nat.zero_le _, fun t h h' => absurd h' (Nat.not_lt_zero _)⟩ ?_ ?_
            · exact Weak.mk [] rfl rfl (Nat.zero_le _) rfl (by simp -dsimp only [WeakTm, WeakBx, CLe, CLeL, push_cast, seval]) (by simp -dsimp only [WeakTm, WeakBx, CLe, CLeL, push_cast, seval])
            · rintro j ⟨h3, h4⟩
              by_cases hj : j < f.xs[i].es.length
              · have g2 := ents_at f.xs[i].es j hj
                by_cases hs : 300 < (f.xs[i].es[j].name.length : Int)
                · have hn := hbad fun hs' => by have := hs'.2.2 _ (List.getElem_mem hj); omega
                  simp -dsimp only [push_cast, seval, List.length_map, hj, g2, hs]
                  (try simp only [List.length_append, List.length_cons, List.length_nil, List.length_map, List.length_take, List.length_drop]); repeat (refine And.intro (by omega) ?_)
                  exact ⟨[], rfl, rfl, by simp -dsimp only [WeakTm, WeakBx, CLe, CLeL, push_cast, seval, hn]⟩
                · simp -dsimp only [push_cast, seval, List.length_map, hj, g2, hs]
                  (try simp only [List.length_append, List.length_cons, List.length_nil, List.length_map, List.length_take, List.length_drop]); repeat (refine And.intro (by omega) ?_)
                  refine ⟨j + 1, ⟨hj, fun t ht hlt => ?_⟩, by omega, Weak.mk [] rfl rfl (Nat.zero_le _) rfl (by simp -dsimp only [WeakTm, WeakBx, CLe, CLeL, push_cast, seval]) (by simp -dsimp only [WeakTm, WeakBx, CLe, CLeL, push_cast, seval])⟩
                  rcases Nat.lt_or_ge t j with q | q
                  · exact h4 t ht q
                  · have : t = j := by omega
                    subst this; omega
              · simp -dsimp only [push_cast, seval, List.length_map, hj]
                (try simp only [List.length_append, List.length_cons, List.length_nil, List.length_map, List.length_take, List.length_drop]); repeat (refine And.intro (by omega) ?_)
                refine ⟨i + 1, ⟨by omega, fun t ht hlt => ?_⟩, by omega, Weak.mk [] rfl rfl (Nat.zero_le _) rfl (by simp -dsimp only [WeakTm, WeakBx, CLe, CLeL, push_cast, seval]) (by simp -dsimp only [WeakTm, WeakBx, CLe, CLeL, push_cast, seval])⟩
                rcases Nat.lt_or_ge t i with q | q
                · exact h2 t ht q
                · have : t = i := by omega
                  subst this
                  refine ⟨by omega, by omega, fun e hee => ?_⟩
                  obtain ⟨u, hu, rfl⟩ := List.getElem_of_mem hee
                  exact h4 u hu (by omega)
      · have h100' : ((i : Int) < 100) = False := eq_false (by omega)
        have := hend (by omega)
        simp -dsimp only [push_cast, seval, hll, h, h100']
        exact ⟨[], rfl, rfl, by simp -dsimp only [WeakTm, WeakBx, CLe, CLeL, push_cast, seval, this]⟩
    · have := hend (by omega)
      simp -dsimp only [push_cast, seval, hll, h]
      exact ⟨[], rfl, rfl, by simp -dsimp only [WeakTm, WeakBx, CLe, CLeL, push_cast, seval, this]⟩
theorem rdrop_fun (f : FsV) (n : Int) (hl : f.xs.length ≤ 90000) :
    Fun Tryd.prog G 81 [.agg (fsC f), .sc (.int .i64 n)] (.agg [.sc (.int .i64 f.maxI), .sc (.int .i64 f.maxB), .sc (.int .i64 f.next), .own 0 41 6 (nodsC (dropV n f.xs))]) 1 := by
  have hll : (nodsC f.xs).length = f.xs.length := List.length_map ..
  refine Fun.of (fun _ => []) (by kernel_rfl) Tryd.func81 rfl rfl (Nat.le_of_ble_eq_true rfl) (by kernel_rfl) ?_; dsimp only [Tryd.f81, List.append_eq, List.cons_append, List.nil_append]
  simp -dsimp only [push_cast, seval]
  refine loop (fun i : Nat => ⟨[(1, .sc (.int .i64 n)), (2, .ptr 0 0), (4, .ptr 1 0), (5, .own 0 41 6 (nodsC (dropV n (f.xs.take i)))), (6, .sc (.int .i64 i))], [fsC f, [.sc (.int .i64 0), .sc (.int .i64 0), .sc (.int .i64 0), .sc (.slice none 0 0)]], 1, 0⟩) (fun i => i ≤ f.xs.length) (fun i => f.xs.length - i) 0 (Nat.zero_le _) ?_ ?_
  · exact Weak.mk [.inr (41, 6)] rfl rfl (Nat.zero_le _) rfl (by simp -dsimp only [WeakTm, WeakBx, CLe, CLeL, push_cast, seval, dropV, List.filter_nil]) (by simp -dsimp only [WeakTm, WeakBx, CLe, CLeL, push_cast, seval])
  · intro i h1
    by_cases h : i < f.xs.length
    · have g1 := nods_at f.xs i h
      have ht : dropV n (f.xs.take (i + 1)) = dropV n (f.xs.take i) ++ dropV n [f.xs[i]] := by
        unfold dropV; rw [List.take_add_one, List.getElem?_eq_getElem h, List.filter_append]; rfl
      have hle : (dropV n (f.xs.take i)).length ≤ i := Nat.le_trans drop_len (by simp; omega)
      by_cases hc : f.xs[i].ino = n
      · have ht : dropV n (f.xs.take (i + 1)) = dropV n (f.xs.take i) := by rw [ht, drop_cons_eq hc]; simp [dropV]
        simp -dsimp only [push_cast, seval, hll, h, g1, hc]
        (try simp only [List.length_append, List.length_cons, List.length_nil, List.length_map, List.length_take, List.length_drop]); repeat (refine And.intro (by omega) ?_)
        exact ⟨i + 1, h, by omega, Weak.mk [.inl 0] rfl rfl (Nat.zero_le _) rfl (by simp -dsimp only [WeakTm, WeakBx, CLe, CLeL, push_cast, seval, ht]) (by simp -dsimp only [WeakTm, WeakBx, CLe, CLeL, push_cast, seval])⟩
      · have ht : dropV n (f.xs.take (i + 1)) = dropV n (f.xs.take i) ++ [f.xs[i]] := by rw [ht, drop_cons_ne hc]; simp [dropV]
        simp -dsimp only [push_cast, seval, hll, h, g1, hc]
        (try simp only [List.length_append, List.length_cons, List.length_nil, List.length_map, List.length_take, List.length_drop]); repeat (refine And.intro (by omega) ?_)
        exact ⟨i + 1, h, by omega, Weak.mk [.inl 0] rfl rfl (Nat.zero_le _) rfl (by simp -dsimp only [WeakTm, WeakBx, CLe, CLeL, push_cast, seval, ht, List.map_append]) (by simp -dsimp only [WeakTm, WeakBx, CLe, CLeL, push_cast, seval])⟩
    · rw [List.take_of_length_le (by omega)]
      simp -dsimp only [push_cast, seval, hll, h]
      exact ⟨[.inl 0], rfl, rfl, by simp -dsimp only [WeakTm, WeakBx, CLe, CLeL, push_cast, seval]⟩
theorem rset_fun (f : FsV) (x : NodV) (hl : f.xs.length ≤ 90000) :
    Fun Tryd.prog G 62 [.agg (fsC f), .agg (nodC x)] (.agg [.sc (.int .i64 f.maxI), .sc (.int .i64 f.maxB), .sc (.int .i64 f.next), .own 0 41 6 (nodsC (setV x f.xs))]) 1 := by
  have hdl : (dropV x.ino f.xs).length ≤ 90000 := Nat.le_trans drop_len hl
  have hl2 : (nodsC (dropV x.ino f.xs)).length = (dropV x.ino f.xs).length := List.length_map ..
  refine Fun.of (fun _ => []) (by kernel_rfl) Tryd.func62 rfl rfl (Nat.le_of_ble_eq_true rfl) (by kernel_rfl) ?_; dsimp only [Tryd.f62, List.append_eq, List.cons_append, List.nil_append]
  simp -dsimp only [push_cast, seval]
  (first | refine call (rdrop_fun f x.ino hl) ?_ | refine callP (rdrop_fun f x.ino hl) ?_); simp -dsimp only [push_cast, seval]
  unfold setV
  generalize dropV x.ino f.xs = rest at hdl hl2
  refine loop (fun p : Nat × List NodV × Bool => ⟨[(2, .ptr 0 0), (3, .ptr 1 0), (4, .ptr 2 0), (5, .sl 6 (nodsC rest)), (6, .own 0 41 6 (nodsC p.2.1)), (7, .sc (.bool p.2.2)), (8, .sc (.int .i64 p.1))], [fsC f, nodC x, [.sc (.int .i64 0), .sc (.int .i64 0), .sc (.int .i64 0), .sc (.slice none 0 0)]], 1, 0⟩)
    (fun p => p.1 ≤ rest.length ∧ p.2.1.length ≤ p.1 + p.2.2.toNat ∧ putV x rest = p.2.1 ++ (if p.2.2 then rest.drop p.1 else putV x (rest.drop p.1))) (fun p => rest.length - p.1) (0, [], false) ⟨Nat.zero_le _, Nat.zero_le _, by simp⟩ ?_ ?_
  · exact Weak.mk [.inr (41, 6)] rfl rfl (Nat.zero_le _) rfl (by simp -dsimp only [WeakTm, WeakBx, CLe, CLeL, push_cast, seval]) (by simp -dsimp only [WeakTm, WeakBx, CLe, CLeL, push_cast, seval])
  · rintro ⟨i, out, d⟩ ⟨h1, h2, h3⟩
    dsimp only at h1 h2 h3 ⊢
    have hlo : (nodsC out).length = out.length := List.length_map ..
    by_cases h : i < rest.length
    · have g1 := nods_at rest i h
      rw [List.drop_eq_getElem_cons h] at h3
      cases d with
      | true =>
        simp only [Bool.toNat_true] at h2
        simp -dsimp only [push_cast, seval, hl2, h, g1]
        (try simp only [List.length_append, List.length_cons, List.length_nil, List.length_map, List.length_take, List.length_drop]); repeat (refine And.intro (by omega) ?_)
        exact ⟨(i + 1, out ++ [rest[i]], true), ⟨h, by simp; omega, by rw [h3]; simp⟩, by dsimp only; omega, Weak.mk [.inl 0] rfl rfl (Nat.zero_le _) rfl (by simp -dsimp only [WeakTm, WeakBx, CLe, CLeL, push_cast, seval, List.map_append]) (by simp -dsimp only [WeakTm, WeakBx, CLe, CLeL, push_cast, seval])⟩
      | false =>
        simp only [Bool.false_eq_true, if_false, putV] at h3
        simp only [Bool.toNat_false] at h2
        by_cases hc : x.ino < rest[i].ino
        · rw [if_pos hc] at h3
          simp -dsimp only [push_cast, seval, hl2, h, g1, hc]
          (try simp only [List.length_append, List.length_cons, List.length_nil, List.length_map, List.length_take, List.length_drop]); repeat (refine And.intro (by omega) ?_)
          exact ⟨(i + 1, out ++ [x] ++ [rest[i]], true), ⟨h, by simp; omega, by rw [h3]; simp⟩, by dsimp only; omega, Weak.mk [.inl 0] rfl rfl (Nat.zero_le _) rfl (by simp -dsimp only [WeakTm, WeakBx, CLe, CLeL, push_cast, seval, List.map_append]) (by simp -dsimp only [WeakTm, WeakBx, CLe, CLeL, push_cast, seval])⟩
        · rw [if_neg hc] at h3
          simp -dsimp only [push_cast, seval, hl2, h, g1, hc]
          (try simp only [List.length_append, List.length_cons, List.length_nil, List.length_map, List.length_take, List.length_drop]); repeat (refine And.intro (by omega) ?_)
          exact ⟨(i + 1, out ++ [rest[i]], false), ⟨h, by simp; omega, by rw [h3]; simp⟩, by dsimp only; omega, Weak.mk [.inl 0] rfl rfl (Nat.zero_le _) rfl (by simp -dsimp only [WeakTm, WeakBx, CLe, CLeL, push_cast, seval, List.map_append]) (by simp -dsimp only [WeakTm, WeakBx, CLe, CLeL, push_cast, seval])⟩
    · rw [List.drop_of_length_le (by omega)] at h3
      cases d with
      | true =>
        simp only [Bool.toNat_true] at h2
        have h3 : putV x rest = out := by rw [h3]; simp
        simp -dsimp only [push_cast, seval, hl2, h]
        exact ⟨[.inl 0], rfl, rfl, by simp -dsimp only [WeakTm, WeakBx, CLe, CLeL, push_cast, seval, h3]⟩
      | false =>
        simp only [Bool.toNat_false] at h2
        have h3 : putV x rest = out ++ [x] := by rw [h3]; simp [putV]
        simp -dsimp only [push_cast, seval, hl2, h]
        (try simp only [List.length_append, List.length_cons, List.length_nil, List.length_map, List.length_take, List.length_drop]); repeat (refine And.intro (by omega) ?_)
        exact ⟨[.inl 0], rfl, rfl, by simp -dsimp only [WeakTm, WeakBx, CLe, CLeL, push_cast, seval, h3, List.map_append]⟩
theorem rnew_fun (i b : Int) : Fun Tryd.prog G 61 [.sc (.int .i64 i), .sc (.int .i64 b)] (.agg [.sc (.int .i64 i), .sc (.int .i64 b), .sc (.int .i64 2), .own 0 41 6 (nodsC [⟨1, 2, 0, [], 1, []⟩])]) 1 := by
  refine Fun.res (r := .agg [.sc (.int .i64 i), .sc (.int .i64 b), .sc (.int .i64 2), .own 0 41 6 [[.sc (.int .i64 1), .sc (.int .i64 2), .sc (.int .i64 0), .str [], .sc (.int .i64 1), .sc (.slice none 0 0)]]]) ?_ fun R L v h =>
    rep_agg_le (fun vs => repL_head_le (fun v h => h) (fun vs => repL_head_le (fun v h => h) fun vs => repL_head_le (fun v h => h) fun vs => repL_head_le (fun v => rep_root) fun vs h => h)) h
  refine Fun.of (fun _ => []) (by kernel_rfl) Tryd.func61 rfl rfl (Nat.le_of_ble_eq_true rfl) (by kernel_rfl) ?_; dsimp only [Tryd.f61, List.append_eq, List.cons_append, List.nil_append]
  simp -dsimp only [push_cast, seval]
  exact ⟨[.inl 0], rfl, rfl, by simp -dsimp only [WeakTm, WeakBx, CLe, CLeL, push_cast, seval]⟩
end
end Go.Proofs.YtnjglohgjhihjaaDoor.Vcg
end
section
set_option linter.unusedVariables false
set_option maxRecDepth 20000
set_option linter.unusedSimpArgs false
namespace Go.Proofs.YtnjglohgjhihjaaDoor.Vcg
open Go.RowKit
section
variable {G : Globs}
theorem has_take {n : Int} {xs : List NodV} {i : Nat} (h : i < xs.length) : hasV n (xs.take (i + 1)) = (hasV n (xs.take i) || (xs[i].ino == n)) := by
  unfold hasV
  rw [List.take_add_one, List.getElem?_eq_getElem h, List.any_append]
  simp
theorem get_take {n : Int} {xs : List NodV} {i : Nat} (h : i < xs.length) (h0 : hasV n (xs.take i) = false) (he : xs[i].ino = n) : hasV n xs = true ∧ gotV n xs = xs[i] := by
  refine ⟨List.any_eq_true.2 ⟨xs[i], List.getElem_mem h, by simp [he]⟩, ?_⟩
  unfold gotV getV
  rw [List.find?_eq_some_iff_getElem (b := xs[i]) |>.2 ⟨by simp [he], i, h, rfl, fun j hj => ?_⟩]
  · rfl
  · unfold hasV at h0
    rw [List.any_eq_false] at h0
    have := h0 xs[j] (List.mem_take_iff_getElem.2 ⟨j, by omega, rfl⟩)
    simpa using this
theorem rget_fun (f : FsV) (n : Int) (hl : f.xs.length ≤ 100000) : Fun Tryd.prog G 23 [.agg (fsC f), .sc (.int .i64 n)] (.tup [.agg (nodC (gotV n f.xs)), .sc (.bool (hasV n f.xs))]) 0 := by
  have hll : (nodsC f.xs).length = f.xs.length := List.length_map ..
  refine Fun.of (fun _ => []) (by kernel_rfl) Tryd.func23 rfl rfl (Nat.le_of_ble_eq_true rfl) (by kernel_rfl) ?_; dsimp only [Tryd.f23, List.append_eq, List.cons_append, List.nil_append]
  simp -dsimp only [push_cast, seval]
  refine loop (fun i : Nat => ⟨[(1, .sc (.int .i64 n)), (2, .ptr 0 0), (4, .ptr 1 0), (6, .sc (.int .i64 i))], [fsC f, [.sc (.int .i64 0), .sc (.int .i64 0), .sc (.int .i64 0), .str [], .sc (.int .i64 0), .sc (.slice none 0 0)]], 0, 0⟩) (fun i => i ≤ f.xs.length ∧ hasV n (f.xs.take i) = false) (fun i => f.xs.length - i) 0 ⟨Nat.zero_le _, rfl⟩ ?_ ?_
  · exact Weak.mk [] rfl rfl (Nat.zero_le _) rfl (by simp -dsimp only [WeakTm, WeakBx, CLe, CLeL, push_cast, seval]) (by simp -dsimp only [WeakTm, WeakBx, CLe, CLeL, push_cast, seval])
  · rintro i ⟨h1, h2⟩
    by_cases h : i < f.xs.length
    · have g1 := nods_at f.xs i h
      by_cases he : f.xs[i].ino = n
      · obtain ⟨q1, q2⟩ := get_take h h2 he
        simp -dsimp only [push_cast, seval, hll, h, g1, he]
        (try simp only [List.length_append, List.length_cons, List.length_nil, List.length_map, List.length_take, List.length_drop]); repeat (refine And.intro (by omega) ?_)
        exact ⟨[], rfl, rfl, by simp -dsimp only [WeakTm, WeakBx, CLe, CLeL, push_cast, seval, q1, q2, he]⟩
      · have q := has_take (n := n) h
        rw [h2, show (f.xs[i].ino == n) = false from beq_eq_false_iff_ne.2 he] at q
        simp -dsimp only [push_cast, seval, hll, h, g1, he]
        (try simp only [List.length_append, List.length_cons, List.length_nil, List.length_map, List.length_take, List.length_drop]); repeat (refine And.intro (by omega) ?_)
        exact ⟨i + 1, ⟨h, q⟩, by omega, Weak.mk [] rfl rfl (Nat.zero_le _) rfl (by simp -dsimp only [WeakTm, WeakBx, CLe, CLeL, push_cast, seval]) (by simp -dsimp only [WeakTm, WeakBx, CLe, CLeL, push_cast, seval])⟩
    · rw [List.take_of_length_le (by omega)] at h2
      have hg : gotV n f.xs = zNod := by unfold gotV; rw [get_none h2]; rfl
      simp -dsimp only [push_cast, seval, hll, h]
      exact ⟨[], rfl, rfl, by simp -dsimp only [WeakTm, WeakBx, CLe, CLeL, push_cast, seval, hg, h2, zNod]⟩
/-- how many bytes the files have -/
def bytesV (xs : List NodV) : Nat := ((xs.filter fun x => decide (x.kind = 1)).map fun x => x.data.length).sum
theorem bytes_take {xs : List NodV} {i : Nat} (h : i < xs.length) : bytesV (xs.take (i + 1)) = bytesV (xs.take i) + if xs[i].kind = 1 then xs[i].data.length else 0 := by
  unfold bytesV
  rw [List.take_add_one, List.getElem?_eq_getElem h, List.filter_append, List.map_append, List.sum_append]
  by_cases hk : xs[i].kind = 1 <;> simp [hk]
theorem bytes_fun (f : FsV) (hf : fewV f.xs) : Fun Tryd.prog G 85 [.agg (fsC f)] (.sc (.int .i64 (bytesV f.xs : Nat))) 0 := by
  have hll : (nodsC f.xs).length = f.xs.length := List.length_map ..
  have h40 := hf.1
  have hb0 : bytesV [] = 0 := rfl
  refine Fun.of (fun _ => []) (by kernel_rfl) Tryd.func85 rfl rfl (Nat.le_of_ble_eq_true rfl) (by kernel_rfl) ?_; dsimp only [Tryd.f85, List.append_eq, List.cons_append, List.nil_append]
  simp -dsimp only [push_cast, seval]
  refine loop (fun i : Nat => ⟨[(1, .ptr 0 0), (3, .sc (.int .i64 (bytesV (f.xs.take i) : Nat))), (4, .sc (.int .i64 i))], [fsC f], 0, 0⟩) (fun i => i ≤ f.xs.length ∧ bytesV (f.xs.take i) ≤ i * 5000) (fun i => f.xs.length - i) 0 ⟨Nat.zero_le _, Nat.zero_le _⟩ ?_ ?_
  · exact Weak.mk [] rfl rfl (Nat.zero_le _) rfl (by simp -dsimp only [WeakTm, WeakBx, CLe, CLeL, push_cast, seval, hb0, List.take_zero]) (by simp -dsimp only [WeakTm, WeakBx, CLe, CLeL, push_cast, seval])
  · rintro i ⟨h1, h2⟩
    by_cases h : i < f.xs.length
    · have g1 := nods_at f.xs i h
      have hb := bytes_take h
      have hd := (hf.2 _ (List.getElem_mem h)).1
      by_cases hk : f.xs[i].kind = 1
      · rw [if_pos hk] at hb
        simp -dsimp only [push_cast, seval, hll, h, g1, hk]
        (try simp only [List.length_append, List.length_cons, List.length_nil, List.length_map, List.length_take, List.length_drop]); repeat (refine And.intro (by omega) ?_)
        exact ⟨i + 1, ⟨h, by omega⟩, by omega, Weak.mk [] rfl rfl (Nat.zero_le _) rfl (by simp -dsimp only [WeakTm, WeakBx, CLe, CLeL, push_cast, seval, hb]) (by simp -dsimp only [WeakTm, WeakBx, CLe, CLeL, push_cast, seval])⟩
      · rw [if_neg hk] at hb
        simp -dsimp only [push_cast, seval, hll, h, g1, hk]
        (try simp only [List.length_append, List.length_cons, List.length_nil, List.length_map, List.length_take, List.length_drop]); repeat (refine And.intro (by omega) ?_)
        exact ⟨i + 1, ⟨h, by omega⟩, by omega, Weak.mk [] rfl rfl (Nat.zero_le _) rfl (by simp -dsimp only [WeakTm, WeakBx, CLe, CLeL, push_cast, seval, hb]) (by simp -dsimp only [WeakTm, WeakBx, CLe, CLeL, push_cast, seval])⟩
    · rw [List.take_of_length_le (by omega)]
      simp -dsimp only [push_cast, seval, hll, h]
      exact ⟨[], rfl, rfl, by simp -dsimp only [WeakTm, WeakBx, CLe, CLeL, push_cast, seval]⟩
end
end Go.Proofs.YtnjglohgjhihjaaDoor.Vcg
end
section
set_option linter.unusedVariables false
set_option maxRecDepth 20000
set_option linter.unusedSimpArgs false
namespace Go.Proofs.YtnjglohgjhihjaaDoor.Vcg
open Go.RowKit
def firstV (f : FsV) : Prop := 1 ≤ f.maxI ∧ f.maxI ≤ 1073741824 ∧ 0 ≤ f.maxB ∧ f.maxB ≤ 1073741824 ∧ f.next ≤ 1099511627776 ∧ (∀ x ∈ f.xs, 1 ≤ x.ino ∧ x.ino < f.next) ∧ Rises f.xs ∧ hasV 1 f.xs = true ∧ (gotV 1 f.xs).kind = 2
instance (f : FsV) : Decidable (firstV f) := by unfold firstV; infer_instance
def thirdV (f : FsV) : Prop := ∀ x ∈ f.xs, ∀ e ∈ x.es, hasV e.ino f.xs = true
instance (f : FsV) : Decidable (thirdV f) := by unfold thirdV; infer_instance
def fitsV (f : FsV) : Prop := (f.xs.length : Int) ≤ f.maxI ∧ (bytesV f.xs : Int) ≤ f.maxB
instance (f : FsV) : Decidable (fitsV f) := by unfold fitsV; infer_instance
theorem mem_take_succ {α : Type} {l : List α} {i : Nat} (h : i < l.length) {P : α → Prop} (h1 : ∀ x ∈ l.take i, P x) (h2 : P l[i]) : ∀ x ∈ l.take (i + 1), P x := fun x hx => by
  rw [List.take_add_one, List.getElem?_eq_getElem h] at hx
  rcases List.mem_append.1 hx with hx | hx
  · exact h1 x hx
  · simp at hx; subst hx; exact h2
section
variable {G : Globs}
theorem first_fun (f : FsV) (hl : f.xs.length ≤ 100000) : Fun Tryd.prog G 63 [.agg (fsC f)] (.sc (.bool (decide (firstV f)))) 0 := by
  have hll : (nodsC f.xs).length = f.xs.length := List.length_map ..
  refine Fun.of (fun _ => []) (by kernel_rfl) Tryd.func63 rfl rfl (Nat.le_of_ble_eq_true rfl) (by kernel_rfl) ?_; dsimp only [Tryd.f63, List.append_eq, List.cons_append, List.nil_append]
  by_cases e0 : f.maxI < 1
  case pos =>
    have hn : ¬ firstV f := fun h => by have := h.1; omega
    simp -dsimp only [push_cast, seval, e0]
    exact ⟨[], rfl, rfl, by simp -dsimp only [WeakTm, WeakBx, CLe, CLeL, push_cast, seval, hn]⟩
  by_cases e1 : 1073741824 < f.maxI
  case pos =>
    have hn : ¬ firstV f := fun h => by have := h.2.1; omega
    simp -dsimp only [push_cast, seval, e0, e1]
    exact ⟨[], rfl, rfl, by simp -dsimp only [WeakTm, WeakBx, CLe, CLeL, push_cast, seval, hn]⟩
  by_cases e2 : f.maxB < 0
  case pos =>
    have hn : ¬ firstV f := fun h => by have := h.2.2.1; omega
    simp -dsimp only [push_cast, seval, e0, e1, e2]
    exact ⟨[], rfl, rfl, by simp -dsimp only [WeakTm, WeakBx, CLe, CLeL, push_cast, seval, hn]⟩
  by_cases e3 : 1073741824 < f.maxB
  case pos =>
    have hn : ¬ firstV f := fun h => by have := h.2.2.2.1; omega
    simp -dsimp only [push_cast, seval, e0, e1, e2, e3]
    exact ⟨[], rfl, rfl, by simp -dsimp only [WeakTm, WeakBx, CLe, CLeL, push_cast, seval, hn]⟩
  by_cases e4 : 1099511627776 < f.next
  case pos =>
    have hn : ¬ firstV f := fun h => by have := h.2.2.2.2.1; omega
    simp -dsimp only [push_cast, seval, e0, e1, e2, e3, e4]
    exact ⟨[], rfl, rfl, by simp -dsimp only [WeakTm, WeakBx, CLe, CLeL, push_cast, seval, hn]⟩
  simp -dsimp only [push_cast, seval, e0, e1, e2, e3, e4]
  refine loop (fun i : Nat => ⟨[(1, .ptr 0 0), (3, .sc (.int .i64 i))], [fsC f], 0, 0⟩) (fun i => i ≤ f.xs.length ∧ ∀ x ∈ f.xs.take i, 1 ≤ x.ino ∧ x.ino < f.next) (fun i => f.xs.length - i) 0 ⟨Nat.zero_le _, fun x hx => by simp at hx⟩ ?_ ?_
  · exact Weak.mk [] rfl rfl (Nat.zero_le _) rfl (by simp -dsimp only [WeakTm, WeakBx, CLe, CLeL, push_cast, seval]) (by simp -dsimp only [WeakTm, WeakBx, CLe, CLeL, push_cast, seval])
  · rintro i ⟨h1, h2⟩
    by_cases h : i < f.xs.length
    · have g1 := nods_at f.xs i h
      by_cases c1 : f.xs[i].ino < 1
      · have hn : ¬ firstV f := fun h' => by have := h'.2.2.2.2.2.1 _ (List.getElem_mem h); omega
        simp -dsimp only [push_cast, seval, hll, h, g1, c1]
        (try simp only [List.length_append, List.length_cons, List.length_nil, List.length_map, List.length_take, List.length_drop]); repeat (refine And.intro (by omega) ?_)
        exact ⟨[], rfl, rfl, by simp -dsimp only [WeakTm, WeakBx, CLe, CLeL, push_cast, seval, hn]⟩
      · by_cases c2 : f.next ≤ f.xs[i].ino
        · have hn : ¬ firstV f := fun h' => by have := h'.2.2.2.2.2.1 _ (List.getElem_mem h); omega
          simp -dsimp only [push_cast, seval, hll, h, g1, c1, c2]
          (try simp only [List.length_append, List.length_cons, List.length_nil, List.length_map, List.length_take, List.length_drop]); repeat (refine And.intro (by omega) ?_)
          exact ⟨[], rfl, rfl, by simp -dsimp only [WeakTm, WeakBx, CLe, CLeL, push_cast, seval, hn]⟩
        · simp -dsimp only [push_cast, seval, hll, h, g1, c1, c2]
          (try simp only [List.length_append, List.length_cons, List.length_nil, List.length_map, List.length_take, List.length_drop]); repeat (refine And.intro (by omega) ?_)
          exact ⟨i + 1, ⟨h, mem_take_succ h h2 (by omega)⟩, by omega, Weak.mk [] rfl rfl (Nat.zero_le _) rfl (by simp -dsimp only [WeakTm, WeakBx, CLe, CLeL, push_cast, seval]) (by simp -dsimp only [WeakTm, WeakBx, CLe, CLeL, push_cast, seval])⟩
    · rw [List.take_of_length_le (by omega)] at h2
      have hf : firstV f ↔ Rises f.xs ∧ hasV 1 f.xs = true ∧ (gotV 1 f.xs).kind = 2 := ⟨fun h => h.2.2.2.2.2.2, fun h => ⟨by omega, by omega, by omega, by omega, by omega, h2, h⟩⟩
      simp -dsimp only [push_cast, seval, hll, h]
      (first | refine call (rget_fun f 1 hl) ?_ | refine callP (rget_fun f 1 hl) ?_); simp -dsimp only [push_cast, seval]
      by_cases c1 : Rises f.xs
      · cases c2 : hasV 1 f.xs with
        | true =>
          (first | refine call (rise_fun f hl) ?_ | refine callP (rise_fun f hl) ?_); simp -dsimp only [push_cast, seval, decide_eq_true c1, c2]
          exact ⟨[], rfl, rfl, by simp -dsimp only [WeakTm, WeakBx, CLe, CLeL, push_cast, seval, hf, c1, c2]⟩
        | false =>
          have hn : ¬ firstV f := fun h => by have := (hf.1 h).2.1; rw [c2] at this; cases this
          (first | refine call (rise_fun f hl) ?_ | refine callP (rise_fun f hl) ?_); simp -dsimp only [push_cast, seval, decide_eq_true c1, c2]
          exact ⟨[], rfl, rfl, by simp -dsimp only [WeakTm, WeakBx, CLe, CLeL, push_cast, seval, hn]⟩
      · have hn : ¬ firstV f := fun h => c1 (hf.1 h).1
        (first | refine call (rise_fun f hl) ?_ | refine callP (rise_fun f hl) ?_); simp -dsimp only [push_cast, seval, decide_eq_false c1]
        exact ⟨[], rfl, rfl, by simp -dsimp only [WeakTm, WeakBx, CLe, CLeL, push_cast, seval, hn]⟩
theorem third_fun (f : FsV) (hf : fewV f.xs) : Fun Tryd.prog G 65 [.agg (fsC f)] (.sc (.bool (decide (thirdV f)))) 0 := by
  have hll : (nodsC f.xs).length = f.xs.length := List.length_map ..
  have h40 := hf.1
  refine Fun.of (fun i => if i = 7 then lateB 15 16 else []) (by kernel_rfl) Tryd.func65 rfl rfl (Nat.le_of_ble_eq_true rfl) (by kernel_rfl) ?_; dsimp only [Tryd.f65, List.append_eq, List.cons_append, List.nil_append]
  simp -dsimp only [push_cast, seval]
  refine loop (fun i : Nat => ⟨[(1, .ptr 0 0), (3, .sc (.int .i64 i))], [fsC f], 0, 0⟩) (fun i => i ≤ f.xs.length ∧ ∀ x ∈ f.xs.take i, ∀ e ∈ x.es, hasV e.ino f.xs = true) (fun i => f.xs.length - i) 0 ⟨Nat.zero_le _, fun x hx => by simp at hx⟩ ?_ ?_
  · exact Weak.mk [] rfl rfl (Nat.zero_le _) rfl (by simp -dsimp only [WeakTm, WeakBx, CLe, CLeL, push_cast, seval]) (by simp -dsimp only [WeakTm, WeakBx, CLe, CLeL, push_cast, seval])
  · rintro i ⟨h1, h2⟩
    by_cases h : i < f.xs.length
    · have g1 := nods_at f.xs i h
      have he := (hf.2 _ (List.getElem_mem h)).2.1
      have hle : (entsC f.xs[i].es).length = f.xs[i].es.length := List.length_map ..
      simp -dsimp only [push_cast, seval, hll, h]
      refine loop (fun k : Nat => ⟨[(1, .ptr 0 0), (3, .sc (.int .i64 i)), (4, .sc (.int .i64 k))], [fsC f], 0, 0⟩) (fun k => k ≤ f.xs[i].es.length ∧ ∀ e ∈ f.xs[i].es.take k, hasV e.ino f.xs = true) (fun k => f.xs[i].es.length - k) 0 ⟨Nat.zero_le _, fun x hx => by simp at hx⟩ ?_ ?_
      · exact Weak.mk [] rfl rfl (Nat.zero_le _) rfl (by simp -dsimp only [WeakTm, WeakBx, CLe, CLeL, push_cast, seval]) (by simp -dsimp only [WeakTm, WeakBx, CLe, CLeL, push_cast, seval])
      · rintro k ⟨h3, h4⟩
        by_cases hk : k < f.xs[i].es.length
        · have g2 := ents_at f.xs[i].es k hk
          simp -dsimp only [push_cast, seval, g1, hle, hk, g2]
          (try simp only [List.length_append, List.length_cons, List.length_nil, List.length_map, List.length_take, List.length_drop]); repeat (refine And.intro (by omega) ?_)
          (first | refine call (rget_fun f f.xs[i].es[k].ino (by omega)) ?_ | refine callP (rget_fun f f.xs[i].es[k].ino (by omega)) ?_); simp -dsimp only [push_cast, seval]
          cases hh : hasV f.xs[i].es[k].ino f.xs with
          | true =>
            simp -dsimp only [push_cast, seval, hh]
            (try simp only [List.length_append, List.length_cons, List.length_nil, List.length_map, List.length_take, List.length_drop]); repeat (refine And.intro (by omega) ?_)
            exact ⟨k + 1, ⟨hk, mem_take_succ hk h4 hh⟩, by omega, Weak.mk [] rfl rfl (Nat.zero_le _) rfl (by simp -dsimp only [WeakTm, WeakBx, CLe, CLeL, push_cast, seval]) (by simp -dsimp only [WeakTm, WeakBx, CLe, CLeL, push_cast, seval])⟩
          | false =>
            have hn : ¬ thirdV f := fun h' => by have := h' _ (List.getElem_mem h) _ (List.getElem_mem hk); rw [hh] at this; cases this
            simp -dsimp only [push_cast, seval, hh]
            exact ⟨[], rfl, rfl, by simp -dsimp only [WeakTm, WeakBx, CLe, CLeL, push_cast, seval, hn]⟩
        · rw [List.take_of_length_le (by omega)] at h4
          simp -dsimp only [push_cast, seval, g1, hle, hk]
          (try simp only [List.length_append, List.length_cons, List.length_nil, List.length_map, List.length_take, List.length_drop]); repeat (refine And.intro (by omega) ?_)
          exact ⟨i + 1, ⟨h, mem_take_succ h h2 h4⟩, by omega, Weak.mk [] rfl rfl (Nat.zero_le _) rfl (by simp -dsimp only [WeakTm, WeakBx, CLe, CLeL, push_cast, seval]) (by simp -dsimp only [WeakTm, WeakBx, CLe, CLeL, push_cast, seval])⟩
    · rw [List.take_of_length_le (by omega)] at h2
      have hn : thirdV f := h2
      simp -dsimp only [push_cast, seval, hll, h]
      exact ⟨[], rfl, rfl, by simp -dsimp only [WeakTm, WeakBx, CLe, CLeL, push_cast, seval, hn]⟩
theorem fits_fun (f : FsV) (hf : fewV f.xs) (hb : bytesV f.xs ≤ 1000000) : Fun Tryd.prog G 68 [.agg (fsC f), .sc (.int .i64 0), .sc (.int .i64 0)] (.sc (.bool (decide (fitsV f)))) 0 := by
  have hll : (nodsC f.xs).length = f.xs.length := List.length_map ..
  have h40 := hf.1
  refine Fun.of (fun _ => []) (by kernel_rfl) Tryd.func68 rfl rfl (Nat.le_of_ble_eq_true rfl) (by kernel_rfl) ?_; dsimp only [Tryd.f68, List.append_eq, List.cons_append, List.nil_append]
  by_cases c1 : f.maxI < f.xs.length
  · have hn : ¬ fitsV f := fun h => by have := h.1; omega
    simp -dsimp only [push_cast, seval, hll, c1]
    (try simp only [List.length_append, List.length_cons, List.length_nil, List.length_map, List.length_take, List.length_drop]); repeat (refine And.intro (by omega) ?_)
    exact ⟨[], rfl, rfl, by simp -dsimp only [WeakTm, WeakBx, CLe, CLeL, push_cast, seval, hn]⟩
  · have hn : fitsV f ↔ (bytesV f.xs : Int) ≤ f.maxB := ⟨fun h => h.2, fun h => ⟨by omega, h⟩⟩
    simp -dsimp only [push_cast, seval, hll, c1]
    (try simp only [List.length_append, List.length_cons, List.length_nil, List.length_map, List.length_take, List.length_drop]); repeat (refine And.intro (by omega) ?_)
    (first | refine call (bytes_fun f hf) ?_ | refine callP (bytes_fun f hf) ?_); simp -dsimp only [push_cast, seval]
    (try simp only [List.length_append, List.length_cons, List.length_nil, List.length_map, List.length_take, List.length_drop]); repeat (refine And.intro (by omega) ?_)
    exact ⟨[], rfl, rfl, by simp -dsimp only [WeakTm, WeakBx, CLe, CLeL, push_cast, seval, hn]⟩
end
end Go.Proofs.YtnjglohgjhihjaaDoor.Vcg
end
section
set_option linter.unusedVariables false
set_option maxRecDepth 20000
set_option linter.unusedSimpArgs false
namespace Go.Proofs.YtnjglohgjhihjaaDoor.Vcg
open Go.RowKit
/-- each entry: the inode that it names, and the directory in which it stands -/
abbrev pairN (x : NodV) (es : List EntV) : List (Int × Int) := es.map fun e => (e.ino, x.ino)
def pairsV (xs : List NodV) : List (Int × Int) := xs.flatMap fun x => pairN x x.es
def cntV (n : Int) (l : List (Int × Int)) : Nat := (l.filter fun p => p.1 == n).length
def lastV (n : Int) (l : List (Int × Int)) : Int := (((l.filter fun p => p.1 == n).getLast?).map (·.2)).getD 0
theorem cnt_add {n : Int} {l : List (Int × Int)} {p : Int × Int} : cntV n (l ++ [p]) = cntV n l + if p.1 = n then 1 else 0 := by
  unfold cntV
  rw [List.filter_append, List.length_append]
  by_cases h : p.1 = n <;> simp [h]
theorem last_add {n : Int} {l : List (Int × Int)} {p : Int × Int} : lastV n (l ++ [p]) = if p.1 = n then p.2 else lastV n l := by
  unfold lastV
  rw [List.filter_append]
  by_cases h : p.1 = n <;> simp [h]
theorem pairs_take {xs : List NodV} {i : Nat} (h : i < xs.length) : pairsV (xs.take (i + 1)) = pairsV (xs.take i) ++ pairN xs[i] xs[i].es := by
  unfold pairsV
  rw [List.take_add_one, List.getElem?_eq_getElem h, List.flatMap_append]
  simp
theorem pairN_take {x : NodV} {es : List EntV} {k : Nat} (h : k < es.length) : pairN x (es.take (k + 1)) = pairN x (es.take k) ++ [(es[k].ino, x.ino)] := by
  rw [List.take_add_one, List.getElem?_eq_getElem h, Option.toList_some]
  exact List.map_append
theorem pairs_len {xs : List NodV} (hf : ∀ x ∈ xs, x.es.length ≤ 40) : (pairsV xs).length ≤ xs.length * 40 := by
  induction xs with
  | nil => exact Nat.le_refl _
  | cons x r ih =>
    have h1 := hf x List.mem_cons_self
    have h2 := ih fun y hy => hf y (List.mem_cons_of_mem _ hy)
    unfold pairsV at h2 ⊢
    rw [List.flatMap_cons, List.length_append, List.length_map, List.length_cons]
    omega
theorem cnt_le {n : Int} {l : List (Int × Int)} : cntV n l ≤ l.length := List.length_filter_le _ _
def fourthN (xs : List NodV) (x : NodV) : Prop := x.links = cntV x.ino (pairsV xs) ∧ if x.ino = 1 then cntV x.ino (pairsV xs) = 0 ∧ x.parent = 1 else 1 ≤ cntV x.ino (pairsV xs) ∧ (x.kind = 2 → cntV x.ino (pairsV xs) = 1 ∧ x.parent = lastV x.ino (pairsV xs))
instance (xs : List NodV) (x : NodV) : Decidable (fourthN xs x) := by unfold fourthN; infer_instance
def fourthV (f : FsV) : Prop := ∀ x ∈ f.xs, fourthN f.xs x
instance (f : FsV) : Decidable (fourthV f) := by unfold fourthV; infer_instance
section
variable {G : Globs}
theorem names7_fun (f : FsV) (n : Int) (hf : fewV f.xs) : Fun Tryd.prog G 84 [.agg (fsC f), .sc (.int .i64 n)] (.tup [.sc (.int .i64 (cntV n (pairsV f.xs) : Nat)), .sc (.int .i64 (lastV n (pairsV f.xs)))]) 0 := by
  have hll : (nodsC f.xs).length = f.xs.length := List.length_map ..
  have h40 := hf.1
  have hc0 : cntV n (pairsV []) = 0 := rfl
  have hl0 : lastV n (pairsV []) = 0 := rfl
  refine Fun.of (fun _ => []) (by kernel_rfl) Tryd.func84 rfl rfl (Nat.le_of_ble_eq_true rfl) (by kernel_rfl) ?_; dsimp only [Tryd.f84, List.append_eq, List.cons_append, List.nil_append]
  simp -dsimp only [push_cast, seval]
  refine loop (fun i : Nat => ⟨[(1, .sc (.int .i64 n)), (2, .ptr 0 0), (6, .sc (.int .i64 (cntV n (pairsV (f.xs.take i)) : Nat))), (7, .sc (.int .i64 (lastV n (pairsV (f.xs.take i))))), (8, .sc (.int .i64 i))], [fsC f], 0, 0⟩) (fun i => i ≤ f.xs.length) (fun i => f.xs.length - i) 0 (Nat.zero_le _) ?_ ?_
  · exact Weak.mk [] rfl rfl (Nat.zero_le _) rfl (by simp -dsimp only [WeakTm, WeakBx, CLe, CLeL, push_cast, seval, List.take_zero, hc0, hl0]) (by simp -dsimp only [WeakTm, WeakBx, CLe, CLeL, push_cast, seval])
  · intro i h1
    by_cases h : i < f.xs.length
    · have g1 := nods_at f.xs i h
      have hle : (entsC f.xs[i].es).length = f.xs[i].es.length := List.length_map ..
      have hpl : (pairsV (f.xs.take i)).length ≤ i * 40 := by
        have := pairs_len (xs := f.xs.take i) fun x hx => (hf.2 x (List.mem_of_mem_take hx)).2.1
        rw [List.length_take] at this
        have h2 : min i f.xs.length * 40 ≤ i * 40 := Nat.mul_le_mul_right _ (Nat.min_le_left _ _)
        omega
      have h40e := (hf.2 _ (List.getElem_mem h)).2.1
      simp -dsimp only [push_cast, seval, hll, h]
      refine loop (fun k : Nat => ⟨[(1, .sc (.int .i64 n)), (2, .ptr 0 0), (6, .sc (.int .i64 (cntV n (pairsV (f.xs.take i) ++ pairN f.xs[i] (f.xs[i].es.take k)) : Nat))), (7, .sc (.int .i64 (lastV n (pairsV (f.xs.take i) ++ pairN f.xs[i] (f.xs[i].es.take k))))), (8, .sc (.int .i64 i)), (9, .sc (.int .i64 k))], [fsC f], 0, 0⟩) (fun k => k ≤ f.xs[i].es.length) (fun k => f.xs[i].es.length - k) 0 (Nat.zero_le _) ?_ ?_
      · exact Weak.mk [] rfl rfl (Nat.zero_le _) rfl (by simp -dsimp only [WeakTm, WeakBx, CLe, CLeL, push_cast, seval, List.take_zero, List.append_nil]) (by simp -dsimp only [WeakTm, WeakBx, CLe, CLeL, push_cast, seval])
      · intro k hk0
        by_cases hk : k < f.xs[i].es.length
        · have g2 := ents_at f.xs[i].es k hk
          have ht := pairN_take (x := f.xs[i]) hk
          have hcl := cnt_le (n := n) (l := pairsV (f.xs.take i) ++ pairN f.xs[i] (f.xs[i].es.take k))
          rw [List.length_append, List.length_map, List.length_take] at hcl
          have hca := cnt_add (n := n) (l := pairsV (f.xs.take i) ++ pairN f.xs[i] (f.xs[i].es.take k)) (p := (f.xs[i].es[k].ino, f.xs[i].ino))
          have hla := last_add (n := n) (l := pairsV (f.xs.take i) ++ pairN f.xs[i] (f.xs[i].es.take k)) (p := (f.xs[i].es[k].ino, f.xs[i].ino))
          rw [List.append_assoc, ← ht] at hca hla
          by_cases hc : f.xs[i].es[k].ino = n
          · rw [if_pos hc] at hca hla
            simp -dsimp only [push_cast, seval, g1, hle, hk, g2, hc]
            (try simp only [List.length_append, List.length_cons, List.length_nil, List.length_map, List.length_take, List.length_drop]); repeat (refine And.intro (by omega) ?_)
            exact ⟨k + 1, hk, by omega, Weak.mk [] rfl rfl (Nat.zero_le _) rfl (by simp -dsimp only [WeakTm, WeakBx, CLe, CLeL, push_cast, seval, hca, hla]) (by simp -dsimp only [WeakTm, WeakBx, CLe, CLeL, push_cast, seval])⟩
          · rw [if_neg hc] at hca hla
            simp -dsimp only [push_cast, seval, g1, hle, hk, g2, hc]
            (try simp only [List.length_append, List.length_cons, List.length_nil, List.length_map, List.length_take, List.length_drop]); repeat (refine And.intro (by omega) ?_)
            exact ⟨k + 1, hk, by omega, Weak.mk [] rfl rfl (Nat.zero_le _) rfl (by simp -dsimp only [WeakTm, WeakBx, CLe, CLeL, push_cast, seval, hca, hla]) (by simp -dsimp only [WeakTm, WeakBx, CLe, CLeL, push_cast, seval])⟩
        · have hkk : f.xs[i].es.take k = f.xs[i].es := List.take_of_length_le (by omega)
          rw [hkk]
          have ht := pairs_take h
          simp -dsimp only [push_cast, seval, g1, hle, hk]
          (try simp only [List.length_append, List.length_cons, List.length_nil, List.length_map, List.length_take, List.length_drop]); repeat (refine And.intro (by omega) ?_)
          exact ⟨i + 1, h, by omega, Weak.mk [] rfl rfl (Nat.zero_le _) rfl (by simp -dsimp only [WeakTm, WeakBx, CLe, CLeL, push_cast, seval, ht]) (by simp -dsimp only [WeakTm, WeakBx, CLe, CLeL, push_cast, seval])⟩
    · rw [List.take_of_length_le (by omega)]
      simp -dsimp only [push_cast, seval, hll, h]
      exact ⟨[], rfl, rfl, by simp -dsimp only [WeakTm, WeakBx, CLe, CLeL, push_cast, seval]⟩
end
end Go.Proofs.YtnjglohgjhihjaaDoor.Vcg
end
section
set_option linter.unusedVariables false
set_option maxRecDepth 20000
set_option linter.unusedSimpArgs false
namespace Go.Proofs.YtnjglohgjhihjaaDoor.Vcg
open Go.RowKit
section
variable {G : Globs}
theorem fourth_fun (f : FsV) (hf : fewV f.xs) : Fun Tryd.prog G 66 [.agg (fsC f)] (.sc (.bool (decide (fourthV f)))) 0 := by
  have hll : (nodsC f.xs).length = f.xs.length := List.length_map ..
  have h40 := hf.1
  refine Fun.of (fun _ => []) (by kernel_rfl) Tryd.func66 rfl rfl (Nat.le_of_ble_eq_true rfl) (by kernel_rfl) ?_; dsimp only [Tryd.f66, List.append_eq, List.cons_append, List.nil_append]
  simp -dsimp only [push_cast, seval]
  refine loop (fun i : Nat => ⟨[(1, .ptr 0 0), (3, .sc (.int .i64 i))], [fsC f], 0, 0⟩) (fun i => i ≤ f.xs.length ∧ ∀ x ∈ f.xs.take i, fourthN f.xs x) (fun i => f.xs.length - i) 0 ⟨Nat.zero_le _, fun x hx => by simp at hx⟩ ?_ ?_
  · exact Weak.mk [] rfl rfl (Nat.zero_le _) rfl (by simp -dsimp only [WeakTm, WeakBx, CLe, CLeL, push_cast, seval]) (by simp -dsimp only [WeakTm, WeakBx, CLe, CLeL, push_cast, seval])
  · rintro i ⟨h1, h2⟩
    by_cases h : i < f.xs.length
    · have g1 := nods_at f.xs i h
      have hbad : ¬ fourthN f.xs f.xs[i] → ¬ fourthV f := fun hn h' => hn (h' _ (List.getElem_mem h))
      have hdef : fourthN f.xs f.xs[i] ↔ f.xs[i].links = cntV f.xs[i].ino (pairsV f.xs) ∧ if f.xs[i].ino = 1 then cntV f.xs[i].ino (pairsV f.xs) = 0 ∧ f.xs[i].parent = 1 else 1 ≤ cntV f.xs[i].ino (pairsV f.xs) ∧ (f.xs[i].kind = 2 → cntV f.xs[i].ino (pairsV f.xs) = 1 ∧ f.xs[i].parent = lastV f.xs[i].ino (pairsV f.xs)) := Iff.rfl
      simp -dsimp only [push_cast, seval, hll, h, g1]
      (try simp only [List.length_append, List.length_cons, List.length_nil, List.length_map, List.length_take, List.length_drop]); repeat (refine And.intro (by omega) ?_)
      (first | refine call (names7_fun f f.xs[i].ino hf) ?_ | refine callP (names7_fun f f.xs[i].ino hf) ?_); simp -dsimp only [push_cast, seval]
      generalize cntV f.xs[i].ino (pairsV f.xs) = c at hdef
      generalize lastV f.xs[i].ino (pairsV f.xs) = d at hdef
      by_cases c1 : f.xs[i].links = (c : Int)
      case neg =>
        have hn := hbad fun h => c1 (hdef.1 h).1
        simp -dsimp only [push_cast, seval, c1]
        exact ⟨[], rfl, rfl, by simp -dsimp only [WeakTm, WeakBx, CLe, CLeL, push_cast, seval, hn]⟩
      by_cases c2 : f.xs[i].ino = 1
      · rw [if_pos c2] at hdef
        by_cases c3 : (c : Int) = 0
        · by_cases c4 : f.xs[i].parent = 1
          · simp -dsimp only [push_cast, seval, c1, c2, c3, c4]
            (try simp only [List.length_append, List.length_cons, List.length_nil, List.length_map, List.length_take, List.length_drop]); repeat (refine And.intro (by omega) ?_)
            exact ⟨i + 1, ⟨h, mem_take_succ h h2 (hdef.2 ⟨c1, by omega, c4⟩)⟩, by omega, Weak.mk [] rfl rfl (Nat.zero_le _) rfl (by simp -dsimp only [WeakTm, WeakBx, CLe, CLeL, push_cast, seval]) (by simp -dsimp only [WeakTm, WeakBx, CLe, CLeL, push_cast, seval])⟩
          · have hn := hbad fun h => c4 (hdef.1 h).2.2
            simp -dsimp only [push_cast, seval, c1, c2, c3, c4]
            exact ⟨[], rfl, rfl, by simp -dsimp only [WeakTm, WeakBx, CLe, CLeL, push_cast, seval, hn]⟩
        · have hn := hbad fun h => by have := (hdef.1 h).2.1; omega
          simp -dsimp only [push_cast, seval, c1, c2, c3]
          exact ⟨[], rfl, rfl, by simp -dsimp only [WeakTm, WeakBx, CLe, CLeL, push_cast, seval, hn]⟩
      · rw [if_neg c2] at hdef
        by_cases c3 : (c : Int) < 1
        · have hn := hbad fun h => by have := (hdef.1 h).2.1; omega
          simp -dsimp only [push_cast, seval, c1, c2, c3]
          exact ⟨[], rfl, rfl, by simp -dsimp only [WeakTm, WeakBx, CLe, CLeL, push_cast, seval, hn]⟩
        by_cases c4 : f.xs[i].kind = 2
        · by_cases c5 : (c : Int) = 1
          · by_cases c6 : f.xs[i].parent = d
            · simp -dsimp only [push_cast, seval, c1, c2, c3, c4, c5, c6]
              (try simp only [List.length_append, List.length_cons, List.length_nil, List.length_map, List.length_take, List.length_drop]); repeat (refine And.intro (by omega) ?_)
              exact ⟨i + 1, ⟨h, mem_take_succ h h2 (hdef.2 ⟨c1, by omega, fun _ => ⟨by omega, c6⟩⟩)⟩, by omega, Weak.mk [] rfl rfl (Nat.zero_le _) rfl (by simp -dsimp only [WeakTm, WeakBx, CLe, CLeL, push_cast, seval]) (by simp -dsimp only [WeakTm, WeakBx, CLe, CLeL, push_cast, seval])⟩
            · have hn := hbad fun h => c6 ((hdef.1 h).2.2 c4).2
              simp -dsimp only [push_cast, seval, c1, c2, c3, c4, c5, c6]
              exact ⟨[], rfl, rfl, by simp -dsimp only [WeakTm, WeakBx, CLe, CLeL, push_cast, seval, hn]⟩
          · have hn := hbad fun h => by have := ((hdef.1 h).2.2 c4).1; omega
            simp -dsimp only [push_cast, seval, c1, c2, c3, c4, c5]
            exact ⟨[], rfl, rfl, by simp -dsimp only [WeakTm, WeakBx, CLe, CLeL, push_cast, seval, hn]⟩
        · simp -dsimp only [push_cast, seval, c1, c2, c3, c4]
          (try simp only [List.length_append, List.length_cons, List.length_nil, List.length_map, List.length_take, List.length_drop]); repeat (refine And.intro (by omega) ?_)
          exact ⟨i + 1, ⟨h, mem_take_succ h h2 (hdef.2 ⟨c1, by omega, fun h => absurd h c4⟩)⟩, by omega, Weak.mk [] rfl rfl (Nat.zero_le _) rfl (by simp -dsimp only [WeakTm, WeakBx, CLe, CLeL, push_cast, seval]) (by simp -dsimp only [WeakTm, WeakBx, CLe, CLeL, push_cast, seval])⟩
    · rw [List.take_of_length_le (by omega)] at h2
      have hn : fourthV f := h2
      simp -dsimp only [push_cast, seval, hll, h]
      exact ⟨[], rfl, rfl, by simp -dsimp only [WeakTm, WeakBx, CLe, CLeL, push_cast, seval, hn]⟩
end
end Go.Proofs.YtnjglohgjhihjaaDoor.Vcg
end
section
set_option linter.unusedVariables false
set_option maxRecDepth 20000
set_option linter.unusedSimpArgs false
namespace Go.Proofs.YtnjglohgjhihjaaDoor.Vcg
open Go.RowKit
abbrev intsC (S : List Int) : List (List C) := S.map fun n => [C.sc (.int .i64 n)]
def addOne (S : List Int) (n : Int) : List Int := if n ∈ S then S else S ++ [n]
def addV (S : List Int) (es : List EntV) : List Int := es.foldl (fun s e => addOne s e.ino) S
def seenV (xs : List NodV) : Nat → Nat → List Int → List Int
  | 0, _, S => S
  | m + 1, i, S => match S[i]? with
    | some n => seenV xs m (i + 1) (addV S (gotV n xs).es)
    | none => S
def fifthV (f : FsV) : Prop := (seenV f.xs 41 0 [1]).length = f.xs.length
instance (f : FsV) : Decidable (fifthV f) := by unfold fifthV; infer_instance
theorem nodup_le : ∀ {S T : List Int}, S.Nodup → (∀ n ∈ S, n ∈ T) → S.length ≤ T.length
  | [], T, _, _ => Nat.zero_le _
  | a :: r, T, hn, hs => by
    have ha := hs a List.mem_cons_self
    obtain ⟨h1, h2⟩ := List.nodup_cons.1 hn
    have := nodup_le (S := r) (T := T.erase a) h2 fun n hr => (List.mem_erase_of_ne (fun e => h1 (by rw [← e]; exact hr))).2 (hs n (List.mem_cons_of_mem _ hr))
    rw [List.length_erase_of_mem ha] at this
    have hpos := List.length_pos_iff.2 (List.ne_nil_of_mem ha)
    rw [List.length_cons]; omega
theorem has_mem {n : Int} {xs : List NodV} : hasV n xs = true ↔ n ∈ xs.map (·.ino) := by
  unfold hasV
  rw [List.any_eq_true, List.mem_map]
  simp
theorem seen_len {S : List Int} {xs : List NodV} (hn : S.Nodup) (hs : ∀ n ∈ S, hasV n xs = true) : S.length ≤ xs.length := by
  have := nodup_le (T := xs.map (·.ino)) hn fun n h => has_mem.1 (hs n h)
  rwa [List.length_map] at this
theorem addOne_nodup {S : List Int} {n : Int} (h : S.Nodup) : (addOne S n).Nodup := by
  unfold addOne
  split
  · exact h
  · rw [List.nodup_append]
    refine ⟨h, by simp, fun a ha b hb e => ?_⟩
    simp at hb; subst hb; subst e; contradiction
theorem addOne_mem {S : List Int} {n m : Int} : m ∈ addOne S n ↔ m ∈ S ∨ m = n := by
  unfold addOne
  split
  · constructor
    · exact .inl
    · rintro (h | h)
      · exact h
      · rw [h]; assumption
  · simp
theorem got_has {n : Int} {xs : List NodV} (h : hasV n xs = true) : gotV n xs ∈ xs ∧ (gotV n xs).ino = n := by
  unfold hasV at h
  unfold gotV getV
  cases hq : xs.find? fun x => x.ino == n with
  | none =>
    rw [List.find?_eq_none] at hq
    obtain ⟨x, hx, he⟩ := List.any_eq_true.1 h
    exact absurd he (hq x hx)
  | some y =>
    exact ⟨List.mem_of_find?_eq_some hq, by simpa using List.find?_some hq⟩
theorem addV_take {S : List Int} {es : List EntV} {k : Nat} (h : k < es.length) : addV S (es.take (k + 1)) = addOne (addV S (es.take k)) es[k].ino := by
  unfold addV
  rw [List.take_add_one, List.getElem?_eq_getElem h, List.foldl_append]
  rfl
theorem addV_sub (es : List EntV) : ∀ (S : List Int), S <+: addV S es := by
  induction es with
  | nil => exact fun S => List.prefix_refl S
  | cons e r ih =>
    intro S
    refine List.IsPrefix.trans ?_ (ih (addOne S e.ino))
    unfold addOne
    split
    · exact List.prefix_refl S
    · exact List.prefix_append S _
theorem addV_len (S : List Int) (es : List EntV) : S.length ≤ (addV S es).length := (addV_sub es S).length_le
/-- what the fifth rule's rounds keep -/
structure SeenOk (xs : List NodV) (S : List Int) : Prop where
  nodup : S.Nodup
  has : ∀ n ∈ S, hasV n xs = true
theorem SeenOk.len {xs : List NodV} {S : List Int} (h : SeenOk xs S) : S.length ≤ xs.length := seen_len h.nodup h.has
theorem SeenOk.one {xs : List NodV} {S : List Int} {n : Int} (h : SeenOk xs S) (hn : hasV n xs = true) : SeenOk xs (addOne S n) := ⟨addOne_nodup h.nodup, fun m hm => by
  rcases addOne_mem.1 hm with hm | rfl
  · exact h.has m hm
  · exact hn⟩
theorem any_take {S : List Int} {n : Int} {j : Nat} (h : j < S.length) : ((S.take (j + 1)).any fun m => decide (m = n)) = (((S.take j).any fun m => decide (m = n)) || decide (S[j] = n)) := by
  rw [List.take_add_one, List.getElem?_eq_getElem h, List.any_append]
  simp
theorem any_mem {S : List Int} {n : Int} : (S.any fun m => decide (m = n)) = decide (n ∈ S) := by
  rw [Bool.eq_iff_iff, List.any_eq_true, decide_eq_true_iff]
  constructor
  · rintro ⟨m, hm, h⟩; exact (of_decide_eq_true h) ▸ hm
  · exact fun h => ⟨n, h, decide_eq_true rfl⟩
theorem ints_at (S : List Int) (i : Nat) (h : i < S.length) : (intsC S)[i]? = some [.sc (.int .i64 S[i])] := by simp [List.getElem?_map, List.getElem?_eq_getElem h]
section
variable {G : Globs}
set_option maxHeartbeats 1000000 in
theorem fifth_fun (f : FsV) (hf : fewV f.xs) (h3 : thirdV f) (h1 : hasV 1 f.xs = true) : Fun Tryd.prog G 67 [.agg (fsC f)] (.sc (.bool (decide (fifthV f)))) 0 := by
  have hll : (nodsC f.xs).length = f.xs.length := List.length_map ..
  have h40 := hf.1
  refine Fun.of (fun i => if i = 5 then lateB 9 10 else []) (by kernel_rfl) Tryd.func67 rfl rfl (Nat.le_of_ble_eq_true rfl) (by kernel_rfl) ?_; dsimp only [Tryd.f67, List.append_eq, List.cons_append, List.nil_append]
  simp -dsimp only [push_cast, seval]
  refine loop (fun p : Nat × List Int => ⟨[(1, .ptr 0 0), (3, .own 0 3 1 (intsC p.2)), (4, .sc (.int .i64 p.1))], [fsC f], 1, 0⟩) (fun p => p.1 ≤ p.2.length ∧ SeenOk f.xs p.2 ∧ seenV f.xs (41 - p.1) p.1 p.2 = seenV f.xs 41 0 [1]) (fun p => 41 - p.1) (0, [1]) ⟨Nat.zero_le _, ⟨by simp, fun n hn => by simp at hn; subst hn; exact h1⟩, rfl⟩ ?_ ?_
  · exact Weak.mk [.inl 0] rfl rfl (Nat.zero_le _) rfl (by simp -dsimp only [WeakTm, WeakBx, CLe, CLeL, push_cast, seval]) (by simp -dsimp only [WeakTm, WeakBx, CLe, CLeL, push_cast, seval])
  · rintro ⟨i, S⟩ ⟨k1, k2, k3⟩
    dsimp only at k1 k2 k3 ⊢
    have hSl := k2.len
    have hli : (intsC S).length = S.length := List.length_map ..
    by_cases h : i < S.length
    · have g0 := ints_at S i h
      obtain ⟨hm, hino⟩ := got_has (k2.has S[i] (List.getElem_mem h))
      simp -dsimp only [push_cast, seval, hli, h, g0]
      (try simp only [List.length_append, List.length_cons, List.length_nil, List.length_map, List.length_take, List.length_drop]); repeat (refine And.intro (by omega) ?_)
      (first | refine call (rget_fun f S[i] (by omega)) ?_ | refine callP (rget_fun f S[i] (by omega)) ?_); simp -dsimp only [push_cast, seval]
      rw [show 41 - i = (41 - (i + 1)) + 1 by omega, seenV, List.getElem?_eq_getElem h] at k3
      dsimp only at k3
      generalize gotV S[i] f.xs = x at hm hino k3
      have hx40 := (hf.2 x hm).2.1
      have hle : (entsC x.es).length = x.es.length := List.length_map ..
      refine loop (fun k : Nat => ⟨[(1, .ptr 0 0), (3, .own 0 3 1 (intsC (addV S (x.es.take k)))), (4, .sc (.int .i64 i)), (5, .ptr 1 0), (7, .sc (.int .i64 k))], [fsC f, nodC x], 1, 0⟩) (fun k => k ≤ x.es.length ∧ SeenOk f.xs (addV S (x.es.take k))) (fun k => x.es.length - k) 0 ⟨Nat.zero_le _, k2⟩ ?_ ?_
      · exact Weak.mk [.inl 0] rfl rfl (Nat.zero_le _) rfl (by simp -dsimp only [WeakTm, WeakBx, CLe, CLeL, push_cast, seval, List.take_zero, addV, List.foldl_nil]) (by simp -dsimp only [WeakTm, WeakBx, CLe, CLeL, push_cast, seval])
      · rintro k ⟨hk0, k4⟩
        by_cases hk : k < x.es.length
        · have g2 := ents_at x.es k hk
          have hT := k4.len
          have ht := addV_take (S := S) hk
          have hhas : hasV x.es[k].ino f.xs = true := h3 x hm _ (List.getElem_mem hk)
          have k5 := k4.one hhas
          rw [← ht] at k5
          generalize hT1 : addV S (x.es.take (k + 1)) = T1 at ht k5
          generalize addV S (x.es.take k) = T at k4 hT ht
          have hlT : (intsC T).length = T.length := List.length_map ..
          generalize hn : x.es[k].ino = n at g2 ht
          simp -dsimp only [push_cast, seval, hle, hk]
          refine loop (fun j : Nat => ⟨[(1, .ptr 0 0), (3, .own 0 3 1 (intsC T)), (4, .sc (.int .i64 i)), (5, .ptr 1 0), (7, .sc (.int .i64 k)), (8, .sc (.bool ((T.take j).any fun m => decide (m = n)))), (9, .sc (.int .i64 j))], [fsC f, nodC x], 1, 0⟩) (fun j => j ≤ T.length) (fun j => T.length - j) 0 (Nat.zero_le _) ?_ ?_
          · exact Weak.mk [.inl 0] rfl rfl (Nat.zero_le _) rfl (by simp -dsimp only [WeakTm, WeakBx, CLe, CLeL, push_cast, seval, List.take_zero, List.any_nil]) (by simp -dsimp only [WeakTm, WeakBx, CLe, CLeL, push_cast, seval])
          · intro j hj0
            by_cases hj : j < T.length
            · have g3 := ints_at T j hj
              have ha := any_take (n := n) hj
              by_cases hq : ((T.take j).any fun m => decide (m = n)) = true
              · rw [hq, Bool.true_or] at ha
                simp -dsimp only [push_cast, seval, hlT, hj, hq]
                (try simp only [List.length_append, List.length_cons, List.length_nil, List.length_map, List.length_take, List.length_drop]); repeat (refine And.intro (by omega) ?_)
                exact ⟨j + 1, hj, by omega, Weak.mk [.inl 0] rfl rfl (Nat.zero_le _) rfl (by simp -dsimp only [WeakTm, WeakBx, CLe, CLeL, push_cast, seval, ha]) (by simp -dsimp only [WeakTm, WeakBx, CLe, CLeL, push_cast, seval])⟩
              · have hq := Bool.eq_false_iff.2 hq
                rw [hq, Bool.false_or] at ha
                simp -dsimp only [push_cast, seval, hlT, hj, hq, g3, g2, hn]
                (try simp only [List.length_append, List.length_cons, List.length_nil, List.length_map, List.length_take, List.length_drop]); repeat (refine And.intro (by omega) ?_)
                exact ⟨j + 1, hj, by omega, Weak.mk [.inl 0] rfl rfl (Nat.zero_le _) rfl (by simp -dsimp only [WeakTm, WeakBx, CLe, CLeL, push_cast, seval, ha]) (by simp -dsimp only [WeakTm, WeakBx, CLe, CLeL, push_cast, seval])⟩
            · have hTj : (T.take j) = T := List.take_of_length_le (by omega)
              have hany := any_mem (S := T) (n := n)
              unfold addOne at ht
              by_cases hin : n ∈ T
              · rw [if_pos hin] at ht
                rw [decide_eq_true hin] at hany
                simp -dsimp only [push_cast, seval, hlT, hj, hTj, hany]
                (try simp only [List.length_append, List.length_cons, List.length_nil, List.length_map, List.length_take, List.length_drop]); repeat (refine And.intro (by omega) ?_)
                exact ⟨k + 1, ⟨hk, by rw [hT1]; exact k5⟩, by omega, Weak.mk [.inl 0] rfl rfl (Nat.zero_le _) rfl (by simp -dsimp only [WeakTm, WeakBx, CLe, CLeL, push_cast, seval, hT1, ht]) (by simp -dsimp only [WeakTm, WeakBx, CLe, CLeL, push_cast, seval])⟩
              · rw [if_neg hin] at ht
                rw [decide_eq_false hin] at hany
                simp -dsimp only [push_cast, seval, hlT, hj, hTj, hany, g2, hn]
                (try simp only [List.length_append, List.length_cons, List.length_nil, List.length_map, List.length_take, List.length_drop]); repeat (refine And.intro (by omega) ?_)
                exact ⟨k + 1, ⟨hk, by rw [hT1]; exact k5⟩, by omega, Weak.mk [.inl 0] rfl rfl (Nat.zero_le _) rfl (by simp -dsimp only [WeakTm, WeakBx, CLe, CLeL, push_cast, seval, hT1, ht, List.map_append]) (by simp -dsimp only [WeakTm, WeakBx, CLe, CLeL, push_cast, seval])⟩
        · have hkk : x.es.take k = x.es := List.take_of_length_le (by omega)
          rw [hkk] at k4
          have hge : i + 1 ≤ (addV S x.es).length := Nat.le_trans h (addV_len S x.es)
          simp -dsimp only [push_cast, seval, hle, hk, hkk]
          (try simp only [List.length_append, List.length_cons, List.length_nil, List.length_map, List.length_take, List.length_drop]); repeat (refine And.intro (by omega) ?_)
          exact ⟨(i + 1, addV S x.es), ⟨hge, k4, k3⟩, by dsimp only; omega, Weak.mk [.inl 0] rfl rfl (Nat.zero_le _) rfl (by simp -dsimp only [WeakTm, WeakBx, CLe, CLeL, push_cast, seval]) (by simp -dsimp only [WeakTm, WeakBx, CLe, CLeL, push_cast, seval])⟩
    · simp -dsimp only [push_cast, seval, hli, h]
      have hfin : seenV f.xs (41 - i) i S = S := by
        rw [show 41 - i = (40 - i) + 1 by omega, seenV, List.getElem?_eq_none (by omega)]
      rw [hfin] at k3
      have hn : fifthV f ↔ S.length = f.xs.length := by unfold fifthV; rw [← k3]
      exact ⟨[], rfl, rfl, by simp -dsimp only [WeakTm, WeakBx, CLe, CLeL, push_cast, seval, hn, hll]⟩
end
end Go.Proofs.YtnjglohgjhihjaaDoor.Vcg
end
section
set_option linter.unusedVariables false
set_option linter.unusedSimpArgs false
namespace Go.Proofs.YtnjglohgjhihjaaDoor.Vcg
open Go.RowKit
abbrev G0 : Globs := fun _ => none
abbrev strC (l : List UInt8) : List C := [.str l]
def nstep (s : List (List UInt8) × List UInt8) (b : UInt8) : List (List UInt8) × List UInt8 :=
  if b = 47 then (if s.2 = [] then s.1 else s.1 ++ [s.2], []) else (s.1, s.2 ++ [b])
def nfin (s : List (List UInt8) × List UInt8) : List (List UInt8) := if s.2 = [] then s.1 else s.1 ++ [s.2]
def nst (l : List UInt8) (k : Nat) : List (List UInt8) × List UInt8 := if k ≤ l.length then (l.take k).foldl nstep ([], []) else (nfin (l.foldl nstep ([], [])), [])
def names (l : List UInt8) : List (List UInt8) := nfin (l.foldl nstep ([], []))
theorem nst_zero (l : List UInt8) : nst l 0 = ([], []) := by simp [nst]
theorem nst_succ (l : List UInt8) (k : Nat) (b : UInt8) (h : l[k]? = some b) : nst l (k + 1) = nstep (nst l k) b := by
  have hk : k < l.length := (List.getElem?_eq_some_iff.1 h).1
  unfold nst
  rw [if_pos (by omega), if_pos (by omega), List.take_add_one, h]
  simp
theorem nst_end (l : List UInt8) : nst l (l.length + 1) = (names l, []) := by
  unfold nst names
  rw [if_neg (by omega)]
theorem nst_len (l : List UInt8) : nfin (nst l l.length) = names l := by
  unfold nst names
  rw [if_pos (Nat.le_refl _), List.take_length]
theorem nst_size (l : List UInt8) : ∀ k, k ≤ l.length → (nst l k).1.length + (nst l k).2.length ≤ k
  | 0, _ => by simp [nst_zero]
  | k + 1, h => by
    have hk : k < l.length := by omega
    have ih := nst_size l k (by omega)
    rw [nst_succ l k l[k] (List.getElem?_eq_getElem hk)]
    unfold nstep
    by_cases h47 : l[k] = 47
    · rw [if_pos h47]
      by_cases h2 : (nst l k).2 = []
      · simp [h2]; omega
      · have : 0 < (nst l k).2.length := List.length_pos_iff.2 h2
        simp [h2]; omega
    · rw [if_neg h47]; simp; omega
theorem names_size (l : List UInt8) : (names l).length ≤ l.length := by
  rw [← nst_len]
  have := nst_size l l.length (Nat.le_refl _)
  unfold nfin
  split
  · omega
  · rename_i h
    have : 0 < (nst l l.length).2.length := List.length_pos_iff.2 h
    simp; omega
theorem u8_ne {b c : UInt8} (h : b ≠ c) : ¬ ((b.toNat : Int) = (c.toNat : Int)) := fun e => h (UInt8.toNat_inj.1 (by omega))
theorem slice_one {α : Type} (l : List α) (k : Nat) (b : α) (h : l[k]? = some b) : (l.take (k + 1)).drop k = [b] := by
  have hk : k < l.length := (List.getElem?_eq_some_iff.1 h).1
  rw [List.take_add_one, h, List.drop_append]
  simp [Nat.min_eq_left (by omega : k ≤ l.length)]
set_option maxHeartbeats 1000000 in
theorem names_fun (l : List UInt8) (h : l.length ≤ 100000) : Fun Tryd.prog G0 49 [.str l] (.own 0 9 1 ((names l).map strC)) 1 := by
  refine Fun.of (fun _ => []) (by kernel_rfl) Tryd.func49 rfl rfl (Nat.le_of_ble_eq_true rfl) (by kernel_rfl) ?_; dsimp only [Tryd.f49, List.append_eq, List.cons_append, List.nil_append]
  simp -dsimp only [push_cast, seval]
  refine loop (fun k : Nat => ⟨[(0, .str l), (3, .own 0 9 1 ((nst l k).1.map strC)), (4, .str (nst l k).2), (5, .sc (.int .i64 k))], [], 1, 0⟩) (fun k => k ≤ l.length + 1) (fun k => l.length + 1 - k) 0 (Nat.zero_le _) ?_ ?_
  · refine Weak.mk [.inr (9, 1)] rfl rfl (Nat.le_refl _) rfl ?_ trivial
    simp -dsimp only [WeakTm, WeakBx, CLe, CLeL, push_cast, seval]
    simp [nst_zero]
  · intro k hk
    simp -dsimp only [push_cast, seval]
    by_cases h1 : k ≤ l.length
    · have hs := nst_size l k h1
      by_cases h2 : k < l.length
      · obtain ⟨b, hb⟩ : ∃ b, l[k]? = some b := ⟨l[k], List.getElem?_eq_getElem h2⟩
        have hn := nst_succ l k b hb
        by_cases h3 : b = 47
        · have h3' : (b.toNat : Int) = 47 := by subst h3; rfl
          by_cases h4 : (nst l k).2 = []
          · simp -dsimp only [push_cast, seval, h1, h2, h3', hb, h4]
            and_intros <;> try omega
            refine ⟨k + 1, by omega, by omega, Weak.mk [.inl 0] rfl rfl (Nat.le_refl _) rfl ?_ trivial⟩
            simp -dsimp only [WeakTm, WeakBx, CLe, CLeL, push_cast, seval]
            simp [hn, nstep, h3, h4]
          · simp -dsimp only [push_cast, seval, h1, h2, h3', hb, h4]
            simp only [List.length_map, List.length_cons, List.length_nil]
            and_intros <;> try omega
            refine ⟨k + 1, by omega, by omega, Weak.mk [.inl 0] rfl rfl (Nat.le_refl _) rfl ?_ trivial⟩
            simp -dsimp only [WeakTm, WeakBx, CLe, CLeL, push_cast, seval]
            simp [hn, nstep, h3, h4, strC]
        · have h3' : ¬ ((b.toNat : Int) = 47) := u8_ne h3
          simp -dsimp only [push_cast, seval, h1, h2, h3', hb]
          rw [slice_one l k b hb]
          and_intros <;> try omega
          · simp; omega
          refine ⟨k + 1, by omega, by omega, Weak.mk [.inl 0] rfl rfl (Nat.le_refl _) rfl ?_ trivial⟩
          simp -dsimp only [WeakTm, WeakBx, CLe, CLeL, push_cast, seval]
          simp [hn, nstep, h3]
      · obtain rfl : k = l.length := by omega
        have hl := nst_len l
        have he := nst_end l
        have hz := names_size l
        by_cases h4 : (nst l l.length).2 = []
        · simp -dsimp only [push_cast, seval, h1, h2, h4]
          and_intros <;> try omega
          refine ⟨l.length + 1, by omega, by omega, Weak.mk [.inl 0] rfl rfl (Nat.le_refl _) rfl ?_ trivial⟩
          simp -dsimp only [WeakTm, WeakBx, CLe, CLeL, push_cast, seval]
          simp [he, ← hl, nfin, h4]
        · simp -dsimp only [push_cast, seval, h1, h2, h4]
          simp only [List.length_map, List.length_cons, List.length_nil]
          and_intros <;> try omega
          refine ⟨l.length + 1, by omega, by omega, Weak.mk [.inl 0] rfl rfl (Nat.le_refl _) rfl ?_ trivial⟩
          simp -dsimp only [WeakTm, WeakBx, CLe, CLeL, push_cast, seval]
          simp [he, ← hl, nfin, h4, strC]
    · obtain rfl : k = l.length + 1 := by omega
      have he := nst_end l
      simp -dsimp only [push_cast, seval, h1]
      exact ⟨[.inl 0], rfl, rfl, by simp -dsimp only [WeakTm, WeakBx, CLe, CLeL, push_cast, seval, he]⟩
end Go.Proofs.YtnjglohgjhihjaaDoor.Vcg
end
section
set_option linter.unusedVariables false
set_option linter.unusedSimpArgs false
namespace Go.Proofs.YtnjglohgjhihjaaDoor.Vcg
open Go.RowKit
abbrev strs (xs : List (List UInt8)) : List (List C) := xs.map strC
theorem strs_length (xs : List (List UInt8)) : (strs xs).length = xs.length := List.length_map _
theorem strs_snoc (xs : List (List UInt8)) (x : List UInt8) : strs xs ++ [[.str x]] = strs (xs ++ [x]) := by simp
theorem strs_get? (xs : List (List UInt8)) (k : Nat) : (strs xs)[k]? = (xs[k]?).map strC := List.getElem?_map
theorem strs_drop (xs : List (List UInt8)) (k : Nat) : (strs xs).drop k = strs (xs.drop k) := List.map_drop.symm
theorem strs_take (xs : List (List UInt8)) (k : Nat) : (strs xs).take k = strs (xs.take k) := List.map_take.symm
theorem strs_append (xs ys : List (List UInt8)) : strs xs ++ strs ys = strs (xs ++ ys) := List.map_append.symm
theorem strs_at (xs : List (List UInt8)) (k : Nat) (h : k < xs.length) : (strs xs)[k]? = some [.str (xs[k]'h)] := by rw [strs_get?, List.getElem?_eq_getElem h]; rfl
attribute [push_cast] strs_length strs_snoc strs_drop strs_take strs_append
abbrev boolC (b : Bool) : C := .sc (.bool b)
set_option maxRecDepth 100000 in
set_option maxHeartbeats 1000000 in
theorem same_fun (a b : List (List UInt8)) (ha : a.length ≤ 9223372036854775807) : Fun Tryd.prog G0 24 [.sl 1 (strs a), .sl 1 (strs b)] (boolC (decide (a = b))) 0 := by
  by_cases hl : a.length = b.length
  · refine Fun.of (fun _ => []) (by kernel_rfl) Tryd.func24 rfl rfl (Nat.le_of_ble_eq_true rfl) (by kernel_rfl) ?_; dsimp only [Tryd.f24, List.append_eq, List.cons_append, List.nil_append]
    simp -dsimp only [push_cast, seval, hl]
    refine loop (fun k : Nat => ⟨[(0, .sl 1 (strs a)), (1, .sl 1 (strs b)), (5, .sc (.int .i64 k))], [], 0, 0⟩) (fun k => k ≤ a.length ∧ a.take k = b.take k) (fun k => a.length - k) 0 ⟨Nat.zero_le _, rfl⟩ ?_ ?_
    · exact Weak.mk [] rfl rfl (Nat.le_refl _) rfl (by simp -dsimp only [WeakTm, WeakBx, CLe, CLeL, push_cast, seval]) (by simp -dsimp only [WeakTm, WeakBx, CLe, CLeL, push_cast, seval])
    · intro k hk
      have hk1 := hk.1
      have hk2 := hk.2
      by_cases h : k < a.length
      · have hga := strs_at a k h
        have hgb := strs_at b k (by omega)
        by_cases he : a[k]'h = b[k]'(by omega)
        · simp -dsimp only [push_cast, seval, h, hga, hgb, he]
          refine ⟨by omega, by omega, by omega, k + 1, ⟨by omega, ?_⟩, by omega, Weak.mk [] rfl rfl (Nat.le_refl _) rfl (by simp -dsimp only [WeakTm, WeakBx, CLe, CLeL, push_cast, seval]) (by simp -dsimp only [WeakTm, WeakBx, CLe, CLeL, push_cast, seval])⟩
          rw [List.take_add_one, List.take_add_one, hk2, List.getElem?_eq_getElem h, List.getElem?_eq_getElem (by omega : k < b.length), he]
        · simp -dsimp only [push_cast, seval, h, hga, hgb, he]
          refine ⟨by omega, by omega, [], rfl, rfl, ?_⟩
          simp -dsimp only [WeakTm, WeakBx, CLe, CLeL, push_cast, seval]
          have : a ≠ b := fun e => he (by subst e; rfl)
          simp [this]
      · have hkl : k = a.length := by omega
        simp -dsimp only [push_cast, seval, h]
        refine ⟨[], rfl, rfl, ?_⟩
        simp -dsimp only [WeakTm, WeakBx, CLe, CLeL, push_cast, seval]
        rw [hkl, List.take_length, hl, List.take_length] at hk2
        simp [hk2]
  · have hl' : ¬ ((a.length : Int) = (b.length : Int)) := by omega
    refine Fun.of (fun _ => []) (by kernel_rfl) Tryd.func24 rfl rfl (Nat.le_of_ble_eq_true rfl) (by kernel_rfl) ?_; dsimp only [Tryd.f24, List.append_eq, List.cons_append, List.nil_append]
    simp -dsimp only [push_cast, seval, hl]
    refine ⟨[], rfl, rfl, ?_⟩
    simp -dsimp only [WeakTm, WeakBx, CLe, CLeL, push_cast, seval]
    have : a ≠ b := fun e => hl (by rw [e])
    simp [this]
def few (l : List (List UInt8)) : Bool := (l.take 100).all (fun x => decide (x.length ≤ 300)) && decide (l.length ≤ 40)
theorem few_len {l : List (List UInt8)} (h : few l = true) : l.length ≤ 40 := by simp [few] at h; exact h.2
theorem few_size {l : List (List UInt8)} (h : few l = true) : ∀ x ∈ l, x.length ≤ 300 := by
  have h1 := few_len h
  simp only [few, Bool.and_eq_true, List.all_eq_true, decide_eq_true_eq, List.take_of_length_le (show l.length ≤ 100 by omega)] at h
  exact h.1
set_option maxRecDepth 100000 in
set_option maxHeartbeats 1000000 in
theorem few_fun (l : List (List UInt8)) : Fun Tryd.prog G0 35 [.sl 1 (strs l)] (boolC (few l)) 0 := by
  refine Fun.of (fun _ => []) (by kernel_rfl) Tryd.func35 rfl rfl (Nat.le_of_ble_eq_true rfl) (by kernel_rfl) ?_; dsimp only [Tryd.f35, List.append_eq, List.cons_append, List.nil_append]
  simp -dsimp only [push_cast, seval]
  refine loop (fun k : Nat => ⟨[(0, .sl 1 (strs l)), (3, .sc (.int .i64 k))], [], 0, 0⟩) (fun k => k ≤ l.length ∧ k ≤ 100 ∧ ∀ j (hj : j < l.length), j < k → (l[j]'hj).length ≤ 300) (fun k => l.length - k) 0 ⟨Nat.zero_le _, Nat.zero_le _, fun j _ hj => by omega⟩ ?_ ?_
  · exact Weak.mk [] rfl rfl (Nat.le_refl _) rfl (by simp -dsimp only [WeakTm, WeakBx, CLe, CLeL, push_cast, seval]) (by simp -dsimp only [WeakTm, WeakBx, CLe, CLeL, push_cast, seval])
  · intro k hk
    have hk1 := hk.1
    have hk2 := hk.2.1
    have hk3 := hk.2.2
    have fin : (¬ k < l.length ∨ ¬ k < 100) → few l = decide (l.length ≤ 40) := fun hh => by
      have : (l.take 100).all (fun x => decide (x.length ≤ 300)) = true := List.all_eq_true.2 fun x hx => by
        obtain ⟨j, hj, rfl⟩ := List.getElem_of_mem hx
        rw [List.length_take] at hj
        rw [List.getElem_take]
        have := hk3 j (by omega) (by omega)
        simpa using this
      simp [few, this]
    by_cases h : k < l.length
    · by_cases h2 : k < 100
      · have hg := strs_at l k h
        have h2' : (k : Int) < 100 := by omega
        by_cases h3 : (l[k]'h).length ≤ 300
        · have h3' : ¬ (300 : Int) < ((l[k]'h).length : Int) := by omega
          simp -dsimp only [push_cast, seval, h, h2', hg, h3']
          refine ⟨by omega, by omega, k + 1, ⟨by omega, by omega, fun j hj hjk => ?_⟩, by omega, Weak.mk [] rfl rfl (Nat.le_refl _) rfl (by simp -dsimp only [WeakTm, WeakBx, CLe, CLeL, push_cast, seval]) (by simp -dsimp only [WeakTm, WeakBx, CLe, CLeL, push_cast, seval])⟩
          rcases Nat.lt_or_ge j k with g | g
          · exact hk3 j hj g
          · have : j = k := by omega
            subst this; exact h3
        · have h3' : (300 : Int) < ((l[k]'h).length : Int) := by omega
          simp -dsimp only [push_cast, seval, h, h2', hg, h3']
          refine ⟨by omega, [], rfl, rfl, ?_⟩
          simp -dsimp only [WeakTm, WeakBx, CLe, CLeL, push_cast, seval]
          have : (l.take 100).all (fun x => decide (x.length ≤ 300)) = false := List.all_eq_false.2 ⟨l[k]'h, List.mem_of_getElem? (i := k) (by rw [List.getElem?_take, if_pos h2, List.getElem?_eq_getElem h]), by simpa using h3⟩
          simp [few, this]
      · have h2' : ¬ (k : Int) < 100 := by omega
        have hf := fin (.inr h2)
        simp -dsimp only [push_cast, seval, h, h2']
        refine ⟨[], rfl, rfl, ?_⟩
        simp -dsimp only [WeakTm, WeakBx, CLe, CLeL, push_cast, seval]
        rw [hf, show decide ((l.length : Int) ≤ 40) = decide (l.length ≤ 40) by rw [decide_eq_decide]; omega]
    · have hf := fin (.inl h)
      simp -dsimp only [push_cast, seval, h]
      refine ⟨[], rfl, rfl, ?_⟩
      simp -dsimp only [WeakTm, WeakBx, CLe, CLeL, push_cast, seval]
      rw [hf, show decide ((l.length : Int) ≤ 40) = decide (l.length ≤ 40) by rw [decide_eq_decide]; omega]
end Go.Proofs.YtnjglohgjhihjaaDoor.Vcg
end
section
namespace Go.Proofs
open Go.Shelf
def Tryd.lays156_ren : Go.Shelf.Ren := ⟨fun | 156 => 57 | 165 => 76 | 166 => 77 | 169 => 78 | 240 => 88 | 241 => 89 | 276 => 100 | 277 => 101 | n => n, fun | 31 => 27 | 9 => 9 | 3 => 3 | 4 => 4 | 0 => 0 | 20 => 20 | 72 => 95 | 76 => 99 | 70 => 93 | 37 => 67 | 75 => 98 | 127 => 112 | 164 => 125 | 5 => 5 | 80 => 101 | n => n, fun | n => n⟩
theorem Tryd.lays156 : Go.Proofs.Lays.n156 Tryd.prog Tryd.lays156_ren := {
  mixed := by kernel_rfl
  f156 := Tryd.func57.trans (congrArg some (by kernel_rfl))
  f165 := Tryd.func76.trans (congrArg some (by kernel_rfl))
  f166 := Tryd.func77.trans (congrArg some (by kernel_rfl))
  f169 := Tryd.func78.trans (congrArg some (by kernel_rfl))
  f240 := Tryd.func88.trans (congrArg some (by kernel_rfl))
  f241 := Tryd.func89.trans (congrArg some (by kernel_rfl))
  f276 := Tryd.func100.trans (congrArg some (by kernel_rfl))
  f277 := Tryd.func101.trans (congrArg some (by kernel_rfl))
  t0 := Tryd.underlying0
  a0 := Tryd.isAgg0
  z0 := Tryd.sizeOf0
  v0 := Tryd.zeroValue0
  t3 := Tryd.underlying3
  a3 := Tryd.isAgg3
  z3 := Tryd.sizeOf3
  v3 := Tryd.zeroValue3
  t4 := Tryd.underlying4
  a4 := Tryd.isAgg4
  z4 := Tryd.sizeOf4
  v4 := Tryd.zeroValue4
  t9 := Tryd.underlying9
  a9 := Tryd.isAgg9
  z9 := Tryd.sizeOf9
  v9 := Tryd.zeroValue9
  t20 := Tryd.underlying20
  a20 := Tryd.isAgg20
  z20 := Tryd.sizeOf20
  v20 := Tryd.zeroValue20
  t31 := Tryd.underlying27
  a31 := Tryd.isAgg27
  z31 := Tryd.sizeOf27
  v31 := Tryd.zeroValue27
  t37 := Tryd.underlying67
  a37 := Tryd.isAgg67
  z37 := Tryd.sizeOf67
  v37 := Tryd.zeroValue67
  t70 := Tryd.underlying93
  a70 := Tryd.isAgg93
  z70 := Tryd.sizeOf93
  v70 := Tryd.zeroValue93
  t72 := Tryd.underlying95
  a72 := Tryd.isAgg95
  z72 := Tryd.sizeOf95
  v72 := Tryd.zeroValue95
  t75 := Tryd.underlying98
  a75 := Tryd.isAgg98
  z75 := Tryd.sizeOf98
  v75 := Tryd.zeroValue98
  t76 := Tryd.underlying99
  a76 := Tryd.isAgg99
  z76 := Tryd.sizeOf99
  v76 := Tryd.zeroValue99
  t127 := Tryd.underlying112
  a127 := Tryd.isAgg112
  z127 := Tryd.sizeOf112
  v127 := Tryd.zeroValue112
  t164 := Tryd.underlying125
  a164 := Tryd.isAgg125
  z164 := Tryd.sizeOf125
  v164 := Tryd.zeroValue125 }
theorem Tryd.Builder_Extra_156 : Builder.Extra Tryd.prog Tryd.lays156_ren := {
  sizeBuilder := by kernel_rfl
  liesBuilder := by kernel_rfl
  t5 := Tryd.underlying5
  a5 := Tryd.isAgg5
  z5 := Tryd.sizeOf5
  v5 := Tryd.zeroValue5
  infoByte := by kernel_rfl
  cellsByte := by kernel_rfl
  sizeByte := by kernel_rfl
  neB5 := by decide }
open Go.RowKit in
theorem Tryd.strings_Join_none (a : Option Addr) (c : Nat) (sep : ByteArray) (w : World) :
    Calls Tryd.prog 57 #[.slice a 0 c, .string sep] w fun e w' => e = .returned (.string ⟨#[]⟩) ∧ w' = w := Any.strings_Join_none Tryd.lays156 Tryd.Builder_Extra_156 a c sep w
open Go.RowKit in
theorem Tryd.strings_Join (bk o c : Nat) (xs : List ByteArray) (sep : ByteArray) (w : World) (hcells : ∀ (j : Nat) x, xs[j]? = some x → w.cell? ⟨bk, o + j, none⟩ = some (.string x)) (hbk : bk < w.heap.size) (hN : xs.length ≤ 140737488355328) (hcap : xs.length ≤ c) (hlen : (Lib.join (xs.map (·.data.toList)) sep.data.toList).length ≤ 140737488355328) :
    Calls Tryd.prog 57 #[.slice (some ⟨bk, o, none⟩) xs.length c, .string sep] w fun e w' => e = .returned (.string ⟨(Lib.join (xs.map (·.data.toList)) sep.data.toList).toArray⟩) ∧ Below w.heap.size w w' := Any.strings_Join Tryd.lays156 Tryd.Builder_Extra_156 bk o c xs sep w hcells hbk hN hcap hlen
def Tryd.lays119_ren : Go.Shelf.Ren := ⟨fun | 119 => 103 | n => n, fun | 21 => 21 | 4 => 4 | n => n, fun | n => n⟩
theorem Tryd.lays119 : Go.Proofs.Lays.n119 Tryd.prog Tryd.lays119_ren := {
  mixed := by kernel_rfl
  f119 := Tryd.func103.trans (congrArg some (by kernel_rfl))
  t4 := Tryd.underlying4
  a4 := Tryd.isAgg4
  z4 := Tryd.sizeOf4
  v4 := Tryd.zeroValue4
  t21 := Tryd.underlying21
  a21 := Tryd.isAgg21
  z21 := Tryd.sizeOf21
  v21 := Tryd.zeroValue21 }
theorem Tryd.utf8_ValidRune (r : Int) (w : World) :
    Calls Tryd.prog 103 #[.int .i32 r] w fun e w' => e = .returned (.bool (Lib.validRune r)) ∧ w' = w := Any.utf8_ValidRune Tryd.lays119 r w
def Tryd.lays137_ren : Go.Shelf.Ren := ⟨fun | 137 => 102 | 217 => 109 | 266 => 111 | n => n, fun | 9 => 9 | 5 => 5 | 3 => 3 | n => n, fun | n => n⟩
theorem Tryd.lays137 : Go.Proofs.Lays.n137 Tryd.prog Tryd.lays137_ren := {
  mixed := by kernel_rfl
  f137 := Tryd.func102.trans (congrArg some (by kernel_rfl))
  f217 := Tryd.func109.trans (congrArg some (by kernel_rfl))
  f266 := Tryd.func111.trans (congrArg some (by kernel_rfl))
  t3 := Tryd.underlying3
  a3 := Tryd.isAgg3
  z3 := Tryd.sizeOf3
  v3 := Tryd.zeroValue3
  t5 := Tryd.underlying5
  a5 := Tryd.isAgg5
  z5 := Tryd.sizeOf5
  v5 := Tryd.zeroValue5
  t9 := Tryd.underlying9
  a9 := Tryd.isAgg9
  z9 := Tryd.sizeOf9
  v9 := Tryd.zeroValue9 }
open Go.RowKit in
theorem Tryd.strings_IndexByte (s : ByteArray) (c : Int) (w : World) :
    Calls Tryd.prog 102 #[.string s, .int .u8 c] w fun e w' => e = .returned (.int .i64 (Lib.indexByte s.data.toList c.toNat.toUInt8)) ∧ w' = w := Any.strings_IndexByte Tryd.lays137 s c w
def Tryd.lays143_ren : Go.Shelf.Ren := ⟨fun | 143 => 99 | 219 => 108 | 217 => 109 | 225 => 105 | 224 => 104 | 267 => 110 | 266 => 111 | 314 => 112 | n => n, fun | 9 => 9 | 3 => 3 | 4 => 4 | 5 => 5 | 46 => 131 | 146 => 138 | 51 => 137 | n => n, fun | 1 => 0 | n => n⟩
theorem Tryd.lays143 : Go.Proofs.Lays.n143 Tryd.prog Tryd.lays143_ren := {
  mixed := by kernel_rfl
  f143 := Tryd.func99.trans (congrArg some (by kernel_rfl))
  f217 := Tryd.func109.trans (congrArg some (by kernel_rfl))
  f219 := Tryd.func108.trans (congrArg some (by kernel_rfl))
  f224 := Tryd.func104.trans (congrArg some (by kernel_rfl))
  f225 := Tryd.func105.trans (congrArg some (by kernel_rfl))
  f266 := Tryd.func111.trans (congrArg some (by kernel_rfl))
  f267 := Tryd.func110.trans (congrArg some (by kernel_rfl))
  f314 := Tryd.func112.trans (congrArg some (by kernel_rfl))
  t3 := Tryd.underlying3
  a3 := Tryd.isAgg3
  z3 := Tryd.sizeOf3
  v3 := Tryd.zeroValue3
  t4 := Tryd.underlying4
  a4 := Tryd.isAgg4
  z4 := Tryd.sizeOf4
  v4 := Tryd.zeroValue4
  t5 := Tryd.underlying5
  a5 := Tryd.isAgg5
  z5 := Tryd.sizeOf5
  v5 := Tryd.zeroValue5
  t9 := Tryd.underlying9
  a9 := Tryd.isAgg9
  z9 := Tryd.sizeOf9
  v9 := Tryd.zeroValue9
  t46 := Tryd.underlying131
  a46 := Tryd.isAgg131
  z46 := Tryd.sizeOf131
  v46 := Tryd.zeroValue131
  t51 := Tryd.underlying137
  a51 := Tryd.isAgg137
  z51 := Tryd.sizeOf137
  v51 := Tryd.zeroValue137
  t146 := Tryd.underlying138
  a146 := Tryd.isAgg138
  z146 := Tryd.sizeOf138
  v146 := Tryd.zeroValue138
  g1 := by kernel_rfl }
open Go.RowKit Go.Lib in
theorem Tryd.strings_Index_one (s : ByteArray) (c : UInt8) (w : World) :
    Calls Tryd.prog 99 #[.string s, .string ⟨#[c]⟩] w fun e w' => e = .returned (.int .i64 (Lib.indexByte s.data.toList c)) ∧ w' = w := Any.strings_Index_one Tryd.lays143 s c w
def Tryd.lays99_ren : Go.Shelf.Ren := ⟨fun | 99 => 55 | 206 => 74 | n => n, fun | 9 => 9 | 4 => 4 | 3 => 3 | n => n, fun | n => n⟩
theorem Tryd.lays99 : Go.Proofs.Lays.n99 Tryd.prog Tryd.lays99_ren := {
  mixed := by kernel_rfl
  f99 := Tryd.func55.trans (congrArg some (by kernel_rfl))
  f206 := Tryd.func74.trans (congrArg some (by kernel_rfl))
  t3 := Tryd.underlying3
  a3 := Tryd.isAgg3
  z3 := Tryd.sizeOf3
  v3 := Tryd.zeroValue3
  t4 := Tryd.underlying4
  a4 := Tryd.isAgg4
  z4 := Tryd.sizeOf4
  v4 := Tryd.zeroValue4
  t9 := Tryd.underlying9
  a9 := Tryd.isAgg9
  z9 := Tryd.sizeOf9
  v9 := Tryd.zeroValue9 }
open Go.RowKit Go.Lib in
theorem Tryd.strings_HasPrefix (s p : ByteArray) (w : World) :
    Calls Tryd.prog 55 #[.string s, .string p] w fun e w' => e = .returned (.bool (Lib.hasPrefix s.data.toList p.data.toList)) ∧ w' = w := Any.strings_HasPrefix Tryd.lays99 s p w
def Tryd.lays100_ren : Go.Shelf.Ren := ⟨fun | 100 => 56 | 207 => 75 | n => n, fun | 9 => 9 | 4 => 4 | 3 => 3 | n => n, fun | n => n⟩
theorem Tryd.lays100 : Go.Proofs.Lays.n100 Tryd.prog Tryd.lays100_ren := {
  mixed := by kernel_rfl
  f100 := Tryd.func56.trans (congrArg some (by kernel_rfl))
  f207 := Tryd.func75.trans (congrArg some (by kernel_rfl))
  t3 := Tryd.underlying3
  a3 := Tryd.isAgg3
  z3 := Tryd.sizeOf3
  v3 := Tryd.zeroValue3
  t4 := Tryd.underlying4
  a4 := Tryd.isAgg4
  z4 := Tryd.sizeOf4
  v4 := Tryd.zeroValue4
  t9 := Tryd.underlying9
  a9 := Tryd.isAgg9
  z9 := Tryd.sizeOf9
  v9 := Tryd.zeroValue9 }
open Go.RowKit Go.Lib in
theorem Tryd.strings_HasSuffix (s p : ByteArray) (w : World) (hs : s.size ≤ 9223372036854775807) :
    Calls Tryd.prog 56 #[.string s, .string p] w fun e w' => e = .returned (.bool (Lib.hasSuffix s.data.toList p.data.toList)) ∧ w' = w := Any.strings_HasSuffix Tryd.lays100 s p w hs
def Tryd.lays152_ren : Go.Shelf.Ren := ⟨fun | 152 => 90 | 137 => 102 | 119 => 103 | 224 => 104 | 225 => 105 | 217 => 109 | 266 => 111 | n => n, fun | 9 => 9 | 21 => 21 | 3 => 3 | 4 => 4 | 5 => 5 | 0 => 0 | 46 => 131 | n => n, fun | n => n⟩
theorem Tryd.lays152 : Go.Proofs.Lays.n152 Tryd.prog Tryd.lays152_ren := {
  mixed := by kernel_rfl
  f119 := Tryd.func103.trans (congrArg some (by kernel_rfl))
  f137 := Tryd.func102.trans (congrArg some (by kernel_rfl))
  f152 := Tryd.func90.trans (congrArg some (by kernel_rfl))
  f217 := Tryd.func109.trans (congrArg some (by kernel_rfl))
  f224 := Tryd.func104.trans (congrArg some (by kernel_rfl))
  f225 := Tryd.func105.trans (congrArg some (by kernel_rfl))
  f266 := Tryd.func111.trans (congrArg some (by kernel_rfl))
  t0 := Tryd.underlying0
  a0 := Tryd.isAgg0
  z0 := Tryd.sizeOf0
  v0 := Tryd.zeroValue0
  t3 := Tryd.underlying3
  a3 := Tryd.isAgg3
  z3 := Tryd.sizeOf3
  v3 := Tryd.zeroValue3
  t4 := Tryd.underlying4
  a4 := Tryd.isAgg4
  z4 := Tryd.sizeOf4
  v4 := Tryd.zeroValue4
  t5 := Tryd.underlying5
  a5 := Tryd.isAgg5
  z5 := Tryd.sizeOf5
  v5 := Tryd.zeroValue5
  t9 := Tryd.underlying9
  a9 := Tryd.isAgg9
  z9 := Tryd.sizeOf9
  v9 := Tryd.zeroValue9
  t21 := Tryd.underlying21
  a21 := Tryd.isAgg21
  z21 := Tryd.sizeOf21
  v21 := Tryd.zeroValue21
  t46 := Tryd.underlying131
  a46 := Tryd.isAgg131
  z46 := Tryd.sizeOf131
  v46 := Tryd.zeroValue131 }
open Go.RowKit Go.Lib in
theorem Tryd.strings_IndexRune_ascii (s : ByteArray) (r : Int) (w : World) (h0 : 0 ≤ r) (h1 : r < 128) :
    Calls Tryd.prog 90 #[.string s, .int .i32 r] w fun e w' => e = .returned (.int .i64 (Lib.indexByte s.data.toList r.toNat.toUInt8)) ∧ w' = w := Any.strings_IndexRune_ascii Tryd.lays152 s r w h0 h1
def Tryd.lays226_ren : Go.Shelf.Ren := ⟨fun | 226 => 91 | n => n, fun | 3 => 3 | 4 => 4 | n => n, fun | n => n⟩
theorem Tryd.lays226 : Go.Proofs.Lays.n226 Tryd.prog Tryd.lays226_ren := {
  mixed := by kernel_rfl
  f226 := Tryd.func91.trans (congrArg some (by kernel_rfl))
  t3 := Tryd.underlying3
  a3 := Tryd.isAgg3
  z3 := Tryd.sizeOf3
  v3 := Tryd.zeroValue3
  t4 := Tryd.underlying4
  a4 := Tryd.isAgg4
  z4 := Tryd.sizeOf4
  v4 := Tryd.zeroValue4 }
open Go.RowKit Go.Lib in
theorem Tryd.strings_shouldUseASCIISet (n : Int) (w : World) :
    Calls Tryd.prog 91 #[.int .i64 n] w fun e w' => e = .returned (.bool (decide (8 < n))) ∧ w' = w := Any.strings_shouldUseASCIISet Tryd.lays226 n w
def Tryd.lays153_ren : Go.Shelf.Ren := ⟨fun | 153 => 79 | 152 => 90 | 226 => 91 | 227 => 92 | 228 => 93 | 137 => 102 | 119 => 103 | 224 => 104 | 225 => 105 | 217 => 109 | 266 => 111 | n => n, fun | 9 => 9 | 3 => 3 | 4 => 4 | 5 => 5 | 21 => 21 | 117 => 117 | 116 => 116 | 0 => 0 | 46 => 131 | 124 => 132 | n => n, fun | n => n⟩
theorem Tryd.lays153 : Go.Proofs.Lays.n153 Tryd.prog Tryd.lays153_ren := {
  mixed := by kernel_rfl
  f119 := Tryd.func103.trans (congrArg some (by kernel_rfl))
  f137 := Tryd.func102.trans (congrArg some (by kernel_rfl))
  f152 := Tryd.func90.trans (congrArg some (by kernel_rfl))
  f153 := Tryd.func79.trans (congrArg some (by kernel_rfl))
  f217 := Tryd.func109.trans (congrArg some (by kernel_rfl))
  f224 := Tryd.func104.trans (congrArg some (by kernel_rfl))
  f225 := Tryd.func105.trans (congrArg some (by kernel_rfl))
  f226 := Tryd.func91.trans (congrArg some (by kernel_rfl))
  f227 := Tryd.func92.trans (congrArg some (by kernel_rfl))
  f228 := Tryd.func93.trans (congrArg some (by kernel_rfl))
  f266 := Tryd.func111.trans (congrArg some (by kernel_rfl))
  t0 := Tryd.underlying0
  a0 := Tryd.isAgg0
  z0 := Tryd.sizeOf0
  v0 := Tryd.zeroValue0
  t3 := Tryd.underlying3
  a3 := Tryd.isAgg3
  z3 := Tryd.sizeOf3
  v3 := Tryd.zeroValue3
  t4 := Tryd.underlying4
  a4 := Tryd.isAgg4
  z4 := Tryd.sizeOf4
  v4 := Tryd.zeroValue4
  t5 := Tryd.underlying5
  a5 := Tryd.isAgg5
  z5 := Tryd.sizeOf5
  v5 := Tryd.zeroValue5
  t9 := Tryd.underlying9
  a9 := Tryd.isAgg9
  z9 := Tryd.sizeOf9
  v9 := Tryd.zeroValue9
  t21 := Tryd.underlying21
  a21 := Tryd.isAgg21
  z21 := Tryd.sizeOf21
  v21 := Tryd.zeroValue21
  t46 := Tryd.underlying131
  a46 := Tryd.isAgg131
  z46 := Tryd.sizeOf131
  v46 := Tryd.zeroValue131
  t116 := Tryd.underlying116
  a116 := Tryd.isAgg116
  z116 := Tryd.sizeOf116
  t117 := Tryd.underlying117
  a117 := Tryd.isAgg117
  z117 := Tryd.sizeOf117
  v117 := Tryd.zeroValue117
  t124 := Tryd.underlying132
  a124 := Tryd.isAgg132
  z124 := Tryd.sizeOf132
  v124 := Tryd.zeroValue132 }
open Go.RowKit Go.Lib in
theorem Tryd.strings_IndexAny_long (hv116 : ∀ w, (zeroValue 116).run Tryd.prog w = .ok (.agg (Array.replicate 256 (.bool false))) w) (s chars : ByteArray) (w : World) (h2 : 2 ≤ chars.size) (h8 : 8 < s.size) (hs : s.size < 4294967281) (hcs : chars.size < 4294967281) (hascii : ∀ (j : Nat) b, chars.data.toList[j]? = some b → b.toNat < 128) :
    Calls Tryd.prog 79 #[.string s, .string chars] w fun e w' => e = .returned (.int .i64 (Lib.indexAny s.data.toList chars.data.toList)) ∧ w' = ((w.alloc (.cells (Lib.setCells chars.data.toList) 116)).alloc (.cells (Lib.setCells chars.data.toList) 116)) := Any.strings_IndexAny_long Tryd.lays153 hv116 (by kernel_rfl) s chars w h2 h8 hs hcs hascii
end Go.Proofs
end
section
set_option linter.unusedVariables false
set_option linter.unusedSimpArgs false
namespace Go.Proofs.YtnjglohgjhihjaaDoor.Vcg
open Go.RowKit
/-- a contract of another make, as one of these -/
theorem Fun.wrap {P : Program} {G : Globs} {f : FuncId} {args : List C} {r : C} (he : entersB P f = true)
    (h : ∀ (R : Env) (vs : List Value), RepL R noLoc args vs → Calls P f vs.toArray R.w fun e w' => ∃ v, e = .returned v ∧ Below R.w.heap.size R.w w' ∧ ∀ R', Ext R R' → Rep R' noLoc r v) : Fun P G f args r 0 := by
  refine ⟨he, fun R vs hg ha => (h R vs ha).mono ?_⟩
  rintro e w' ⟨v, rfl, hb, hr⟩
  have st : PStep 0 0 R noLoc ⟨w', fun b o => b < R.w.heap.size ∧ R.M b o, R.F⟩ noLoc := PStep.mem (nx := 0) hb
  exact ⟨v, _, noLoc, rfl, rfl, st, hr _ st.ext⟩
/-- parts between slashes -/
def splS : List UInt8 → List (List UInt8)
  | [] => [[]]
  | b :: l => if b = 47 then [] :: splS l else match splS l with
    | [] => [[b]]
    | x :: r => (b :: x) :: r
theorem spl_ne (l : List UInt8) : splS l ≠ [] := by
  cases l with
  | nil => simp [splS]
  | cons b l =>
    unfold splS
    split
    · simp
    · split <;> simp
theorem spl_none : ∀ l : List UInt8, Lib.indexByte l 47 < 0 → splS l = [l]
  | [], _ => rfl
  | b :: l, h => by
    unfold Lib.indexByte at h
    by_cases hb : b = 47
    · subst hb; simp at h
    · have hb' : (b == 47) = false := by simpa using hb
      rw [hb'] at h
      simp only [Bool.false_eq_true, if_false] at h
      have hl : Lib.indexByte l 47 < 0 := by
        split at h
        · rename_i g; have := beq_iff_eq.1 g; omega
        · omega
      unfold splS
      rw [if_neg hb, spl_none l hl]
theorem index_ge : ∀ l : List UInt8, -1 ≤ Lib.indexByte l 47
  | [] => Int.le_refl _
  | b :: l => by
    have := index_ge l
    unfold Lib.indexByte
    split
    · decide
    · split
      · decide
      · omega
theorem spl_some : ∀ (l : List UInt8) (i : Nat), Lib.indexByte l 47 = (i : Int) → i < l.length ∧ splS l = l.take i :: splS (l.drop (i + 1))
  | [], i, h => by
    have h : (-1 : Int) = (i : Int) := h
    omega
  | b :: l, i, h => by
    unfold Lib.indexByte at h
    by_cases hb : b = 47
    · subst hb
      simp at h
      obtain rfl : i = 0 := by omega
      refine ⟨by simp, ?_⟩
      conv => lhs; unfold splS
      simp
    · have hb' : (b == 47) = false := by simpa using hb
      rw [hb'] at h
      simp only [Bool.false_eq_true, if_false] at h
      split at h
      · omega
      · rename_i g
        have g' : Lib.indexByte l 47 ≠ -1 := by simpa using g
        have hg := index_ge l
        obtain ⟨j, rfl⟩ : ∃ j, i = j + 1 := ⟨i - 1, by omega⟩
        have hj : Lib.indexByte l 47 = (j : Int) := by omega
        obtain ⟨h1, h2⟩ := spl_some l j hj
        refine ⟨by simp; omega, ?_⟩
        conv => lhs; unfold splS
        rw [if_neg hb, h2]
        simp
theorem spl_length (l : List UInt8) : (splS l).length ≤ l.length + 1 := by
  induction l with
  | nil => simp [splS]
  | cons b l ih =>
    unfold splS
    split
    · simp; omega
    · split
      · simp
      · rename_i x r h
        rw [h] at ih
        simp at ih ⊢; omega
theorem nfold_app : ∀ (l : List UInt8) (a : List (List UInt8)) (cur : List UInt8), nfin (l.foldl nstep (a, cur)) = a ++ (match splS l with | [] => [] | x :: r => (cur ++ x) :: r).filter (fun x => !decide (x = []))
  | [], a, cur => by
    simp only [List.foldl_nil, nfin, splS]
    by_cases h : cur = [] <;> simp [h]
  | b :: l, a, cur => by
    simp only [List.foldl_cons]
    by_cases hb : b = 47
    · subst hb
      have hn : nstep (a, cur) 47 = (if cur = [] then a else a ++ [cur], []) := by simp [nstep]
      rw [hn, nfold_app l]
      conv => rhs; unfold splS
      simp only [if_true]
      have hne := spl_ne l
      cases hs : splS l with
      | nil => exact absurd hs hne
      | cons x r => by_cases h : cur = [] <;> simp [h]
    · have hn : nstep (a, cur) b = (a, cur ++ [b]) := by simp [nstep, hb]
      rw [hn, nfold_app l]
      conv => rhs; unfold splS
      rw [if_neg hb]
      have hne := spl_ne l
      cases hs : splS l with
      | nil => exact absurd hs hne
      | cons x r => simp
theorem names_spl (l : List UInt8) : names l = (splS l).filter (fun x => !decide (x = [])) := by
  unfold names
  rw [nfold_app]
  cases hs : splS l with
  | nil => rfl
  | cons x r => simp
theorem index_fun (l : List UInt8) : Fun Tryd.prog G0 99 [.str l, .str [47]] (.sc (.int .i64 (Lib.indexByte l 47))) 0 := by
  refine Fun.wrap (by kernel_rfl) fun R vs h => ?_
  obtain ⟨v1, us1, rfl, h1, h⟩ := repL_cons.1 h
  obtain ⟨v2, us2, rfl, h2, h⟩ := repL_cons.1 h
  rw [repL_nil] at h
  subst h
  rw [rep_str] at h1 h2
  subst h1 h2
  refine (Tryd.strings_Index_one ⟨l.toArray⟩ 47 R.w).mono ?_
  rintro e w' ⟨rfl, rfl⟩
  exact ⟨_, rfl, Below.refl _ _, fun R' _ => rep_sc.2 (by simp)⟩
set_option maxRecDepth 100000 in
set_option maxHeartbeats 1000000 in
theorem splitSeq1_iter (s : List UInt8) (hs : s.length ≤ 1000000) : Iter Tryd.prog G0 97 [] [.ptr 1 0, .ptr 0 0, .ptr 2 0] [[.str s], [.str [47]], [.sc (.int .i64 0)]] (strs (splS s)) := by
  refine Iter.of (fun _ => []) (by kernel_rfl) Tryd.func97 rfl rfl (Nat.le_of_ble_eq_true rfl) (by kernel_rfl) ?_; dsimp only [Tryd.f97, List.append_eq, List.cons_append, List.nil_append]
  intro l sf
  simp -dsimp only [push_cast, seval]
  refine loop (fun x : List UInt8 × Nat => ⟨[(0, .sc (.func (.yield l) #[] #[])), (1, .ptr 1 0), (2, .ptr 0 0), (3, .ptr 2 0)], [[.str x.1], [.str [47]], [.sc (.int .i64 0)]], 0, x.2⟩)
    (fun x => x.1.length ≤ 1000000 ∧ (∃ done, splS s = done ++ splS x.1 ∧ done.length = x.2) ∧ ∀ j, j < x.2 → sf j = false) (fun x => x.1.length) (s, 0) ⟨hs, ⟨[], rfl, rfl⟩, fun j hj => by omega⟩ ?_ ?_
  · refine Weak.mk [] rfl rfl (Nat.zero_le _) rfl ?_ ?_ <;> simp -dsimp only [WeakTm, WeakBx, CLe, CLeL, push_cast, seval] <;> omega
  · rintro ⟨r, k⟩ hx
    simp only at hx ⊢
    have hr := hx.1
    have hsf := hx.2.2
    obtain ⟨done, hd, hdl⟩ := hx.2.1
    clear hx
    simp -dsimp only [push_cast, seval]
    refine call (index_fun r) ?_
    simp -dsimp only [push_cast, seval]
    by_cases hi : Lib.indexByte r 47 < 0
    · simp -dsimp only [push_cast, seval, hi]
      have hk : (strs (splS s))[k]? = some [.str r] := by
        rw [hd, spl_none r hi]; simp [← hdl]
      rw [hk]
      simp -dsimp only [push_cast, seval]
      refine ⟨by simp -dsimp only [WeakTm, WeakBx, CLe, CLeL, push_cast, seval], hsf, ?_⟩
      cases hk2 : sf k with
      | true => exact .inr ⟨Nat.succ_pos k, hk2⟩
      | false =>
        refine .inl ⟨?_, fun j (hj : j < k + 1) => ?_⟩
        · rw [hd, spl_none r hi]; simp [hdl]
        · rcases Nat.lt_or_ge j k with g | g
          · exact hsf j g
          · rw [show j = k by omega]; exact hk2
    · have hg := index_ge r
      obtain ⟨i, hii⟩ : ∃ i : Nat, Lib.indexByte r 47 = (i : Int) := ⟨(Lib.indexByte r 47).toNat, by omega⟩
      obtain ⟨hir, hsp⟩ := spl_some r i hii
      have hk : (strs (splS s))[k]? = some [.str (r.take i)] := by
        rw [hd, hsp]; simp [← hdl]
      rw [hii] at hi ⊢
      simp -dsimp only [push_cast, seval, hi]
      rw [hk]
      simp -dsimp only [push_cast, seval]
      refine ⟨by omega, by omega, by simp -dsimp only [WeakTm, WeakBx, CLe, CLeL, push_cast, seval], hsf, br (fun hk2 => ?_) (fun hk2 => ?_)⟩
      · simp -dsimp only [push_cast, seval]
        exact .inr ⟨Nat.succ_pos k, hk2⟩
      · simp -dsimp only [push_cast, seval]
        refine ⟨by omega, by omega, (r.drop (i + 1), k + 1), ⟨by simp; omega, ⟨done ++ [r.take i], by rw [hd, hsp]; simp, by simp [hdl]⟩, fun j (hj : j < k + 1) => ?_⟩, by simp; omega, Weak.mk [] rfl rfl (Nat.zero_le _) rfl ?_ ?_⟩
        · rcases Nat.lt_or_ge j k with g | g
          · exact hsf j g
          · rw [show j = k by omega]; exact hk2
        · simp -dsimp only [WeakTm, WeakBx, CLe, CLeL, push_cast, seval]
        · simp -dsimp only [WeakTm, WeakBx, CLe, CLeL, push_cast, seval]
/-- strings.SplitSeq at a slash: a function that hands out the parts -/
theorem splitSeq_fun (s : List UInt8) : FunB Tryd.prog G0 87 [.str s, .str [47], .sc (.int .i64 0)] [] 0 (.clo (.func 97) [] [.ptr 1 0, .ptr 0 0, .ptr 2 0]) [[.str s], [.str [47]], [.sc (.int .i64 0)]] 0 := by
  refine FunB.of (fun _ => []) (by kernel_rfl) Tryd.func87 rfl rfl (Nat.le_of_ble_eq_true rfl) (by kernel_rfl) (Nat.le_of_ble_eq_true rfl) ?_; dsimp only [Tryd.f87, List.append_eq, List.cons_append, List.nil_append]
  simp -dsimp only [push_cast, seval]
  exact ⟨[], rfl, rfl, by simp -dsimp only [WeakTm, WeakBx, CLe, CLeL, push_cast, seval], by simp -dsimp only [WeakTm, WeakBx, CLe, CLeL, push_cast, seval]⟩
theorem SplitSeq_fun (s : List UInt8) : FunB Tryd.prog G0 73 [.str s, .str [47]] [] 0 (.clo (.func 97) [] [.ptr 1 0, .ptr 0 0, .ptr 2 0]) [[.str s], [.str [47]], [.sc (.int .i64 0)]] 0 := by
  refine FunB.of (fun _ => []) (by kernel_rfl) Tryd.func73 rfl rfl (Nat.le_of_ble_eq_true rfl) (by kernel_rfl) (Nat.le_of_ble_eq_true rfl) ?_; dsimp only [Tryd.f73, List.append_eq, List.cons_append, List.nil_append]
  simp -dsimp only [push_cast, seval]
  refine callB [] [] (splitSeq_fun s) rfl (by simp) (by simp) (fun i hi => by cases hi) (by simp -dsimp only [push_cast, seval]) rfl ?_
  simp -dsimp only [push_cast, seval]
  exact ⟨[], rfl, rfl, by simp -dsimp only [WeakTm, WeakBx, CLe, CLeL, push_cast, seval], by simp -dsimp only [WeakTm, WeakBx, CLe, CLeL, push_cast, seval]⟩
end Go.Proofs.YtnjglohgjhihjaaDoor.Vcg
end
section
set_option linter.unusedVariables false
set_option linter.unusedSimpArgs false
namespace Go.Proofs.YtnjglohgjhihjaaDoor.Vcg
open Go.RowKit
abbrev full (x : List UInt8) : Bool := !decide (x = [])
/-- how many of the first k are no empty ones -/
def cnt (xs : List (List UInt8)) (k : Nat) : Nat := ((xs.take k).filter full).length
theorem cnt_succ (xs : List (List UInt8)) (k : Nat) (x : List UInt8) (h : xs[k]? = some x) : cnt xs (k + 1) = if x = [] then cnt xs k else cnt xs k + 1 := by
  unfold cnt
  rw [List.take_add_one, h]
  by_cases hx : x = [] <;> simp [hx]
theorem cnt_get (xs : List (List UInt8)) (k : Nat) (x : List UInt8) (h : xs[k]? = some x) (hx : x ≠ []) : (xs.filter full)[cnt xs k]? = some x := by
  have hk : k < xs.length := (List.getElem?_eq_some_iff.1 h).1
  have e : xs = xs.take k ++ x :: xs.drop (k + 1) := by
    have := List.take_append_drop k xs
    rw [List.drop_eq_getElem_cons hk] at this
    rw [List.getElem?_eq_getElem hk] at h
    cases h; exact this.symm
  have e2 : xs.filter full = (xs.take k).filter full ++ x :: (xs.drop (k + 1)).filter full := by
    conv => lhs; rw [e]
    rw [List.filter_append, List.filter_cons]
    simp [hx]
  rw [e2]
  unfold cnt
  simp
theorem cnt_all (xs : List (List UInt8)) : cnt xs xs.length = (xs.filter full).length := by unfold cnt; rw [List.take_length]
/-- what has been handed out was not the last -/
theorem cnt_before {xs : List (List UInt8)} {sf : Nat → Bool} : ∀ k, k ≤ xs.length → (∀ j, j < k → (full (xs.getD j []) && sf (cnt xs j)) = false) → ∀ j, j < cnt xs k → sf j = false
  | 0, _, _, j, hj => by simp [cnt] at hj
  | k + 1, hk, h, j, hj => by
    have ih := cnt_before k (by omega) fun i hi => h i (by omega)
    have hx : xs[k]? = some (xs.getD k []) := by rw [List.getD_eq_getElem?_getD, List.getElem?_eq_getElem (by omega)]; rfl
    rw [cnt_succ xs k _ hx] at hj
    by_cases he : xs.getD k [] = []
    · rw [if_pos he] at hj; exact ih j hj
    · rw [if_neg he] at hj
      rcases Nat.lt_or_ge j (cnt xs k) with g | g
      · exact ih j g
      · have h2 := h k (by omega)
        have h3 : full (xs.getD k []) = true := by simp only [full, Bool.not_eq_true', decide_eq_false_iff_not]; exact he
        rw [h3, Bool.true_and] at h2
        rw [show j = cnt xs k by omega]; exact h2
theorem strs_get {xs : List (List UInt8)} {k : Nat} {it : List C} (h : (strs xs)[k]? = some it) : ∃ x, xs[k]? = some x ∧ it = [.str x] := by
  rw [List.getElem?_map] at h
  cases hq : xs[k]? with
  | none => rw [hq] at h; cases h
  | some x => rw [hq] at h; cases h; exact ⟨x, rfl, rfl⟩
set_option maxRecDepth 100000 in
set_option maxHeartbeats 1000000 in
theorem names1_iter (p : List UInt8) (hs : p.length ≤ 1000000) : Iter Tryd.prog G0 72 [] [.row [.str p]] [] (strs (names p)) := by
  rw [names_spl]
  refine Iter.of (fun _ => []) (by kernel_rfl) Tryd.func72 rfl rfl (Nat.le_of_ble_eq_true rfl) (by kernel_rfl) ?_; dsimp only [Tryd.f72, List.append_eq, List.cons_append, List.nil_append]
  intro l sf
  simp -dsimp only [push_cast, seval]
  refine callB [] [] (SplitSeq_fun p) rfl (by simp) (by simp) (fun i hi => by cases hi) (by simp -dsimp only [push_cast, seval]) rfl ?_
  simp -dsimp only [push_cast, seval]
  refine range (strs (splS p)) (fun k => full ((splS p).getD k []) && sf (cnt (splS p) k)) 1 (fun k => ⟨[], [[.sc (.func (.yield l) #[] #[])]], 0, cnt (splS p) k⟩) (splitSeq1_iter p hs) (by simp -dsimp only [push_cast, seval]) (by simp -dsimp only [push_cast, seval]) (by simp -dsimp only [push_cast, seval]) (Nat.zero_le _) (by simp -dsimp only [push_cast, seval]) (fun it hit => ?_) (fun k _ => rfl) ?_ (fun k it hk hsf => ?_) (fun hsf => ?_)
  · obtain ⟨x, _, rfl⟩ := List.mem_map.1 hit; rfl
  · exact Weak.mk [] rfl rfl (Nat.le_refl _) rfl (by simp -dsimp only [WeakTm, WeakBx, CLe, CLeL, push_cast, seval]) (by simp -dsimp only [WeakTm, WeakBx, CLe, CLeL, push_cast, seval])
  · obtain ⟨x, hx, rfl⟩ := strs_get hk
    have hxd : (splS p).getD k [] = x := by rw [List.getD_eq_getElem?_getD, hx]; rfl
    have hkl : k < (splS p).length := (List.getElem?_eq_some_iff.1 hx).1
    have hcs := cnt_succ (splS p) k x hx
    have hbef := cnt_before (xs := splS p) (sf := sf) k (by omega) hsf
    by_cases he : x = []
    · simp -dsimp only [push_cast, seval, he]
      refine ⟨?_, Weak.mk [] rfl rfl (Nat.le_refl _) ?_ (by simp -dsimp only [WeakTm, WeakBx, CLe, CLeL, push_cast, seval]) (by simp -dsimp only [WeakTm, WeakBx, CLe, CLeL, push_cast, seval])⟩
      · rw [hxd, he]; rfl
      · simp [hcs, he, St.wt]
    · have hget := cnt_get (splS p) k x hx he
      have hg2 : (strs ((splS p).filter full))[cnt (splS p) k]? = some [.str x] := by rw [List.getElem?_map, hget]; rfl
      simp -dsimp only [push_cast, seval, he]
      rw [hg2]
      simp -dsimp only [push_cast, seval]
      refine ⟨by simp -dsimp only [WeakTm, WeakBx, CLe, CLeL, push_cast, seval], hbef, br (fun h2 => ?_) (fun h2 => ?_)⟩
      · simp -dsimp only [push_cast, seval]
        refine ⟨by rw [hxd, h2]; simp [full, he], ⟨[], [[.sc (.func (.yield l) #[] #[])]], 0, cnt (splS p) k + 1⟩, rfl, Weak.mk [] rfl rfl (Nat.le_refl _) rfl (by simp -dsimp only [WeakTm, WeakBx, CLe, CLeL, push_cast, seval]) (by simp -dsimp only [WeakTm, WeakBx, CLe, CLeL, push_cast, seval]), ?_⟩
        simp -dsimp only [push_cast, seval]
        exact .inr ⟨Nat.succ_pos _, h2⟩
      · simp -dsimp only [push_cast, seval]
        refine ⟨by rw [h2, Bool.and_false], Weak.mk [] rfl rfl (Nat.le_refl _) ?_ (by simp -dsimp only [WeakTm, WeakBx, CLe, CLeL, push_cast, seval]) (by simp -dsimp only [WeakTm, WeakBx, CLe, CLeL, push_cast, seval])⟩
        simp [hcs, he, St.wt]
  · have hall := cnt_all (splS p)
    have hbef := cnt_before (xs := splS p) (sf := sf) (splS p).length (Nat.le_refl _) fun j hj => hsf j (by simpa using hj)
    simp -dsimp only [push_cast, seval]
    refine .inl ⟨?_, ?_⟩
    · simp [hall]
    · simpa using hbef
end Go.Proofs.YtnjglohgjhihjaaDoor.Vcg
end
section
set_option linter.unusedVariables false
set_option linter.unusedSimpArgs false
namespace Go.Proofs.YtnjglohgjhihjaaDoor.Vcg
open Go.RowKit
theorem names_call (p : List UInt8) : Fun Tryd.prog G0 54 [.str p] (.clo (.func 72) [] [.row [.str p]]) 0 := by
  refine Fun.of (fun _ => []) (by kernel_rfl) Tryd.func54 rfl rfl (Nat.le_of_ble_eq_true rfl) (by kernel_rfl) ?_; dsimp only [Tryd.f54, List.append_eq, List.cons_append, List.nil_append]
  simp -dsimp only [push_cast, seval]
  exact ⟨[], rfl, rfl, by simp -dsimp only [WeakTm, WeakBx, CLe, CLeL, push_cast, seval]⟩
set_option maxRecDepth 100000 in
set_option maxHeartbeats 1000000 in
theorem appendSeq_fun (xs : List (List UInt8)) (f : FuncId) (cap : List C) (hsel : C.selL (fpDrop 1) cap = cap) (hit : Iter Tryd.prog G0 f [] cap [] (strs xs)) (hx : xs.length ≤ 1000001) : Fun Tryd.prog G0 71 [.sc (.slice none 0 0), .clo (.func f) [] cap] (.own 0 9 1 (strs xs)) 1 := by
  refine Fun.of (fun _ => []) (by kernel_rfl) Tryd.func71 rfl rfl (Nat.le_of_ble_eq_true rfl) (by kernel_rfl) ?_; dsimp only [Tryd.f71, List.append_eq, List.cons_append, List.nil_append]
  simp -dsimp only [push_cast, seval]
  refine range (strs xs) (fun _ => false) 1 (fun k => ⟨[], [[.own 0 9 1 (strs (xs.take k))]], 1, 0⟩) hit (by simp -dsimp only [push_cast, seval]) hsel (by simp -dsimp only [push_cast, seval]) (Nat.zero_le _) (by simp -dsimp only [push_cast, seval]) (fun it h => ?_) (fun k _ => rfl) ?_ (fun k it hk hsf => ?_) (fun hsf => ?_)
  · obtain ⟨x, _, rfl⟩ := List.mem_map.1 h; rfl
  · exact Weak.mk [.inr (9, 1)] rfl rfl (Nat.le_refl _) rfl (by simp -dsimp only [WeakTm, WeakBx, CLe, CLeL, push_cast, seval]) (by simp -dsimp only [WeakTm, WeakBx, CLe, CLeL, push_cast, seval])
  · obtain ⟨x, hx2, rfl⟩ := strs_get hk
    have hkl : k < xs.length := (List.getElem?_eq_some_iff.1 hx2).1
    simp -dsimp only [push_cast, seval]
    simp only [List.length_take]
    refine ⟨by omega, by omega, Weak.mk [.inl 0] rfl rfl (Nat.le_refl _) rfl (by simp -dsimp only [WeakTm, WeakBx, CLe, CLeL, push_cast, seval]) ?_⟩
    simp -dsimp only [WeakTm, WeakBx, CLe, CLeL, push_cast, seval]
    rw [List.take_add_one, hx2]
    rfl
  · simp -dsimp only [push_cast, seval]
    refine ⟨[.inl 0], rfl, rfl, ?_⟩
    simp -dsimp only [WeakTm, WeakBx, CLe, CLeL, push_cast, seval]
    simp
theorem collect_fun (xs : List (List UInt8)) (f : FuncId) (cap : List C) (hsel : C.selL (fpDrop 1) cap = cap) (hfrz : C.frzL cap = cap) (hit : Iter Tryd.prog G0 f [] cap [] (strs xs)) (hx : xs.length ≤ 1000001) : Fun Tryd.prog G0 53 [.clo (.func f) [] cap] (.own 0 9 1 (strs xs)) 1 := by
  refine Fun.of (fun _ => []) (by kernel_rfl) Tryd.func53 rfl rfl (Nat.le_of_ble_eq_true rfl) (by kernel_rfl) ?_; dsimp only [Tryd.f53, List.append_eq, List.cons_append, List.nil_append]
  simp -dsimp only [push_cast, seval, hfrz]
  refine call (appendSeq_fun xs f cap hsel hit hx) ?_
  simp -dsimp only [push_cast, seval]
  exact ⟨[.inl 0], rfl, rfl, by simp -dsimp only [WeakTm, WeakBx, CLe, CLeL, push_cast, seval]⟩
theorem collectNames (p : List UInt8) (hp : p.length ≤ 1000000) : Fun Tryd.prog G0 53 [.clo (.func 72) [] [.row [.str p]]] (.own 0 9 1 (strs (names p))) 1 :=
  collect_fun (names p) _ _ (by simp -dsimp only [push_cast, seval]) (by simp -dsimp only [push_cast, seval]) (names1_iter p hp) (by have := names_size p; omega)
theorem toL_str (l : List UInt8) : (ByteArray.mk l.toArray).data.toList = l := by simp
theorem hasPrefix_fun (s p : List UInt8) : Fun Tryd.prog G0 55 [.str s, .str p] (.sc (.bool (Lib.hasPrefix s p))) 0 := by
  refine Fun.wrap (by kernel_rfl) fun R vs h => ?_
  obtain ⟨v1, us1, rfl, h1, h⟩ := repL_cons.1 h
  obtain ⟨v2, us2, rfl, h2, h⟩ := repL_cons.1 h
  rw [repL_nil] at h
  subst h
  rw [rep_str] at h1 h2
  subst h1 h2
  refine (Tryd.strings_HasPrefix ⟨s.toArray⟩ ⟨p.toArray⟩ R.w).mono ?_
  rintro e w' ⟨rfl, rfl⟩
  exact ⟨_, rfl, Below.refl _ _, fun R' _ => rep_sc.2 (by simp)⟩
theorem hasSuffix_fun (s p : List UInt8) (hs : s.length ≤ 1000000) : Fun Tryd.prog G0 56 [.str s, .str p] (.sc (.bool (Lib.hasSuffix s p))) 0 := by
  refine Fun.wrap (by kernel_rfl) fun R vs h => ?_
  obtain ⟨v1, us1, rfl, h1, h⟩ := repL_cons.1 h
  obtain ⟨v2, us2, rfl, h2, h⟩ := repL_cons.1 h
  rw [repL_nil] at h
  subst h
  rw [rep_str] at h1 h2
  subst h1 h2
  refine (Tryd.strings_HasSuffix ⟨s.toArray⟩ ⟨p.toArray⟩ R.w (by simp [ByteArray.size]; omega)).mono ?_
  rintro e w' ⟨rfl, rfl⟩
  exact ⟨_, rfl, Below.refl _ _, fun R' _ => rep_sc.2 (by simp)⟩
theorem join_fun (xs : List (List UInt8)) (sep : List UInt8) (hx : xs.length ≤ 1000001) (hl : (Lib.join xs sep).length ≤ 100000000) : Fun Tryd.prog G0 57 [.sl 1 (strs xs), .str sep] (.str (Lib.join xs sep)) 0 := by
  refine Fun.wrap (by kernel_rfl) fun R vs h => ?_
  obtain ⟨v1, us1, rfl, h1, h⟩ := repL_cons.1 h
  obtain ⟨v2, us2, rfl, h2, h⟩ := repL_cons.1 h
  rw [repL_nil] at h
  subst h
  rw [rep_str] at h2
  subst h2
  obtain ⟨a, cap, rfl, hc1, hc2, hr⟩ := rep_sl.1 h1
  have hlen : (strs xs).length = xs.length := by simp
  have hmap : (xs.map fun x => ByteArray.mk x.toArray).map (·.data.toList) = xs := by
    rw [List.map_map]
    conv => rhs; rw [← List.map_id xs]
    exact List.map_congr_left fun x _ => by simp
  rcases hr with hr | ⟨b, o, rfl, hr⟩
  · have : xs = [] := by simpa using hr
    subst this
    refine (Tryd.strings_Join_none a cap ⟨sep.toArray⟩ R.w).mono ?_
    rintro e w' ⟨rfl, rfl⟩
    exact ⟨_, rfl, Below.refl _ _, fun R' _ => rep_str.2 (by simp [Lib.join])⟩
  · by_cases hx0 : xs = []
    · subst hx0
      refine (Tryd.strings_Join_none _ cap ⟨sep.toArray⟩ R.w).mono ?_
      rintro e w' ⟨rfl, rfl⟩
      exact ⟨_, rfl, Below.refl _ _, fun R' _ => rep_str.2 (by simp [Lib.join])⟩
    · have hcells : ∀ (j : Nat) x, (xs.map fun x => ByteArray.mk x.toArray)[j]? = some x → R.w.cell? ⟨b, o + j, none⟩ = some (.string x) := fun j x hj => by
        rw [List.getElem?_map] at hj
        cases hq : xs[j]? with
        | none => rw [hq] at hj; cases hj
        | some y =>
          rw [hq] at hj; cases hj
          obtain ⟨_, g⟩ := repRows_get hr j [.str y] (by rw [List.getElem?_map, hq]; rfl)
          obtain ⟨⟨v, g1, _, g2, _⟩, _⟩ := repCells_cons.1 g
          rw [rep_str] at g2
          subst g2
          simpa using g1
      have hb : b < R.w.heap.size := by
        cases xs with
        | nil => exact absurd rfl hx0
        | cons x r =>
          exact cell_lt (hcells 0 ⟨x.toArray⟩ rfl)
      have hj := Tryd.strings_Join b o cap (xs.map fun x => ByteArray.mk x.toArray) ⟨sep.toArray⟩ R.w hcells hb (by simp; omega) (by simpa using hc1) (by rw [hmap]; simp; omega)
      rw [hmap] at hj
      simp only [List.length_map] at hj
      rw [hlen]
      refine hj.mono ?_
      rintro e w' ⟨rfl, hbl⟩
      exact ⟨_, rfl, hbl, fun R' _ => rep_str.2 (by simp)⟩
end Go.Proofs.YtnjglohgjhihjaaDoor.Vcg
end
section
set_option linter.unusedVariables false
set_option linter.unusedSimpArgs false
namespace Go.Proofs.YtnjglohgjhihjaaDoor.Vcg
open Go.RowKit
def readC (p : List UInt8) : C := .agg [boolC (Lib.hasPrefix p [47]), .own 0 9 1 (strs (names p)), boolC (!decide (names p = []) && Lib.hasSuffix p [47])]
set_option maxRecDepth 100000 in
set_option maxHeartbeats 1000000 in
theorem read_fun (p : List UInt8) (hp : p.length ≤ 1000000) : Fun Tryd.prog G0 31 [.str p] (readC p) 1 := by
  refine Fun.of (fun _ => []) (by kernel_rfl) Tryd.func31 rfl rfl (Nat.le_of_ble_eq_true rfl) (by kernel_rfl) ?_; dsimp only [Tryd.f31, List.append_eq, List.cons_append, List.nil_append]
  simp -dsimp only [push_cast, seval]
  refine call (names_call p) ?_
  simp -dsimp only [push_cast, seval]
  refine call (collectNames p hp) ?_
  simp -dsimp only [push_cast, seval]
  refine call (hasPrefix_fun p [47]) ?_
  simp -dsimp only [push_cast, seval]
  by_cases h : names p = []
  · simp -dsimp only [push_cast, seval, h]
    exact ⟨[.inl 0], rfl, rfl, by simp only [readC]; simp -dsimp only [WeakTm, WeakBx, CLe, CLeL, push_cast, seval, h]; simp⟩
  · have h' : 0 < (names p).length := List.length_pos_iff.2 h
    simp -dsimp only [push_cast, seval, h']
    refine call (hasSuffix_fun p [47] hp) ?_
    simp -dsimp only [push_cast, seval]
    exact ⟨[.inl 0], rfl, rfl, by simp only [readC]; simp -dsimp only [WeakTm, WeakBx, CLe, CLeL, push_cast, seval, h]⟩
/-- a path's text: begins with a slash? its names; ends with a slash? -/
def pathC (a : Bool) (xs : List (List UInt8)) (s : Bool) : C := .agg [boolC a, .sl 1 (strs xs), boolC s]
def put (a : Bool) (xs : List (List UInt8)) (s : Bool) : List UInt8 := (if a then [47] else []) ++ Lib.join xs [47] ++ (if s && !decide (xs = []) then [47] else [])
set_option maxRecDepth 100000 in
set_option maxHeartbeats 1000000 in
theorem put_fun (a : Bool) (xs : List (List UInt8)) (s : Bool) (hx : xs.length ≤ 1000001) (hl : (Lib.join xs [47]).length ≤ 100000000) : Fun Tryd.prog G0 36 [pathC a xs s] (.str (put a xs s)) 0 := by
  unfold pathC
  refine Fun.of (fun _ => []) (by kernel_rfl) Tryd.func36 rfl rfl (Nat.le_of_ble_eq_true rfl) (by kernel_rfl) ?_; dsimp only [Tryd.f36, List.append_eq, List.cons_append, List.nil_append]
  simp -dsimp only [push_cast, seval]
  refine call (join_fun xs [47] hx hl) ?_
  simp -dsimp only [push_cast, seval]
  by_cases h : xs = []
  · subst h
    cases a <;> cases s <;> simp -dsimp only [push_cast, seval]
    · exact ⟨[], rfl, rfl, by simp -dsimp only [WeakTm, WeakBx, CLe, CLeL, push_cast, seval]; simp [put]⟩
    · exact ⟨[], rfl, rfl, by simp -dsimp only [WeakTm, WeakBx, CLe, CLeL, push_cast, seval]; simp [put]⟩
    · exact ⟨by omega, [], rfl, rfl, by simp -dsimp only [WeakTm, WeakBx, CLe, CLeL, push_cast, seval]; simp [put]⟩
    · exact ⟨by omega, [], rfl, rfl, by simp -dsimp only [WeakTm, WeakBx, CLe, CLeL, push_cast, seval]; simp [put]⟩
  · have h' : 0 < xs.length := List.length_pos_iff.2 h
    cases a <;> cases s <;> simp -dsimp only [push_cast, seval, h']
    · exact ⟨[], rfl, rfl, by simp -dsimp only [WeakTm, WeakBx, CLe, CLeL, push_cast, seval]; simp [put]⟩
    · exact ⟨by omega, [], rfl, rfl, by simp -dsimp only [WeakTm, WeakBx, CLe, CLeL, push_cast, seval]; simp [put, h]⟩
    · exact ⟨by omega, [], rfl, rfl, by simp -dsimp only [WeakTm, WeakBx, CLe, CLeL, push_cast, seval]; simp [put]⟩
    · exact ⟨by omega, by omega, [], rfl, rfl, by simp -dsimp only [WeakTm, WeakBx, CLe, CLeL, push_cast, seval]; simp [put, h]⟩
def joinP (xs : List (List UInt8)) : List UInt8 := if xs = [] then [47] else 47 :: Lib.join xs [47]
set_option maxRecDepth 100000 in
set_option maxHeartbeats 1000000 in
theorem joinP_fun (xs : List (List UInt8)) (hx : xs.length ≤ 1000001) (hl : (Lib.join xs [47]).length ≤ 100000000) : Fun Tryd.prog G0 38 [.sl 1 (strs xs)] (.str (joinP xs)) 0 := by
  refine Fun.of (fun _ => []) (by kernel_rfl) Tryd.func38 rfl rfl (Nat.le_of_ble_eq_true rfl) (by kernel_rfl) ?_; dsimp only [Tryd.f38, List.append_eq, List.cons_append, List.nil_append]
  simp -dsimp only [push_cast, seval]
  by_cases h : xs = []
  · simp -dsimp only [push_cast, seval, h]
    exact ⟨[], rfl, rfl, by simp only [joinP, h]; simp -dsimp only [WeakTm, WeakBx, CLe, CLeL, push_cast, seval]⟩
  · have h' : ¬ ((xs.length : Int) = 0) := by have := List.length_pos_iff.2 h; omega
    simp -dsimp only [push_cast, seval, h']
    refine call ((join_fun xs [47] hx hl)) ?_
    simp -dsimp only [push_cast, seval]
    exact ⟨by omega, [], rfl, rfl, by simp only [joinP, if_neg h]; simp -dsimp only [WeakTm, WeakBx, CLe, CLeL, push_cast, seval]⟩
def longP (p : List UInt8) : Bool := (names p).any (fun x => decide (255 < x.length)) || decide (4095 < p.length)
set_option maxRecDepth 100000 in
set_option maxHeartbeats 1000000 in
theorem long_fun (p : List UInt8) (hp : p.length ≤ 1000000) : Fun Tryd.prog G0 41 [.str p] (boolC (longP p)) 0 := by
  refine Fun.of (fun _ => []) (by kernel_rfl) Tryd.func41 rfl rfl (Nat.le_of_ble_eq_true rfl) (by kernel_rfl) ?_; dsimp only [Tryd.f41, List.append_eq, List.cons_append, List.nil_append]
  simp -dsimp only [push_cast, seval]
  refine call (names_call p) ?_
  simp -dsimp only [push_cast, seval]
  refine range (strs (names p)) (fun k => decide (255 < ((names p).getD k []).length)) 1 (fun k => ⟨[], [[.sc (.bool false)]], 0, 0⟩) (names1_iter p hp) (by simp -dsimp only [push_cast, seval]) (by simp -dsimp only [push_cast, seval]) (by simp -dsimp only [push_cast, seval]) (Nat.zero_le _) (by simp -dsimp only [push_cast, seval]) (fun it h => ?_) (fun k _ => rfl) ?_ (fun k it hk hsf => ?_) (fun hsf => ?_)
  · obtain ⟨x, _, rfl⟩ := List.mem_map.1 h; rfl
  · exact Weak.mk [] rfl rfl (Nat.le_refl _) rfl (by simp -dsimp only [WeakTm, WeakBx, CLe, CLeL, push_cast, seval]) (by simp -dsimp only [WeakTm, WeakBx, CLe, CLeL, push_cast, seval])
  · obtain ⟨x, hx, rfl⟩ := strs_get hk
    have hxd : (names p).getD k [] = x := by rw [List.getD_eq_getElem?_getD, hx]; rfl
    simp -dsimp only [push_cast, seval]
    rw [hxd]
    refine br (fun h => ?_) (fun h => ?_)
    · have h' : 255 < x.length := by have := of_decide_eq_true h; omega
      simp -dsimp only [push_cast, seval]
      refine ⟨by simpa using h', ⟨[], [[.sc (.bool true)]], 0, 0⟩, rfl, Weak.mk [] rfl rfl (Nat.le_refl _) rfl (by simp -dsimp only [WeakTm, WeakBx, CLe, CLeL, push_cast, seval]) (by simp -dsimp only [WeakTm, WeakBx, CLe, CLeL, push_cast, seval]), ?_⟩
      simp -dsimp only [push_cast, seval]
      refine ⟨[], rfl, rfl, ?_⟩
      simp -dsimp only [WeakTm, WeakBx, CLe, CLeL, push_cast, seval]
      have : (names p).any (fun x => decide (255 < x.length)) = true := List.any_eq_true.2 ⟨x, List.mem_of_getElem? hx, by simpa using h'⟩
      simp [longP, this]
    · have h' : ¬ 255 < x.length := by have := of_decide_eq_false h; omega
      simp -dsimp only [push_cast, seval]
      exact ⟨by simpa using h', Weak.mk [] rfl rfl (Nat.le_refl _) rfl (by simp -dsimp only [WeakTm, WeakBx, CLe, CLeL, push_cast, seval]) (by simp -dsimp only [WeakTm, WeakBx, CLe, CLeL, push_cast, seval])⟩
  · simp -dsimp only [push_cast, seval]
    refine ⟨[], rfl, rfl, ?_⟩
    simp -dsimp only [WeakTm, WeakBx, CLe, CLeL, push_cast, seval]
    have : (names p).any (fun x => decide (255 < x.length)) = false := List.any_eq_false.2 fun x hx => by
      obtain ⟨k, hk, rfl⟩ := List.getElem_of_mem hx
      have := hsf k (by simpa using hk)
      rw [List.getD_eq_getElem?_getD, List.getElem?_eq_getElem hk] at this
      simpa using this
    simp [longP, this]
    omega
def baseP (p : List UInt8) : List UInt8 := (names p).getLastD (if Lib.hasPrefix p [47] then [47] else [])
set_option maxRecDepth 100000 in
set_option maxHeartbeats 1000000 in
theorem base_fun (p : List UInt8) (hp : p.length ≤ 1000000) : Fun Tryd.prog G0 33 [.str p] (.str (baseP p)) 0 := by
  refine Fun.of (fun _ => []) (by kernel_rfl) Tryd.func33 rfl rfl (Nat.le_of_ble_eq_true rfl) (by kernel_rfl) ?_; dsimp only [Tryd.f33, List.append_eq, List.cons_append, List.nil_append]
  simp -dsimp only [push_cast, seval]
  refine call (hasPrefix_fun p [47]) ?_
  simp -dsimp only [push_cast, seval]
  have go : ∀ b0 : List UInt8, b0 = (if Lib.hasPrefix p [47] then [47] else []) → baseP p = ((names p).take (names p).length).getLastD b0 := fun b0 hb => by rw [List.take_length, hb]; rfl
  have main : ∀ b0 : List UInt8, b0 = (if Lib.hasPrefix p [47] then [47] else []) → ∀ k x, (names p)[k]? = some x → ((names p).take (k + 1)).getLastD b0 = x := fun b0 _ k x hx => by
    rw [List.take_add_one, hx]; simp
  cases hpf : Lib.hasPrefix p [47] with
  | true =>
    rw [hpf] at go main
    simp -dsimp only [push_cast, seval]
    refine call (names_call p) ?_
    simp -dsimp only [push_cast, seval]
    refine range (strs (names p)) (fun k => false) 1 (fun k => ⟨[], [[.str (((names p).take k).getLastD [47])]], 0, 0⟩) (names1_iter p hp) (by simp -dsimp only [push_cast, seval]) (by simp -dsimp only [push_cast, seval]) (by simp -dsimp only [push_cast, seval]) (Nat.zero_le _) (by simp -dsimp only [push_cast, seval]) (fun it h => ?_) (fun k _ => rfl) ?_ (fun k it hk hsf => ?_) (fun hsf => ?_)
    · obtain ⟨x, _, rfl⟩ := List.mem_map.1 h; rfl
    · exact Weak.mk [] rfl rfl (Nat.le_refl _) rfl (by simp -dsimp only [WeakTm, WeakBx, CLe, CLeL, push_cast, seval]) (by simp -dsimp only [WeakTm, WeakBx, CLe, CLeL, push_cast, seval]; rfl)
    · obtain ⟨x, hx, rfl⟩ := strs_get hk
      have := main [47] rfl k x hx
      simp -dsimp only [push_cast, seval]
      exact Weak.mk [] rfl rfl (Nat.le_refl _) rfl (by simp -dsimp only [WeakTm, WeakBx, CLe, CLeL, push_cast, seval]) (by simp -dsimp only [WeakTm, WeakBx, CLe, CLeL, push_cast, seval, this])
    · have := go [47] rfl
      simp -dsimp only [push_cast, seval]
      exact ⟨[], rfl, rfl, by simp -dsimp only [WeakTm, WeakBx, CLe, CLeL, push_cast, seval]; exact this.symm⟩
  | false =>
    rw [hpf] at go main
    simp -dsimp only [push_cast, seval]
    refine call (names_call p) ?_
    simp -dsimp only [push_cast, seval]
    refine range (strs (names p)) (fun k => false) 1 (fun k => ⟨[], [[.str (((names p).take k).getLastD [])]], 0, 0⟩) (names1_iter p hp) (by simp -dsimp only [push_cast, seval]) (by simp -dsimp only [push_cast, seval]) (by simp -dsimp only [push_cast, seval]) (Nat.zero_le _) (by simp -dsimp only [push_cast, seval]) (fun it h => ?_) (fun k _ => rfl) ?_ (fun k it hk hsf => ?_) (fun hsf => ?_)
    · obtain ⟨x, _, rfl⟩ := List.mem_map.1 h; rfl
    · exact Weak.mk [] rfl rfl (Nat.le_refl _) rfl (by simp -dsimp only [WeakTm, WeakBx, CLe, CLeL, push_cast, seval]) (by simp -dsimp only [WeakTm, WeakBx, CLe, CLeL, push_cast, seval]; rfl)
    · obtain ⟨x, hx, rfl⟩ := strs_get hk
      have := main [] rfl k x hx
      simp -dsimp only [push_cast, seval]
      exact Weak.mk [] rfl rfl (Nat.le_refl _) rfl (by simp -dsimp only [WeakTm, WeakBx, CLe, CLeL, push_cast, seval]) (by simp -dsimp only [WeakTm, WeakBx, CLe, CLeL, push_cast, seval, this])
    · have := go [] rfl
      simp -dsimp only [push_cast, seval]
      exact ⟨[], rfl, rfl, by simp -dsimp only [WeakTm, WeakBx, CLe, CLeL, push_cast, seval]; exact this.symm⟩
def underP (p q : List UInt8) : Bool := decide (p = q) || decide (q = [47]) || Lib.hasPrefix p (q ++ [47])
set_option maxHeartbeats 1000000 in
theorem underP_fun (p q : List UInt8) (hq : q.length ≤ 1000000) : Fun Tryd.prog G0 44 [.str p, .str q] (boolC (underP p q)) 0 := by
  refine Fun.of (fun _ => []) (by kernel_rfl) Tryd.func44 rfl rfl (Nat.le_of_ble_eq_true rfl) (by kernel_rfl) ?_; dsimp only [Tryd.f44, List.append_eq, List.cons_append, List.nil_append]
  simp -dsimp only [push_cast, seval]
  by_cases h1 : p = q
  · simp -dsimp only [push_cast, seval, h1]
    exact ⟨[], rfl, rfl, by simp -dsimp only [WeakTm, WeakBx, CLe, CLeL, push_cast, seval]; simp [underP]⟩
  · by_cases h2 : q = [47]
    · subst h2
      simp -dsimp only [push_cast, seval, h1]
      exact ⟨[], rfl, rfl, by simp -dsimp only [WeakTm, WeakBx, CLe, CLeL, push_cast, seval]; simp [underP]⟩
    · simp -dsimp only [push_cast, seval, h1, h2]
      refine ⟨by omega, ?_⟩
      refine call (hasPrefix_fun p (q ++ [47])) ?_
      simp -dsimp only [push_cast, seval]
      exact ⟨[], rfl, rfl, by simp -dsimp only [WeakTm, WeakBx, CLe, CLeL, push_cast, seval]; simp [underP, h1, h2]⟩
end Go.Proofs.YtnjglohgjhihjaaDoor.Vcg
end
section
set_option linter.unusedVariables false
set_option linter.unusedSimpArgs false
namespace Go.Proofs.YtnjglohgjhihjaaDoor.Vcg
open Go.RowKit
theorem indexByte_fun (l : List UInt8) (c : UInt8) : Fun Tryd.prog G0 102 [.str l, .sc (.int .u8 (c.toNat : Int))] (.sc (.int .i64 (Lib.indexByte l c))) 0 := by
  refine Fun.wrap (by kernel_rfl) fun R vs h => ?_
  obtain ⟨v1, us1, rfl, h1, h⟩ := repL_cons.1 h
  obtain ⟨v2, us2, rfl, h2, h⟩ := repL_cons.1 h
  rw [repL_nil] at h
  subst h
  rw [rep_str] at h1
  rw [rep_sc] at h2
  subst h1 h2
  refine (Tryd.strings_IndexByte ⟨l.toArray⟩ (c.toNat : Int) R.w).mono ?_
  rintro e w' ⟨rfl, rfl⟩
  exact ⟨_, rfl, Below.refl _ _, fun R' _ => rep_sc.2 (by simp)⟩
theorem validRune_fun (r : Int) : Fun Tryd.prog G0 103 [.sc (.int .i32 r)] (.sc (.bool (Lib.validRune r))) 0 := by
  refine Fun.wrap (by kernel_rfl) fun R vs h => ?_
  obtain ⟨v1, us1, rfl, h1, h⟩ := repL_cons.1 h
  rw [repL_nil] at h
  subst h
  rw [rep_sc] at h1
  subst h1
  refine (Tryd.utf8_ValidRune r R.w).mono ?_
  rintro e w' ⟨rfl, rfl⟩
  exact ⟨_, rfl, Below.refl _ _, fun R' _ => rep_sc.2 rfl⟩
theorem enc_list (r : Int) (hv : Utf8.valid r = true) (h128 : 128 ≤ r) : ∃ l c, (Utf8.encode r).data.toList = l ++ [c] ∧ 1 ≤ l.length ∧ l.length ≤ 3 ∧ 128 ≤ c.toNat := by
  obtain ⟨h1, h2, h3⟩ := encode_facts r hv h128
  generalize Utf8.encode r = bs at h1 h2 h3 ⊢
  have hs : bs.data.toList.length = bs.size := Array.length_toList
  have h4 := h3 (by omega)
  have h5 : bs.data.toList[bs.size - 1]? = some (bs[bs.size - 1]'(by omega)) := Lib.data_getElem? bs _ (by omega)
  generalize bs[bs.size - 1]'(by omega) = c at h4 h5
  generalize bs.data.toList = l at hs h5
  refine ⟨l.take (bs.size - 1), c, ?_, by simp; omega, by simp; omega, h4⟩
  have := List.take_append_drop (bs.size - 1) l
  have hd : l.drop (bs.size - 1) = [c] := by
    have hlt : bs.size - 1 < l.length := by omega
    rw [List.drop_eq_getElem_cons hlt]
    rw [List.getElem?_eq_getElem hlt] at h5
    cases h5
    rw [List.drop_eq_nil_of_le (by omega)]
  rw [hd] at this
  exact this.symm
set_option maxRecDepth 100000 in
set_option maxHeartbeats 2000000 in
theorem indexRune_hi (r : Int) (h1 : 128 ≤ r) (hv : Utf8.valid r = true) (h2 : r ≠ 65533) : Fun Tryd.prog G0 90 [.str [47, 0], .sc (.int .i32 r)] (.sc (.int .i64 (-1))) 0 := by
  have hlv : Lib.validRune r = true := by
    have := validRune_eq r
    rw [hv] at this
    exact this.symm
  obtain ⟨l, c, he, hl1, hl3, hc⟩ := enc_list r hv h1
  have ha : 0 ≤ r := by omega
  have hb : ¬ r < 128 := by omega
  have hc0 : ¬ ((0:Int) = (c.toNat:Int)) := by omega
  have hix := indexByte_fun [] c
  match l, hl1, hl3 with
  | [x], _, _ =>
    refine Fun.of (fun _ => []) (by kernel_rfl) Tryd.func90 rfl rfl (Nat.le_of_ble_eq_true rfl) (by kernel_rfl) ?_; dsimp only [Tryd.f90, List.append_eq, List.cons_append, List.nil_append]
    simp -dsimp only [push_cast, seval, ha, hb, h2]
    refine call (validRune_fun r) ?_
    simp -dsimp only [push_cast, seval, hlv, he]
    refine loop (fun k : Nat => ⟨[(0, .str [47, 0]), (1, .sc (.int .i32 r)), (7, .str [x, c]), (8, .sc (.int .i64 1)), (9, .sc (.int .i64 1)), (10, .sc (.int .i64 0))], [], 0, 0⟩) (fun k => True) (fun k => 0) 0 trivial ?_ ?_
    · exact Weak.mk [] rfl rfl (Nat.le_refl _) rfl (by simp -dsimp only [WeakTm, WeakBx, CLe, CLeL, push_cast, seval]) (by simp -dsimp only [WeakTm, WeakBx, CLe, CLeL, push_cast, seval])
    · intro k _
      simp -dsimp only [push_cast, seval, hc0]
      refine callP hix ?_
      have hi0 : Lib.indexByte [] c = -1 := rfl
      simp -dsimp only [push_cast, seval, hi0]
      exact ⟨[], rfl, rfl, by simp -dsimp only [WeakTm, WeakBx, CLe, CLeL, push_cast, seval]⟩
  | [x, y], _, _ =>
    refine Fun.of (fun _ => []) (by kernel_rfl) Tryd.func90 rfl rfl (Nat.le_of_ble_eq_true rfl) (by kernel_rfl) ?_; dsimp only [Tryd.f90, List.append_eq, List.cons_append, List.nil_append]
    simp -dsimp only [push_cast, seval, ha, hb, h2]
    refine call (validRune_fun r) ?_
    simp -dsimp only [push_cast, seval, hlv, he]
    refine loop (fun k : Nat => ⟨[(0, .str [47, 0]), (9, .sc (.int .i64 2))], [], 0, 0⟩) (fun k => True) (fun k => 0) 0 trivial ?_ ?_
    · exact Weak.mk [] rfl rfl (Nat.le_refl _) rfl (by simp -dsimp only [WeakTm, WeakBx, CLe, CLeL, push_cast, seval]) (by simp -dsimp only [WeakTm, WeakBx, CLe, CLeL, push_cast, seval])
    · intro k _
      simp -dsimp only [push_cast, seval]
      exact ⟨[], rfl, rfl, by simp -dsimp only [WeakTm, WeakBx, CLe, CLeL, push_cast, seval]⟩
  | [x, y, z], _, _ =>
    refine Fun.of (fun _ => []) (by kernel_rfl) Tryd.func90 rfl rfl (Nat.le_of_ble_eq_true rfl) (by kernel_rfl) ?_; dsimp only [Tryd.f90, List.append_eq, List.cons_append, List.nil_append]
    simp -dsimp only [push_cast, seval, ha, hb, h2]
    refine call (validRune_fun r) ?_
    simp -dsimp only [push_cast, seval, hlv, he]
    refine loop (fun k : Nat => ⟨[(0, .str [47, 0]), (9, .sc (.int .i64 3))], [], 0, 0⟩) (fun k => True) (fun k => 0) 0 trivial ?_ ?_
    · exact Weak.mk [] rfl rfl (Nat.le_refl _) rfl (by simp -dsimp only [WeakTm, WeakBx, CLe, CLeL, push_cast, seval]) (by simp -dsimp only [WeakTm, WeakBx, CLe, CLeL, push_cast, seval])
    · intro k _
      simp -dsimp only [push_cast, seval]
      exact ⟨[], rfl, rfl, by simp -dsimp only [WeakTm, WeakBx, CLe, CLeL, push_cast, seval]⟩
set_option maxHeartbeats 4000000 in
set_option maxRecDepth 1000000 in
theorem indexRune_err (w : World) : Calls Tryd.prog 90 #[.string ⟨#[47, 0]⟩, .int .i32 65533] w fun e w' => e = .returned (.int .i64 (-1)) ∧ Below w.heap.size w w' := by
  go_enter Tryd.func90, Tryd.ntmps90
  go_wp2
  go_loopg [5, 6] 2 (fun g _ _ wx => ∃ i : Nat, i + g = 2 ∧ wx = w.iter ⟨#[47, 0]⟩ i)
  case atStart => exact ⟨0, by omega, rfl⟩
  case round =>
    obtain ⟨i, hig, rfl⟩ := hrel
    cases gk with
    | zero =>
      obtain rfl : i = 2 := by omega
      have hnx := fun ty => run_next_end (P := Tryd.prog) w ⟨#[47, 0]⟩ 2 ty (by decide)
      go_wp2
      go_ret
      exact ⟨rfl, (Below.refl _ _).alloc (Nat.le_refl _) _⟩
    | succ g =>
      have hi : i < (ByteArray.mk #[47, 0]).size := by show i < 2; omega
      have hx128 : ((ByteArray.mk #[47, 0])[i]'hi).toNat < 128 := by
        have : i = 0 ∨ i = 1 := by omega
        rcases this with rfl | rfl
        · exact (by decide : (47 : UInt8).toNat < 128)
        · exact (by decide : (0 : UInt8).toNat < 128)
      have hnx := fun ty => run_next_ascii (P := Tryd.prog) w ⟨#[47, 0]⟩ i ty hi hx128
      have hne : ((((ByteArray.mk #[47, 0])[i]'hi).toNat : Int) == 65533) = false := by
        rw [beq_eq_false_iff_ne]; omega
      go_wp2
      go_roundg g
      case measure => omega
      case rel => exact ⟨i + 1, by omega, rfl⟩
end Go.Proofs.YtnjglohgjhihjaaDoor.Vcg
end
section
set_option linter.unusedVariables false
set_option linter.unusedSimpArgs false
namespace Go.Proofs.YtnjglohgjhihjaaDoor.Vcg
open Go.RowKit Go.Shelf
/-- a slash or a zero byte -/
def bad (b : UInt8) : Bool := decide (b = 47) || decide (b = 0)
theorem contains_bad (b : UInt8) : [47, 0].contains b = bad b := by simp [bad, List.contains_iff_mem, Bool.eq_iff_iff]
theorem run_next_at {P : Program} {W : World} {b : Nat} {s : ByteArray} {pos : Nat} (hb : W.heap[b]? = some (.stringIter s pos)) (h : pos < s.size) (ty : TypeId) :
    (Instr.next (.pointer (some ⟨b, 0, none⟩)) true ty).run P W = .ok (.tuple #[.bool true, .int .i64 pos, .int .i32 (Utf8.decode s pos).1]) (W.putObj b (.stringIter s (pos + (Utf8.decode s pos).2))) := by
  simp only [Instr.next, getObj, setObj, Sem.run_bind, Sem.run, hb, Result.andThen, h, if_true]
  simp [goInt, Sem.run, hb, World.putObj]
theorem run_next_at_end {P : Program} {W : World} {b : Nat} {s : ByteArray} {pos : Nat} (hb : W.heap[b]? = some (.stringIter s pos)) (h : ¬ pos < s.size) (ty : TypeId) :
    (Instr.next (.pointer (some ⟨b, 0, none⟩)) true ty).run P W = .ok (.tuple #[.bool false]) W := by
  simp [Instr.next, getObj, Sem.run, hb, h]
theorem get!_eq (s : ByteArray) (k : Nat) (hk : k < s.size) : s.get! k = s[k]'hk := by
  simp [ByteArray.get!, getElem!_pos, hk]; rfl
theorem valid_of {c : Nat} (h : c < 55296 ∨ (57344 ≤ c ∧ c ≤ 1114111)) : Utf8.valid (c : Int) = true := by
  unfold Utf8.valid
  rcases h with h | h
  · have h1 : ((c : Int) < 55296) := by omega
    simp; omega
  · simp; omega
/-- what a rune is: an ASCII byte, or bytes that are none -/
theorem decode_step (s : ByteArray) (i : Nat) (h : i < s.size) : (((s[i]'h).toNat < 128 ∧ Utf8.decode s i = ((s[i]'h).toNat, 1)) ∨ (128 ≤ (Utf8.decode s i).1 ∧ Utf8.valid ((Utf8.decode s i).1 : Int) = true ∧ 1 ≤ (Utf8.decode s i).2 ∧ i + (Utf8.decode s i).2 ≤ s.size ∧ ∀ j (hj : j < s.size), i ≤ j → j < i + (Utf8.decode s i).2 → 128 ≤ (s[j]'hj).toNat)) := by
  by_cases ha : (s[i]'h).toNat < 128
  · exact .inl ⟨ha, decode_ascii s i h ha⟩
  · refine .inr ?_
    have hb0 : ¬ (s.get! (i + 0)).toNat < 128 := by rw [Nat.add_zero, get!_eq s i h]; exact ha
    have hby : ∀ n, (∀ k, k < n → 128 ≤ (s.get! (i + k)).toNat) → ∀ j (hj : j < s.size), i ≤ j → j < i + n → 128 ≤ (s[j]'hj).toNat := fun n hn j hj h1 h2 => by
      have := hn (j - i) (by omega)
      rw [show i + (j - i) = j by omega, get!_eq s j hj] at this
      exact this
    have hone : 128 ≤ 65533 ∧ Utf8.valid ((65533 : Nat) : Int) = true ∧ 1 ≤ 1 ∧ i + 1 ≤ s.size ∧ ∀ j (hj : j < s.size), i ≤ j → j < i + 1 → 128 ≤ (s[j]'hj).toNat :=
      ⟨by omega, by decide, by omega, by omega, hby 1 fun k hk => by rw [show k = 0 by omega]; omega⟩
    unfold Utf8.decode
    simp only [if_neg hb0, Utf8.runeError]
    obtain ⟨b0, hg0⟩ : ∃ b, (s.get! (i + 0)).toNat = b := ⟨_, rfl⟩
    obtain ⟨b1, hg1⟩ : ∃ b, (s.get! (i + 1)).toNat = b := ⟨_, rfl⟩
    obtain ⟨b2, hg2⟩ : ∃ b, (s.get! (i + 2)).toNat = b := ⟨_, rfl⟩
    obtain ⟨b3, hg3⟩ : ∃ b, (s.get! (i + 3)).toNat = b := ⟨_, rfl⟩
    rw [hg0] at hb0
    simp only [hg0, hg1, hg2, hg3]
    have hlt : b0 < 256 := by rw [← hg0]; exact (s.get! (i + 0)).toNat_lt
    split
    · rename_i hc
      simp only [Bool.and_eq_true, beq_iff_eq, decide_eq_true_eq] at hc
      split
      · rename_i hv
        refine ⟨by show 128 ≤ _; omega, valid_of (.inl (by omega)), by show 1 ≤ 2; omega, by show i + 2 ≤ _; omega, hby 2 fun k hk => ?_⟩
        rcases (show k = 0 ∨ k = 1 by omega) with rfl | rfl
        · rw [hg0]; omega
        · rw [hg1]; omega
      · exact hone
    · split
      · rename_i hc
        simp only [Bool.and_eq_true, beq_iff_eq, decide_eq_true_eq] at hc
        split
        · rename_i hv
          simp only [Bool.and_eq_true, decide_eq_true_eq] at hv
          refine ⟨by show 128 ≤ _; omega, hv.2, by show 1 ≤ 3; omega, by show i + 3 ≤ _; omega, hby 3 fun k hk => ?_⟩
          rcases (show k = 0 ∨ k = 1 ∨ k = 2 by omega) with rfl | rfl | rfl
          · rw [hg0]; omega
          · rw [hg1]; omega
          · rw [hg2]; omega
        · exact hone
      · split
        · rename_i hc
          simp only [Bool.and_eq_true, beq_iff_eq, decide_eq_true_eq] at hc
          split
          · rename_i hv
            simp only [Bool.and_eq_true, decide_eq_true_eq] at hv
            refine ⟨by show 128 ≤ _; omega, hv.2, by show 1 ≤ 4; omega, by show i + 4 ≤ _; omega, hby 4 fun k hk => ?_⟩
            rcases (show k = 0 ∨ k = 1 ∨ k = 2 ∨ k = 3 by omega) with rfl | rfl | rfl | rfl
            · rw [hg0]; omega
            · rw [hg1]; omega
            · rw [hg2]; omega
            · rw [hg3]; omega
          · exact hone
        · exact hone
/-- a rune that is no ASCII is not among them -/
theorem indexRune_non (r : Int) (h1 : 128 ≤ r) (hv : Utf8.valid r = true) (w : World) : Calls Tryd.prog 90 #[.string ⟨#[47, 0]⟩, .int .i32 r] w fun e w' => e = .returned (.int .i64 (-1)) ∧ Below w.heap.size w w' := by
  by_cases h2 : r = 65533
  · subst h2; exact indexRune_err w
  · refine ((indexRune_hi r h1 hv h2).2 ⟨w, fun _ _ => False, fun _ => False⟩ [.string ⟨#[47, 0]⟩, .int .i32 r] (fun g cs h => by cases h) ?_).mono ?_
    · exact repL_cons.2 ⟨_, _, rfl, rep_str.2 rfl, repL_cons.2 ⟨_, _, rfl, rep_sc.2 rfl, repL_nil.2 rfl⟩⟩
    · rintro e w' ⟨v, R', L', rfl, rfl, hst, hr⟩
      rw [rep_sc] at hr
      exact ⟨by rw [hr], hst.below⟩
theorem heap_iter (w : World) (s : ByteArray) : (w.iter s 0).heap[w.heap.size]? = some (.stringIter s 0) := World.iter_heap w s 0
theorem putObj_iter {w W : World} {s : ByteArray} {p : Nat} (hb : Below w.heap.size w W) (hs : W.heap[w.heap.size]? = some (.stringIter s p)) (p' : Nat) : Below w.heap.size w (W.putObj w.heap.size (.stringIter s p')) ∧ (W.putObj w.heap.size (.stringIter s p')).heap[w.heap.size]? = some (.stringIter s p') :=
  ⟨⟨hb.os, hb.tape, hb.output, by simpa using hb.size, fun k hk => (World.putObj_heap_other (by omega)).trans (hb.block k hk)⟩, World.putObj_heap_same (heap_lt hs)⟩
theorem below_iter {w W W' : World} {s : ByteArray} {p : Nat} (hb : Below w.heap.size w W) (hs : W.heap[w.heap.size]? = some (.stringIter s p)) (h : Below W.heap.size W W') : Below w.heap.size w W' ∧ W'.heap[w.heap.size]? = some (.stringIter s p) :=
  ⟨hb.trans (h.mono hb.size), (h.block _ (heap_lt hs)).trans hs⟩
set_option maxHeartbeats 8000000 in
set_option maxRecDepth 1000000 in
theorem indexAny_short (s : ByteArray) (w : World) (h8 : s.size ≤ 8) : Calls Tryd.prog 79 #[.string s, .string ⟨#[47, 0]⟩] w fun e w' => e = .returned (.int .i64 (Lib.indexAny s.data.toList [47, 0])) ∧ Below w.heap.size w w' := by
  have h8z : decide ((8 : Int) < (s.size : Int)) = false := decide_eq_false (by omega)
  have hsi := heap_iter w s
  have hbi : Below w.heap.size w (w.iter s 0) := (Below.refl _ _).alloc (Nat.le_refl _) _
  have HI : Aside ((w.iter s 0).heap[w.heap.size]? = some (.stringIter s 0) ∧ Below w.heap.size w (w.iter s 0)) := ⟨hsi, hbi⟩
  clear hsi hbi
  go_enter Tryd.func79, Tryd.ntmps79
  go_wp2_with (go_at_call 91; refine (Tryd.strings_shouldUseASCIISet _ _).mono ?_; rintro e w' ⟨rfl, hw⟩; rw [hw, h8z])
  go_loopg [9, 10] s.size (fun g _ _ wx => ∃ i : Nat, i + g = s.size ∧ wx.heap[w.heap.size]? = some (.stringIter s i) ∧ Below w.heap.size w wx ∧ Lib.NoAny s.data.toList [47, 0] i)
  case atStart => exact ⟨0, by omega, HI.out.1, HI.out.2, Lib.NoAny.zero _ _⟩
  case round =>
    obtain ⟨i, hig, hs, hbl, hno⟩ := hrel
    have HN : Aside (Lib.NoAny s.data.toList [47, 0] i ∧ wr.heap[w.heap.size]? = some (.stringIter s i) ∧ Below w.heap.size w wr) := ⟨hno, hs, hbl⟩
    cases gk with
    | zero =>
      obtain rfl : i = s.size := by omega
      have hnx := fun ty => run_next_at_end (P := Tryd.prog) hs (by omega) ty
      clear hno hs hbl
      go_wp2
      go_ret
      exact ⟨by rw [Lib.indexAny_none (by rw [← Lib.size_eq]; exact HN.out.1)]; rfl, HN.out.2.2⟩
    | succ g =>
      have hi : i < s.size := by omega
      have hnx := fun ty => run_next_at (P := Tryd.prog) hs hi ty
      have hpi := putObj_iter hbl hs (i + (Utf8.decode s i).2)
      have HP : Aside (Below w.heap.size w (wr.putObj w.heap.size (.stringIter s (i + (Utf8.decode s i).2))) ∧ (wr.putObj w.heap.size (.stringIter s (i + (Utf8.decode s i).2))).heap[w.heap.size]? = some (.stringIter s (i + (Utf8.decode s i).2))) := hpi
      clear hno hs hbl hpi
      obtain ⟨x, hx⟩ : ∃ x : UInt8, s[i]'hi = x := ⟨_, rfl⟩
      have hxl : s.data.toList[i]? = some x := by rw [← hx]; exact Lib.data_getElem? s i hi
      rcases decode_step s i hi with ⟨hd1, hd2⟩ | ⟨hd1, hd2, hd3, hd4, hd5⟩
      · rw [hx] at hd1 hd2
        rw [hd2] at hnx HP
        have Hx : Aside (s.data.toList[i]? = some x) := hxl
        clear hxl hx hd2
        have hcon := Lib.contains_iff_indexByte [47, 0] x
        have hback : ((x.toNat : Int)).toNat.toUInt8 = x := by simp
        cases hin : ([47, 0] : List UInt8).contains x
        · rw [hin] at hcon
          have hlt : ¬ ((0 : Int) ≤ Lib.indexByte [47, 0] x) := of_decide_eq_false hcon.symm
          clear hcon
          go_wp2_with (go_at_call 90; refine (Tryd.strings_IndexRune_ascii _ _ _ (by omega) (by omega)).mono ?_; rintro e w' ⟨rfl, hw⟩; rw [hw, hback])
          go_roundg g
          case measure => omega
          case rel => exact ⟨i + 1, by omega, HP.out.2, HP.out.1, HN.out.1.succ Hx.out hin⟩
        · rw [hin] at hcon
          have hge : (0 : Int) ≤ Lib.indexByte [47, 0] x := of_decide_eq_true hcon.symm
          clear hcon
          go_wp2_with (go_at_call 90; refine (Tryd.strings_IndexRune_ascii _ _ _ (by omega) (by omega)).mono ?_; rintro e w' ⟨rfl, hw⟩; rw [hw, hback])
          go_ret
          exact ⟨by rw [Lib.indexAny_hit HN.out.1 Hx.out hin]; rfl, HP.out.1⟩
      · obtain ⟨c, hc⟩ : ∃ c, (Utf8.decode s i).1 = c := ⟨_, rfl⟩
        obtain ⟨n, hn⟩ : ∃ n, (Utf8.decode s i).2 = n := ⟨_, rfl⟩
        rw [hc, hn] at hnx
        rw [hn] at HP hd3 hd4 hd5
        rw [hc] at hd1 hd2
        have H5 : Aside (∀ j (hj : j < s.size), i ≤ j → j < i + n → 128 ≤ (s[j]'hj).toNat) := hd5
        have H2 : Aside (Utf8.valid (c : Int) = true) := hd2
        clear hd5 hd2 hxl hx hc hn
        go_wp2_with (go_at_call 90; refine (indexRune_non _ (by omega) H2.out _).mono ?_; rintro e w' ⟨rfl, hw⟩; have HW := below_iter HP.out.1 HP.out.2 hw)
        go_roundg (s.size - (i + n))
        case measure => omega
        case rel =>
          refine ⟨i + n, by omega, HW.2, HW.1, fun j b hj hb => ?_⟩
          rcases Nat.lt_or_ge j i with g | g
          · exact HN.out.1 j b g hb
          · have hjs : j < s.size := by omega
            have := H5.out j hjs g hj
            have hb2 := Lib.data_getElem? s j hjs
            rw [hb] at hb2
            have hb3 : b = s[j]'hjs := Option.some.inj hb2
            rw [contains_bad, hb3]
            have h47 : s[j]'hjs ≠ 47 := fun e => by rw [e] at this; revert this; decide
            have h00 : s[j]'hjs ≠ 0 := fun e => by rw [e] at this; revert this; decide
            simp [bad, h47, h00]
end Go.Proofs.YtnjglohgjhihjaaDoor.Vcg
end
section
set_option linter.unusedVariables false
set_option linter.unusedSimpArgs false
namespace Go.Proofs.YtnjglohgjhihjaaDoor.Vcg
open Go.RowKit Go.Shelf
theorem zero_ascii (w : World) : (zeroValue 116).run Tryd.prog w = .ok (.agg (Array.replicate 256 (.bool false))) w := by kernel_rfl
theorem indexAny_bad : ∀ l : List UInt8, decide (0 ≤ Lib.indexAny l [47, 0]) = l.any bad
  | [] => rfl
  | b :: l => by
    have ih := indexAny_bad l
    have hg := Lib.indexAny_ge [47, 0] l
    unfold Lib.indexAny
    rw [contains_bad, List.any_cons]
    cases hb : bad b with
    | true => simp
    | false =>
      simp only [Bool.false_eq_true, if_false, Bool.false_or, ← ih]
      split
      · rename_i h
        have := beq_iff_eq.1 h
        first | rw [this]; done | (rw [this]; rfl)
      · rename_i h
        have h' : Lib.indexAny l [47, 0] ≠ -1 := by simpa using h
        rw [decide_eq_decide]; omega
theorem indexAny_fun (l : List UInt8) (hl : l.length ≤ 1000000) : Fun Tryd.prog G0 79 [.str l, .str [47, 0]] (.sc (.int .i64 (Lib.indexAny l [47, 0]))) 0 := by
  refine Fun.wrap (by kernel_rfl) fun R vs h => ?_
  obtain ⟨v1, us1, rfl, h1, h⟩ := repL_cons.1 h
  obtain ⟨v2, us2, rfl, h2, h⟩ := repL_cons.1 h
  rw [repL_nil] at h
  subst h
  rw [rep_str] at h1 h2
  subst h1 h2
  have hsz : (ByteArray.mk l.toArray).size = l.length := by simp [ByteArray.size]
  by_cases h8 : l.length ≤ 8
  · refine (indexAny_short ⟨l.toArray⟩ R.w (by omega)).mono ?_
    rintro e w' ⟨rfl, hb⟩
    exact ⟨_, rfl, hb, fun R' _ => rep_sc.2 (by simp)⟩
  · refine (Tryd.strings_IndexAny_long zero_ascii ⟨l.toArray⟩ ⟨#[47, 0]⟩ R.w (by decide) (by omega) (by omega) (by decide) ?_).mono ?_
    · intro j b hb
      have : b = 47 ∨ b = 0 := by
        have := List.mem_of_getElem? hb
        simpa using this
      rcases this with rfl | rfl <;> decide
    · rintro e w' ⟨rfl, rfl⟩
      exact ⟨_, rfl, ((Below.refl _ _).alloc (Nat.le_refl _) _).alloc (by simp) _, fun R' _ => rep_sc.2 (by simp)⟩
theorem containsAny_fun (l : List UInt8) (hl : l.length ≤ 1000000) : Fun Tryd.prog G0 58 [.str l, .str [47, 0]] (boolC (l.any bad)) 0 := by
  have h := indexAny_bad l
  refine Fun.of (fun _ => []) (by kernel_rfl) Tryd.func58 rfl rfl (Nat.le_of_ble_eq_true rfl) (by kernel_rfl) ?_; dsimp only [Tryd.f58, List.append_eq, List.cons_append, List.nil_append]
  simp -dsimp only [push_cast, seval]
  refine call (indexAny_fun l hl) ?_
  simp -dsimp only [push_cast, seval]
  exact ⟨[], rfl, rfl, by simp -dsimp only [WeakTm, WeakBx, CLe, CLeL, push_cast, seval, h]⟩
/-- may it be a name? -/
def may (l : List UInt8) : Bool := !decide (l = []) && decide (l.length ≤ 255) && !l.any bad && !decide (l = [46]) && !decide (l = [46, 46])
set_option maxHeartbeats 1000000 in
theorem may_fun (l : List UInt8) (hl : l.length ≤ 1000000) : Fun Tryd.prog G0 39 [.str l] (boolC (may l)) 0 := by
  by_cases h1 : l = []
  · refine Fun.of (fun _ => []) (by kernel_rfl) Tryd.func39 rfl rfl (Nat.le_of_ble_eq_true rfl) (by kernel_rfl) ?_; dsimp only [Tryd.f39, List.append_eq, List.cons_append, List.nil_append]
    simp -dsimp only [push_cast, seval, h1]
    exact ⟨[], rfl, rfl, by simp -dsimp only [WeakTm, WeakBx, CLe, CLeL, push_cast, seval]; simp [may]⟩
  · by_cases h2 : l.length ≤ 255
    · have h2' : (l.length : Int) ≤ 255 := by omega
      cases h3 : l.any bad with
      | true =>
        refine Fun.of (fun _ => []) (by kernel_rfl) Tryd.func39 rfl rfl (Nat.le_of_ble_eq_true rfl) (by kernel_rfl) ?_; dsimp only [Tryd.f39, List.append_eq, List.cons_append, List.nil_append]
        simp -dsimp only [push_cast, seval, h1, h2']
        refine call (containsAny_fun l hl) ?_
        simp -dsimp only [push_cast, seval, h3]
        exact ⟨[], rfl, rfl, by simp -dsimp only [WeakTm, WeakBx, CLe, CLeL, push_cast, seval]; simp [may, h3]⟩
      | false =>
        by_cases h4 : l = [46]
        · subst h4
          refine Fun.of (fun _ => []) (by kernel_rfl) Tryd.func39 rfl rfl (Nat.le_of_ble_eq_true rfl) (by kernel_rfl) ?_; dsimp only [Tryd.f39, List.append_eq, List.cons_append, List.nil_append]
          simp -dsimp only [push_cast, seval, h2']
          refine call (containsAny_fun _ hl) ?_
          simp -dsimp only [push_cast, seval, h3]
          exact ⟨[], rfl, rfl, by simp -dsimp only [WeakTm, WeakBx, CLe, CLeL, push_cast, seval]; simp [may]⟩
        · refine Fun.of (fun _ => []) (by kernel_rfl) Tryd.func39 rfl rfl (Nat.le_of_ble_eq_true rfl) (by kernel_rfl) ?_; dsimp only [Tryd.f39, List.append_eq, List.cons_append, List.nil_append]
          simp -dsimp only [push_cast, seval, h1, h2']
          refine call (containsAny_fun l hl) ?_
          simp -dsimp only [push_cast, seval, h3, h4]
          exact ⟨[], rfl, rfl, by simp -dsimp only [WeakTm, WeakBx, CLe, CLeL, push_cast, seval]; simp [may, h1, h2, h3, h4]⟩
    · have h2' : ¬ (l.length : Int) ≤ 255 := by omega
      refine Fun.of (fun _ => []) (by kernel_rfl) Tryd.func39 rfl rfl (Nat.le_of_ble_eq_true rfl) (by kernel_rfl) ?_; dsimp only [Tryd.f39, List.append_eq, List.cons_append, List.nil_append]
      simp -dsimp only [push_cast, seval, h1, h2']
      exact ⟨[], rfl, rfl, by simp -dsimp only [WeakTm, WeakBx, CLe, CLeL, push_cast, seval]; simp [may, h2]⟩
theorem notMay_fun (l : List UInt8) (hl : l.length ≤ 1000000) : Fun Tryd.prog G0 60 [.str l] (boolC (!may l)) 0 := by
  refine Fun.of (fun _ => []) (by kernel_rfl) Tryd.func60 rfl rfl (Nat.le_of_ble_eq_true rfl) (by kernel_rfl) ?_; dsimp only [Tryd.f60, List.append_eq, List.cons_append, List.nil_append]
  simp -dsimp only [push_cast, seval]
  refine call (may_fun l hl) ?_
  simp -dsimp only [push_cast, seval]
  exact ⟨[], rfl, rfl, by simp -dsimp only [WeakTm, WeakBx, CLe, CLeL, push_cast, seval]⟩
end Go.Proofs.YtnjglohgjhihjaaDoor.Vcg
end
section
set_option linter.unusedVariables false
set_option linter.unusedSimpArgs false
namespace Go.Proofs.YtnjglohgjhihjaaDoor.Vcg
open Go.RowKit
def ixNot (xs : List (List UInt8)) : Int := match xs.findIdx? (fun x => !may x) with | some i => (i : Int) | none => -1
theorem ixNot_ge (xs : List (List UInt8)) : decide (0 ≤ ixNot xs) = !xs.all may := by
  unfold ixNot
  cases h : xs.findIdx? (fun x => !may x) with
  | none =>
    have := List.findIdx?_eq_none_iff.1 h
    have h2 : xs.all may = true := List.all_eq_true.2 fun x hx => by simpa using this x hx
    rw [h2]; rfl
  | some i =>
    have h1 := List.findIdx?_eq_some_iff_getElem.1 h
    obtain ⟨hi, hp, _⟩ := h1
    have h2 : xs.all may = false := List.all_eq_false.2 ⟨xs[i], List.getElem_mem hi, by simpa using hp⟩
    rw [h2]; simp
set_option maxRecDepth 100000 in
set_option maxHeartbeats 1000000 in
theorem indexFunc_fun (xs : List (List UInt8)) (hx : xs.length ≤ 1000001) (hl : ∀ x ∈ xs, x.length ≤ 1000000) : Fun Tryd.prog G0 80 [.sl 1 (strs xs), .clo (.func 60) [] []] (.sc (.int .i64 (ixNot xs))) 0 := by
  refine Fun.of (fun _ => []) (by kernel_rfl) Tryd.func80 rfl rfl (Nat.le_of_ble_eq_true rfl) (by kernel_rfl) ?_; dsimp only [Tryd.f80, List.append_eq, List.cons_append, List.nil_append]
  simp -dsimp only [push_cast, seval]
  refine loop (fun k : Nat => ⟨[(0, .sl 1 (strs xs)), (1, .clo (.func 60) [] []), (7, .sc (.int .i64 (xs.length : Int))), (8, .sc (.int .i64 k))], [], 0, 0⟩) (fun k => k ≤ xs.length ∧ ∀ j (hj : j < xs.length), j < k → may (xs[j]'hj) = true) (fun k => xs.length - k) 0 ⟨Nat.zero_le _, fun j _ hj => by omega⟩ ?_ ?_
  · exact Weak.mk [] rfl rfl (Nat.le_refl _) rfl (by simp -dsimp only [WeakTm, WeakBx, CLe, CLeL, push_cast, seval]) (by simp -dsimp only [WeakTm, WeakBx, CLe, CLeL, push_cast, seval])
  · intro k hk
    have hk1 := hk.1
    have hk2 := hk.2
    by_cases h : k < xs.length
    · have hg : (strs xs)[k]? = some [.str (xs[k]'h)] := by rw [strs_get?, List.getElem?_eq_getElem h]; rfl
      simp -dsimp only [push_cast, seval, h, hg]
      refine ⟨by omega, ?_⟩
      refine call (notMay_fun (xs[k]'h) (hl _ (List.getElem_mem h))) ?_
      simp -dsimp only [push_cast, seval]
      cases hm : may (xs[k]'h) with
      | true =>
        simp -dsimp only [push_cast, seval]
        refine ⟨by omega, k + 1, ⟨by omega, fun j hj hjk => ?_⟩, by omega, Weak.mk [] rfl rfl (Nat.le_refl _) rfl (by simp -dsimp only [WeakTm, WeakBx, CLe, CLeL, push_cast, seval]) (by simp -dsimp only [WeakTm, WeakBx, CLe, CLeL, push_cast, seval])⟩
        rcases Nat.lt_or_ge j k with g | g
        · exact hk2 j hj g
        · have : j = k := by omega
          subst this; exact hm
      | false =>
        simp -dsimp only [push_cast, seval]
        refine ⟨[], rfl, rfl, ?_⟩
        simp -dsimp only [WeakTm, WeakBx, CLe, CLeL, push_cast, seval]
        have : xs.findIdx? (fun x => !may x) = some k := List.findIdx?_eq_some_iff_getElem.2 ⟨h, by simp [hm], fun j hj => by simp [hk2 j (by omega) hj]⟩
        simp [ixNot, this]
    · simp -dsimp only [push_cast, seval, h]
      refine ⟨[], rfl, rfl, ?_⟩
      simp -dsimp only [WeakTm, WeakBx, CLe, CLeL, push_cast, seval]
      have : xs.findIdx? (fun x => !may x) = none := List.findIdx?_eq_none_iff.2 fun x hx => by
        obtain ⟨j, hj, rfl⟩ := List.getElem_of_mem hx
        simp [hk2 j hj (by omega)]
      simp [ixNot, this]
theorem containsFunc_fun (xs : List (List UInt8)) (hx : xs.length ≤ 1000001) (hl : ∀ x ∈ xs, x.length ≤ 1000000) : Fun Tryd.prog G0 59 [.sl 1 (strs xs), .clo (.func 60) [] []] (boolC (!xs.all may)) 0 := by
  have h := ixNot_ge xs
  refine Fun.of (fun _ => []) (by kernel_rfl) Tryd.func59 rfl rfl (Nat.le_of_ble_eq_true rfl) (by kernel_rfl) ?_; dsimp only [Tryd.f59, List.append_eq, List.cons_append, List.nil_append]
  simp -dsimp only [push_cast, seval]
  refine call (indexFunc_fun xs hx hl) ?_
  simp -dsimp only [push_cast, seval]
  exact ⟨[], rfl, rfl, by simp -dsimp only [WeakTm, WeakBx, CLe, CLeL, push_cast, seval, h]⟩
def plain (p : List UInt8) : Bool := decide (joinP (names p) = p) && (names p).all may
def plainC (p : List UInt8) : C := .tup [.own 0 9 1 (strs (if plain p then names p else [])), boolC (plain p)]
theorem join_cons2 (x y : List UInt8) (r : List (List UInt8)) (sep : List UInt8) : Lib.join (x :: y :: r) sep = x ++ sep ++ Lib.join (y :: r) sep := by
  simp [Lib.join, List.intercalate, List.intersperse]
theorem join_len : ∀ xs : List (List UInt8), xs ≠ [] → (Lib.join xs [47]).length + 1 = (xs.map fun x => x.length + 1).sum
  | [], h => absurd rfl h
  | [x], _ => by simp [Lib.join]
  | x :: y :: r, _ => by
    have ih := join_len (y :: r) (by simp)
    rw [join_cons2]
    simp only [List.length_append, List.length_cons, List.length_nil, List.map_cons, List.sum_cons] at ih ⊢
    omega
theorem spl_sum : ∀ l : List UInt8, ((splS l).map fun x => x.length + 1).sum = l.length + 1
  | [] => rfl
  | b :: l => by
    have ih := spl_sum l
    unfold splS
    split
    · simp only [List.map_cons, List.sum_cons, List.length_nil, List.length_cons, ih]; omega
    · cases h : splS l with
      | nil => exact absurd h (spl_ne l)
      | cons x r =>
        rw [h] at ih
        simp only [List.map_cons, List.sum_cons, List.length_cons] at ih ⊢
        omega
theorem filter_sum (f : List UInt8 → Bool) : ∀ xs : List (List UInt8), ((xs.filter f).map fun x => x.length + 1).sum ≤ (xs.map fun x => x.length + 1).sum
  | [] => by simp
  | x :: r => by
    have ih := filter_sum f r
    rw [List.filter_cons]
    split
    · simp only [List.map_cons, List.sum_cons]; omega
    · simp only [List.map_cons, List.sum_cons]; omega
theorem mem_sum : ∀ (xs : List (List UInt8)) (x : List UInt8), x ∈ xs → x.length + 1 ≤ (xs.map fun x => x.length + 1).sum
  | y :: r, x, h => by
    simp only [List.map_cons, List.sum_cons]
    rcases List.mem_cons.1 h with rfl | h
    · omega
    · have := mem_sum r x h; omega
theorem joinNames (l : List UInt8) : (Lib.join (names l) [47]).length ≤ l.length ∧ ∀ x ∈ names l, x.length ≤ l.length := by
  have h1 := spl_sum l
  have h2 := filter_sum (fun x => !decide (x = [])) (splS l)
  rw [← names_spl] at h2
  refine ⟨?_, fun x hx => ?_⟩
  · by_cases h : names l = []
    · rw [h]; simp [Lib.join]
    · have := join_len (names l) h; omega
  · have := mem_sum (names l) x hx; omega
set_option maxRecDepth 100000 in
set_option maxHeartbeats 1000000 in
theorem plain_fun (p : List UInt8) (hp : p.length ≤ 1000000) : Fun Tryd.prog G0 43 [.str p] (plainC p) 1 := by
  have hz := names_size p
  have hj := joinNames p
  by_cases h1 : joinP (names p) = p
  · have h1' : (p = joinP (names p)) := h1.symm
    refine Fun.of (fun _ => []) (by kernel_rfl) Tryd.func43 rfl rfl (Nat.le_of_ble_eq_true rfl) (by kernel_rfl) ?_; dsimp only [Tryd.f43, List.append_eq, List.cons_append, List.nil_append]
    simp -dsimp only [push_cast, seval]
    refine call (names_call p) ?_
    simp -dsimp only [push_cast, seval]
    refine call (collectNames p hp) ?_
    simp -dsimp only [push_cast, seval]
    refine call (joinP_fun (names p) (by omega) (by omega)) ?_
    simp -dsimp only [push_cast, seval, h1]
    refine call (containsFunc_fun (names p) (by omega) fun x hx => by have := hj.2 x hx; omega) ?_
    simp -dsimp only [push_cast, seval]
    cases hm : (names p).all may with
    | true =>
      simp -dsimp only [push_cast, seval]
      exact ⟨[.inl 0], rfl, rfl, by simp only [plainC, plain, h1, hm]; simp -dsimp only [WeakTm, WeakBx, CLe, CLeL, push_cast, seval] <;> simp⟩
    | false =>
      simp -dsimp only [push_cast, seval]
      exact ⟨[.inr (9, 1)], rfl, rfl, by simp only [plainC, plain, h1, hm]; simp -dsimp only [WeakTm, WeakBx, CLe, CLeL, push_cast, seval] <;> simp⟩
  · refine Fun.of (fun _ => []) (by kernel_rfl) Tryd.func43 rfl rfl (Nat.le_of_ble_eq_true rfl) (by kernel_rfl) ?_; dsimp only [Tryd.f43, List.append_eq, List.cons_append, List.nil_append]
    simp -dsimp only [push_cast, seval]
    refine call (names_call p) ?_
    simp -dsimp only [push_cast, seval]
    refine call (collectNames p hp) ?_
    simp -dsimp only [push_cast, seval]
    refine call (joinP_fun (names p) (by omega) (by omega)) ?_
    simp -dsimp only [push_cast, seval, h1]
    exact ⟨[.inr (9, 1)], rfl, rfl, by simp only [plainC, plain, h1]; simp -dsimp only [WeakTm, WeakBx, CLe, CLeL, push_cast, seval] <;> simp⟩
end Go.Proofs.YtnjglohgjhihjaaDoor.Vcg
end
section
set_option linter.unusedVariables false
set_option linter.unusedSimpArgs false
namespace Go.Proofs.YtnjglohgjhihjaaDoor.Vcg
open Go.RowKit
theorem pre_at (l : List UInt8) (b : UInt8) (h : l[0]? = some b) : Lib.hasPrefix l [47] = decide ((b.toNat : Int) = 47) := by
  cases l with
  | nil => simp at h
  | cons x r =>
    simp at h; subst h
    unfold Lib.hasPrefix
    by_cases h : x = 47
    · subst h; rfl
    · have h2 : ¬ ((x.toNat : Int) = 47) := u8_ne h
      have h3 : ¬ (47 = x) := fun e => h e.symm
      simp [List.isPrefixOf, h2, h3]
theorem suf_at (l : List UInt8) (b : UInt8) (h : l[l.length - 1]? = some b) : Lib.hasSuffix l [47] = decide ((b.toNat : Int) = 47) := by
  have hne : l ≠ [] := fun e => by subst e; simp at h
  have hl : l = l.take (l.length - 1) ++ [b] := by
    have hlt : l.length - 1 < l.length := by have := List.length_pos_iff.2 hne; omega
    have := List.take_append_drop (l.length - 1) l
    rw [List.drop_eq_getElem_cons hlt] at this
    rw [List.getElem?_eq_getElem hlt] at h
    cases h
    rw [List.drop_eq_nil_of_le (by omega)] at this
    exact this.symm
  rw [hl]
  unfold Lib.hasSuffix
  by_cases h : b = 47
  · subst h
    have : ([47] : List UInt8) <:+ l.take (l.length - 1) ++ [47] := List.suffix_append _ _
    rw [List.isSuffixOf_iff_suffix.2 this]; rfl
  · have h2 : ¬ ((b.toNat : Int) = 47) := u8_ne h
    have h3 : ¬ ([47] : List UInt8) <:+ l.take (l.length - 1) ++ [b] := fun ⟨t, ht⟩ => by
      have := List.append_inj_right' ht rfl
      simp at this
      exact h this.symm
    have h4 : ([47] : List UInt8).isSuffixOf (l.take (l.length - 1) ++ [b]) = false := by
      rw [Bool.eq_false_iff]; exact fun e => h3 (List.isSuffixOf_iff_suffix.1 e)
    rw [h4]; simp [h2]
theorem names_nil : names [] = [] := rfl
set_option maxRecDepth 100000 in
set_option maxHeartbeats 1000000 in
theorem refRead_fun (p : List UInt8) (hp : p.length ≤ 100000) : Fun Tryd.prog G0 32 [.str p] (readC p) 1 := by
  have hn := names_fun p hp
  have hs := names_size p
  by_cases hp0 : p = []
  · subst hp0
    have h0 := names_nil
    refine Fun.of (fun _ => []) (by kernel_rfl) Tryd.func32 rfl rfl (Nat.le_of_ble_eq_true rfl) (by kernel_rfl) ?_; dsimp only [Tryd.f32, List.append_eq, List.cons_append, List.nil_append]
    simp -dsimp only [push_cast, seval]
    refine call hn ?_
    simp -dsimp only [push_cast, seval, h0]
    exact ⟨[.inl 0], rfl, rfl, by simp only [readC]; simp -dsimp only [WeakTm, WeakBx, CLe, CLeL, push_cast, seval, h0] <;> exact ⟨rfl, rfl⟩⟩
  · have hl : 0 < p.length := List.length_pos_iff.2 hp0
    obtain ⟨b, hb⟩ : ∃ b, p[0]? = some b := ⟨_, List.getElem?_eq_getElem hl⟩
    have hpb := pre_at p b hb
    by_cases h0 : names p = []
    · refine Fun.of (fun _ => []) (by kernel_rfl) Tryd.func32 rfl rfl (Nat.le_of_ble_eq_true rfl) (by kernel_rfl) ?_; dsimp only [Tryd.f32, List.append_eq, List.cons_append, List.nil_append]
      simp -dsimp only [push_cast, seval]
      refine call hn ?_
      simp -dsimp only [push_cast, seval, h0, hl, hb]
      exact ⟨[.inl 0], rfl, rfl, by simp only [readC]; simp -dsimp only [WeakTm, WeakBx, CLe, CLeL, push_cast, seval, h0, hpb] <;> simp⟩
    · have hlen : 0 < (names p).length := List.length_pos_iff.2 h0
      obtain ⟨c, hc⟩ : ∃ c, p[p.length - 1]? = some c := ⟨_, List.getElem?_eq_getElem (by omega)⟩
      have hsf := suf_at p c hc
      have hidx : ((p.length : Int) - 1).toNat = p.length - 1 := by omega
      refine Fun.of (fun _ => []) (by kernel_rfl) Tryd.func32 rfl rfl (Nat.le_of_ble_eq_true rfl) (by kernel_rfl) ?_; dsimp only [Tryd.f32, List.append_eq, List.cons_append, List.nil_append]
      simp -dsimp only [push_cast, seval]
      refine call hn ?_
      simp -dsimp only [push_cast, seval, hlen, hl, hb, hidx, hc]
      refine ⟨by omega, by omega, [.inl 0], rfl, rfl, by simp only [readC]; simp -dsimp only [WeakTm, WeakBx, CLe, CLeL, push_cast, seval, h0, hpb, hsf] <;> simp⟩
/-- what the reference puts together, so far -/
theorem join_take (xs : List (List UInt8)) (k : Nat) (x : List UInt8) (h : xs[k]? = some x) : Lib.join (xs.take (k + 1)) [47] = (if k = 0 then x else Lib.join (xs.take k) [47] ++ [47] ++ x) := by
  cases xs with
  | nil => simp at h
  | cons y r =>
    cases k with
    | zero => simp at h; subst h; simp [Lib.join_one]
    | succ k =>
      simp only [List.take_succ_cons, Nat.succ_ne_zero, if_false]
      rw [Lib.join_cons, Lib.join_cons, Lib.joinTail_take_succ _ _ _ x (by simpa using h)]
      simp [List.append_assoc]
theorem join_le (xs : List (List UInt8)) (k : Nat) : (Lib.join (xs.take k) [47]).length ≤ (Lib.join xs [47]).length := by
  by_cases h : xs.take k = []
  · rw [h]; simp [Lib.join]
  · have h1 := join_len (xs.take k) h
    have hx : xs ≠ [] := fun e => h (by rw [e]; simp)
    have h2 := join_len xs hx
    have h3 : ((xs.take k).map fun x => x.length + 1).sum ≤ (xs.map fun x => x.length + 1).sum := by
      conv => rhs; rw [← List.take_append_drop k xs, List.map_append, List.sum_append]
      omega
    omega
set_option maxRecDepth 100000 in
set_option maxHeartbeats 1000000 in
theorem refPut_fun (a : Bool) (xs : List (List UInt8)) (s : Bool) (hx : xs.length ≤ 1000001) (hl : (Lib.join xs [47]).length ≤ 100000000) : Fun Tryd.prog G0 37 [pathC a xs s] (.str (put a xs s)) 0 := by
  unfold pathC
  obtain ⟨p0, hp0, hp1⟩ : ∃ p0 : List UInt8, p0 = (if a then [47] else []) ∧ p0.length ≤ 1 := ⟨_, rfl, by cases a <;> simp⟩
  have fin : ∀ t : List UInt8, t = p0 ++ Lib.join xs [47] → put a xs s = (if s && !decide (xs = []) then t ++ [47] else t) := fun t ht => by
    rw [ht, hp0]; unfold put
    cases s <;> simp <;> (by_cases h : xs = [] <;> simp [h])
  refine Fun.of (fun _ => []) (by kernel_rfl) Tryd.func37 rfl rfl (Nat.le_of_ble_eq_true rfl) (by kernel_rfl) ?_; dsimp only [Tryd.f37, List.append_eq, List.cons_append, List.nil_append]
  simp -dsimp only [push_cast, seval]
  cases a
  all_goals
    simp only [Bool.false_eq_true, if_false, if_true] at hp0
    simp -dsimp only [push_cast, seval]
    refine loop (fun k : Nat => ⟨[(1, .ptr 0 0), (3, .str (p0 ++ Lib.join (xs.take k) [47])), (4, .sc (.int .i64 k))], [[.any, .sl 1 (strs xs), boolC s]], 0, 0⟩) (fun k => k ≤ xs.length) (fun k => xs.length - k) 0 (Nat.zero_le _) ?_ ?_
    · exact Weak.mk [] rfl rfl (Nat.zero_le _) rfl (by simp -dsimp only [WeakTm, WeakBx, CLe, CLeL, push_cast, seval] <;> simp [hp0, Lib.join]) (by simp -dsimp only [WeakTm, WeakBx, CLe, CLeL, push_cast, seval])
    · intro k hk
      have hjk := join_le xs k
      by_cases h : k < xs.length
      · have hg := strs_at xs k h
        have hjs := join_take xs k (xs[k]'h) (List.getElem?_eq_getElem h)
        have hj1 := join_le xs (k + 1)
        have hjl : (Lib.join (xs.take (k + 1)) [47]).length = (if k = 0 then (xs[k]'h).length else (Lib.join (xs.take k) [47]).length + 1 + (xs[k]'h).length) := by
          rw [hjs]; split <;> simp <;> omega
        by_cases hk0 : k = 0
        · subst hk0
          simp -dsimp only [push_cast, seval, h, hg]
          simp only [if_true] at hjl
          have hj0 : (Lib.join ([] : List (List UInt8)) [47]).length = 0 := rfl
          (try simp only [List.length_append, List.length_cons, List.length_nil, List.length_map, List.length_take, List.length_drop]); repeat (refine And.intro (by omega) ?_)
          refine ⟨1, by omega, by omega, Weak.mk [] rfl rfl (Nat.zero_le _) rfl ?_ (by simp -dsimp only [WeakTm, WeakBx, CLe, CLeL, push_cast, seval])⟩
          simp -dsimp only [WeakTm, WeakBx, CLe, CLeL, push_cast, seval]
          have e : Lib.join (xs.take 1) [47] = xs[0]'h := by rw [show (1 : Nat) = 0 + 1 from rfl, hjs]; simp
          rw [e]; simp [Lib.join]
        · have hk1 : 0 < k := by omega
          simp -dsimp only [push_cast, seval, h, hg, hk1]
          rw [if_neg hk0] at hjl
          (try simp only [List.length_append, List.length_cons, List.length_nil, List.length_map, List.length_take, List.length_drop]); repeat (refine And.intro (by omega) ?_)
          refine ⟨k + 1, by omega, by omega, Weak.mk [] rfl rfl (Nat.zero_le _) rfl ?_ (by simp -dsimp only [WeakTm, WeakBx, CLe, CLeL, push_cast, seval])⟩
          simp -dsimp only [WeakTm, WeakBx, CLe, CLeL, push_cast, seval]
          simp [hjs, hk0]
      · have hkl : k = xs.length := by omega
        have hf := fin (p0 ++ Lib.join (xs.take k) [47]) (by rw [hkl, List.take_length])
        simp -dsimp only [push_cast, seval, h]
        cases s
        · simp -dsimp only [push_cast, seval]
          exact ⟨[], rfl, rfl, by simp -dsimp only [WeakTm, WeakBx, CLe, CLeL, push_cast, seval]; rw [hf]; simp⟩
        · by_cases hx0 : 0 < xs.length
          · have hx1 : xs ≠ [] := List.length_pos_iff.1 hx0
            simp -dsimp only [push_cast, seval, hx0]
            (try simp only [List.length_append, List.length_cons, List.length_nil, List.length_map, List.length_take, List.length_drop]); repeat (refine And.intro (by omega) ?_)
            exact ⟨[], rfl, rfl, by simp -dsimp only [WeakTm, WeakBx, CLe, CLeL, push_cast, seval]; rw [hf]; simp [hx1]⟩
          · have hx1 : xs = [] := List.eq_nil_of_length_eq_zero (by omega)
            simp -dsimp only [push_cast, seval, hx0]
            exact ⟨[], rfl, rfl, by simp -dsimp only [WeakTm, WeakBx, CLe, CLeL, push_cast, seval]; rw [hf]; simp [hx1]⟩
theorem joinP_take (xs : List (List UInt8)) (k : Nat) (x : List UInt8) (h : xs[k]? = some x) : (if xs.take (k + 1) = [] then [] else joinP (xs.take (k + 1))) = (if xs.take k = [] then [] else joinP (xs.take k)) ++ [47] ++ x := by
  have hk : k < xs.length := (List.getElem?_eq_some_iff.1 h).1
  have h1 : xs.take (k + 1) ≠ [] := fun e => by have := congrArg List.length e; rw [List.length_take] at this; simp only [List.length_nil] at this; omega
  rw [if_neg h1]
  unfold joinP
  rw [if_neg h1, join_take xs k x h]
  by_cases hk0 : k = 0
  · subst hk0; simp
  · have h2 : xs.take k ≠ [] := fun e => by have := congrArg List.length e; rw [List.length_take] at this; simp only [List.length_nil] at this; omega
    simp [h2, hk0]
def jst (xs : List (List UInt8)) (k : Nat) : List UInt8 := if xs.take k = [] then [] else joinP (xs.take k)
theorem jst_len (xs : List (List UInt8)) (k : Nat) : (jst xs k).length ≤ (Lib.join xs [47]).length + 1 := by
  unfold jst
  split
  · simp
  · rename_i h
    have := join_le xs k
    unfold joinP
    rw [if_neg h]
    simp; omega
set_option maxRecDepth 100000 in
set_option maxHeartbeats 1000000 in
theorem refJoin_fun (xs : List (List UInt8)) (hx : xs.length ≤ 1000001) (hl : (Lib.join xs [47]).length ≤ 100000000) : Fun Tryd.prog G0 28 [.sl 1 (strs xs)] (.str (joinP xs)) 0 := by
  by_cases h0 : xs = []
  · subst h0
    refine Fun.of (fun _ => []) (by kernel_rfl) Tryd.func28 rfl rfl (Nat.le_of_ble_eq_true rfl) (by kernel_rfl) ?_; dsimp only [Tryd.f28, List.append_eq, List.cons_append, List.nil_append]
    simp -dsimp only [push_cast, seval]
    exact ⟨[], rfl, rfl, by simp -dsimp only [WeakTm, WeakBx, CLe, CLeL, push_cast, seval] <;> simp [joinP]⟩
  · have h0' : ¬ ((xs.length : Int) = 0) := by have := List.length_pos_iff.2 h0; omega
    refine Fun.of (fun _ => []) (by kernel_rfl) Tryd.func28 rfl rfl (Nat.le_of_ble_eq_true rfl) (by kernel_rfl) ?_; dsimp only [Tryd.f28, List.append_eq, List.cons_append, List.nil_append]
    simp -dsimp only [push_cast, seval, h0']
    refine loop (fun k : Nat => ⟨[(0, .sl 1 (strs xs)), (3, .str (jst xs k)), (4, .sc (.int .i64 k))], [], 0, 0⟩) (fun k => k ≤ xs.length) (fun k => xs.length - k) 0 (Nat.zero_le _) ?_ ?_
    · exact Weak.mk [] rfl rfl (Nat.zero_le _) rfl (by simp -dsimp only [WeakTm, WeakBx, CLe, CLeL, push_cast, seval] <;> simp [jst]) (by simp -dsimp only [WeakTm, WeakBx, CLe, CLeL, push_cast, seval])
    · intro k hk
      by_cases h : k < xs.length
      · have hg := strs_at xs k h
        have hst : jst xs (k + 1) = jst xs k ++ [47] ++ xs[k]'h := joinP_take xs k (xs[k]'h) (List.getElem?_eq_getElem h)
        have hjk := jst_len xs k
        have hjl := jst_len xs (k + 1)
        rw [hst] at hjl
        simp only [List.length_append, List.length_cons, List.length_nil] at hjl
        simp -dsimp only [push_cast, seval, h, hg]
        (try simp only [List.length_append, List.length_cons, List.length_nil, List.length_map, List.length_take, List.length_drop]); repeat (refine And.intro (by omega) ?_)
        refine ⟨k + 1, by omega, by omega, Weak.mk [] rfl rfl (Nat.zero_le _) rfl ?_ (by simp -dsimp only [WeakTm, WeakBx, CLe, CLeL, push_cast, seval])⟩
        simp -dsimp only [WeakTm, WeakBx, CLe, CLeL, push_cast, seval]
        simp [hst]
      · have hkl : k = xs.length := by omega
        simp -dsimp only [push_cast, seval, h]
        exact ⟨[], rfl, rfl, by simp -dsimp only [WeakTm, WeakBx, CLe, CLeL, push_cast, seval] <;> simp [jst, hkl, h0]⟩
set_option maxRecDepth 100000 in
set_option maxHeartbeats 1000000 in
theorem refMay_fun (l : List UInt8) (hl : l.length ≤ 1000000) : Fun Tryd.prog G0 40 [.str l] (boolC (may l)) 0 := by
  refine Fun.of (fun _ => []) (by kernel_rfl) Tryd.func40 rfl rfl (Nat.le_of_ble_eq_true rfl) (by kernel_rfl) ?_; dsimp only [Tryd.f40, List.append_eq, List.cons_append, List.nil_append]
  simp -dsimp only [push_cast, seval]
  refine loop (fun k : Nat => ⟨[(0, .str l), (3, .sc (.int .i64 k))], [], 0, 0⟩) (fun k => k ≤ l.length ∧ ∀ j (hj : j < l.length), j < k → bad (l[j]'hj) = false) (fun k => l.length - k) 0 ⟨Nat.zero_le _, fun j _ hj => by omega⟩ ?_ ?_
  · exact Weak.mk [] rfl rfl (Nat.zero_le _) rfl (by simp -dsimp only [WeakTm, WeakBx, CLe, CLeL, push_cast, seval]) (by simp -dsimp only [WeakTm, WeakBx, CLe, CLeL, push_cast, seval])
  · intro k hk
    have hk1 := hk.1
    have hk2 := hk.2
    by_cases h : k < l.length
    · have hb : l[k]? = some (l[k]'h) := List.getElem?_eq_getElem h
      have hbad : bad (l[k]'h) = true → may l = false := fun hb => by
        have : l.any bad = true := List.any_eq_true.2 ⟨l[k]'h, List.getElem_mem h, hb⟩
        simp [may, this]
      by_cases h47 : l[k]'h = 47
      · have h1 : (((l[k]'h).toNat : Int) = 47) := by rw [h47]; rfl
        simp -dsimp only [push_cast, seval, h, hb, h1]
        refine ⟨by omega, [], rfl, rfl, ?_⟩
        simp -dsimp only [WeakTm, WeakBx, CLe, CLeL, push_cast, seval]
        rw [hbad (by simp [bad, h47])]
      · have h1 : ¬ (((l[k]'h).toNat : Int) = 47) := u8_ne h47
        by_cases h00 : l[k]'h = 0
        · have h2 : (((l[k]'h).toNat : Int) = 0) := by rw [h00]; rfl
          simp -dsimp only [push_cast, seval, h, hb, h1, h2]
          refine ⟨by omega, by omega, [], rfl, rfl, ?_⟩
          simp -dsimp only [WeakTm, WeakBx, CLe, CLeL, push_cast, seval]
          rw [hbad (by simp [bad, h00])]
        · have h2 : ¬ (((l[k]'h).toNat : Int) = 0) := u8_ne h00
          simp -dsimp only [push_cast, seval, h, hb, h1, h2]
          (try simp only [List.length_append, List.length_cons, List.length_nil, List.length_map, List.length_take, List.length_drop]); repeat (refine And.intro (by omega) ?_)
          refine ⟨k + 1, ⟨by omega, fun j hj hjk => ?_⟩, by omega, Weak.mk [] rfl rfl (Nat.zero_le _) rfl (by simp -dsimp only [WeakTm, WeakBx, CLe, CLeL, push_cast, seval]) (by simp -dsimp only [WeakTm, WeakBx, CLe, CLeL, push_cast, seval])⟩
          rcases Nat.lt_or_ge j k with g | g
          · exact hk2 j hj g
          · have : j = k := by omega
            subst this
            simp [bad, h47, h00]
    · have hany : l.any bad = false := List.any_eq_false.2 fun x hx => by
        obtain ⟨j, hj, rfl⟩ := List.getElem_of_mem hx
        simp [hk2 j hj (by omega)]
      obtain rfl : k = l.length := by omega
      by_cases h0 : l = []
      · subst h0
        simp -dsimp only [push_cast, seval]
        exact ⟨[], rfl, rfl, by simp -dsimp only [WeakTm, WeakBx, CLe, CLeL, push_cast, seval] <;> simp [may]⟩
      · have h1 : (1 : Int) ≤ (l.length : Int) := by have := List.length_pos_iff.2 h0; omega
        by_cases h2 : (l.length : Int) ≤ 255
        · have h2' : l.length ≤ 255 := by omega
          by_cases h4 : l = [46]
          · subst h4
            simp -dsimp only [push_cast, seval]
            exact ⟨[], rfl, rfl, by simp -dsimp only [WeakTm, WeakBx, CLe, CLeL, push_cast, seval] <;> simp [may]⟩
          · by_cases h5 : l = [46, 46]
            · subst h5
              simp -dsimp only [push_cast, seval, h4]
              exact ⟨[], rfl, rfl, by simp -dsimp only [WeakTm, WeakBx, CLe, CLeL, push_cast, seval] <;> simp [may]⟩
            · simp -dsimp only [push_cast, seval, h, h1, h2, h4, h5]
              exact ⟨[], rfl, rfl, by simp -dsimp only [WeakTm, WeakBx, CLe, CLeL, push_cast, seval] <;> simp [may, h0, h2', hany, h4, h5]⟩
        · have h2' : ¬ l.length ≤ 255 := by omega
          simp -dsimp only [push_cast, seval, h, h1, h2]
          exact ⟨[], rfl, rfl, by simp -dsimp only [WeakTm, WeakBx, CLe, CLeL, push_cast, seval] <;> simp [may, h2']⟩
set_option maxRecDepth 100000 in
set_option maxHeartbeats 1000000 in
theorem refLong_fun (p : List UInt8) (hp : p.length ≤ 100000) : Fun Tryd.prog G0 42 [.str p] (boolC (longP p)) 0 := by
  have hn := names_fun p hp
  refine Fun.of (fun _ => []) (by kernel_rfl) Tryd.func42 rfl rfl (Nat.le_of_ble_eq_true rfl) (by kernel_rfl) ?_; dsimp only [Tryd.f42, List.append_eq, List.cons_append, List.nil_append]
  simp -dsimp only [push_cast, seval]
  refine call hn ?_
  simp -dsimp only [push_cast, seval]
  refine loop (fun k : Nat => ⟨[(0, .str p), (3, .own 0 9 1 (strs (names p))), (4, .sc (.int .i64 k))], [], 1, 0⟩) (fun k => k ≤ (names p).length ∧ ∀ j (hj : j < (names p).length), j < k → ((names p)[j]'hj).length ≤ 255) (fun k => (names p).length - k) 0 ⟨Nat.zero_le _, fun j _ hj => by omega⟩ ?_ ?_
  · exact Weak.mk [.inl 0] rfl rfl (Nat.zero_le _) rfl (by simp -dsimp only [WeakTm, WeakBx, CLe, CLeL, push_cast, seval]) (by simp -dsimp only [WeakTm, WeakBx, CLe, CLeL, push_cast, seval])
  · intro k hk
    have hk1 := hk.1
    have hk2 := hk.2
    have hs := names_size p
    by_cases h : k < (names p).length
    · have hg := strs_at (names p) k h
      by_cases h2 : ((names p)[k]'h).length ≤ 255
      · have h2' : ¬ (255 : Int) < (((names p)[k]'h).length : Int) := by omega
        simp -dsimp only [push_cast, seval, h, hg, h2']
        (try simp only [List.length_append, List.length_cons, List.length_nil, List.length_map, List.length_take, List.length_drop]); repeat (refine And.intro (by omega) ?_)
        refine ⟨k + 1, ⟨by omega, fun j hj hjk => ?_⟩, by omega, Weak.mk [.inl 0] rfl rfl (Nat.zero_le _) rfl (by simp -dsimp only [WeakTm, WeakBx, CLe, CLeL, push_cast, seval]) (by simp -dsimp only [WeakTm, WeakBx, CLe, CLeL, push_cast, seval])⟩
        rcases Nat.lt_or_ge j k with g | g
        · exact hk2 j hj g
        · have : j = k := by omega
          subst this; exact h2
      · have h2' : (255 : Int) < (((names p)[k]'h).length : Int) := by omega
        simp -dsimp only [push_cast, seval, h, hg, h2']
        refine ⟨by omega, [], rfl, rfl, ?_⟩
        simp -dsimp only [WeakTm, WeakBx, CLe, CLeL, push_cast, seval]
        have : (names p).any (fun x => decide (255 < x.length)) = true := List.any_eq_true.2 ⟨(names p)[k]'h, List.getElem_mem h, by simp; omega⟩
        simp [longP, this]
    · have : (names p).any (fun x => decide (255 < x.length)) = false := List.any_eq_false.2 fun x hx => by
        obtain ⟨j, hj, rfl⟩ := List.getElem_of_mem hx
        have := hk2 j hj (by omega)
        simp; omega
      simp -dsimp only [push_cast, seval, h]
      refine ⟨[], rfl, rfl, ?_⟩
      simp -dsimp only [WeakTm, WeakBx, CLe, CLeL, push_cast, seval]
      simp [longP, this]
      omega
set_option maxRecDepth 100000 in
set_option maxHeartbeats 1000000 in
theorem refBase_fun (p : List UInt8) (hp : p.length ≤ 100000) (hb : names p = [] → Lib.hasPrefix p [47] = !decide (p = [])) : Fun Tryd.prog G0 34 [.str p] (.str (baseP p)) 0 := by
  have hn := names_fun p hp
  have hs := names_size p
  by_cases h : names p = []
  · by_cases h0 : p = []
    · subst h0
      refine Fun.of (fun _ => []) (by kernel_rfl) Tryd.func34 rfl rfl (Nat.le_of_ble_eq_true rfl) (by kernel_rfl) ?_; dsimp only [Tryd.f34, List.append_eq, List.cons_append, List.nil_append]
      simp -dsimp only [push_cast, seval]
      refine call hn ?_
      simp -dsimp only [push_cast, seval, h]
      exact ⟨[], rfl, rfl, by simp -dsimp only [WeakTm, WeakBx, CLe, CLeL, push_cast, seval] <;> rfl⟩
    · have hb' := hb h
      refine Fun.of (fun _ => []) (by kernel_rfl) Tryd.func34 rfl rfl (Nat.le_of_ble_eq_true rfl) (by kernel_rfl) ?_; dsimp only [Tryd.f34, List.append_eq, List.cons_append, List.nil_append]
      simp -dsimp only [push_cast, seval]
      refine call hn ?_
      simp -dsimp only [push_cast, seval, h, h0]
      exact ⟨[], rfl, rfl, by simp -dsimp only [WeakTm, WeakBx, CLe, CLeL, push_cast, seval] <;> simp [baseP, h, hb', h0]⟩
  · have hl : 0 < (names p).length := List.length_pos_iff.2 h
    have hg := strs_at (names p) ((names p).length - 1) (by omega)
    have hidx : (((names p).length : Int) - 1).toNat = (names p).length - 1 := by omega
    refine Fun.of (fun _ => []) (by kernel_rfl) Tryd.func34 rfl rfl (Nat.le_of_ble_eq_true rfl) (by kernel_rfl) ?_; dsimp only [Tryd.f34, List.append_eq, List.cons_append, List.nil_append]
    simp -dsimp only [push_cast, seval]
    refine call hn ?_
    simp -dsimp only [push_cast, seval, hl, hidx, hg]
    refine ⟨by omega, by omega, [], rfl, rfl, ?_⟩
    simp -dsimp only [WeakTm, WeakBx, CLe, CLeL, push_cast, seval]
    unfold baseP
    rw [List.getLastD_eq_getLast?, List.getLast?_eq_getElem?, List.getElem?_eq_getElem (by omega)]
    rfl
def refUnder (p q : List UInt8) : Bool := decide ((names p).take (names q).length = names q)
set_option maxRecDepth 100000 in
set_option maxHeartbeats 1000000 in
theorem refUnder_fun (p q : List UInt8) (hp : p.length ≤ 100000) (hq : q.length ≤ 100000) : Fun Tryd.prog G0 45 [.str p, .str q] (boolC (refUnder p q)) 0 := by
  have hn := names_fun p hp
  have hm := names_fun q hq
  have hs := names_size p
  have ht := names_size q
  by_cases h : (names p).length < (names q).length
  · refine Fun.of (fun _ => []) (by kernel_rfl) Tryd.func45 rfl rfl (Nat.le_of_ble_eq_true rfl) (by kernel_rfl) ?_; dsimp only [Tryd.f45, List.append_eq, List.cons_append, List.nil_append]
    simp -dsimp only [push_cast, seval]
    refine call hn ?_
    simp -dsimp only [push_cast, seval]
    refine call hm ?_
    simp -dsimp only [push_cast, seval, h]
    refine ⟨[], rfl, rfl, ?_⟩
    simp -dsimp only [WeakTm, WeakBx, CLe, CLeL, push_cast, seval]
    have : ¬ (names p).take (names q).length = names q := fun e => by have := congrArg List.length e; rw [List.length_take] at this; omega
    simp [refUnder, this]
  · refine Fun.of (fun _ => []) (by kernel_rfl) Tryd.func45 rfl rfl (Nat.le_of_ble_eq_true rfl) (by kernel_rfl) ?_; dsimp only [Tryd.f45, List.append_eq, List.cons_append, List.nil_append]
    simp -dsimp only [push_cast, seval]
    refine call hn ?_
    simp -dsimp only [push_cast, seval]
    refine call hm ?_
    simp -dsimp only [push_cast, seval, h]
    refine loop (fun k : Nat => ⟨[(5, .own 0 9 1 (strs (names p))), (6, .own 1 9 1 (strs (names q))), (7, .sc (.int .i64 k))], [], 2, 0⟩) (fun k => k ≤ (names q).length ∧ (names p).take k = (names q).take k) (fun k => (names q).length - k) 0 ⟨Nat.zero_le _, rfl⟩ ?_ ?_
    · exact Weak.mk [.inl 0, .inl 1] rfl rfl (Nat.zero_le _) rfl (by simp -dsimp only [WeakTm, WeakBx, CLe, CLeL, push_cast, seval]) (by simp -dsimp only [WeakTm, WeakBx, CLe, CLeL, push_cast, seval])
    · intro k hk
      have hk1 := hk.1
      have hk2 := hk.2
      by_cases h3 : k < (names q).length
      · have hg1 := strs_at (names p) k (by omega)
        have hg2 := strs_at (names q) k h3
        by_cases he : (names p)[k]'(by omega) = (names q)[k]'h3
        · simp -dsimp only [push_cast, seval, h3, hg1, hg2, he]
          (try simp only [List.length_append, List.length_cons, List.length_nil, List.length_map, List.length_take, List.length_drop]); repeat (refine And.intro (by omega) ?_)
          refine ⟨k + 1, ⟨by omega, ?_⟩, by omega, Weak.mk [.inl 0, .inl 1] rfl rfl (Nat.zero_le _) rfl (by simp -dsimp only [WeakTm, WeakBx, CLe, CLeL, push_cast, seval]) (by simp -dsimp only [WeakTm, WeakBx, CLe, CLeL, push_cast, seval])⟩
          rw [List.take_add_one, List.take_add_one, hk2, List.getElem?_eq_getElem h3, List.getElem?_eq_getElem (by omega : k < (names p).length), he]
        · simp -dsimp only [push_cast, seval, h3, hg1, hg2, he]
          (try simp only [List.length_append, List.length_cons, List.length_nil, List.length_map, List.length_take, List.length_drop]); repeat (refine And.intro (by omega) ?_)
          refine ⟨[], rfl, rfl, ?_⟩
          simp -dsimp only [WeakTm, WeakBx, CLe, CLeL, push_cast, seval]
          have : ¬ (names p).take (names q).length = names q := fun e => he (by
            have := congrArg (·[k]?) e
            simp only [List.getElem?_take, if_pos h3] at this
            rw [List.getElem?_eq_getElem (by omega), List.getElem?_eq_getElem h3] at this
            exact Option.some.inj this)
          simp [refUnder, this]
      · have hkl : k = (names q).length := by omega
        simp -dsimp only [push_cast, seval, h3]
        refine ⟨[], rfl, rfl, ?_⟩
        simp -dsimp only [WeakTm, WeakBx, CLe, CLeL, push_cast, seval]
        rw [hkl, List.take_length] at hk2
        simp [refUnder, hk2]
set_option maxRecDepth 100000 in
set_option maxHeartbeats 1000000 in
theorem refPlain_fun (p : List UInt8) (hp : p.length ≤ 100000) : Fun Tryd.prog G0 15 [.str p] (plainC p) 1 := by
  have hn := names_fun p hp
  have hs := names_size p
  have hj := joinNames p
  refine Fun.of (fun _ => []) (by kernel_rfl) Tryd.func15 rfl rfl (Nat.le_of_ble_eq_true rfl) (by kernel_rfl) ?_; dsimp only [Tryd.f15, List.append_eq, List.cons_append, List.nil_append]
  simp -dsimp only [push_cast, seval]
  refine call hn ?_
  simp -dsimp only [push_cast, seval]
  refine loop (fun k : Nat => ⟨[(0, .str p), (4, .own 0 9 1 (strs (names p))), (5, .sc (.int .i64 k))], [], 1, 0⟩) (fun k => k ≤ (names p).length ∧ ∀ j (hj : j < (names p).length), j < k → may ((names p)[j]'hj) = true) (fun k => (names p).length - k) 0 ⟨Nat.zero_le _, fun j _ hj => by omega⟩ ?_ ?_
  · exact Weak.mk [.inl 0] rfl rfl (Nat.zero_le _) rfl (by simp -dsimp only [WeakTm, WeakBx, CLe, CLeL, push_cast, seval]) (by simp -dsimp only [WeakTm, WeakBx, CLe, CLeL, push_cast, seval])
  · intro k hk
    have hk1 := hk.1
    have hk2 := hk.2
    by_cases h : k < (names p).length
    · have hg := strs_at (names p) k h
      have hlen := hj.2 ((names p)[k]'h) (List.getElem_mem h)
      simp -dsimp only [push_cast, seval, h, hg]
      refine ⟨by omega, ?_⟩
      refine call (refMay_fun ((names p)[k]'h) (by omega)) ?_
      simp -dsimp only [push_cast, seval]
      cases hm : may ((names p)[k]'h) with
      | true =>
        simp -dsimp only [push_cast, seval]
        (try simp only [List.length_append, List.length_cons, List.length_nil, List.length_map, List.length_take, List.length_drop]); repeat (refine And.intro (by omega) ?_)
        refine ⟨k + 1, ⟨by omega, fun j hj hjk => ?_⟩, by omega, Weak.mk [.inl 0] rfl rfl (Nat.zero_le _) rfl (by simp -dsimp only [WeakTm, WeakBx, CLe, CLeL, push_cast, seval]) (by simp -dsimp only [WeakTm, WeakBx, CLe, CLeL, push_cast, seval])⟩
        rcases Nat.lt_or_ge j k with g | g
        · exact hk2 j hj g
        · have : j = k := by omega
          subst this; exact hm
      | false =>
        have hall : (names p).all may = false := List.all_eq_false.2 ⟨(names p)[k]'h, List.getElem_mem h, by simp [hm]⟩
        simp -dsimp only [push_cast, seval]
        exact ⟨[.inr (9, 1)], rfl, rfl, by simp only [plainC, plain, hall]; simp -dsimp only [WeakTm, WeakBx, CLe, CLeL, push_cast, seval] <;> simp⟩
    · have hall : (names p).all may = true := List.all_eq_true.2 fun x hx => by
        obtain ⟨j, hj, rfl⟩ := List.getElem_of_mem hx
        exact hk2 j hj (by omega)
      simp -dsimp only [push_cast, seval, h]
      refine call (refJoin_fun (names p) (by omega) (by omega)) ?_
      simp -dsimp only [push_cast, seval]
      by_cases h1 : joinP (names p) = p
      · simp -dsimp only [push_cast, seval, h1]
        exact ⟨[.inl 0], rfl, rfl, by simp only [plainC, plain, h1, hall]; simp -dsimp only [WeakTm, WeakBx, CLe, CLeL, push_cast, seval] <;> simp⟩
      · simp -dsimp only [push_cast, seval, h1]
        exact ⟨[.inr (9, 1)], rfl, rfl, by simp only [plainC, plain, h1]; simp -dsimp only [WeakTm, WeakBx, CLe, CLeL, push_cast, seval] <;> simp⟩
set_option maxRecDepth 100000 in
set_option maxHeartbeats 1000000 in
theorem same3_fun (a a' : Bool) (x x' : List (List UInt8)) (s s' : Bool) (hx : x.length ≤ 1000001) : Fun Tryd.prog G0 30 [pathC a x s, pathC a' x' s'] (boolC (decide (a = a' ∧ s = s' ∧ x = x'))) 0 := by
  unfold pathC
  refine Fun.of (fun _ => []) (by kernel_rfl) Tryd.func30 rfl rfl (Nat.le_of_ble_eq_true rfl) (by kernel_rfl) ?_; dsimp only [Tryd.f30, List.append_eq, List.cons_append, List.nil_append]
  simp -dsimp only [push_cast, seval]
  have h2 := same_fun x x' (by omega)
  cases a <;> cases a' <;> cases s <;> cases s' <;> simp -dsimp only [push_cast, seval, Bool.true_beq, Bool.false_beq]
  all_goals first
    | exact ⟨[], rfl, rfl, by simp -dsimp only [WeakTm, WeakBx, CLe, CLeL, push_cast, seval] <;> simp⟩
    | (refine call h2 ?_
       simp -dsimp only [push_cast, seval]
       exact ⟨[], rfl, rfl, by simp -dsimp only [WeakTm, WeakBx, CLe, CLeL, push_cast, seval] <;> simp⟩)
end Go.Proofs.YtnjglohgjhihjaaDoor.Vcg
end
section
set_option linter.unusedVariables false
set_option maxRecDepth 20000
set_option linter.unusedSimpArgs false
namespace Go.Proofs.YtnjglohgjhihjaaDoor.Vcg
open Go.RowKit
def rightV (es : List EntV) : Prop := ∀ i (h : i < es.length), may es[i].name = true ∧ 1 ≤ es[i].ino ∧ (0 < i → Op.bytesLess es[i - 1].name es[i].name = true)
instance (es : List EntV) : Decidable (rightV es) := by unfold rightV; infer_instance
def secondN (x : NodV) : Prop := (x.kind = 1 ∨ x.kind = 2 ∨ x.kind = 3) ∧ (x.kind ≠ 2 → x.es = [] ∧ x.parent = 0) ∧ (x.kind = 2 → x.data = [] ∧ rightV x.es) ∧ (x.kind = 3 → 1 ≤ x.data.length ∧ x.data.length ≤ 4095 ∧ ∀ b ∈ x.data, b ≠ 0)
instance (x : NodV) : Decidable (secondN x) := by unfold secondN; infer_instance
def secondV (f : FsV) : Prop := ∀ x ∈ f.xs, secondN x
instance (f : FsV) : Decidable (secondV f) := by unfold secondV; infer_instance
def checkV (f : FsV) : Int := if firstV f then if secondV f then if thirdV f then if fourthV f then if fifthV f then if fitsV f then 0 else 6 else 5 else 4 else 3 else 2 else 1
def okV (f : FsV) : Prop := fewV f.xs ∧ checkV f = 0
instance (f : FsV) : Decidable (okV f) := by unfold okV; infer_instance
theorem right_fun (es : List EntV) (hl : es.length ≤ 100000) (hn : ∀ e ∈ es, e.name.length ≤ 1000000) : Fun Tryd.prog G0 83 [.sl 2 (entsC es)] (boolC (decide (rightV es))) 0 := by
  have hle : (entsC es).length = es.length := List.length_map ..
  refine Fun.of (fun _ => []) (by kernel_rfl) Tryd.func83 rfl rfl (Nat.le_of_ble_eq_true rfl) (by kernel_rfl) ?_; dsimp only [Tryd.f83, List.append_eq, List.cons_append, List.nil_append]
  simp -dsimp only [push_cast, seval]
  refine loop (fun i : Nat => ⟨[(0, .sl 2 (entsC es)), (3, .sc (.int .i64 i))], [], 0, 0⟩) (fun i => i ≤ es.length ∧ ∀ j (h : j < es.length), j < i → may es[j].name = true ∧ 1 ≤ es[j].ino ∧ (0 < j → Op.bytesLess es[j - 1].name es[j].name = true)) (fun i => es.length - i) 0 ⟨Nat.zero_le _, fun j h h' => absurd h' (Nat.not_lt_zero _)⟩ ?_ ?_
  · exact Weak.mk [] rfl rfl (Nat.zero_le _) rfl (by simp -dsimp only [WeakTm, WeakBx, CLe, CLeL, push_cast, seval]) (by simp -dsimp only [WeakTm, WeakBx, CLe, CLeL, push_cast, seval])
  · rintro i ⟨h1, h2⟩
    by_cases h : i < es.length
    · have g1 := ents_at es i h
      have hm := refMay_fun es[i].name (hn _ (List.getElem_mem h))
      simp -dsimp only [push_cast, seval, hle, h, g1]
      (try simp only [List.length_append, List.length_cons, List.length_nil, List.length_map, List.length_take, List.length_drop]); repeat (refine And.intro (by omega) ?_)
      cases c1 : may es[i].name with
      | false =>
        have hno : ¬ rightV es := fun hr => by have := (hr i h).1; rw [c1] at this; cases this
        (first | refine call (hm) ?_ | refine callP (hm) ?_); simp -dsimp only [push_cast, seval, c1]
        exact ⟨[], rfl, rfl, by simp -dsimp only [WeakTm, WeakBx, CLe, CLeL, push_cast, seval, hno]⟩
      | true =>
        by_cases c2 : es[i].ino < 1
        · have hno : ¬ rightV es := fun hr => by have := (hr i h).2.1; omega
          (first | refine call (hm) ?_ | refine callP (hm) ?_); simp -dsimp only [push_cast, seval, c1, g1, c2]
          (try simp only [List.length_append, List.length_cons, List.length_nil, List.length_map, List.length_take, List.length_drop]); repeat (refine And.intro (by omega) ?_)
          exact ⟨[], rfl, rfl, by simp -dsimp only [WeakTm, WeakBx, CLe, CLeL, push_cast, seval, hno]⟩
        · have step : (0 < i → Op.bytesLess es[i - 1].name es[i].name = true) → ∀ j (h : j < es.length), j < i + 1 → may es[j].name = true ∧ 1 ≤ es[j].ino ∧ (0 < j → Op.bytesLess es[j - 1].name es[j].name = true) := fun hb j hj hlt => by
            rcases Nat.lt_or_ge j i with q | q
            · exact h2 j hj q
            · have : j = i := by omega
              subst this
              exact ⟨c1, by omega, hb⟩
          by_cases c3 : 0 < i
          · have g2 := ents_at es (i - 1) (by omega)
            have e1 : (i : Int) - 1 = ((i - 1 : Nat) : Int) := by omega
            cases c4 : Op.bytesLess es[i - 1].name es[i].name with
            | true =>
              (first | refine call (hm) ?_ | refine callP (hm) ?_); simp -dsimp only [push_cast, seval, c1, g1, c2]
              (try simp only [List.length_append, List.length_cons, List.length_nil, List.length_map, List.length_take, List.length_drop]); repeat (refine And.intro (by omega) ?_)
              simp -dsimp only [push_cast, seval, c3, e1, g2, g1, c4]
              (try simp only [List.length_append, List.length_cons, List.length_nil, List.length_map, List.length_take, List.length_drop]); repeat (refine And.intro (by omega) ?_)
              exact ⟨i + 1, ⟨h, step fun _ => c4⟩, by omega, Weak.mk [] rfl rfl (Nat.zero_le _) rfl (by simp -dsimp only [WeakTm, WeakBx, CLe, CLeL, push_cast, seval]) (by simp -dsimp only [WeakTm, WeakBx, CLe, CLeL, push_cast, seval])⟩
            | false =>
              have hno : ¬ rightV es := fun hr => by have := (hr i h).2.2 c3; rw [c4] at this; cases this
              (first | refine call (hm) ?_ | refine callP (hm) ?_); simp -dsimp only [push_cast, seval, c1, g1, c2]
              (try simp only [List.length_append, List.length_cons, List.length_nil, List.length_map, List.length_take, List.length_drop]); repeat (refine And.intro (by omega) ?_)
              simp -dsimp only [push_cast, seval, c3, e1, g2, g1, c4]
              (try simp only [List.length_append, List.length_cons, List.length_nil, List.length_map, List.length_take, List.length_drop]); repeat (refine And.intro (by omega) ?_)
              exact ⟨[], rfl, rfl, by simp -dsimp only [WeakTm, WeakBx, CLe, CLeL, push_cast, seval, hno]⟩
          · (first | refine call (hm) ?_ | refine callP (hm) ?_); simp -dsimp only [push_cast, seval, c1, g1, c2]
            (try simp only [List.length_append, List.length_cons, List.length_nil, List.length_map, List.length_take, List.length_drop]); repeat (refine And.intro (by omega) ?_)
            simp -dsimp only [push_cast, seval, c3]
            (try simp only [List.length_append, List.length_cons, List.length_nil, List.length_map, List.length_take, List.length_drop]); repeat (refine And.intro (by omega) ?_)
            exact ⟨i + 1, ⟨h, step fun h => absurd h c3⟩, by omega, Weak.mk [] rfl rfl (Nat.zero_le _) rfl (by simp -dsimp only [WeakTm, WeakBx, CLe, CLeL, push_cast, seval]) (by simp -dsimp only [WeakTm, WeakBx, CLe, CLeL, push_cast, seval])⟩
    · have hr : rightV es := fun j hj => h2 j hj (by omega)
      simp -dsimp only [push_cast, seval, hle, h]
      exact ⟨[], rfl, rfl, by simp -dsimp only [WeakTm, WeakBx, CLe, CLeL, push_cast, seval, hr]⟩
end Go.Proofs.YtnjglohgjhihjaaDoor.Vcg
end
section
set_option linter.unusedVariables false
set_option maxRecDepth 20000
set_option linter.unusedSimpArgs false
namespace Go.Proofs.YtnjglohgjhihjaaDoor.Vcg
open Go.RowKit
set_option maxHeartbeats 1000000 in
theorem second_fun (f : FsV) (hf : fewV f.xs) : Fun Tryd.prog G0 64 [.agg (fsC f)] (boolC (decide (secondV f))) 0 := by
  have hll : (nodsC f.xs).length = f.xs.length := List.length_map ..
  have h40 := hf.1
  refine Fun.of (fun _ => []) (by kernel_rfl) Tryd.func64 rfl rfl (Nat.le_of_ble_eq_true rfl) (by kernel_rfl) ?_; dsimp only [Tryd.f64, List.append_eq, List.cons_append, List.nil_append]
  simp -dsimp only [push_cast, seval]
  refine loop (fun i : Nat => ⟨[(1, .ptr 0 0), (3, .sc (.int .i64 i))], [fsC f], 0, 0⟩) (fun i => i ≤ f.xs.length ∧ ∀ x ∈ f.xs.take i, secondN x) (fun i => f.xs.length - i) 0 ⟨Nat.zero_le _, fun x hx => by simp at hx⟩ ?_ ?_
  · exact Weak.mk [] rfl rfl (Nat.zero_le _) rfl (by simp -dsimp only [WeakTm, WeakBx, CLe, CLeL, push_cast, seval]) (by simp -dsimp only [WeakTm, WeakBx, CLe, CLeL, push_cast, seval])
  · rintro i ⟨h1, h2⟩
    by_cases h : i < f.xs.length
    case neg =>
      rw [List.take_of_length_le (by omega)] at h2
      have hn : secondV f := h2
      simp -dsimp only [push_cast, seval, hll, h]
      exact ⟨[], rfl, rfl, by simp -dsimp only [WeakTm, WeakBx, CLe, CLeL, push_cast, seval, hn]⟩
    have g1 := nods_at f.xs i h
    have hbad : ¬ secondN f.xs[i] → ¬ secondV f := fun hn h' => hn (h' _ (List.getElem_mem h))
    have hs := hf.2 _ (List.getElem_mem h)
    have step : secondN f.xs[i] → ∀ x ∈ f.xs.take (i + 1), secondN x := fun hq => mem_take_succ h h2 hq
    simp -dsimp only [push_cast, seval, hll, h, g1]
    (try simp only [List.length_append, List.length_cons, List.length_nil, List.length_map, List.length_take, List.length_drop]); repeat (refine And.intro (by omega) ?_)
    generalize f.xs[i] = x at g1 hbad hs step
    have hle : (entsC x.es).length = x.es.length := List.length_map ..
    have hent : x.es.length ≤ 40 := hs.2.1
    by_cases k2 : x.kind = 2
    · by_cases d0 : x.data = []
      · have hr := right_fun x.es (by omega) fun e he => by have := hs.2.2 e he; omega
        cases c1 : decide (rightV x.es) with
        | false =>
          have hn := hbad fun hq => of_decide_eq_false c1 (hq.2.2.1 k2).2
          simp -dsimp only [push_cast, seval, k2, d0]
          (first | refine call (hr) ?_ | refine callP (hr) ?_); simp -dsimp only [push_cast, seval, c1]
          exact ⟨[], rfl, rfl, by simp -dsimp only [WeakTm, WeakBx, CLe, CLeL, push_cast, seval, hn]⟩
        | true =>
          have hq : secondN x := ⟨.inr (.inl k2), fun h => absurd k2 h, fun _ => ⟨d0, of_decide_eq_true c1⟩, fun h => by omega⟩
          simp -dsimp only [push_cast, seval, k2, d0]
          (first | refine call (hr) ?_ | refine callP (hr) ?_); simp -dsimp only [push_cast, seval, c1, k2]
          refine loop (fun j : Nat => ⟨[(1, .ptr 0 0), (3, .sc (.int .i64 i)), (4, .ptr 1 0), (5, .sc (.int .i64 j))], [fsC f, nodC x], 0, 0⟩) (fun j => j = 0) (fun j => 0) 0 rfl ?_ ?_
          · exact Weak.mk [] rfl rfl (Nat.zero_le _) rfl (by simp -dsimp only [WeakTm, WeakBx, CLe, CLeL, push_cast, seval, k2, d0]) (by simp -dsimp only [WeakTm, WeakBx, CLe, CLeL, push_cast, seval, k2, d0])
          · rintro j rfl
            simp -dsimp only [push_cast, seval, d0]
            (try simp only [List.length_append, List.length_cons, List.length_nil, List.length_map, List.length_take, List.length_drop]); repeat (refine And.intro (by omega) ?_)
            exact ⟨i + 1, ⟨h, step hq⟩, by omega, Weak.mk [] rfl rfl (Nat.zero_le _) rfl (by simp -dsimp only [WeakTm, WeakBx, CLe, CLeL, push_cast, seval]) (by simp -dsimp only [WeakTm, WeakBx, CLe, CLeL, push_cast, seval])⟩
      · have hn := hbad fun hq => d0 (hq.2.2.1 k2).1
        simp -dsimp only [push_cast, seval, k2, d0]
        exact ⟨[], rfl, rfl, by simp -dsimp only [WeakTm, WeakBx, CLe, CLeL, push_cast, seval, hn]⟩
    by_cases e0 : x.es = []
    case neg =>
      have hn := hbad fun hq => e0 (hq.2.1 k2).1
      have hpos : 0 < (x.es.length : Int) := by have := List.length_pos_iff.2 e0; omega
      by_cases k1 : x.kind = 1
      · simp -dsimp only [push_cast, seval, k1, hle, hpos]
        exact ⟨[], rfl, rfl, by simp -dsimp only [WeakTm, WeakBx, CLe, CLeL, push_cast, seval, hn]⟩
      · by_cases k3 : x.kind = 3
        · simp -dsimp only [push_cast, seval, k1, k2, k3, hle, hpos]
          exact ⟨[], rfl, rfl, by simp -dsimp only [WeakTm, WeakBx, CLe, CLeL, push_cast, seval, hn]⟩
        · have hn := hbad fun hq => by rcases hq.1 with q | q | q <;> contradiction
          simp -dsimp only [push_cast, seval, k1, k2, k3]
          exact ⟨[], rfl, rfl, by simp -dsimp only [WeakTm, WeakBx, CLe, CLeL, push_cast, seval, hn]⟩
    have hl0 : x.es.length = 0 := by rw [e0]; rfl
    by_cases p0 : x.parent = 0
    case neg =>
      have hn := hbad fun hq => p0 (hq.2.1 k2).2
      by_cases k1 : x.kind = 1
      · simp -dsimp only [push_cast, seval, k1, hle, hl0, p0]
        exact ⟨[], rfl, rfl, by simp -dsimp only [WeakTm, WeakBx, CLe, CLeL, push_cast, seval, hn]⟩
      · by_cases k3 : x.kind = 3
        · simp -dsimp only [push_cast, seval, k1, k2, k3, hle, hl0, p0]
          exact ⟨[], rfl, rfl, by simp -dsimp only [WeakTm, WeakBx, CLe, CLeL, push_cast, seval, hn]⟩
        · have hn := hbad fun hq => by rcases hq.1 with q | q | q <;> contradiction
          simp -dsimp only [push_cast, seval, k1, k2, k3]
          exact ⟨[], rfl, rfl, by simp -dsimp only [WeakTm, WeakBx, CLe, CLeL, push_cast, seval, hn]⟩
    by_cases k1 : x.kind = 1
    · have hq : secondN x := ⟨.inl k1, fun _ => ⟨e0, p0⟩, fun h => absurd h k2, fun h => by omega⟩
      simp -dsimp only [push_cast, seval, k1, hle, hl0, p0]
      refine loop (fun j : Nat => ⟨[(1, .ptr 0 0), (3, .sc (.int .i64 i)), (4, .ptr 1 0), (5, .sc (.int .i64 j))], [fsC f, nodC x], 0, 0⟩) (fun j => j = 0) (fun j => 0) 0 rfl ?_ ?_
      · exact Weak.mk [] rfl rfl (Nat.zero_le _) rfl (by simp -dsimp only [WeakTm, WeakBx, CLe, CLeL, push_cast, seval, k1, p0]) (by simp -dsimp only [WeakTm, WeakBx, CLe, CLeL, push_cast, seval, k1, p0])
      · rintro j rfl
        by_cases hd : (0 : Int) < x.data.length
        · simp -dsimp only [push_cast, seval, hd, k1]
          (try simp only [List.length_append, List.length_cons, List.length_nil, List.length_map, List.length_take, List.length_drop]); repeat (refine And.intro (by omega) ?_)
          exact ⟨i + 1, ⟨h, step hq⟩, by omega, Weak.mk [] rfl rfl (Nat.zero_le _) rfl (by simp -dsimp only [WeakTm, WeakBx, CLe, CLeL, push_cast, seval]) (by simp -dsimp only [WeakTm, WeakBx, CLe, CLeL, push_cast, seval])⟩
        · simp -dsimp only [push_cast, seval, hd, k1]
          (try simp only [List.length_append, List.length_cons, List.length_nil, List.length_map, List.length_take, List.length_drop]); repeat (refine And.intro (by omega) ?_)
          exact ⟨i + 1, ⟨h, step hq⟩, by omega, Weak.mk [] rfl rfl (Nat.zero_le _) rfl (by simp -dsimp only [WeakTm, WeakBx, CLe, CLeL, push_cast, seval]) (by simp -dsimp only [WeakTm, WeakBx, CLe, CLeL, push_cast, seval])⟩
    by_cases k3 : x.kind = 3
    case neg =>
      have hn := hbad fun hq => by rcases hq.1 with q | q | q <;> contradiction
      simp -dsimp only [push_cast, seval, k1, k2, k3]
      exact ⟨[], rfl, rfl, by simp -dsimp only [WeakTm, WeakBx, CLe, CLeL, push_cast, seval, hn]⟩
    by_cases l1 : (x.data.length : Int) < 1
    · have hn := hbad fun hq => by have := (hq.2.2.2 k3).1; omega
      simp -dsimp only [push_cast, seval, k1, k2, k3, hle, hl0, p0, l1]
      exact ⟨[], rfl, rfl, by simp -dsimp only [WeakTm, WeakBx, CLe, CLeL, push_cast, seval, hn]⟩
    by_cases l2 : 4095 < (x.data.length : Int)
    · have hn := hbad fun hq => by have := (hq.2.2.2 k3).2.1; omega
      simp -dsimp only [push_cast, seval, k1, k2, k3, hle, hl0, p0, l1, l2]
      exact ⟨[], rfl, rfl, by simp -dsimp only [WeakTm, WeakBx, CLe, CLeL, push_cast, seval, hn]⟩
    simp -dsimp only [push_cast, seval, k1, k2, k3, hle, hl0, p0, l1, l2]
    refine loop (fun j : Nat => ⟨[(1, .ptr 0 0), (3, .sc (.int .i64 i)), (4, .ptr 1 0), (5, .sc (.int .i64 j))], [fsC f, nodC x], 0, 0⟩) (fun j => j ≤ x.data.length ∧ ∀ b ∈ x.data.take j, b ≠ 0) (fun j => x.data.length - j) 0 ⟨Nat.zero_le _, fun b hb => by simp at hb⟩ ?_ ?_
    · exact Weak.mk [] rfl rfl (Nat.zero_le _) rfl (by simp -dsimp only [WeakTm, WeakBx, CLe, CLeL, push_cast, seval, k3, p0]) (by simp -dsimp only [WeakTm, WeakBx, CLe, CLeL, push_cast, seval, k3, p0])
    · rintro j ⟨j1, j2⟩
      by_cases hj : j < x.data.length
      · have hb : x.data[j]? = some x.data[j] := List.getElem?_eq_getElem hj
        by_cases z : (x.data[j].toNat : Int) = 0
        · have hn := hbad fun hq => (hq.2.2.2 k3).2.2 _ (List.getElem_mem hj) (UInt8.toNat_inj.1 (by simpa using z))
          simp -dsimp only [push_cast, seval, hj, k3, hb, z]
          (try simp only [List.length_append, List.length_cons, List.length_nil, List.length_map, List.length_take, List.length_drop]); repeat (refine And.intro (by omega) ?_)
          exact ⟨[], rfl, rfl, by simp -dsimp only [WeakTm, WeakBx, CLe, CLeL, push_cast, seval, hn]⟩
        · simp -dsimp only [push_cast, seval, hj, k3, hb, z]
          (try simp only [List.length_append, List.length_cons, List.length_nil, List.length_map, List.length_take, List.length_drop]); repeat (refine And.intro (by omega) ?_)
          exact ⟨j + 1, ⟨hj, mem_take_succ hj j2 fun hz => z (by rw [hz]; rfl)⟩, by omega, Weak.mk [] rfl rfl (Nat.zero_le _) rfl (by simp -dsimp only [WeakTm, WeakBx, CLe, CLeL, push_cast, seval]) (by simp -dsimp only [WeakTm, WeakBx, CLe, CLeL, push_cast, seval])⟩
      · rw [List.take_of_length_le (by omega)] at j2
        have hq : secondN x := ⟨.inr (.inr k3), fun _ => ⟨e0, p0⟩, fun h => absurd h k2, fun _ => ⟨by omega, by omega, j2⟩⟩
        simp -dsimp only [push_cast, seval, hj, k3]
        (try simp only [List.length_append, List.length_cons, List.length_nil, List.length_map, List.length_take, List.length_drop]); repeat (refine And.intro (by omega) ?_)
        exact ⟨i + 1, ⟨h, step hq⟩, by omega, Weak.mk [] rfl rfl (Nat.zero_le _) rfl (by simp -dsimp only [WeakTm, WeakBx, CLe, CLeL, push_cast, seval]) (by simp -dsimp only [WeakTm, WeakBx, CLe, CLeL, push_cast, seval])⟩
theorem bytes_le {xs : List NodV} (h : ∀ x ∈ xs, x.data.length ≤ 5000) : bytesV xs ≤ xs.length * 5000 := by
  induction xs with
  | nil => exact Nat.le_refl _
  | cons x r ih =>
    have h1 := h x List.mem_cons_self
    have h2 := ih fun y hy => h y (List.mem_cons_of_mem _ hy)
    unfold bytesV at h2 ⊢
    rw [List.filter_cons]
    split
    · rw [List.map_cons, List.sum_cons, List.length_cons]; omega
    · rw [List.length_cons]; omega
theorem check_fun (f : FsV) (hf : fewV f.xs) : Fun Tryd.prog G0 48 [.agg (fsC f)] (.sc (.int .i64 (checkV f))) 0 := by
  have h40 := hf.1
  have hb : bytesV f.xs ≤ 1000000 := by have := bytes_le fun x hx => (hf.2 x hx).1; omega
  refine Fun.of (fun _ => []) (by kernel_rfl) Tryd.func48 rfl rfl (Nat.le_of_ble_eq_true rfl) (by kernel_rfl) ?_; dsimp only [Tryd.f48, List.append_eq, List.cons_append, List.nil_append]
  simp -dsimp only [push_cast, seval]
  by_cases c1 : firstV f
  case neg =>
    (first | refine call (first_fun f (by omega)) ?_ | refine callP (first_fun f (by omega)) ?_); simp -dsimp only [push_cast, seval, decide_eq_false c1]
    exact ⟨[], rfl, rfl, by simp -dsimp only [WeakTm, WeakBx, CLe, CLeL, push_cast, seval, checkV, c1]⟩
  (first | refine call (first_fun f (by omega)) ?_ | refine callP (first_fun f (by omega)) ?_); simp -dsimp only [push_cast, seval, decide_eq_true c1]
  by_cases c2 : secondV f
  case neg =>
    (first | refine call (second_fun f hf) ?_ | refine callP (second_fun f hf) ?_); simp -dsimp only [push_cast, seval, decide_eq_false c2]
    exact ⟨[], rfl, rfl, by simp -dsimp only [WeakTm, WeakBx, CLe, CLeL, push_cast, seval, checkV, c1, c2]⟩
  (first | refine call (second_fun f hf) ?_ | refine callP (second_fun f hf) ?_); simp -dsimp only [push_cast, seval, decide_eq_true c2]
  by_cases c3 : thirdV f
  case neg =>
    (first | refine call (third_fun f hf) ?_ | refine callP (third_fun f hf) ?_); simp -dsimp only [push_cast, seval, decide_eq_false c3]
    exact ⟨[], rfl, rfl, by simp -dsimp only [WeakTm, WeakBx, CLe, CLeL, push_cast, seval, checkV, c1, c2, c3]⟩
  (first | refine call (third_fun f hf) ?_ | refine callP (third_fun f hf) ?_); simp -dsimp only [push_cast, seval, decide_eq_true c3]
  by_cases c4 : fourthV f
  case neg =>
    (first | refine call (fourth_fun f hf) ?_ | refine callP (fourth_fun f hf) ?_); simp -dsimp only [push_cast, seval, decide_eq_false c4]
    exact ⟨[], rfl, rfl, by simp -dsimp only [WeakTm, WeakBx, CLe, CLeL, push_cast, seval, checkV, c1, c2, c3, c4]⟩
  (first | refine call (fourth_fun f hf) ?_ | refine callP (fourth_fun f hf) ?_); simp -dsimp only [push_cast, seval, decide_eq_true c4]
  by_cases c5 : fifthV f
  case neg =>
    (first | refine call (fifth_fun f hf c3 c1.2.2.2.2.2.2.2.1) ?_ | refine callP (fifth_fun f hf c3 c1.2.2.2.2.2.2.2.1) ?_); simp -dsimp only [push_cast, seval, decide_eq_false c5]
    exact ⟨[], rfl, rfl, by simp -dsimp only [WeakTm, WeakBx, CLe, CLeL, push_cast, seval, checkV, c1, c2, c3, c4, c5]⟩
  (first | refine call (fifth_fun f hf c3 c1.2.2.2.2.2.2.2.1) ?_ | refine callP (fifth_fun f hf c3 c1.2.2.2.2.2.2.2.1) ?_); simp -dsimp only [push_cast, seval, decide_eq_true c5]
  by_cases c6 : fitsV f
  case neg =>
    (first | refine call (fits_fun f hf hb) ?_ | refine callP (fits_fun f hf hb) ?_); simp -dsimp only [push_cast, seval, decide_eq_false c6]
    exact ⟨[], rfl, rfl, by simp -dsimp only [WeakTm, WeakBx, CLe, CLeL, push_cast, seval, checkV, c1, c2, c3, c4, c5, c6]⟩
  (first | refine call (fits_fun f hf hb) ?_ | refine callP (fits_fun f hf hb) ?_); simp -dsimp only [push_cast, seval, decide_eq_true c6]
  exact ⟨[], rfl, rfl, by simp -dsimp only [WeakTm, WeakBx, CLe, CLeL, push_cast, seval, checkV, c1, c2, c3, c4, c5, c6]⟩
theorem ok_fun (f : FsV) : Fun Tryd.prog G0 14 [.agg (fsC f)] (boolC (decide (okV f))) 0 := by
  refine Fun.of (fun _ => []) (by kernel_rfl) Tryd.func14 rfl rfl (Nat.le_of_ble_eq_true rfl) (by kernel_rfl) ?_; dsimp only [Tryd.f14, List.append_eq, List.cons_append, List.nil_append]
  simp -dsimp only [push_cast, seval]
  by_cases c1 : fewV f.xs
  case neg =>
    have hn : ¬ okV f := fun h => c1 h.1
    (first | refine call (fewT_fun f) ?_ | refine callP (fewT_fun f) ?_); simp -dsimp only [push_cast, seval, decide_eq_false c1]
    exact ⟨[], rfl, rfl, by simp -dsimp only [WeakTm, WeakBx, CLe, CLeL, push_cast, seval, hn]⟩
  (first | refine call (fewT_fun f) ?_ | refine callP (fewT_fun f) ?_); simp -dsimp only [push_cast, seval, decide_eq_true c1]
  (first | refine call (check_fun f c1) ?_ | refine callP (check_fun f c1) ?_); simp -dsimp only [push_cast, seval]
  exact ⟨[], rfl, rfl, by simp -dsimp only [WeakTm, WeakBx, CLe, CLeL, push_cast, seval, okV, c1]⟩
end Go.Proofs.YtnjglohgjhihjaaDoor.Vcg
end
section
set_option linter.unusedVariables false
set_option maxRecDepth 20000
set_option linter.unusedSimpArgs false
namespace Go.Proofs.YtnjglohgjhihjaaDoor.Vcg
open Go.RowKit
structure SeeV where
  path : List UInt8
  ino : Int
deriving DecidableEq, Inhabited
abbrev seeC (s : SeeV) : List C := [.str s.path, .sc (.int .i64 s.ino)]
abbrev seesC (l : List SeeV) : List (List C) := l.map seeC
def underV (p n : List UInt8) : List UInt8 := if p = [47] then p ++ n else p ++ [47] ++ n
def belowV (xs : List NodV) : Nat → Int → List UInt8 → List SeeV
  | 0, _, _ => []
  | m + 1, ino, p => if hasV ino xs then ⟨p, ino⟩ :: (gotV ino xs).es.flatMap (fun e => belowV xs m e.ino (underV p e.name)) else []
theorem under_len (p n : List UInt8) : (underV p n).length ≤ p.length + 1 + n.length := by
  unfold underV
  split <;> simp <;> omega
theorem sees_at (xs : List SeeV) (i : Nat) (h : i < xs.length) : (seesC xs)[i]? = some (seeC xs[i]) := by simp [List.getElem?_map, List.getElem?_eq_getElem h]
theorem flat_take {α β : Type} {g : α → List β} {l : List α} {k : Nat} (h : k < l.length) : (l.take (k + 1)).flatMap g = (l.take k).flatMap g ++ g l[k] := by
  rw [List.take_add_one, List.getElem?_eq_getElem h, List.flatMap_append]
  simp
theorem flat_take_le {α β : Type} {g : α → List β} {l : List α} (k : Nat) : ((l.take k).flatMap g).length ≤ (l.flatMap g).length := by
  have h : l.flatMap g = (l.take k).flatMap g ++ (l.drop k).flatMap g := by rw [← List.flatMap_append, List.take_append_drop]
  rw [h, List.length_append]; omega
section
variable {G : Globs}
theorem under_fun (p n : List UInt8) (h : p.length + n.length ≤ 1000000000) : Fun Tryd.prog G 51 [.str p, .str n] (.str (underV p n)) 0 := by
  refine Fun.of (fun _ => []) (by kernel_rfl) Tryd.func51 rfl rfl (Nat.le_of_ble_eq_true rfl) (by kernel_rfl) ?_; dsimp only [Tryd.f51, List.append_eq, List.cons_append, List.nil_append]
  by_cases hp : p = [47]
  · subst hp
    have hu : underV [47] n = [47] ++ n := by unfold underV; rw [if_pos rfl]
    simp -dsimp only [push_cast, seval]
    (try simp only [List.length_append, List.length_cons, List.length_nil, List.length_map, List.length_take, List.length_drop]); repeat (refine And.intro (by omega) ?_)
    exact ⟨[], rfl, rfl, by simp -dsimp only [WeakTm, WeakBx, CLe, CLeL, push_cast, seval, hu]⟩
  · have hu : underV p n = p ++ [47] ++ n := by unfold underV; rw [if_neg hp]
    simp -dsimp only [push_cast, seval, hp]
    (try simp only [List.length_append, List.length_cons, List.length_nil, List.length_map, List.length_take, List.length_drop]); repeat (refine And.intro (by omega) ?_)
    exact ⟨[], rfl, rfl, by simp -dsimp only [WeakTm, WeakBx, CLe, CLeL, push_cast, seval, hu]⟩
set_option maxHeartbeats 1000000 in
theorem below_fun (f : FsV) (hf : fewV f.xs) : ∀ (m : Nat) (ino : Int) (p : List UInt8), m ≤ 1000 → p.length + m * 301 ≤ 1000000 → (belowV f.xs m ino p).length ≤ 1000000 → Fun Tryd.prog G 20 [.agg (fsC f), .sc (.int .i64 ino), .str p, .sc (.int .i64 ((m : Int) - 1))] (.own 0 51 2 (seesC (belowV f.xs m ino p))) 1
  | 0, ino, p, hm, hp, hl => by
    have h40 := hf.1
    refine Fun.of (fun _ => []) (by kernel_rfl) Tryd.func20 rfl rfl (Nat.le_of_ble_eq_true rfl) (by kernel_rfl) ?_; dsimp only [Tryd.f20, List.append_eq, List.cons_append, List.nil_append]
    simp -dsimp only [push_cast, seval]
    (first | refine call (rget_fun f ino (by omega)) ?_ | refine callP (rget_fun f ino (by omega)) ?_); simp -dsimp only [push_cast, seval]
    cases hh : hasV ino f.xs with
    | true =>
      simp -dsimp only [push_cast, seval]
      exact ⟨[.inr (51, 2)], rfl, rfl, by simp -dsimp only [WeakTm, WeakBx, CLe, CLeL, push_cast, seval, belowV]⟩
    | false =>
      simp -dsimp only [push_cast, seval]
      exact ⟨[.inr (51, 2)], rfl, rfl, by simp -dsimp only [WeakTm, WeakBx, CLe, CLeL, push_cast, seval, belowV]⟩
  | m + 1, ino, p, hm, hp, hl => by
    have h40 := hf.1
    have e1 : (((m + 1 : Nat) : Int) - 1) = (m : Int) := by omega
    rw [e1]
    refine Fun.of (fun i => if i = 8 then [false, false, false, false, false, false, false, false, false, false, false, false, false, false, false, false, false, false, false, true] else []) (by kernel_rfl) Tryd.func20 rfl rfl (Nat.le_of_ble_eq_true rfl) (by kernel_rfl) ?_; dsimp only [Tryd.f20, List.append_eq, List.cons_append, List.nil_append]
    simp -dsimp only [push_cast, seval]
    (first | refine call (rget_fun f ino (by omega)) ?_ | refine callP (rget_fun f ino (by omega)) ?_); simp -dsimp only [push_cast, seval]
    cases hh : hasV ino f.xs with
    | false =>
      have hb : belowV f.xs (m + 1) ino p = [] := by rw [belowV, hh]; rfl
      simp -dsimp only [push_cast, seval]
      exact ⟨[.inr (51, 2)], rfl, rfl, by simp -dsimp only [WeakTm, WeakBx, CLe, CLeL, push_cast, seval, hb]⟩
    | true =>
      obtain ⟨hm1, hino⟩ := got_has hh
      have hb : belowV f.xs (m + 1) ino p = ⟨p, ino⟩ :: (gotV ino f.xs).es.flatMap (fun e => belowV f.xs m e.ino (underV p e.name)) := by rw [belowV, hh]; rfl
      rw [hb] at hl
      have hs := hf.2 _ hm1
      have hnm : ((m : Int) < 0) = False := eq_false (by omega)
      simp -dsimp only [push_cast, seval, hnm]
      generalize gotV ino f.xs = x at hs hb hl
      have hle : (entsC x.es).length = x.es.length := List.length_map ..
      rw [List.length_cons] at hl
      refine loop (fun k : Nat => ⟨[(2, .str p), (3, .sc (.int .i64 m)), (4, .ptr 0 0), (9, .ptr 1 0), (11, .own 0 51 2 (seesC (⟨p, ino⟩ :: (x.es.take k).flatMap (fun e => belowV f.xs m e.ino (underV p e.name))))), (12, .sc (.int .i64 k))], [fsC f, nodC x], 1, 0⟩) (fun k => k ≤ x.es.length) (fun k => x.es.length - k) 0 (Nat.zero_le _) ?_ ?_
      · exact Weak.mk [.inl 0] rfl rfl (Nat.zero_le _) rfl (by simp -dsimp only [WeakTm, WeakBx, CLe, CLeL, push_cast, seval, List.take_zero, List.flatMap_nil]) (by simp -dsimp only [WeakTm, WeakBx, CLe, CLeL, push_cast, seval])
      · intro k hk0
        by_cases hk : k < x.es.length
        · have g1 := ents_at x.es k hk
          have ht := flat_take (g := fun e : EntV => belowV f.xs m e.ino (underV p e.name)) hk
          have h1 := flat_take_le (g := fun e : EntV => belowV f.xs m e.ino (underV p e.name)) (l := x.es) (k + 1)
          have hn := hs.2.2 _ (List.getElem_mem hk)
          have hul := under_len p x.es[k].name
          rw [ht] at h1
          rw [List.length_append] at h1
          have hbl : ∀ l : List SeeV, (seesC l).length = l.length := fun l => List.length_map ..
          simp -dsimp only [push_cast, seval, hle, hk, g1]
          (try simp only [List.length_append, List.length_cons, List.length_nil, List.length_map, List.length_take, List.length_drop]); repeat (refine And.intro (by omega) ?_)
          (first | refine call (under_fun p x.es[k].name (by omega)) ?_ | refine callP (under_fun p x.es[k].name (by omega)) ?_); simp -dsimp only [push_cast, seval]
          (try simp only [List.length_append, List.length_cons, List.length_nil, List.length_map, List.length_take, List.length_drop]); repeat (refine And.intro (by omega) ?_)
          (first | refine call (below_fun f hf m x.es[k].ino (underV p x.es[k].name) (by omega) (by omega) (by omega)) ?_ | refine callP (below_fun f hf m x.es[k].ino (underV p x.es[k].name) (by omega) (by omega) (by omega)) ?_); simp -dsimp only [push_cast, seval]
          have hent := hs.2.1
          rw [List.length_map, List.length_map]
          refine ⟨by omega, by omega, ⟨by omega, by omega⟩, k + 1, hk, by omega, Weak.mk [.inl 0] rfl rfl (Nat.zero_le _) rfl (by simp -dsimp only [WeakTm, WeakBx, CLe, CLeL, push_cast, seval, ht, List.map_append]) (by simp -dsimp only [WeakTm, WeakBx, CLe, CLeL, push_cast, seval])⟩
        · simp -dsimp only [push_cast, seval, hle, hk]
          have hkk : x.es.take k = x.es := List.take_of_length_le (by omega)
          rw [hkk]
          exact ⟨[.inl 0], rfl, rfl, by simp -dsimp only [WeakTm, WeakBx, CLe, CLeL, push_cast, seval, hb]⟩
theorem sees_fun (a b : List SeeV) (ha : a.length ≤ 9223372036854775806) (hb : b.length ≤ 9223372036854775806) : Fun Tryd.prog G 16 [.sl 2 (seesC a), .sl 2 (seesC b)] (.sc (.bool (decide (a = b)))) 0 := by
  refine Fun.of (fun _ => []) (by kernel_rfl) Tryd.func16 rfl rfl (Nat.le_of_ble_eq_true rfl) (by kernel_rfl) ?_; dsimp only [Tryd.f16, List.append_eq, List.cons_append, List.nil_append]
  have hla : (seesC a).length = a.length := List.length_map ..
  have hlb : (seesC b).length = b.length := List.length_map ..
  by_cases hab : a.length = b.length
  · simp -dsimp only [push_cast, seval, hla, hlb, hab]
    refine loop (fun i : Nat => ⟨[(0, .sl 2 (seesC a)), (1, .sl 2 (seesC b)), (5, .sc (.int .i64 i))], [], 0, 0⟩) (fun i => i ≤ b.length ∧ a.take i = b.take i) (fun i => b.length - i) 0 ⟨Nat.zero_le _, rfl⟩ ?_ ?_
    · exact Weak.mk [] rfl rfl (Nat.le_refl _) rfl (by simp -dsimp only [WeakTm, WeakBx, CLe, CLeL, push_cast, seval]) (by simp -dsimp only [WeakTm, WeakBx, CLe, CLeL, push_cast, seval])
    · rintro i ⟨h1, h2⟩
      by_cases h : i < b.length
      · have g1 := sees_at a i (by omega)
        have g2 := sees_at b i h
        simp -dsimp only [push_cast, seval, hla, hab, h, g1, g2]
        (try simp only [List.length_append, List.length_cons, List.length_nil, List.length_map, List.length_take, List.length_drop]); repeat (refine And.intro (by omega) ?_)
        have hd : (decide (a[i].path = b[i].path) && decide (a[i].ino = b[i].ino)) = decide (a[i] = b[i]) := by
          cases a[i]; cases b[i]; simp
        by_cases he : a[i] = b[i]
        · rw [decide_eq_true he] at hd
          simp -dsimp only [push_cast, seval, hd]
          (try simp only [List.length_append, List.length_cons, List.length_nil, List.length_map, List.length_take, List.length_drop]); repeat (refine And.intro (by omega) ?_)
          exact ⟨i + 1, ⟨h, (take_succ_eq (by omega) h h2).2 he⟩, by omega, Weak.mk [] rfl rfl (Nat.zero_le _) rfl (by simp -dsimp only [WeakTm, WeakBx, CLe, CLeL, push_cast, seval]) (by simp -dsimp only [WeakTm, WeakBx, CLe, CLeL, push_cast, seval])⟩
        · rw [decide_eq_false he] at hd
          simp -dsimp only [push_cast, seval, hd]
          have : a ≠ b := fun h => he (by subst h; rfl)
          exact ⟨[], rfl, rfl, by simp -dsimp only [WeakTm, WeakBx, CLe, CLeL, push_cast, seval, this]⟩
      · simp -dsimp only [push_cast, seval, hla, hab, h]
        have : a = b := by rw [← List.take_of_length_le (l := a) (i := i) (by omega), h2, List.take_of_length_le (by omega)]
        exact ⟨[], rfl, rfl, by simp -dsimp only [WeakTm, WeakBx, CLe, CLeL, push_cast, seval, this]⟩
  · simp -dsimp only [push_cast, seval, hla, hlb, hab]
    have : a ≠ b := fun h => hab (by rw [h])
    exact ⟨[], rfl, rfl, by simp -dsimp only [WeakTm, WeakBx, CLe, CLeL, push_cast, seval, this]⟩
/-- the walk from the root -/
abbrev listV (xs : List NodV) : List SeeV := belowV xs (xs.length + 1) 1 [47]
theorem list_fun (f : FsV) (hf : fewV f.xs) (hl : (listV f.xs).length ≤ 1000000) : Fun Tryd.prog G 18 [.agg (fsC f)] (.own 0 51 2 (seesC (listV f.xs))) 1 := by
  have hll : (nodsC f.xs).length = f.xs.length := List.length_map ..
  have h40 := hf.1
  have hb := below_fun (G := G) f hf (f.xs.length + 1) 1 [47] (by omega) (by simp; omega) hl
  rw [show (((f.xs.length + 1 : Nat) : Int) - 1) = (f.xs.length : Int) by omega] at hb
  refine Fun.of (fun _ => []) (by kernel_rfl) Tryd.func18 rfl rfl (Nat.le_of_ble_eq_true rfl) (by kernel_rfl) ?_; dsimp only [Tryd.f18, List.append_eq, List.cons_append, List.nil_append]
  simp -dsimp only [push_cast, seval, hll]
  (first | refine call (hb) ?_ | refine callP (hb) ?_); simp -dsimp only [push_cast, seval]
  exact ⟨[.inl 0], rfl, rfl, by simp -dsimp only [WeakTm, WeakBx, CLe, CLeL, push_cast, seval]⟩
/-- the paths of an inode -/
def pathsV (n : Int) (l : List SeeV) : List (List UInt8) := (l.filter fun s => decide (s.ino = n)).map (·.path)
theorem paths_take {n : Int} {l : List SeeV} {i : Nat} (h : i < l.length) : pathsV n (l.take (i + 1)) = pathsV n (l.take i) ++ if l[i].ino = n then [l[i].path] else [] := by
  unfold pathsV
  rw [List.take_add_one, List.getElem?_eq_getElem h, List.filter_append, List.map_append]
  by_cases hc : l[i].ino = n <;> simp [hc]
theorem paths_fun (f : FsV) (n : Int) (hf : fewV f.xs) (hl : (listV f.xs).length ≤ 1000000) : Fun Tryd.prog G 21 [.agg (fsC f), .sc (.int .i64 n)] (.own 0 9 1 (strs (pathsV n (listV f.xs)))) 1 := by
  refine Fun.of (fun _ => []) (by kernel_rfl) Tryd.func21 rfl rfl (Nat.le_of_ble_eq_true rfl) (by kernel_rfl) ?_; dsimp only [Tryd.f21, List.append_eq, List.cons_append, List.nil_append]
  simp -dsimp only [push_cast, seval]
  (first | refine call (list_fun f hf hl) ?_ | refine callP (list_fun f hf hl) ?_); simp -dsimp only [push_cast, seval]
  generalize listV f.xs = l at hl
  have hll : (seesC l).length = l.length := List.length_map ..
  refine loop (fun i : Nat => ⟨[(1, .sc (.int .i64 n)), (5, .own 0 9 1 (strs (pathsV n (l.take i)))), (6, .own 1 51 2 (seesC l)), (7, .sc (.int .i64 i))], [], 2, 0⟩) (fun i => i ≤ l.length) (fun i => l.length - i) 0 (Nat.zero_le _) ?_ ?_
  · exact Weak.mk [.inr (9, 1), .inl 0] rfl rfl (Nat.zero_le _) rfl (by simp -dsimp only [WeakTm, WeakBx, CLe, CLeL, push_cast, seval, List.take_zero, show pathsV n [] = [] from rfl]) (by simp -dsimp only [WeakTm, WeakBx, CLe, CLeL, push_cast, seval])
  · intro i hi
    by_cases h : i < l.length
    · have g1 := sees_at l i h
      have ht := paths_take (n := n) h
      have hpl : (pathsV n (l.take i)).length ≤ i := by
        unfold pathsV
        rw [List.length_map]
        exact Nat.le_trans (List.length_filter_le _ _) (by simp; omega)
      generalize hP1 : pathsV n (l.take (i + 1)) = P1 at ht
      generalize hP0 : pathsV n (l.take i) = P0 at ht hpl
      by_cases hc : l[i].ino = n
      · rw [if_pos hc] at ht
        have hP1 := hP1.trans ht
        clear ht
        simp -dsimp only [push_cast, seval, hll, h, g1, hc]
        (try simp only [List.length_append, List.length_cons, List.length_nil, List.length_map, List.length_take, List.length_drop]); repeat (refine And.intro (by omega) ?_)
        exact ⟨i + 1, h, by omega, Weak.mk [.inl 0, .inl 1] rfl rfl (Nat.zero_le _) rfl (by rw [hP1]; simp -dsimp only [WeakTm, WeakBx, CLe, CLeL, push_cast, seval]) (by simp -dsimp only [WeakTm, WeakBx, CLe, CLeL, push_cast, seval])⟩
      · rw [if_neg hc, List.append_nil] at ht
        have hP1 := hP1.trans ht
        clear ht
        simp -dsimp only [push_cast, seval, hll, h, g1, hc]
        (try simp only [List.length_append, List.length_cons, List.length_nil, List.length_map, List.length_take, List.length_drop]); repeat (refine And.intro (by omega) ?_)
        refine ⟨i + 1, h, by omega, Weak.mk [.inl 0, .inl 1] rfl rfl (Nat.zero_le _) rfl ?_ (by simp -dsimp only [WeakTm, WeakBx, CLe, CLeL, push_cast, seval])⟩
        rw [hP1]
        simp -dsimp only [WeakTm, WeakBx, CLe, CLeL, push_cast, seval]
    · rw [List.take_of_length_le (by omega)]
      simp -dsimp only [push_cast, seval, hll, h]
      exact ⟨[.inl 0], rfl, rfl, by simp -dsimp only [WeakTm, WeakBx, CLe, CLeL, push_cast, seval]⟩
end
end Go.Proofs.YtnjglohgjhihjaaDoor.Vcg
end
section
set_option linter.unusedVariables false
set_option maxRecDepth 100000
set_option linter.unusedSimpArgs false
namespace Go.Proofs.YtnjglohgjhihjaaDoor.Vcg
open Go.RowKit
abbrev Items := List (List (List UInt8) × NodV)
/-- what is come to, by the entries' names: the law of it -/
structure TreeOk (f : FsV) (tr : Int → List (List UInt8) → Items) : Prop where
  has : ∀ n ns, hasV n f.xs = true → tr n ns = (ns, gotV n f.xs) :: (gotV n f.xs).es.flatMap fun e => tr e.ino (ns ++ [e.name])
  not : ∀ n ns, hasV n f.xs = false → tr n ns = []
abbrev itemC (p : List (List UInt8) × NodV) : List C := [.str (joinP p.1), .agg (nodC p.2)]
/-- what is left of a level, of all levels (the top first) -/
def restV (tr : Int → List (List UInt8) → Items) (ns : List (List UInt8)) (es : List EntV) : Items := es.flatMap fun e => tr e.ino (ns ++ [e.name])
def restS (tr : Int → List (List UInt8) → Items) (S : List (List (List UInt8) × List EntV)) : Items := S.flatMap fun p => restV tr p.1 p.2
abbrev lvC (p : List (List UInt8) × List EntV) : List C := [.sl 1 (strs p.1), .sl 2 (entsC p.2)]
def lvsC (S : List (List (List UInt8) × List EntV)) : List C := (S.reverse.map lvC).flatten
theorem lvs_len (S : List (List (List UInt8) × List EntV)) : (lvsC S).length = S.length * 2 := by
  unfold lvsC
  rw [flat_len (k := 2) fun r hr => by obtain ⟨p, _, rfl⟩ := List.mem_map.1 hr; rfl]
  simp
theorem lvs_cons (p : List (List UInt8) × List EntV) (S : List (List (List UInt8) × List EntV)) : lvsC (p :: S) = lvsC S ++ lvC p := by
  unfold lvsC; simp
def boundOk (p : List (List UInt8) × NodV) : Prop := p.1.length ≤ 1000000 ∧ (Lib.join p.1 [47]).length ≤ 1000000
/-- what the program's rounds keep: the levels, how many were handed out, the room -/
structure StackOk (f : FsV) (tr : Int → List (List UInt8) → Items) (IT : List (List C)) (sf : Nat → Bool) (S : List (List (List UInt8) × List EntV)) (k cap : Nat) : Prop where
  rest : IT.drop k = (restS tr S).map itemC
  bound : ∀ p ∈ restS tr S, boundOk p
  le : k ≤ IT.length
  go : ∀ j, j < k → sf j = false
  pos : S.length ≤ k
  room : S.length ≤ cap
  roomM : cap ≤ 9223372036854775807
  has : ∀ p ∈ S, p.2.length ≤ 40 ∧ ∀ e ∈ p.2, hasV e.ino f.xs = true
theorem lvs_stay (S : List (List (List UInt8) × List EntV)) : ((lvsC S).all C.stayB) = true := stays_flat fun r hr => by
  obtain ⟨p, _, rfl⟩ := List.mem_map.1 hr; rfl
theorem StackOk.pop {f : FsV} {tr : Int → List (List UInt8) → Items} {IT : List (List C)} {sf : Nat → Bool} {S : List (List (List UInt8) × List EntV)} {ns : List (List UInt8)} {k cap : Nat} (h : StackOk f tr IT sf ((ns, []) :: S) k cap) : StackOk f tr IT sf S k cap := by
  have e : restS tr ((ns, []) :: S) = restS tr S := by simp [restS, restV]
  exact ⟨by rw [← e]; exact h.rest, fun p hp => h.bound p (by rw [e]; exact hp), h.le, h.go, by have := h.pos; rw [List.length_cons] at this; omega, by have := h.room; rw [List.length_cons] at this; omega, h.roomM, fun p hp => h.has p (List.mem_cons_of_mem _ hp)⟩
/-- the next step: what is handed out, and what is left if the walk goes on -/
theorem StackOk.next {f : FsV} {tr : Int → List (List UInt8) → Items} {IT : List (List C)} {sf : Nat → Bool} {S : List (List (List UInt8) × List EntV)} {ns : List (List UInt8)} {e : EntV} {r : List EntV} {k cap : Nat} (h : StackOk f tr IT sf ((ns, e :: r) :: S) k cap) (ht : TreeOk f tr) (hf : fewV f.xs) (h3 : thirdV f) :
    ∃ y, y = gotV e.ino f.xs ∧ y ∈ f.xs ∧ IT[k]? = some (itemC (ns ++ [e.name], y)) ∧ boundOk (ns ++ [e.name], y) ∧ (sf k = false → (∀ c, S.length + 2 ≤ c → c ≤ 9223372036854775807 → StackOk f tr IT sf ((ns ++ [e.name], y.es) :: (ns, r) :: S) (k + 1) c) ∧ (y.es = [] → StackOk f tr IT sf ((ns, r) :: S) (k + 1) cap)) := by
  have hh : hasV e.ino f.xs = true := (h.has (ns, e :: r) List.mem_cons_self).2 e List.mem_cons_self
  obtain ⟨hm, hi⟩ := got_has hh
  have hu := ht.has e.ino (ns ++ [e.name]) hh
  have hrest : restS tr ((ns, e :: r) :: S) = (ns ++ [e.name], gotV e.ino f.xs) :: restS tr ((ns ++ [e.name], (gotV e.ino f.xs).es) :: (ns, r) :: S) := by
    simp only [restS, restV, List.flatMap_cons, hu, List.cons_append, List.append_assoc]
  refine ⟨_, rfl, hm, ?_, h.bound _ (by rw [hrest]; exact List.mem_cons_self), fun hs => ?_⟩
  · have := h.rest
    rw [hrest] at this
    have := congrArg (·[0]?) this
    simpa using this
  · have hd : IT.drop (k + 1) = (restS tr ((ns ++ [e.name], (gotV e.ino f.xs).es) :: (ns, r) :: S)).map itemC := by
      rw [← List.drop_drop, h.rest, hrest]; rfl
    have hb : ∀ p ∈ restS tr ((ns ++ [e.name], (gotV e.ino f.xs).es) :: (ns, r) :: S), boundOk p := fun p hp => h.bound p (by rw [hrest]; exact List.mem_cons_of_mem _ hp)
    have hkl : k + 1 ≤ IT.length := by
      rcases Nat.lt_or_ge k IT.length with g | g
      · exact g
      · have := h.rest
        rw [List.drop_eq_nil_of_le g, hrest] at this; cases this
    have hgo : ∀ j, j < k + 1 → sf j = false := fun j hj => by
      rcases Nat.lt_or_ge j k with g | g
      · exact h.go j g
      · rw [show j = k by omega]; exact hs
    have hp := h.pos
    have hro := h.room
    have hrm := h.roomM
    rw [List.length_cons] at hp hro
    have h0 := h.has (ns, e :: r) List.mem_cons_self
    have hr0 : r.length ≤ 40 ∧ ∀ e' ∈ r, hasV e'.ino f.xs = true := ⟨by have := h0.1; simp at this; omega, fun e' he => h0.2 e' (List.mem_cons_of_mem _ he)⟩
    refine ⟨fun c h1 h2 => ⟨hd, hb, hkl, hgo, by simp; omega, by simp; omega, h2, fun p hp => ?_⟩, fun hne => ?_⟩
    · rcases List.mem_cons.1 hp with rfl | hp
      · exact ⟨(hf.2 _ hm).2.1, fun e' he => h3 _ hm e' he⟩
      · rcases List.mem_cons.1 hp with rfl | hp
        · exact hr0
        · exact h.has p (List.mem_cons_of_mem _ hp)
    · have hz : restS tr ((ns ++ [e.name], (gotV e.ino f.xs).es) :: (ns, r) :: S) = restS tr ((ns, r) :: S) := by rw [hne]; simp [restS, restV]
      rw [hz] at hd hb
      exact ⟨hd, hb, hkl, hgo, by simp; omega, by simp; omega, hrm, fun p hp => by
        rcases List.mem_cons.1 hp with rfl | hp
        · exact hr0
        · exact h.has p (List.mem_cons_of_mem _ hp)⟩
set_option maxHeartbeats 2000000 in
theorem walk1_iter (f : FsV) (ino : Int) (ns : List (List UInt8)) (tr : Int → List (List UInt8) → Items) (ht : TreeOk f tr) (hf : fewV f.xs) (hR : Rises f.xs) (h3 : thirdV f) (h2 : ∀ x ∈ f.xs, x.kind ≠ 2 → x.es = []) (hl : (tr ino ns).length ≤ 1000000) (hb : ∀ p ∈ tr ino ns, boundOk p) :
    Iter Tryd.prog G0 69 [] [.row (fsC f), .row [.sc (.int .i64 ino)], .row [.sl 1 (strs ns)]] [] ((tr ino ns).map itemC) := by
  have h40 := hf.1
  refine Iter.of (fun i => if i = 1000000 + 89 then [true] else if i = 1 then [false, false, false, false, false, false, false, true] else if i = 10 then [false, false, false, false, true] else []) (by kernel_rfl) Tryd.func69 rfl rfl (Nat.le_of_ble_eq_true rfl) (by kernel_rfl) ?_; dsimp only [Tryd.f69, List.append_eq, List.cons_append, List.nil_append]
  intro l sf
  simp -dsimp only [push_cast, seval]
  (first | refine call (get_fun f ino (by omega) hR) ?_ | refine callP (get_fun f ino (by omega) hR) ?_); simp -dsimp only [push_cast, seval]
  cases hh : hasV ino f.xs with
  | false =>
    have hn := ht.not ino ns hh
    simp -dsimp only [push_cast, seval]
    rw [hn]
    exact .inl ⟨rfl, fun j hj => absurd hj (Nat.not_lt_zero _)⟩
  | true =>
    have hn := ht.has ino ns hh
    have q : boundOk (ns, gotV ino f.xs) := hb _ (by rw [hn]; exact List.mem_cons_self)
    have h0 : ((tr ino ns).map itemC)[0]? = some (itemC (ns, gotV ino f.xs)) := by rw [hn]; rfl
    obtain ⟨hm, hino⟩ := got_has hh
    generalize gotV ino f.xs = x at hn h0 hm hino
    have hITl : ((tr ino ns).map itemC).length ≤ 1000000 := by rw [List.length_map]; exact hl
    generalize hIT : (tr ino ns).map itemC = IT at h0 hITl
    simp -dsimp only [push_cast, seval]
    (first | refine call (joinP_fun ns (by have := q.1; dsimp only at this; omega) (by have := q.2; dsimp only at this; omega)) ?_ | refine callP (joinP_fun ns (by have := q.1; dsimp only at this; omega) (by have := q.2; dsimp only at this; omega)) ?_); simp -dsimp only [push_cast, seval, h0]
    refine ⟨by simp -dsimp only [WeakTm, WeakBx, CLe, CLeL, push_cast, seval], fun j hj => absurd hj (Nat.not_lt_zero _), br (fun hs => ?_) (fun hs => ?_)⟩
    · simp -dsimp only [push_cast, seval]
      exact .inr ⟨Nat.succ_pos _, hs⟩
    · simp -dsimp only [push_cast, seval]
      refine loop (fun p : List (List (List UInt8) × List EntV) × Nat × Nat => ⟨[(0, .sc (.func (.yield l) #[] #[])), (1, .row (fsC f)), (7, .bs 1 0 2 p.1.length p.2.2)], [[.any, .any, .any, .any, .any, .any], lvsC p.1 ++ List.replicate ((p.2.2 - p.1.length) * 2) .any], 0, p.2.1⟩) (fun p => StackOk f tr IT sf p.1 p.2.1 p.2.2) (fun p => 2 * (IT.length - p.2.1) + p.1.length) ([(ns, x.es)], 1, 1) ?_ ?_ ?_
      · have hdr : IT.drop 1 = (restS tr [(ns, x.es)]).map itemC := by
          rw [← hIT, hn]
          simp [restS, restV]
        show StackOk f tr IT sf [(ns, x.es)] 1 1
        exact ⟨hdr, fun p hp => hb p (by rw [hn]; exact List.mem_cons_of_mem _ (by simpa [restS, restV] using hp)), by have := (List.getElem?_eq_some_iff.1 h0).1; omega, fun j hj => by rw [show j = 0 by omega]; exact hs, Nat.le_refl _, Nat.le_refl _, by omega, fun p hp => by
          rw [List.mem_singleton] at hp; subst hp
          exact ⟨(hf.2 x hm).2.1, fun e he => h3 x hm e he⟩⟩
      · have hl1 : lvsC [(ns, x.es)] = [.sl 1 (strs ns), .sl 2 (entsC x.es)] := rfl
        exact Weak.mk [] rfl rfl (Nat.zero_le _) rfl (by simp -dsimp only [WeakTm, WeakBx, CLe, CLeL, push_cast, seval]) (by simp -dsimp only [WeakTm, WeakBx, CLe, CLeL, push_cast, seval, hl1])
      · rintro ⟨S, k, cap⟩ hS
        dsimp only at hS ⊢
        cases S with
        | nil =>
          simp -dsimp only [push_cast, seval]
          have hr := hS.rest
          have he : IT.length ≤ k := by
            rcases Nat.lt_or_ge k IT.length with g | g
            · have := congrArg List.length hr
              simp [restS] at this; omega
            · exact g
          exact .inl ⟨by have := hS.le; omega, hS.go⟩
        | cons p S' =>
          obtain ⟨ns1, es1⟩ := p
          have hL := lvs_len S'
          have hd0 : ∀ X, (lvsC S' ++ X).drop (S'.length * 2) = X := fun X => List.drop_left' hL
          have hd1 : ∀ X, (lvsC S' ++ X).drop (S'.length * 2 + 1) = X.drop 1 := fun X => by rw [← List.drop_drop, hd0]
          have hd2 : ∀ X, (lvsC S' ++ X).drop (S'.length * 2 + 2) = X.drop 2 := fun X => by rw [← List.drop_drop, hd0]
          have ht0 : ∀ X, (lvsC S' ++ X).take (S'.length * 2) = lvsC S' := fun X => List.take_left' hL
          have ht1 : ∀ X, (lvsC S' ++ X).take (S'.length * 2 + 1) = lvsC S' ++ X.take 1 := fun X => by
            rw [List.take_append, List.take_of_length_le (by omega), hL]; congr 2; omega
          have hpos : ((0 : Int) < (S'.length : Int) + 1) = True := eq_true (by omega)
          have hroom := hS.room
          have hroomM := hS.roomM
          rw [List.length_cons] at hroom
          have hlc : (((S'.length : Int) + 1 - 1) = (S'.length : Int)) := by omega
          simp -dsimp only [push_cast, seval, lvs_cons, hlc, hpos]
          (try simp only [List.length_append, List.length_cons, List.length_nil, List.length_map, List.length_take, List.length_drop]); repeat (refine And.intro (by omega) ?_)
          generalize hpad : List.replicate ((cap - (S'.length + 1)) * 2) C.any = pad
          have hps : (pad.all C.stayB) = true := by rw [← hpad]; simp [List.all_replicate, C.stayB]
          have hst1 : ((lvsC S' ++ (lvC (ns1, es1) ++ pad)).all C.stayB) = true := by rw [List.all_append, lvs_stay, List.all_append, hps]; rfl
          have hpl : pad.length = (cap - (S'.length + 1)) * 2 := by rw [← hpad]; simp
          refine loop (fun p : List EntV × Nat => ⟨[(0, .sc (.func (.yield l) #[] #[])), (1, .row (fsC f)), (7, .bs 1 0 2 (S'.length + 1) cap), (8, .ptr 1 (S'.length * 2))], [[.any, .any, .any, .any, .any, .any], lvsC S' ++ ([.sl 1 (strs ns1), .sl 2 (entsC p.1)] ++ pad)], 0, p.2⟩) (fun p => StackOk f tr IT sf ((ns1, p.1) :: S') p.2 cap ∧ 2 * (IT.length - p.2) ≤ 2 * (IT.length - k)) (fun p => p.1.length) (es1, k) ⟨hS, Nat.le_refl _⟩ ?_ ?_
          · exact Weak.mk [] rfl rfl (Nat.zero_le _) rfl (by simp -dsimp only [WeakTm, WeakBx, CLe, CLeL, push_cast, seval]) (by simp -dsimp only [WeakTm, WeakBx, CLe, CLeL, push_cast, seval, List.append_assoc]; exact stays_le hst1)
          · rintro ⟨es, k1⟩ ⟨hT, hkk⟩
            dsimp only at hT hkk ⊢
            cases es with
            | nil =>
              simp -dsimp only [push_cast, seval, hd0, hd1, hd2, ht0, ht1, hlc]
              refine ⟨by omega, by omega, ⟨by omega, by omega⟩, (S', k1, cap), hT.pop, by dsimp only; omega, Weak.mk [] rfl rfl (Nat.zero_le _) rfl (by simp -dsimp only [WeakTm, WeakBx, CLe, CLeL, push_cast, seval]) ?_⟩
              simp -dsimp only [WeakTm, WeakBx, CLe, CLeL, push_cast, seval]
              exact le_app (stays_le (lvs_stay S')) (le_anys (by simp [hpl]; omega))
            | cons e r =>
              obtain ⟨y, hy, hym, hk1, hbd, hnext⟩ := hT.next ht hf h3
              have hrl : ((0 : Int) < (r.length : Int) + 1) = True := eq_true (by omega)
              have hlr : (entsC r).length = r.length := List.length_map ..
              have hhe : hasV e.ino f.xs = true := (hT.has (ns1, e :: r) List.mem_cons_self).2 e List.mem_cons_self
              have hgy : gotV e.ino f.xs = y := hy.symm
              have hb1 : ns1.length + 1 ≤ 1000000 := by have := hbd.1; simpa using this
              have hb2 : (Lib.join (ns1 ++ [e.name]) [47]).length ≤ 1000000 := hbd.2
              have hst2 : (strs ns1).length = ns1.length := List.length_map ..
              simp -dsimp only [push_cast, seval, hd0, hd1, hd2, ht0, ht1, hlc, hlr, hrl, hst2, List.append_assoc, List.take_length]
              (try simp only [List.length_append, List.length_cons, List.length_nil, List.length_map, List.length_take, List.length_drop]); repeat (refine And.intro (by omega) ?_)
              refine ⟨by simp, by omega, by omega, ?_⟩
              (first | refine call (get_fun f e.ino (by omega) hR) ?_ | refine callP (get_fun f e.ino (by omega) hR) ?_); simp -dsimp only [push_cast, seval, hgy, hhe]
              (first | refine call (joinP_fun (ns1 ++ [e.name]) (by simp; omega) (by omega)) ?_ | refine callP (joinP_fun (ns1 ++ [e.name]) (by simp; omega) (by omega)) ?_); simp -dsimp only [push_cast, seval, hk1]
              refine ⟨by simp -dsimp only [WeakTm, WeakBx, CLe, CLeL, push_cast, seval], hT.go, br (fun hs1 => ?_) (fun hs1 => ?_)⟩
              · simp -dsimp only [push_cast, seval]
                exact .inr ⟨Nat.succ_pos _, hs1⟩
              · obtain ⟨w1, w2⟩ := hnext hs1
                by_cases k2 : y.kind = 2
                · have hSk := hT.pos
                  have hkl := hT.le
                  rw [List.length_cons] at hSk
                  have hc1 : (lvsC S' ++ C.sl 1 (strs ns1) :: C.sl 2 (List.map entC r) :: pad).length = cap * 2 := by
                    rw [List.length_append, hL, List.length_cons, List.length_cons, hpl]; omega
                  have hc2 : (lvsC S' ++ C.sl 1 (strs ns1) :: C.sl 2 (List.map entC r) :: pad).take ((S'.length + 1) * 2) = lvsC S' ++ [C.sl 1 (strs ns1), C.sl 2 (List.map entC r)] := by
                    rw [List.take_append, List.take_of_length_le (by omega), hL, show (S'.length + 1) * 2 - S'.length * 2 = 2 by omega]; rfl
                  simp -dsimp only [push_cast, seval, k2]
                  refine appBx (lvsC S' ++ [C.sl 1 (strs ns1), C.sl 2 (List.map entC r)] ++ [C.sl 1 (strs (ns1 ++ [e.name])), C.sl 2 (entsC y.es)]) rfl rfl (by decide) rfl (by decide) (Nat.zero_le _) hc1 hroom hroomM (by omega) (by omega) (by rw [hc2]; exact stays_re (by rw [List.all_append, List.all_append, lvs_stay]; rfl)) (fun c' g1 g2 => ?_)
                  have hw := w1 c' (by omega) g2
                  have hwl := hw.le
                  simp -dsimp only [push_cast, seval, k2]
                  refine ⟨((ns1 ++ [e.name], y.es) :: (ns1, r) :: S', k1 + 1, c'), hw, by simp only [List.length_cons]; omega, Weak.mk [] rfl rfl (Nat.zero_le _) rfl (by simp -dsimp only [WeakTm, WeakBx, CLe, CLeL, push_cast, seval]) ?_⟩
                  simp -dsimp only [WeakTm, WeakBx, CLe, CLeL, push_cast, seval, lvs_cons, List.append_assoc]
                  exact stays_le (by rw [List.all_append, lvs_stay]; simp [List.all_replicate, C.stayB])
                · simp -dsimp only [push_cast, seval, k2]
                  have hz := w2 (h2 y hym k2)
                  have hle := hz.le
                  refine ⟨(r, k1 + 1), ⟨hz, by dsimp only; omega⟩, by dsimp only; simp, Weak.mk [] rfl rfl (Nat.zero_le _) rfl (by simp -dsimp only [WeakTm, WeakBx, CLe, CLeL, push_cast, seval]) ?_⟩
                  simp -dsimp only [WeakTm, WeakBx, CLe, CLeL, push_cast, seval, List.append_assoc]
                  exact stays_le (by rw [List.all_append, lvs_stay, List.all_cons, List.all_cons, hps]; rfl)
end Go.Proofs.YtnjglohgjhihjaaDoor.Vcg
end
section
set_option linter.unusedVariables false
set_option maxRecDepth 100000
set_option linter.unusedSimpArgs false
namespace Go.Proofs.YtnjglohgjhihjaaDoor.Vcg
open Go.RowKit
/-- what a walk leans on -/
structure WalkOk (f : FsV) (tr : Int → List (List UInt8) → Items) : Prop where
  tree : TreeOk f tr
  few : fewV f.xs
  rise : Rises f.xs
  third : thirdV f
  leaf : ∀ x ∈ f.xs, x.kind ≠ 2 → x.es = []
structure StartOk (tr : Int → List (List UInt8) → Items) (ino : Int) (ns : List (List UInt8)) : Prop where
  len : (tr ino ns).length ≤ 1000000
  bound : ∀ p ∈ tr ino ns, boundOk p
abbrev itemsC (l : Items) : List (List C) := l.map itemC
theorem item_get {l : Items} {k : Nat} {it : List C} (h : (itemsC l)[k]? = some it) : ∃ p, l[k]? = some p ∧ it = itemC p := by
  rw [List.getElem?_map] at h
  cases hq : l[k]? with
  | none => rw [hq] at h; cases h
  | some x => rw [hq] at h; cases h; exact ⟨x, rfl, rfl⟩
abbrev seen1 (p : List (List UInt8) × NodV) : SeeV := ⟨joinP p.1, p.2.ino⟩
theorem walk_it {f : FsV} {tr : Int → List (List UInt8) → Items} {ino : Int} {ns : List (List UInt8)} (hw : WalkOk f tr) (hs : StartOk tr ino ns) : Iter Tryd.prog G0 69 [] [.row (fsC f), .row [.sc (.int .i64 ino)], .row [.sl 1 (strs ns)]] [] (itemsC (tr ino ns)) :=
  walk1_iter f ino ns tr hw.tree hw.few hw.rise hw.third hw.leaf hs.len hs.bound
theorem from_fun (f : FsV) (ino : Int) (ns : List (List UInt8)) : Fun Tryd.prog G0 50 [.agg (fsC f), .sc (.int .i64 ino), .sl 1 (strs ns)] (.clo (.func 69) [] [.row (fsC f), .row [.sc (.int .i64 ino)], .row [.sl 1 (strs ns)]]) 0 := by
  refine Fun.of (fun _ => []) (by kernel_rfl) Tryd.func50 rfl rfl (Nat.le_of_ble_eq_true rfl) (by kernel_rfl) ?_; dsimp only [Tryd.f50, List.append_eq, List.cons_append, List.nil_append]
  simp -dsimp only [push_cast, seval]
  exact ⟨[], rfl, rfl, by simp -dsimp only [WeakTm, WeakBx, CLe, CLeL, push_cast, seval]⟩
theorem all_fun (f : FsV) : Fun Tryd.prog G0 26 [.agg (fsC f)] (.clo (.func 69) [] [.row (fsC f), .row [.sc (.int .i64 1)], .row [.sl 1 (strs [])]]) 0 := by
  refine Fun.of (fun _ => []) (by kernel_rfl) Tryd.func26 rfl rfl (Nat.le_of_ble_eq_true rfl) (by kernel_rfl) ?_; dsimp only [Tryd.f26, List.append_eq, List.cons_append, List.nil_append]
  simp -dsimp only [push_cast, seval]
  refine call (Fun.less (from_fun f 1 []) (by simp -dsimp only [WeakTm, WeakBx, CLe, CLeL, push_cast, seval])) ?_
  simp -dsimp only [push_cast, seval]
  exact ⟨[], rfl, rfl, by simp -dsimp only [WeakTm, WeakBx, CLe, CLeL, push_cast, seval]⟩
set_option maxHeartbeats 1000000 in
theorem wbelow_fun (f : FsV) (tr : Int → List (List UInt8) → Items) (ino : Int) (p : List UInt8) (hp : p.length ≤ 1000000) (hw : WalkOk f tr) (hs : StartOk tr ino (names p)) :
    Fun Tryd.prog G0 19 [.agg (fsC f), .sc (.int .i64 ino), .str p] (.own 0 51 2 (seesC ((tr ino (names p)).map seen1))) 1 := by
  refine Fun.of (fun _ => []) (by kernel_rfl) Tryd.func19 rfl rfl (Nat.le_of_ble_eq_true rfl) (by kernel_rfl) ?_; dsimp only [Tryd.f19, List.append_eq, List.cons_append, List.nil_append]
  simp -dsimp only [push_cast, seval]
  refine callP (read_fun p hp) ?_
  unfold readC
  simp -dsimp only [push_cast, seval]
  (first | refine call (from_fun f ino (names p)) ?_ | refine callP (from_fun f ino (names p)) ?_); simp -dsimp only [push_cast, seval]
  have hl := hs.len
  have hit := walk_it hw hs
  generalize tr ino (names p) = l at hit hl
  refine range (itemsC l) (fun _ => false) 2 (fun k => ⟨[], [[.any, .any, .any, .any], [.own 0 51 2 (seesC ((l.take k).map seen1))]], 1, 0⟩) hit (by simp -dsimp only [push_cast, seval]) (by simp -dsimp only [push_cast, seval]) (by simp -dsimp only [push_cast, seval]) (Nat.zero_le _) (by simp -dsimp only [push_cast, seval]) (fun it h => ?_) (fun k _ => rfl) ?_ (fun k it hk hsf => ?_) (fun hsf => ?_)
  · obtain ⟨x, _, rfl⟩ := List.mem_map.1 h; rfl
  · exact Weak.mk [.inr (51, 2)] rfl rfl (Nat.le_of_ble_eq_true rfl) rfl (by simp -dsimp only [WeakTm, WeakBx, CLe, CLeL, push_cast, seval]) (by simp -dsimp only [WeakTm, WeakBx, CLe, CLeL, push_cast, seval])
  · obtain ⟨x, hx2, rfl⟩ := item_get hk
    have hkl : k < l.length := (List.getElem?_eq_some_iff.1 hx2).1
    simp -dsimp only [push_cast, seval]
    rw [List.length_map, List.length_map, List.length_take]
    refine ⟨by omega, by omega, Weak.mk [.inl 0] rfl rfl (Nat.le_of_ble_eq_true rfl) rfl (by simp -dsimp only [WeakTm, WeakBx, CLe, CLeL, push_cast, seval]) ?_⟩
    simp -dsimp only [WeakTm, WeakBx, CLe, CLeL, push_cast, seval]
    rw [List.take_add_one, hx2]
    simp
  · simp -dsimp only [push_cast, seval]
    refine ⟨[.inl 0], rfl, rfl, ?_⟩
    simp -dsimp only [WeakTm, WeakBx, CLe, CLeL, push_cast, seval]
    simp
set_option maxHeartbeats 1000000 in
theorem wlist_fun (f : FsV) (tr : Int → List (List UInt8) → Items) (hw : WalkOk f tr) (hs : StartOk tr 1 []) :
    Fun Tryd.prog G0 17 [.agg (fsC f)] (.own 0 51 2 (seesC ((tr 1 []).map seen1))) 1 := by
  have hn : names [47] = [] := by decide
  have h := wbelow_fun f tr 1 [47] (by decide) hw (by rw [hn]; exact hs)
  rw [hn] at h
  refine Fun.of (fun _ => []) (by kernel_rfl) Tryd.func17 rfl rfl (Nat.le_of_ble_eq_true rfl) (by kernel_rfl) ?_; dsimp only [Tryd.f17, List.append_eq, List.cons_append, List.nil_append]
  simp -dsimp only [push_cast, seval]
  (first | refine call (h) ?_ | refine callP (h) ?_); simp -dsimp only [push_cast, seval]
  exact ⟨[.inl 0], rfl, rfl, by simp -dsimp only [WeakTm, WeakBx, CLe, CLeL, push_cast, seval]⟩
/-- an inode's paths -/
def wpathsV (n : Int) (l : Items) : List (List UInt8) := (l.filter fun p => decide (p.2.ino = n)).map fun p => joinP p.1
theorem wpaths_take {n : Int} {l : Items} {i : Nat} {x : List (List UInt8) × NodV} (h : l[i]? = some x) : wpathsV n (l.take (i + 1)) = wpathsV n (l.take i) ++ if x.2.ino = n then [joinP x.1] else [] := by
  unfold wpathsV
  rw [List.take_add_one, h, List.filter_append, List.map_append]
  by_cases hc : x.2.ino = n <;> simp [hc]
theorem wpaths_len {n : Int} {l : Items} {i : Nat} : (wpathsV n (l.take i)).length ≤ i := by
  unfold wpathsV
  rw [List.length_map]
  exact Nat.le_trans (List.length_filter_le _ _) (by simp; omega)
set_option maxHeartbeats 1000000 in
theorem wpaths_fun (f : FsV) (n : Int) (tr : Int → List (List UInt8) → Items) (hw : WalkOk f tr) (hs : StartOk tr 1 []) :
    Fun Tryd.prog G0 25 [.agg (fsC f), .sc (.int .i64 n)] (.own 0 9 1 (strs (wpathsV n (tr 1 [])))) 1 := by
  refine Fun.of (fun _ => []) (by kernel_rfl) Tryd.func25 rfl rfl (Nat.le_of_ble_eq_true rfl) (by kernel_rfl) ?_; dsimp only [Tryd.f25, List.append_eq, List.cons_append, List.nil_append]
  simp -dsimp only [push_cast, seval]
  (first | refine call (all_fun f) ?_ | refine callP (all_fun f) ?_); simp -dsimp only [push_cast, seval]
  have hl := hs.len
  have hit := walk_it hw hs
  generalize tr 1 [] = l at hit hl
  refine range (itemsC l) (fun _ => false) 3 (fun k => ⟨[], [[.any, .any, .any, .any], [.sc (.int .i64 n)], [.own 0 9 1 (strs (wpathsV n (l.take k)))]], 1, 0⟩) hit (by simp -dsimp only [push_cast, seval]) (by simp -dsimp only [push_cast, seval]) (by simp -dsimp only [push_cast, seval]) (Nat.zero_le _) (by simp -dsimp only [push_cast, seval]) (fun it h => ?_) (fun k _ => rfl) ?_ (fun k it hk hsf => ?_) (fun hsf => ?_)
  · obtain ⟨x, _, rfl⟩ := List.mem_map.1 h; rfl
  · exact Weak.mk [.inr (9, 1)] rfl rfl (Nat.le_of_ble_eq_true rfl) rfl (by simp -dsimp only [WeakTm, WeakBx, CLe, CLeL, push_cast, seval]) (by simp -dsimp only [WeakTm, WeakBx, CLe, CLeL, push_cast, seval, List.take_zero, show wpathsV n [] = [] from rfl])
  · obtain ⟨x, hx2, rfl⟩ := item_get hk
    have hkl : k < l.length := (List.getElem?_eq_some_iff.1 hx2).1
    have ht := wpaths_take (n := n) hx2
    have hwl := wpaths_len (n := n) (l := l) (i := k)
    by_cases hc : x.2.ino = n
    · rw [if_pos hc] at ht
      simp -dsimp only [push_cast, seval, hc]
      refine ⟨by omega, by omega, Weak.mk [.inl 0] rfl rfl (Nat.le_of_ble_eq_true rfl) rfl (by simp -dsimp only [WeakTm, WeakBx, CLe, CLeL, push_cast, seval]) ?_⟩
      rw [ht]
      simp -dsimp only [WeakTm, WeakBx, CLe, CLeL, push_cast, seval]
    · rw [if_neg hc, List.append_nil] at ht
      simp -dsimp only [push_cast, seval, hc]
      refine Weak.mk [.inl 0] rfl rfl (Nat.le_of_ble_eq_true rfl) rfl (by simp -dsimp only [WeakTm, WeakBx, CLe, CLeL, push_cast, seval]) ?_
      rw [ht]
      simp -dsimp only [WeakTm, WeakBx, CLe, CLeL, push_cast, seval]
  · simp -dsimp only [push_cast, seval]
    refine ⟨[.inl 0], rfl, rfl, ?_⟩
    simp -dsimp only [WeakTm, WeakBx, CLe, CLeL, push_cast, seval]
    simp
/-- a directory's path -/
def wdirV (n : Int) (l : Items) : Option (List UInt8) := (l.find? fun p => decide (p.2.ino = n) && decide (p.2.kind = 2)).map fun p => joinP p.1
set_option maxHeartbeats 1000000 in
theorem wpathOf_fun (f : FsV) (n : Int) (tr : Int → List (List UInt8) → Items) (hw : WalkOk f tr) (hs : StartOk tr 1 []) :
    Fun Tryd.prog G0 22 [.agg (fsC f), .sc (.int .i64 n)] (.tup [.str ((wdirV n (tr 1 [])).getD []), .sc (.bool (wdirV n (tr 1 [])).isSome)]) 0 := by
  refine Fun.of (fun _ => []) (by kernel_rfl) Tryd.func22 rfl rfl (Nat.le_of_ble_eq_true rfl) (by kernel_rfl) ?_; dsimp only [Tryd.f22, List.append_eq, List.cons_append, List.nil_append]
  simp -dsimp only [push_cast, seval]
  (first | refine call (all_fun f) ?_ | refine callP (all_fun f) ?_); simp -dsimp only [push_cast, seval]
  have hl := hs.len
  have hit := walk_it hw hs
  generalize tr 1 [] = l at hit hl
  refine range (itemsC l) (fun k => match l[k]? with | some p => decide (p.2.ino = n) && decide (p.2.kind = 2) | none => false) 4 (fun k => ⟨[], [[.any, .any, .any, .any], [.sc (.int .i64 n)], [.any], [.any]], 0, 0⟩) hit (by simp -dsimp only [push_cast, seval]) (by simp -dsimp only [push_cast, seval]) (by simp -dsimp only [push_cast, seval]) (Nat.zero_le _) (by simp -dsimp only [push_cast, seval]) (fun it h => ?_) (fun k _ => rfl) ?_ (fun k it hk hsf => ?_) (fun hsf => ?_)
  · obtain ⟨x, _, rfl⟩ := List.mem_map.1 h; rfl
  · exact Weak.mk [] rfl rfl (Nat.le_of_ble_eq_true rfl) rfl (by simp -dsimp only [WeakTm, WeakBx, CLe, CLeL, push_cast, seval]) (by simp -dsimp only [WeakTm, WeakBx, CLe, CLeL, push_cast, seval])
  · obtain ⟨x, hx2, rfl⟩ := item_get hk
    have hfirst : (decide (x.2.ino = n) && decide (x.2.kind = 2)) = true → wdirV n l = some (joinP x.1) := fun hb => by
      obtain ⟨hkl, hxe⟩ := List.getElem?_eq_some_iff.1 hx2
      unfold wdirV
      rw [List.find?_eq_some_iff_getElem (b := x) |>.2 ⟨hb, k, hkl, hxe, fun j hj => ?_⟩]
      · rfl
      · have := hsf j hj
        rw [List.getElem?_eq_getElem (by omega)] at this
        simp only [this]; rfl
    by_cases c1 : x.2.ino = n
    · by_cases c2 : x.2.kind = 2
      · have hd := hfirst (by simp [c1, c2])
        simp -dsimp only [push_cast, seval, c1, c2]
        refine ⟨by rw [hx2]; simp [c1, c2], ⟨[], [[.any, .any, .any, .any], [.sc (.int .i64 n)], [.str (joinP x.1)], [.sc (.bool true)]], 0, 0⟩, rfl, Weak.mk [] rfl rfl (Nat.le_of_ble_eq_true rfl) rfl (by simp -dsimp only [WeakTm, WeakBx, CLe, CLeL, push_cast, seval]) (by simp -dsimp only [WeakTm, WeakBx, CLe, CLeL, push_cast, seval]), ?_⟩
        simp -dsimp only [push_cast, seval, hd]
        exact ⟨[], rfl, rfl, by simp -dsimp only [WeakTm, WeakBx, CLe, CLeL, push_cast, seval, hd, Option.getD_some, Option.isSome_some]⟩
      · simp -dsimp only [push_cast, seval, c1, c2]
        refine ⟨by rw [hx2]; simp [c2], Weak.mk [] rfl rfl (Nat.le_of_ble_eq_true rfl) rfl (by simp -dsimp only [WeakTm, WeakBx, CLe, CLeL, push_cast, seval]) (by simp -dsimp only [WeakTm, WeakBx, CLe, CLeL, push_cast, seval])⟩
    · simp -dsimp only [push_cast, seval, c1]
      refine ⟨by rw [hx2]; simp [c1], Weak.mk [] rfl rfl (Nat.le_of_ble_eq_true rfl) rfl (by simp -dsimp only [WeakTm, WeakBx, CLe, CLeL, push_cast, seval]) (by simp -dsimp only [WeakTm, WeakBx, CLe, CLeL, push_cast, seval])⟩
  · have hnone : wdirV n l = none := by
      unfold wdirV
      rw [Option.map_eq_none_iff, List.find?_eq_none]
      intro x hx
      obtain ⟨k, hk, rfl⟩ := List.getElem_of_mem hx
      have := hsf k (by simpa using hk)
      rw [List.getElem?_eq_getElem hk] at this
      simpa only [Bool.not_eq_true] using this
    simp -dsimp only [push_cast, seval, hnone]
    exact ⟨[], rfl, rfl, by simp -dsimp only [WeakTm, WeakBx, CLe, CLeL, push_cast, seval, Option.getD_none, Option.isSome_none]⟩
end Go.Proofs.YtnjglohgjhihjaaDoor.Vcg
end
