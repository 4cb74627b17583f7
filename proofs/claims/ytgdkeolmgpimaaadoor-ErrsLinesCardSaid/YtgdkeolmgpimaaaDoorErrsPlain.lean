/- Plain facts on the fourteen messages: which text stands at which number, and where a text stands. No condition. -/
namespace Go.Proofs.YtgdkeolmgpimaaaDoor.ErrsPlain
def tab : List ByteArray := [⟨#[83, 117, 99, 99, 101, 115, 115]⟩, ⟨#[78, 111, 32, 115, 117, 99, 104, 32, 102, 105, 108, 101, 32, 111, 114, 32, 100, 105, 114, 101, 99, 116, 111, 114, 121]⟩, ⟨#[70, 105, 108, 101, 32, 101, 120, 105, 115, 116, 115]⟩, ⟨#[78, 111, 116, 32, 97, 32, 100, 105, 114, 101, 99, 116, 111, 114, 121]⟩, ⟨#[73, 115, 32, 97, 32, 100, 105, 114, 101, 99, 116, 111, 114, 121]⟩, ⟨#[68, 105, 114, 101, 99, 116, 111, 114, 121, 32, 110, 111, 116, 32, 101, 109, 112, 116, 121]⟩, ⟨#[84, 111, 111, 32, 109, 97, 110, 121, 32, 108, 101, 118, 101, 108, 115, 32, 111, 102, 32, 115, 121, 109, 98, 111, 108, 105, 99, 32, 108, 105, 110, 107, 115]⟩, ⟨#[70, 105, 108, 101, 32, 110, 97, 109, 101, 32, 116, 111, 111, 32, 108, 111, 110, 103]⟩, ⟨#[78, 111, 32, 115, 112, 97, 99, 101, 32, 108, 101, 102, 116, 32, 111, 110, 32, 100, 101, 118, 105, 99, 101]⟩, ⟨#[73, 110, 118, 97, 108, 105, 100, 32, 97, 114, 103, 117, 109, 101, 110, 116]⟩, ⟨#[68, 101, 118, 105, 99, 101, 32, 111, 114, 32, 114, 101, 115, 111, 117, 114, 99, 101, 32, 98, 117, 115, 121]⟩, ⟨#[79, 112, 101, 114, 97, 116, 105, 111, 110, 32, 110, 111, 116, 32, 112, 101, 114, 109, 105, 116, 116, 101, 100]⟩, ⟨#[77, 97, 108, 102, 111, 114, 109, 101, 100, 32, 116, 101, 120, 116]⟩, ⟨#[78, 111, 116, 32, 105, 110, 32, 116, 104, 101, 32, 115, 116, 97, 115, 104]⟩]
def unknown : ByteArray := ⟨#[85, 110, 107, 110, 111, 119, 110, 32, 101, 114, 114, 111, 114]⟩
def at14 (k : Nat) : ByteArray := tab.getD k ⟨#[]⟩
def msg (n : Int) : ByteArray := if 0 ≤ n ∧ n ≤ 13 then at14 n.toNat else unknown
theorem tab_length : tab.length = 14 := rfl
/-- where a text stands, from k on, d places left -/
def seek (s : ByteArray) : Nat → Nat → Option Nat
  | 0, _ => none
  | d + 1, k => if at14 k = s then some k else seek s d (k + 1)
def find (s : ByteArray) : Option Nat := seek s 14 0
def findNo (s : ByteArray) : Int := match find s with | some k => (k : Int) | none => 0
def findOk (s : ByteArray) : Bool := (find s).isSome
theorem seek_some (s : ByteArray) : ∀ d k j, seek s d k = some j → k ≤ j ∧ j < k + d ∧ at14 j = s ∧ ∀ i, k ≤ i → i < j → at14 i ≠ s
  | 0, k, j, h => by simp [seek] at h
  | d + 1, k, j, h => by
    unfold seek at h
    split at h
    · rename_i e; simp only [Option.some.injEq] at h; subst h; exact ⟨by omega, by omega, e, fun i h1 h2 => by omega⟩
    · rename_i e
      obtain ⟨h1, h2, h3, h4⟩ := seek_some s d (k + 1) j h
      refine ⟨by omega, by omega, h3, fun i hi hj => ?_⟩
      by_cases hk : i = k
      · subst hk; exact e
      · exact h4 i (by omega) hj
theorem seek_none (s : ByteArray) : ∀ d k, seek s d k = none → ∀ i, k ≤ i → i < k + d → at14 i ≠ s
  | 0, k, _, i, h1, h2 => by omega
  | d + 1, k, h, i, h1, h2 => by
    unfold seek at h
    split at h
    · simp at h
    · rename_i e
      by_cases hk : i = k
      · subst hk; exact e
      · exact seek_none s d (k + 1) h i (by omega) (by omega)
theorem seek_of (s : ByteArray) (d k j : Nat) (h1 : k ≤ j) (h2 : j < k + d) (h3 : at14 j = s) (h4 : ∀ i, k ≤ i → i < j → at14 i ≠ s) : seek s d k = some j := by
  cases h : seek s d k with
  | none => exact absurd h3 (seek_none s d k h j h1 h2)
  | some i =>
    obtain ⟨a, b, c, e⟩ := seek_some s d k i h
    by_cases hij : i < j
    · exact absurd c (h4 i a hij)
    · by_cases hji : j < i
      · exact absurd h3 (e j h1 hji)
      · have : i = j := by omega
        subst this; rfl
theorem apart_aux : ∀ i < 14, ∀ j < 14, at14 i = at14 j → i = j := by decide
theorem unknown_aux : ∀ i < 14, at14 i ≠ unknown := by decide
theorem ne_empty_aux : ∀ i < 14, at14 i ≠ ⟨#[]⟩ := by decide
theorem find_at (k : Nat) (h : k < 14) : find (at14 k) = some k :=
  seek_of _ 14 0 k (by omega) (by omega) rfl fun i _ hi e => by have := apart_aux i (by omega) k h e; omega
theorem find_unknown : find unknown = none := by
  cases h : find unknown with
  | none => rfl
  | some i => obtain ⟨_, b, c, _⟩ := seek_some _ _ _ _ h; exact absurd c (unknown_aux i (by omega))
end Go.Proofs.YtgdkeolmgpimaaaDoor.ErrsPlain
