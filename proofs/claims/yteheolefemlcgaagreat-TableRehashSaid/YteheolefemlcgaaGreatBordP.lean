/- The length of a table, in plain terms: halving, doubling. -/
import Derived.Test.YteheolefemlcgaaGreatTabX
namespace Go.Proofs.YteheolefemlcgaaGreat
open Go.RowKit
set_option linter.unusedVariables false
set_option linter.unusedSimpArgs false

namespace Bd
/-- By halving: the last one that has it. -/
def halve (has : Int → Bool) : Nat → Int → Int → Int
  | 0, low, _ => low
  | f + 1, low, high => if 1 < high - low then (if has (low + (high - low).tdiv 2) = true then halve has f (low + (high - low).tdiv 2) high else halve has f low (low + (high - low).tdiv 2)) else low
theorem mid {low high : Int} (h : 1 < high - low) : low < low + (high - low).tdiv 2 ∧ low + (high - low).tdiv 2 < high := by
  rw [Int.tdiv_eq_ediv_of_nonneg (by omega)]
  omega
theorem halve_is (has : Int → Bool) : ∀ (f : Nat) (low high : Int), low < high → high - low ≤ f → low ≤ halve has f low high ∧ halve has f low high < high ∧ (halve has f low high = low ∨ has (halve has f low high) = true) ∧ (halve has f low high + 1 = high ∨ has (halve has f low high + 1) = false)
  | 0, low, high, h, hf => by omega
  | f + 1, low, high, h, hf => by
    unfold halve
    by_cases h1 : 1 < high - low
    · rw [if_pos h1]
      obtain ⟨m1, m2⟩ := mid h1
      generalize low + (high - low).tdiv 2 = m at m1 m2
      by_cases h2 : has m = true
      · rw [if_pos h2]
        obtain ⟨a, b, c, d⟩ := halve_is has f m high m2 (by omega)
        exact ⟨by omega, b, .inr (c.elim (fun e => by rw [e]; exact h2) id), d⟩
      · rw [if_neg h2]
        obtain ⟨a, b, c, d⟩ := halve_is has f low m m1 (by omega)
        refine ⟨a, by omega, c, .inr (d.elim (fun e => by rw [e]; simpa using h2) id)⟩
    · rw [if_neg h1]
      exact ⟨by omega, by omega, .inl rfl, .inl (by omega)⟩
/-- As much fuel as there are numbers between is enough. -/
theorem halve_fuel (has : Int → Bool) : ∀ (f g : Nat) (low high : Int), high - low ≤ f → high - low ≤ g → halve has f low high = halve has g low high
  | 0, 0, low, high, _, _ => rfl
  | 0, g + 1, low, high, h, _ => by unfold halve; rw [if_neg (by omega)]
  | f + 1, 0, low, high, _, h => by unfold halve; rw [if_neg (by omega)]
  | f + 1, g + 1, low, high, h1, h2 => by
    unfold halve
    by_cases h3 : 1 < high - low
    · rw [if_pos h3, if_pos h3]
      obtain ⟨m1, m2⟩ := mid h3
      rw [halve_fuel has f g _ high (by omega) (by omega), halve_fuel has f g low _ (by omega) (by omega)]
    · rw [if_neg h3, if_neg h3]
abbrev MX : Int := 9223372036854775807
/-- By doubling: how far up it goes on; the last that had it and the first that had not, or the greatest number. -/
def up (has : Int → Bool) : Nat → Int → Int → Int × Int
  | 0, low, high => (low, high)
  | f + 1, low, high => if has high = true then (if high = MX then (high, high) else up has f high (if high ≤ 4611686018427387903 then 2 * high else MX)) else (low, high)
/-- beyond: the array part is full up to n. -/
def beyond (has : Int → Bool) (n : Int) : Int :=
  if has (n + 1) = true then (let x := up has 64 (n + 1) (2 * (n + 1)); if x.1 = x.2 then x.2 else halve has (x.2 - x.1).toNat x.1 x.2) else n
theorem up_is (has : Int → Bool) : ∀ (f : Nat) (low high : Int), 1 ≤ low → low < high → high ≤ MX → has low = true → (high = MX ∨ MX < 2 ^ f * high) →
    ((up has (f + 1) low high).1 = MX ∧ (up has (f + 1) low high).2 = MX ∧ has MX = true) ∨ (low ≤ (up has (f + 1) low high).1 ∧ (up has (f + 1) low high).1 < (up has (f + 1) low high).2 ∧ (up has (f + 1) low high).2 ≤ MX ∧ has (up has (f + 1) low high).1 = true ∧ has (up has (f + 1) low high).2 = false)
  | f, low, high, h1, h2, h3, h4, h5 => by
    have hMX : MX = 9223372036854775807 := rfl
    unfold up
    by_cases h6 : has high = true
    · rw [if_pos h6]
      by_cases h7 : high = MX
      · rw [if_pos h7]; subst h7; exact .inl ⟨rfl, rfl, h6⟩
      · rw [if_neg h7]
        have h5' := h5.resolve_left h7
        cases f with
        | zero => simp at h5'; omega
        | succ f =>
          have h8 : (if high ≤ 4611686018427387903 then 2 * high else MX) = MX ∨ MX < 2 ^ f * (if high ≤ 4611686018427387903 then 2 * high else MX) := by
            split
            · right
              rw [Int.pow_succ, Int.mul_assoc] at h5'
              exact h5'
            · exact .inl rfl
          rcases up_is has f high (if high ≤ 4611686018427387903 then 2 * high else MX) (by omega) (by split <;> omega) (by split <;> omega) h6 h8 with h | h
          · exact .inl h
          · exact .inr ⟨by omega, h.2⟩
    · rw [if_neg h6]
      exact .inr ⟨Int.le_refl _, h2, h3, h4, by simpa using h6⟩
/-- What beyond comes to: a border, from n on. -/
theorem beyond_is (has : Int → Bool) (n : Int) (h0 : 0 ≤ n) (h1 : n ≤ 65536) : n ≤ beyond has n ∧ beyond has n ≤ MX ∧ (beyond has n = n ∨ has (beyond has n) = true) ∧ (beyond has n = MX ∨ has (beyond has n + 1) = false) := by
  have hMX : MX = 9223372036854775807 := rfl
  unfold beyond
  by_cases h2 : has (n + 1) = true
  · rw [if_pos h2]
    have h3 : MX < 2 ^ 63 * (2 * (n + 1)) := by omega
    have := up_is has 63 (n + 1) (2 * (n + 1)) (by omega) (by omega) (by omega) h2 (.inr h3)
    generalize up has 64 (n + 1) (2 * (n + 1)) = x at this
    dsimp only
    rcases this with ⟨a, b, c⟩ | ⟨a, b, c, d, e⟩
    · rw [if_pos (by rw [a, b]), b]; exact ⟨by omega, Int.le_refl _, .inr c, .inl rfl⟩
    · rw [if_neg (by omega)]
      obtain ⟨p, q, r, s⟩ := halve_is has (x.2 - x.1).toNat x.1 x.2 b (by omega)
      refine ⟨by omega, by omega, .inr (r.elim (fun e => by rw [e]; exact d) id), .inr (s.elim (fun e2 => by rw [e2]; exact e) id)⟩
  · rw [if_neg h2]
    exact ⟨Int.le_refl _, by omega, .inl rfl, .inr (by simpa using h2)⟩
end Bd
end Go.Proofs.YteheolefemlcgaaGreat
