/- Layer 5 in plain Lean: what is dense, what a row takes. -/
import Derived.Test.YtfhigeefclchiaaCensus4
namespace Go.Proofs.Ytfhigeefclchiaa.Cs
set_option linter.unusedVariables false
set_option linter.unusedSimpArgs false

/-- How many of the numbers are from 1 to a. -/
def within (l : List Int) (a : Int) : Int := (l.filter fun x => decide (1 ≤ x ∧ x ≤ a)).length
theorem log2_le (x : Int) (h1 : 1 ≤ x) (h2 : x ≤ 65536) (i : Nat) : (Ws.log2 x).toNat < i + 1 ↔ x ≤ 2 ^ i := by
  obtain ⟨k, hk, e, hlt, hle⟩ := Ws.log2_spec x h1 (by omega)
  rw [e]
  constructor
  · intro h
    have h3 : k ≤ i := by omega
    have : (2 : Int) ^ k ≤ 2 ^ i := by exact_mod_cast Nat.pow_le_pow_right (by decide) h3
    omega
  · intro h
    apply Decidable.byContradiction
    intro hn
    have := hlt i (by omega)
    omega
theorem within_slots (i : Nat) (hi : i ≤ 16) : ∀ l : List Int, ((slots l).filter fun s => decide (s < i + 1)).length = (l.filter fun x => decide (1 ≤ x ∧ x ≤ 2 ^ i)).length
  | [] => rfl
  | x :: l => by
    have ih := within_slots i hi l
    have h16 : (2 : Int) ^ i ≤ 2 ^ 16 := by exact_mod_cast Nat.pow_le_pow_right (by decide) hi
    by_cases h : 1 ≤ x ∧ x ≤ 65536
    · have hs : slots (x :: l) = (Ws.log2 x).toNat :: slots l := by simp [slots, h]
      have hx := log2_le x h.1 h.2 i
      rw [hs]
      by_cases h2 : x ≤ 2 ^ i
      · have h3 := hx.2 h2
        simp only [List.filter_cons, decide_eq_true h3, decide_eq_true (show 1 ≤ x ∧ x ≤ 2 ^ i from ⟨h.1, h2⟩), if_true, List.length_cons, ih]
      · have h3 : ¬ ((Ws.log2 x).toNat < i + 1) := fun h => h2 (hx.1 h)
        have h4 : ¬ (1 ≤ x ∧ x ≤ 2 ^ i) := fun h => h2 h.2
        simp only [List.filter_cons, decide_eq_false h3, decide_eq_false h4, Bool.false_eq_true, if_false, ih]
    · have hs : slots (x :: l) = slots l := by simp [slots, h]
      have h4 : ¬ (1 ≤ x ∧ x ≤ 2 ^ i) := fun h' => h ⟨h'.1, by omega⟩
      rw [hs]
      simp only [List.filter_cons, decide_eq_false h4, Bool.false_eq_true, if_false, ih]
/-- The sum of the first counts is how many numbers are from 1 to the power. -/
theorem pre_within (l : List Int) (i : Nat) (hi : i ≤ 16) : pre (countL l) (i + 1) = within l (2 ^ i) := by
  rw [pre_countL l (i + 1) (by omega)]
  unfold within
  rw [within_slots i hi l]
theorem within_zero (l : List Int) : within l 0 = 0 := by
  unfold within
  rw [List.filter_eq_nil_iff.2 (by intro x _; simp; omega)]; rfl
theorem within_le (l : List Int) (a : Int) : 0 ≤ within l a ∧ within l a ≤ l.length := by
  unfold within
  have := List.length_filter_le (fun x : Int => decide (1 ≤ x ∧ x ≤ a)) l
  omega
theorem best_fit (c : List Int) : ∀ k i, best c k = some i → fit c i = true ∧ i < k ∧ ∀ j, i < j → j < k → fit c j = false
  | 0, i, h => by unfold best at h; exact absurd h (by simp)
  | k + 1, i, h => by
    have h' : (if fit c k = true then some k else best c k) = some i := h
    by_cases f : fit c k = true
    · rw [if_pos f] at h'
      obtain rfl : k = i := by simpa using h'
      exact ⟨f, by omega, fun j h1 h2 => by omega⟩
    · rw [if_neg f] at h'
      obtain ⟨a, b, d⟩ := best_fit c k i h'
      refine ⟨a, by omega, fun j h1 h2 => ?_⟩
      by_cases e : j = k
      · subst e; simpa using f
      · exact d j h1 (by omega)
theorem best_no (c : List Int) : ∀ k, best c k = none → ∀ j, j < k → fit c j = false
  | 0, h, j, hj => by omega
  | k + 1, h, j, hj => by
    have h' : (if fit c k = true then some k else best c k) = none := h
    by_cases f : fit c k = true
    · rw [if_pos f] at h'; exact absurd h' (by simp)
    · rw [if_neg f] at h'
      by_cases e : j = k
      · subst e; simpa using f
      · exact best_no c k h' j (by omega)
/-- What Choose says of a count: nothing, or the greatest power of two that is more than half full. -/
theorem choose_dense (l : List Int) (h : l.length ≤ 4294967296) :
    (chooseA (countL l) = 0 ∧ chooseN (countL l) = 0 ∧ ∀ j, j ≤ 16 → 2 * within l (2 ^ j) ≤ 2 ^ j) ∨
    ∃ i, i ≤ 16 ∧ chooseA (countL l) = 2 ^ i ∧ chooseN (countL l) = within l (2 ^ i) ∧ 2 ^ i < 2 * within l (2 ^ i) ∧ ∀ j, i < j → j ≤ 16 → 2 * within l (2 ^ j) ≤ 2 ^ j := by
  have hok := okC_countL l h
  unfold chooseA chooseN
  rw [if_pos hok, if_pos hok]
  cases hb : best (countL l) 17 with
  | none =>
    refine .inl ⟨rfl, rfl, fun j hj => ?_⟩
    have := best_no _ _ hb j (by omega)
    unfold fit at this
    rw [pre_within l j hj] at this
    simpa using this
  | some i =>
    obtain ⟨h1, h2, h3⟩ := best_fit _ _ _ hb
    refine .inr ⟨i, by omega, rfl, pre_within l i (by omega), ?_, fun j h4 h5 => ?_⟩
    · unfold fit at h1
      rw [pre_within l i (by omega)] at h1
      simpa using h1
    · have := h3 j h4 (by omega)
      unfold fit at this
      rw [pre_within l j h5] at this
      simpa using this
theorem chooseN_within (l : List Int) (h : l.length ≤ 4294967296) : chooseN (countL l) = within l (chooseA (countL l)) := by
  rcases choose_dense l h with ⟨a, b, -⟩ | ⟨i, -, a, b, -⟩
  · rw [a, b, within_zero]
  · rw [a, b]
end Go.Proofs.Ytfhigeefclchiaa.Cs
