/- TableClears in plain terms: a clearing changes no sizes; behind it nothing is present. -/
import Derived.Test.YteheolefemlcgaaWkV
namespace Go.Proofs.Yteheolefemlcgaa
open Go.RowKit
set_option linter.unusedVariables false
set_option linter.unusedSimpArgs false

/-- The table behind clearing the places up to k. -/
structure CLR (p0 p : PT) (k : Nat) : Prop where
  sn : p.sn = p0.sn
  n : p.h.n = p0.h.n
  key : ∀ j : Nat, (p.pair (j : Int)).1 = (p0.pair (j : Int)).1
  gone : ∀ j, j ≤ k → ¬ p.full j
theorem CLR.start (p : PT) : CLR p p 0 := ⟨rfl, rfl, fun _ => rfl, fun j hj hf => by rw [show j = 0 by omega] at hf; exact full_zero hf⟩
/-- A place that is empty is passed. -/
theorem CLR.pass {p0 p : PT} {k : Nat} (H : CLR p0 p k) (h : ¬ p.full (k + 1)) : CLR p0 p (k + 1) := ⟨H.sn, H.n, H.key, fun j hj => by
  by_cases e : j = k + 1
  · rw [e]; exact h
  · exact H.gone j (by omega)⟩
/-- A place that is full is cleared. -/
theorem CLR.clear {p0 p : PT} {k : Nat} (H : CLR p0 p k) (Hp : p.ok) (h : p.full (k + 1)) : (p.put (p.pair ((k + 1 : Nat) : Int)).1 nilV).2.2 = 0 ∧ CLR p0 (p.put (p.pair ((k + 1 : Nat) : Int)).1 nilV).1 (k + 1) := by
  obtain ⟨hk1, hk2, hk3⟩ := key_full Hp h
  have hg : (p.get (p.pair ((k + 1 : Nat) : Int)).1).k ≠ 0 := by rw [get_full Hp h]; exact h
  obtain ⟨j, h1, h2, h3, h4, h5, h6, h7, h8⟩ := put_here Hp hk2 okV_nilV hk1 hg
  have hj : j = k + 1 := by
    have e1 := place_full Hp h4
    have e2 := place_full Hp h
    rw [h3, e2] at e1
    omega
  subst hj
  refine ⟨h5, ⟨h6.trans H.sn, h7.trans H.n, fun i => ?_, fun i hi hf => ?_⟩⟩
  · rw [← H.key i, h8]
    split
    · rename_i e; rw [e]
    · rfl
  · unfold PT.full at hf
    rw [h8] at hf
    by_cases e : i = k + 1
    · rw [if_pos e] at hf; exact hf rfl
    · rw [if_neg e] at hf; exact H.gone i (by omega) hf
end Go.Proofs.Yteheolefemlcgaa
