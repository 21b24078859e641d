/- BorderTrue, in plain terms: Len is a border. -/
import Derived.Test.YteheolefemlcgaaFix9
namespace Go.Proofs.Yteheolefemlcgaa
open Go.RowKit
set_option linter.unusedVariables false
set_option linter.unusedSimpArgs false

theorem has_slot {t : Tbl} {i : Int} (h1 : 1 ≤ i) (h2 : i ≤ t.p.sn) : hasT t i = slotT t i := by
  have hin : t.p.inB (iV i) := ⟨rfl, emp_toList, h1, h2⟩
  unfold hasT slotT Tbl.get
  rw [PT.get_in hin]; rfl
/-- n is a border of the table. -/
def isB (t : Tbl) (n : Int) : Prop := 0 ≤ n ∧ n ≤ 9223372036854775807 ∧ (n = 0 ∨ hasT t n = true) ∧ (n = 9223372036854775807 ∨ hasT t (n + 1) = false)
theorem isB_is {t : Tbl} {n : Int} (h : isB t n) : isP t n = true := by
  obtain ⟨h0, h1, h2, h3⟩ := h
  unfold isP
  rw [if_neg (by omega), if_neg (fun h => by
    rcases h2 with e | e
    · omega
    · rw [e] at h; simp at h)]
  split
  · rfl
  · rename_i h4
    rw [h3.resolve_left h4]; rfl
theorem is_isB {t : Tbl} {n : Int} (h64 : In64 n) (h : isP t n = true) : isB t n := by
  unfold isP at h
  unfold In64 at h64
  by_cases h1 : n < 0
  · rw [if_pos h1] at h; simp at h
  · rw [if_neg h1] at h
    by_cases h2 : 0 < n ∧ hasT t n = false
    · rw [if_pos h2] at h; simp at h
    · rw [if_neg h2] at h
      refine ⟨by omega, by omega, ?_, ?_⟩
      · by_cases e : n = 0
        · exact .inl e
        · right
          cases e2 : hasT t n with
          | true => rfl
          | false => exact absurd ⟨by omega, e2⟩ h2
      · by_cases e : n = 9223372036854775807
        · exact .inl e
        · rw [if_neg e] at h
          right
          simpa using h
theorem len_is {t : Tbl} (hok : t.p.ok) (h0 : 0 ≤ t.hint) (h1 : t.hint ≤ t.p.sn) : isB t (lenP t) := by
  have hz := hok.sz
  by_cases hf : farT t
  · unfold lenP
    rw [if_pos hf]
    obtain ⟨b1, b2, b3, b4⟩ := Bd.beyond_is (hasT t) t.p.sn (by omega) (by omega)
    refine ⟨by omega, b2, ?_, b4⟩
    rcases b3 with e | e
    · rcases hf with h | h
      · left; rw [e]; omega
      · by_cases hs : t.p.sn = 0
        · left; rw [e]; omega
        · right; rw [e, has_slot (by omega) (by omega)]; exact h
    · exact .inr e
  · have hN : (t.p.sn : Int) ≠ 0 := fun e => hf (.inl (by omega))
    have hsn : slotT t t.p.sn = false := by
      cases e : slotT t t.p.sn with
      | true => exact absurd (.inr e) hf
      | false => rfl
    suffices h : 0 ≤ lenP t ∧ lenP t < t.p.sn ∧ (lenP t = 0 ∨ slotT t (lenP t) = true) ∧ slotT t (lenP t + 1) = false by
      obtain ⟨a, b, c, d⟩ := h
      refine ⟨a, by omega, ?_, .inr ?_⟩
      · by_cases e : lenP t = 0
        · exact .inl e
        · right; rw [has_slot (by omega) (by omega)]; exact c.resolve_left e
      · rw [has_slot (by omega) (by omega)]; exact d
    unfold lenP lenA
    rw [if_neg hf]
    split
    · rename_i h
      have hne : t.hint ≠ 0 := fun e => h (.inl e)
      have hsh : slotT t t.hint = false := by
        cases e : slotT t t.hint with
        | true => exact absurd (.inr e) h
        | false => rfl
      obtain ⟨p, q, r, s⟩ := Bd.halve_is (slotT t) t.hint.toNat 0 t.hint (by omega) (by omega)
      exact ⟨p, by omega, r, s.elim (fun e => by rw [e]; exact hsh) id⟩
    · rename_i h
      have h' : t.hint = 0 ∨ slotT t t.hint = true := Classical.not_not.1 h
      have hlt : t.hint < t.p.sn := by
        rcases h' with e | e
        · omega
        · by_cases e2 : t.hint = t.p.sn
          · rw [e2, hsn] at e; simp at e
          · omega
      split
      · rename_i h2
        obtain ⟨p, q, r, s⟩ := Bd.halve_is (slotT t) ((t.p.sn : Int) - t.hint).toNat t.hint t.p.sn h2.1 (by omega)
        exact ⟨by omega, q, r.elim (fun e => by rw [e]; exact h') .inr, s.elim (fun e => by rw [e]; exact hsn) id⟩
      · rename_i h2
        refine ⟨h0, hlt, h', ?_⟩
        cases e : slotT t (t.hint + 1) with
        | true => exact absurd ⟨hlt, e⟩ h2
        | false => rfl
theorem isB_p {t t' : Tbl} (h : t'.p = t.p) {n : Int} (H : isB t n) : isB t' n := by
  unfold isB hasT Tbl.get at *
  rw [h]; exact H
end Go.Proofs.Yteheolefemlcgaa
