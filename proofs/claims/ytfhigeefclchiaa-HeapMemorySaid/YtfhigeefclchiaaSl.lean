/- Slices of numbers that are read. -/
import Derived.Test.YtfhigeefclchiaaBase
import Derived.Test.YtfhigeefclchiaaPlain
import Derived.Laws.OwnMore
namespace Go.Proofs.Ytfhigeefclchiaa
open Go.RowKit
set_option linter.unusedVariables false
set_option linter.unusedSimpArgs false

theorem addr_add (b o j : Nat) : (⟨b, o, none⟩ : Addr).add j = ⟨b, o + j, none⟩ := by
  unfold Addr.add
  by_cases h : j = 0
  · subst h; simp
  · simp [h]
theorem spot_of_cell {w : World} {a : Addr} {v : Value} (h : w.cell? a = some v) : ∃ b o, a = ⟨b, o, none⟩ ∧ b < w.heap.size := by
  obtain ⟨b, o, s⟩ := a
  unfold World.cell? at h
  simp only at h
  cases hh : w.heap[b]? with
  | none => rw [hh] at h; exact absurd h (by simp)
  | some x =>
    have hb : b < w.heap.size := (Array.getElem?_eq_some_iff.1 hh).1
    cases s with
    | none => exact ⟨b, o, rfl, hb⟩
    | some y => rw [hh] at h; cases x <;> simp at h
/-- The slice's value reads as these numbers. -/
def IS (w : World) (sv : Value) (zs : List Int) : Prop :=
  ∃ A c, sv = .slice A zs.length c ∧ zs.length ≤ c ∧ (A = none → c = 0) ∧ (0 < zs.length → ∃ ad, A = some ad ∧ ∀ j, j < zs.length → w.cell? (ad.add j) = some (.int .i64 (zs.getD j 0)))
theorem IS.below {w w' : World} {sv : Value} {zs : List Int} (h : IS w sv zs) (hb : Below w.heap.size w w') : IS w' sv zs := by
  obtain ⟨A, c, rfl, hc, hn, hz⟩ := h
  refine ⟨A, c, rfl, hc, hn, fun h0 => ?_⟩
  obtain ⟨ad, e, hj⟩ := hz h0
  refine ⟨ad, e, fun j hjl => ?_⟩
  obtain ⟨b, o, ea, hl⟩ := spot_of_cell (hj j hjl)
  rw [hb.cell (by rw [ea]; exact hl)]
  exact hj j hjl
/-- Written out: address, offset. -/
theorem IS.form {w : World} {sv : Value} {zs : List Int} (h : IS w sv zs) : ∃ A b o c, sv = .slice A zs.length c ∧ zs.length ≤ c ∧ (A = none → c = 0) ∧
    (0 < zs.length → A = some ⟨b, o, none⟩ ∧ b < w.heap.size ∧ ∀ j, j < zs.length → w.cell? ⟨b, o + j, none⟩ = some (.int .i64 (zs.getD j 0))) := by
  obtain ⟨A, c, rfl, hc, hn, hz⟩ := h
  by_cases h0 : 0 < zs.length
  · obtain ⟨ad, e, hj⟩ := hz h0
    have h1 := hj 0 h0
    have ea : ad.add 0 = ad := by unfold Addr.add; rw [if_pos rfl]
    rw [ea] at h1
    obtain ⟨b, o, rfl, hl⟩ := spot_of_cell h1
    exact ⟨A, b, o, c, rfl, hc, hn, fun _ => ⟨e, hl, fun j hjl => by rw [← addr_add]; exact hj j hjl⟩⟩
  · exact ⟨A, 0, 0, c, rfl, hc, hn, fun h => absurd h h0⟩
theorem IS.of_form {w : World} {A : Option Addr} {b o c : Nat} {zs : List Int} (hc : zs.length ≤ c) (hn : A = none → c = 0)
    (h : 0 < zs.length → A = some ⟨b, o, none⟩ ∧ b < w.heap.size ∧ ∀ j, j < zs.length → w.cell? ⟨b, o + j, none⟩ = some (.int .i64 (zs.getD j 0))) : IS w (.slice A zs.length c) zs :=
  ⟨A, c, rfl, hc, hn, fun h0 => by obtain ⟨e, hl, hj⟩ := h h0; exact ⟨_, e, fun j hjl => by rw [addr_add]; exact hj j hjl⟩⟩
/-- What an owned row reads as. -/
theorem IS.of_row {w : World} {base : Nat} {e : TypeId} {v : Value} {zs : List Int} (h : w.ownsRow base e 1 v zs.length (zs.map (Value.int .i64))) : IS w v zs := by
  rcases h.2 with ⟨rfl, h0⟩ | ⟨g, cap, cur, rfl, hb, hg, hn, hc, hs, ht⟩
  · have : zs = [] := List.eq_nil_of_length_eq_zero h0
    subst this
    exact ⟨none, 0, rfl, Nat.le_refl _, fun _ => rfl, fun h => absurd h (by simp)⟩
  · refine ⟨some ⟨g, 0, none⟩, cap, rfl, hn, fun h => by simp at h, fun h0 => ⟨_, rfl, fun j hj => ?_⟩⟩
    rw [addr_add, Nat.zero_add, h.cellAt j (by omega)]
    simp [hj]
theorem ownsRow_below {w w' : World} {base : Nat} {e : TypeId} {size : Nat} {v : Value} {n : Nat} {xs : List Value} (h : w.ownsRow base e size v n xs) (hb : Below w.heap.size w w') : w'.ownsRow base e size v n xs := by
  obtain ⟨h1, h2⟩ := h
  refine ⟨h1, ?_⟩
  rcases h2 with h2 | ⟨g, cap, cur, hv, hg, hh, r⟩
  · exact Or.inl h2
  · refine Or.inr ⟨g, cap, cur, hv, hg, ?_, r⟩
    rw [hb.block g (Array.getElem?_eq_some_iff.1 hh).1]
    exact hh
theorem getD_in {l : List Int} {P : Int → Prop} (h : ∀ x ∈ l, P x) {j : Nat} (hj : j < l.length) : P (l.getD j 0) := by
  rw [List.getD_eq_getElem?_getD, List.getElem?_eq_getElem hj]; exact h _ (List.getElem_mem hj)
theorem take_succ_getD (l : List Int) (j : Nat) (h : j < l.length) : l.take (j + 1) = l.take j ++ [l.getD j 0] := by
  rw [List.take_succ_eq_append_getElem h, List.getD_eq_getElem?_getD, List.getElem?_eq_getElem h]; rfl
end Go.Proofs.Ytfhigeefclchiaa
