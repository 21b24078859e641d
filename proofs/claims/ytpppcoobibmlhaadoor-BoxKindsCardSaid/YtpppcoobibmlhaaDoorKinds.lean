/- Slices of values: what is appended, what is read. -/
import Derived.Test.YtpppcoobibmlhaaDoorBoxD
import Derived.Laws.AppendOwnNone
namespace Go.Proofs.YtpppcoobibmlhaaDoor
open Go.RowKit
set_option linter.unusedVariables false
set_option linter.unusedSimpArgs false

def asV (v : V) (k : Int) : V := if fits v k = true then v else nilV
def asE (v : V) (k : Int) : Int := if okV v = true then (if k < 0 ∨ 6 < k then 1 else 0) else 2
theorem okV_kind6 {v : V} (h : okV v = true) : 0 ≤ v.k ∧ v.k ≤ 6 := by
  unfold okV at h
  by_cases h0 : v.k = 0
  · omega
  rw [if_neg h0] at h
  by_cases h1 : v.k = 1
  · omega
  rw [if_neg h1] at h
  by_cases h2 : v.k = 2
  · omega
  rw [if_neg h2] at h
  by_cases h3 : v.k = 3
  · omega
  rw [if_neg h3] at h
  by_cases h4 : v.k = 4 ∨ v.k = 5 ∨ v.k = 6
  · omega
  · rw [if_neg h4] at h; exact absurd h (by decide)
theorem fits_yes {v : V} {k : Int} (h : fits v k = true) : okV v = true ∧ k = v.k := by
  unfold fits at h
  simpa using h
theorem as_bad {v : V} (k : Int) (h : okV v = false) : asV v k = nilV ∧ fits v k = false ∧ asE v k = 2 := by
  have f : fits v k = false := by unfold fits; rw [h]; rfl
  refine ⟨?_, f, ?_⟩
  · unfold asV; rw [f]; rfl
  · unfold asE; rw [h]; rfl
theorem as_out {v : V} {k : Int} (h : okV v = true) (g : k < 0 ∨ 6 < k) : asV v k = nilV ∧ fits v k = false ∧ asE v k = 1 := by
  have hk := okV_kind6 h
  have f : fits v k = false := by
    cases e : fits v k with
    | false => rfl
    | true => have := (fits_yes e).2; omega
  refine ⟨?_, f, ?_⟩
  · unfold asV; rw [f]; rfl
  · unfold asE; rw [if_pos h, if_pos g]
theorem as_no {v : V} {k : Int} (h : okV v = true) (g : ¬ (k < 0 ∨ 6 < k)) (e : k ≠ v.k) : asV v k = nilV ∧ fits v k = false ∧ asE v k = 0 := by
  have f : fits v k = false := by
    cases e' : fits v k with
    | false => rfl
    | true => exact absurd (fits_yes e').2 e
  refine ⟨?_, f, ?_⟩
  · unfold asV; rw [f]; rfl
  · unfold asE; rw [if_pos h, if_neg g]
theorem as_yes {v : V} {k : Int} (h : okV v = true) (e : k = v.k) : asV v k = v ∧ fits v k = true ∧ asE v k = 0 := by
  have hk := okV_kind6 h
  have f : fits v k = true := by unfold fits; simp [h, e]
  refine ⟨?_, f, ?_⟩
  · unfold asV; rw [f]; rfl
  · unfold asE; rw [if_pos h, if_neg (by omega)]
theorem box_As (v : V) (k : Int) (w : World) : Calls Tryd.prog 46 #[vv v, .int .i64 k] w fun e w' => e = .returned (.tuple #[vv (asV v k), .bool (fits v k), .int .i64 (asE v k)]) ∧ Below w.heap.size w w' := by
  cases h : okV v with
  | false => obtain ⟨a, b, c⟩ := as_bad k h; rw [a, b, c]; exact box_As_bad v k h w
  | true =>
    by_cases g : k < 0 ∨ 6 < k
    · obtain ⟨a, b, c⟩ := as_out h g
      rw [a, b, c]
      rcases g with g | g
      · exact box_As_lo v k h g w
      · exact box_As_hi v k h g w
    · by_cases e : k = v.k
      · obtain ⟨a, b, c⟩ := as_yes h e; rw [a, b, c]; exact box_As_yes v k h e w
      · obtain ⟨a, b, c⟩ := as_no h g e; rw [a, b, c]; exact box_As_no v k h (by omega) (by omega) e w
theorem ref_As (v : V) (k : Int) (w : World) : Calls Tryd.prog 47 #[vv v, .int .i64 k] w fun e w' => e = .returned (.tuple #[vv (asV v k), .bool (fits v k), .int .i64 (asE v k)]) ∧ Below w.heap.size w w' := by
  cases h : okV v with
  | false => obtain ⟨a, b, c⟩ := as_bad k h; rw [a, b, c]; exact ref_As_bad v k h w
  | true =>
    by_cases g : k < 0 ∨ 6 < k
    · obtain ⟨a, b, c⟩ := as_out h g
      rw [a, b, c]
      rcases g with g | g
      · exact ref_As_lo v k h g w
      · exact ref_As_hi v k h g w
    · by_cases e : k = v.k
      · obtain ⟨a, b, c⟩ := as_yes h e; rw [a, b, c]; exact ref_As_yes v k h e w
      · obtain ⟨a, b, c⟩ := as_no h g e; rw [a, b, c]; exact ref_As_no v k h (by omega) (by omega) e w
theorem addr_add (b o j : Nat) : (⟨b, o, none⟩ : Addr).add j = ⟨b, o + j, none⟩ := by
  unfold Addr.add
  by_cases h : j = 0
  · subst h; simp
  · simp [h]
theorem spot_of_cell {w : World} {a : Addr} {v : Value} (h : w.cell? a = some v) : ∃ b o, a = ⟨b, o, none⟩ ∧ b < w.heap.size := by
  obtain ⟨b, o, s⟩ := a
  unfold World.cell? at h
  simp only at h
  cases hh : w.heap[b]? with
  | none => rw [hh] at h; exact absurd h (by simp)
  | some x =>
    have hb : b < w.heap.size := (Array.getElem?_eq_some_iff.1 hh).1
    cases s with
    | none => exact ⟨b, o, rfl, hb⟩
    | some y => rw [hh] at h; cases x <;> simp at h
def cells3 (v : V) : List Value := [.int .i64 v.k, .int .i64 v.n, .string v.s]
theorem news_length (l : List V) : (l.flatMap cells3).length = l.length * 3 := by
  induction l with
  | nil => rfl
  | cons x l ih => rw [List.flatMap_cons, List.length_append, ih]; simp [cells3]; omega
theorem news_at : ∀ (l : List V) (j : Nat) (u : Value), (l.flatMap cells3)[j]? = some u →
    ∃ i, ∃ h : i < l.length, (j = i * 3 ∧ u = .int .i64 l[i].k) ∨ (j = i * 3 + 1 ∧ u = .int .i64 l[i].n) ∨ (j = i * 3 + 2 ∧ u = .string l[i].s)
  | [], j, u, h => by simp at h
  | x :: l, 0, u, h => by simp [cells3] at h; exact ⟨0, by simp, .inl ⟨rfl, h.symm⟩⟩
  | x :: l, 1, u, h => by simp [cells3] at h; exact ⟨0, by simp, .inr (.inl ⟨rfl, h.symm⟩)⟩
  | x :: l, 2, u, h => by simp [cells3] at h; exact ⟨0, by simp, .inr (.inr ⟨rfl, h.symm⟩)⟩
  | x :: l, j + 3, u, h => by
    have h' : (l.flatMap cells3)[j]? = some u := by simpa [cells3] using h
    obtain ⟨i, hi, hh⟩ := news_at l j u h'
    refine ⟨i + 1, by simp; omega, ?_⟩
    rcases hh with ⟨e, f⟩ | ⟨e, f⟩ | ⟨e, f⟩
    · exact .inl ⟨by omega, f⟩
    · exact .inr (.inl ⟨by omega, f⟩)
    · exact .inr (.inr ⟨by omega, f⟩)
theorem at_news : ∀ (l : List V) (i : Nat) (h : i < l.length), (l.flatMap cells3)[i * 3]? = some (.int .i64 l[i].k) ∧ (l.flatMap cells3)[i * 3 + 1]? = some (.int .i64 l[i].n) ∧ (l.flatMap cells3)[i * 3 + 2]? = some (.string l[i].s)
  | [], i, h => by simp at h
  | x :: l, 0, h => by simp [cells3]
  | x :: l, i + 1, h => by
    obtain ⟨a, b, c⟩ := at_news l i (by simp at h; omega)
    have e : (i + 1) * 3 = i * 3 + 3 := by omega
    rw [e]
    exact ⟨by simpa [cells3] using a, by simpa [cells3] using b, by simpa [cells3] using c⟩
theorem news_one (l : List V) : ∀ u ∈ l.flatMap cells3, u.oneCell' = true := by
  intro u hu
  simp only [List.mem_flatMap, cells3] at hu
  obtain ⟨v, -, h⟩ := hu
  simp at h
  rcases h with rfl | rfl | rfl <;> rfl
/-- What an owned row of values reads as. -/
theorem vals_of_row {w : World} {base : Nat} {e : TypeId} {v : Value} {l : List V} (h : w.ownsRow base e 3 v l.length (l.flatMap cells3)) : Vals w v l := by
  rcases h.2 with ⟨rfl, h0⟩ | ⟨g, cap, cur, rfl, hb, hg, hn, hc, hs, ht⟩
  · exact .inl ⟨List.eq_nil_of_length_eq_zero h0, rfl⟩
  · refine .inr ⟨g, 0, cap, rfl, (Array.getElem?_eq_some_iff.1 hg).1, fun i hi => ?_⟩
    obtain ⟨a, b, c⟩ := at_news l i hi
    refine ⟨?_, ?_, ?_⟩
    · rw [Nat.zero_add, h.cellAt _ (by omega)]; exact a
    · rw [Nat.zero_add, h.cellAt _ (by omega)]; exact b
    · rw [Nat.zero_add, h.cellAt _ (by omega)]; exact c
theorem Tryd.infoVal : (Tryd.prog.info? 33).map (fun i => (i.zero, i.size, i.bytes)) = some (some (.agg #[.int .i64 0, .int .i64 0, .string ⟨#[]⟩]), 3, 32) := by kernel_rfl
end Go.Proofs.YtpppcoobibmlhaaDoor
