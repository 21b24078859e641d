/- A row of pairs that a call owns; the loop variable's box. -/
import Derived.Test.YteheolefemlcgaaGreatBehA
namespace Go.Proofs.YteheolefemlcgaaGreat
open Go.RowKit Go.Maps
set_option linter.unusedVariables false
set_option linter.unusedSimpArgs false

def pcells (x : V × V) : List Value := [.int .i64 x.1.k, .int .i64 x.1.n, .string x.1.s, .int .i64 x.2.k, .int .i64 x.2.n, .string x.2.s]
def pCells (l : List (V × V)) : List Value := l.flatMap pcells
theorem pCells_app (l : List (V × V)) (x : V × V) : pCells (l ++ [x]) = pCells l ++ pcells x := by unfold pCells; simp
theorem pCells_cons (x : V × V) (l : List (V × V)) : pCells (x :: l) = .int .i64 x.1.k :: .int .i64 x.1.n :: .string x.1.s :: .int .i64 x.2.k :: .int .i64 x.2.n :: .string x.2.s :: pCells l := rfl
theorem pCells_len (l : List (V × V)) : (pCells l).length = l.length * 6 := by
  induction l with
  | nil => rfl
  | cons v l ih => rw [pCells_cons]; simp only [List.length_cons, ih]; omega
/-- The pair at j; nothing: nil. -/
def prAt (l : List (V × V)) (j : Nat) : V × V := l.getD j (nilV, nilV)
theorem pCells_at (l : List (V × V)) : ∀ j, j < l.length → (pCells l)[j * 6]? = some (.int .i64 (prAt l j).1.k) ∧ (pCells l)[j * 6 + 1]? = some (.int .i64 (prAt l j).1.n) ∧ (pCells l)[j * 6 + 2]? = some (.string (prAt l j).1.s)
    ∧ (pCells l)[j * 6 + 3]? = some (.int .i64 (prAt l j).2.k) ∧ (pCells l)[j * 6 + 4]? = some (.int .i64 (prAt l j).2.n) ∧ (pCells l)[j * 6 + 5]? = some (.string (prAt l j).2.s) := by
  induction l with
  | nil => intro j h; simp at h
  | cons v l ih =>
    intro j h
    cases j with
    | zero => exact ⟨rfl, rfl, rfl, rfl, rfl, rfl⟩
    | succ j =>
      have := ih j (by simpa using h)
      rw [pCells_cons]
      have e : ∀ (c : Nat) (a1 a2 a3 a4 a5 a6 : Value) (L : List Value), (a1 :: a2 :: a3 :: a4 :: a5 :: a6 :: L)[(j + 1) * 6 + c]? = L[j * 6 + c]? := fun c a1 a2 a3 a4 a5 a6 L => by
        rw [show (j + 1) * 6 + c = (j * 6 + c) + 1 + 1 + 1 + 1 + 1 + 1 by omega]; simp
      have e0 := e 0
      simp only [Nat.add_zero] at e0
      rw [e0, e, e, e, e, e]
      exact this
theorem pCells_set (l : List (V × V)) (x : V × V) : ∀ j, j < l.length → ((((((pCells l).set (j * 6) (.int .i64 x.1.k)).set (j * 6 + 1) (.int .i64 x.1.n)).set (j * 6 + 2) (.string x.1.s)).set (j * 6 + 3) (.int .i64 x.2.k)).set (j * 6 + 4) (.int .i64 x.2.n)).set (j * 6 + 5) (.string x.2.s) = pCells (l.set j x) := by
  induction l with
  | nil => intro j h; simp at h
  | cons y l ih =>
    intro j h
    cases j with
    | zero => rfl
    | succ j =>
      have := ih j (by simpa using h)
      have e : ∀ (c : Nat) (u a1 a2 a3 a4 a5 a6 : Value) (L : List Value), (a1 :: a2 :: a3 :: a4 :: a5 :: a6 :: L).set ((j + 1) * 6 + c) u = a1 :: a2 :: a3 :: a4 :: a5 :: a6 :: L.set (j * 6 + c) u := fun c u a1 a2 a3 a4 a5 a6 L => by
        rw [show (j + 1) * 6 + c = (j * 6 + c) + 1 + 1 + 1 + 1 + 1 + 1 by omega]; simp
      have e0 := e 0
      simp only [Nat.add_zero] at e0
      rw [pCells_cons, e0, e, e, e, e, e, this]
      rfl
/-- A row of pairs of the call's own. -/
abbrev PRow (base : Nat) (w : World) (v : Value) (l : List (V × V)) : Prop := w.ownsRow base 135 6 v l.length (pCells l)
theorem PRow.nil (base : Nat) (w : World) : PRow base w (.slice none 0 0) [] := World.ownsRow_nil _ _ _ _
theorem PRow.keep {base : Nat} {w w' : World} {v : Value} {l : List (V × V)} (h : PRow base w v l) (hk : ∀ q, v.ownBlock = some q → w'.heap[q]? = w.heap[q]?) : PRow base w' v l := by
  refine ⟨h.1, h.2.imp id ?_⟩
  rintro ⟨g, cap, cur, e, hb, hg, h3⟩
  exact ⟨g, cap, cur, e, hb, (hk g (by rw [e]; rfl)).trans hg, h3⟩
theorem PRow.lt {base : Nat} {w : World} {v : Value} {l : List (V × V)} (h : PRow base w v l) : ∀ q, v.ownBlock = some q → base ≤ q ∧ q < w.heap.size := by
  intro q hq
  rcases h.2 with ⟨e, -⟩ | ⟨g, cap, cur, e, hb, hg, h3⟩
  · rw [e] at hq; simp [Value.ownBlock] at hq
  · rw [e] at hq
    obtain rfl : g = q := by simpa [Value.ownBlock] using hq
    exact ⟨hb, (Array.getElem?_eq_some_iff.1 hg).1⟩
/-- The cells of one pair. -/
structure C6 (w : World) (g o : Nat) (x : V × V) : Prop where
  c0 : w.cell? ⟨g, o, none⟩ = some (.int .i64 x.1.k)
  c1 : w.cell? ⟨g, o + 1, none⟩ = some (.int .i64 x.1.n)
  c2 : w.cell? ⟨g, o + 2, none⟩ = some (.string x.1.s)
  c3 : w.cell? ⟨g, o + 3, none⟩ = some (.int .i64 x.2.k)
  c4 : w.cell? ⟨g, o + 4, none⟩ = some (.int .i64 x.2.n)
  c5 : w.cell? ⟨g, o + 5, none⟩ = some (.string x.2.s)
theorem C6.keep {w w' : World} {g o : Nat} {x : V × V} (H : C6 w g o x) (hk : w'.heap[g]? = w.heap[g]?) : C6 w' g o x :=
  ⟨(World.cell?_of_block (a := ⟨g, _, none⟩) hk).trans H.c0, (World.cell?_of_block (a := ⟨g, _, none⟩) hk).trans H.c1, (World.cell?_of_block (a := ⟨g, _, none⟩) hk).trans H.c2, (World.cell?_of_block (a := ⟨g, _, none⟩) hk).trans H.c3, (World.cell?_of_block (a := ⟨g, _, none⟩) hk).trans H.c4, (World.cell?_of_block (a := ⟨g, _, none⟩) hk).trans H.c5⟩
theorem frozen_of_row' (w : World) (g i : Nat) (cur : Array Value) (e : TypeId) (h : w.heap[g]? = some (.cells cur e (0, 0))) : w.frozen? ⟨g, i, none⟩ = false := by simp [World.frozen?, h]
/-- What the row's cells say. -/
theorem PRow.at_ {base : Nat} {w : World} {v : Value} {l : List (V × V)} (h : PRow base w v l) (h0 : 0 < l.length) : ∃ g cap, v = .slice (some ⟨g, 0, none⟩) l.length cap ∧ l.length ≤ cap ∧ base ≤ g ∧ g < w.heap.size ∧ (∀ i, w.frozen? ⟨g, i, none⟩ = false) ∧ ∀ j, j < l.length → C6 w g (j * 6) (prAt l j) := by
  rcases h.2 with ⟨e, e0⟩ | ⟨g, cap, cur, e, hb, hg, h3, h4, h5, h6⟩
  · omega
  · refine ⟨g, cap, e, h3, hb, (Array.getElem?_eq_some_iff.1 hg).1, fun i => frozen_of_row' w g i cur _ hg, fun j hj => ?_⟩
    have h' := h
    rw [e] at h'
    obtain ⟨a0, a1, a2, a3, a4, a5⟩ := pCells_at l j hj
    exact ⟨(h'.cellAt _ (by omega)).trans a0, (h'.cellAt _ (by omega)).trans a1, (h'.cellAt _ (by omega)).trans a2, (h'.cellAt _ (by omega)).trans a3, (h'.cellAt _ (by omega)).trans a4, (h'.cellAt _ (by omega)).trans a5⟩
theorem PRow.slice {base : Nat} {w : World} {v : Value} {l : List (V × V)} (h : PRow base w v l) : ∃ A cap, v = .slice A l.length cap := by
  rcases h.2 with ⟨e, e0⟩ | ⟨g, cap, cur, e, -⟩
  · exact ⟨none, 0, by rw [e, e0]⟩
  · exact ⟨_, cap, e⟩
theorem Tryz.infoPair : (Tryz.prog.info? 135).map (fun i => (i.zero, i.size, i.bytes)) = some (some (.agg #[.int .i64 0, .int .i64 0, .string ⟨#[]⟩, .int .i64 0, .int .i64 0, .string ⟨#[]⟩]), 6, 64) := by kernel_rfl
end Go.Proofs.YteheolefemlcgaaGreat
