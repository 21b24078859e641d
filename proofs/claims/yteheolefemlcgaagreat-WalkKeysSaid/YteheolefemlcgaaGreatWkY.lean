/- The walk's laws: a case in a block of its own; rows. -/
import Derived.Test.YteheolefemlcgaaGreatFixX
namespace Go.Proofs.YteheolefemlcgaaGreat
open Go.RowKit Go.Maps
set_option linter.unusedVariables false
set_option linter.unusedSimpArgs false

/-- A case of the walk's laws in a block of its own. -/
structure CBX (w : World) (b : Nat) (x : CXX) : Prop where
  c0 : w.cell? ⟨b, 0, none⟩ = some (.int .i64 x.arr)
  c1 : w.cell? ⟨b, 1, none⟩ = some (.int .i64 x.hsh)
  c2 : w.cell? ⟨b, 2, none⟩ = some (.slice x.A x.l.length x.c)
  lt : b < w.heap.size
theorem CBX.keep {w w' : World} {b : Nat} {x : CXX} (H : CBX w b x) (hb : w'.heap[b]? = w.heap[b]?) : CBX w' b x := by
  have hc : ∀ i, w'.cell? ⟨b, i, none⟩ = w.cell? ⟨b, i, none⟩ := fun i => World.cell?_of_block (a := ⟨b, i, none⟩) hb
  exact ⟨(hc _).trans H.c0, (hc _).trans H.c1, (hc _).trans H.c2, lt_cell ((hc 0).trans H.c0)⟩
theorem CBX.below {w w' : World} {b : Nat} {x : CXX} (H : CBX w b x) (hb : Below w.heap.size w w') : CBX w' b x := H.keep (hb.block b H.lt)
theorem CBX.new (w : World) (x : CXX) : CBX (w.alloc (.cells #[.int .i64 x.arr, .int .i64 x.hsh, .slice x.A x.l.length x.c] 63)) w.heap.size x := ⟨by simp [go_sem], by simp [go_sem], by simp [go_sem], by simp [go_sem]⟩
def onlyX (b : Nat) (q : Nat) : Prop := q = b
theorem PRow.cases {base : Nat} {w : World} {v : Value} {l : List (V × V)} (h : PRow base w v l) : (l = [] ∧ v = .slice none 0 0) ∨ ∃ g cap, v = .slice (some ⟨g, 0, none⟩) l.length cap ∧ l.length ≤ cap ∧ base ≤ g ∧ g < w.heap.size := by
  rcases h.2 with ⟨e, e0⟩ | ⟨g, cap, cur, e, hb, hg, h3, -⟩
  · exact .inl ⟨List.eq_nil_of_length_eq_zero e0, e⟩
  · exact .inr ⟨g, cap, e, h3, hb, (Array.getElem?_eq_some_iff.1 hg).1⟩
end Go.Proofs.YteheolefemlcgaaGreat
