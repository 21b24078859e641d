/- The reference's heap: Blocks, Give, Spend. -/
import Derived.Test.YteheolefemlcgaaGreatRefH2
import Derived.BigQuiet
namespace Go.Proofs.YteheolefemlcgaaGreat
open Go.RowKit Go.Maps RS
set_option linter.unusedVariables false
set_option linter.unusedSimpArgs false

theorem blk_len (l : List (Int × Int)) : ∀ j, (blk l j).length ≤ j
  | 0 => Nat.le_refl _
  | j + 1 => by
    have := blk_len l j
    unfold blk
    split
    · simp; omega
    · omega
theorem getElem_set_blk (l : List (Int × Int)) (b : Nat) (g : Int) (hb : b < l.length) : (blkCells l).set (b * 2 + 1) (.int .i64 g) = blkCells (setG l b g) := by
  apply List.ext_getElem?
  intro i
  rw [List.getElem?_set]
  have hl : (setG l b g).length = l.length := len_set _ _ _
  have hcl := blkCells_len l
  have hcl2 := blkCells_len (setG l b g)
  by_cases hi : i < l.length * 2
  · obtain ⟨m, hm, e | e⟩ : ∃ m, m < l.length ∧ (i = m * 2 ∨ i = m * 2 + 1) := ⟨i / 2, by omega, by omega⟩
    · subst e
      rw [if_neg (by omega), (blkCells_at l m hm).1, (blkCells_at (setG l b g) m (by omega)).1, cel_set]
    · subst e
      rw [(blkCells_at (setG l b g) m (by omega)).2, giv_set _ _ _ _ hb]
      by_cases e2 : m = b
      · subst e2; rw [if_pos rfl, if_pos rfl, if_pos (by omega)]
      · rw [if_neg (by omega), if_neg e2, (blkCells_at l m hm).2]
  · rw [if_neg (by omega), List.getElem?_eq_none (by omega), List.getElem?_eq_none (by omega)]
/-- A store into a block's second cell. -/
theorem RefIn.given {w : World} {q g c b : Nat} {r : RS} (H : RefIn w q (.slice (some ⟨g, 0, none⟩) r.all.length c) r) (hb : b < r.all.length) (x : Int) : RefIn (w.setCell ⟨g, b * 2 + 1, none⟩ (.int .i64 x)) q (.slice (some ⟨g, 0, none⟩) r.all.length c) { r with all := setG r.all b x } := by
  have hgq : q ≠ g := by have := H.off; intro e; subst e; exact this rfl
  have hc : ∀ i, (w.setCell ⟨g, b * 2 + 1, none⟩ (.int .i64 x)).cell? ⟨q, i, none⟩ = w.cell? ⟨q, i, none⟩ := fun i => World.cell?_of_block (a := ⟨q, i, none⟩) (Below.heap_setCell _ _ _ _ hgq)
  have hr := H.row.stored (b * 2 + 1) (.int .i64 x)
  rw [getElem_set_blk _ _ _ hb] at hr
  exact ⟨(hc 0).trans H.c0, (hc 1).trans H.c1, (hc 2).trans H.c2, (hc 3).trans H.c3, fun i => (frozen_set _ _ _ _).trans (H.fz i), by show World.ownsRow _ _ _ _ _ (setG r.all b x).length _; rw [len_set]; exact hr.1, H.off⟩
theorem RefIn.below {w w' : World} {q : Nat} {av : Value} {r : RS} (H : RefIn w q av r) (hb : Below w.heap.size w w') : RefIn w' q av r := H.keep fun k hk => hb.block k (by rcases hk with rfl | e; exact H.pl; exact (H.row.lt k e).2)
theorem ref_cell_other (w : World) (q i j : Nat) (v : Value) (h : j ≠ i) : (w.setCell ⟨q, i, none⟩ v).cell? ⟨q, j, none⟩ = w.cell? ⟨q, j, none⟩ := cell_other w q i j v h
theorem RefIn.spent {w : World} {q : Nat} {av : Value} {r : RS} (H : RefIn w q av r) (x : Int) : RefIn (w.setCell ⟨q, 1, none⟩ (.int .i64 x)) q av { r with spent := x } := by
  refine ⟨?_, ?_, ?_, ?_, fun i => (frozen_set _ _ _ _).trans (H.fz i), ownsRow_setCell_other H.row H.off _, H.off⟩
  · rw [cell_other _ _ _ _ _ (by decide)]; exact H.c0
  · rw [cell_set_self, H.c1]; rfl
  · rw [cell_other _ _ _ _ _ (by decide)]; exact H.c2
  · rw [cell_other _ _ _ _ _ (by decide)]; exact H.c3
theorem RefIn.clock {w : World} {q : Nat} {av : Value} {r : RS} (H : RefIn w q av r) (x : Int) : RefIn (w.setCell ⟨q, 2, none⟩ (.int .i64 x)) q av { r with clock := x } := by
  refine ⟨?_, ?_, ?_, ?_, fun i => (frozen_set _ _ _ _).trans (H.fz i), ownsRow_setCell_other H.row H.off _, H.off⟩
  · rw [cell_other _ _ _ _ _ (by decide)]; exact H.c0
  · rw [cell_other _ _ _ _ _ (by decide)]; exact H.c1
  · rw [cell_set_self, H.c2]; rfl
  · rw [cell_other _ _ _ _ _ (by decide)]; exact H.c3
end Go.Proofs.YteheolefemlcgaaGreat
