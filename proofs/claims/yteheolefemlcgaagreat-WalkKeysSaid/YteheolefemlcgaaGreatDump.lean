/- A table: Dump. -/
import Derived.Test.YteheolefemlcgaaGreatMapP
import Derived.Test.YteheolefemlcgaaGreatRefC
namespace Go.Proofs.YteheolefemlcgaaGreat
open Go.RowKit
set_option linter.unusedVariables false
set_option linter.unusedSimpArgs false

theorem vCells_one (l : List V) : ∀ u ∈ vCells l, u.oneCell' = true := by
  intro u hu
  unfold vCells at hu
  obtain ⟨v, -, h⟩ := List.mem_flatMap.1 hu
  simp [vcells] at h
  rcases h with rfl | rfl | rfl <;> rfl
/-- The slots' copy in block gs. -/
def SlotsAt (w : World) (gs : Nat) (p : PT) : Prop := ∀ i, i < p.sn → w.cell? ⟨gs, i * 3, none⟩ = some (.int .i64 (p.sv i).k) ∧ w.cell? ⟨gs, i * 3 + 1, none⟩ = some (.int .i64 (p.sv i).n) ∧ w.cell? ⟨gs, i * 3 + 2, none⟩ = some (.string (p.sv i).s)
set_option maxRecDepth 100000 in
theorem tab_Dump (a s b g hp : Nat) (t : Tbl) (hok : t.p.ok) (w : World) (H : TabIn w a s b g hp t) : Calls Tryz.prog 14 #[.pointer (some ⟨a, 0, none⟩)] w fun e w' => ∃ gs cs gd cp, e = .returned (.tuple #[.slice (some ⟨gs, 0, none⟩) t.p.sn cs, .slice (some ⟨gd, 0, none⟩) t.p.h.n cp]) ∧ w.heap.size ≤ gs ∧ gs < gd ∧ gd < w'.heap.size ∧ SlotsAt w' gs t.p ∧ (∀ i, w'.frozen? ⟨gs, i, none⟩ = false) ∧ DumpAt w' gd t.p.h ∧ t.p.sn ≤ cs ∧ t.p.h.n ≤ cp ∧ Below w.heap.size w w' := by
  have HI := Lib.hid H
  have c0 := H.pt.c0; have c1 := H.pt.c1
  have hlen : ((List.range t.p.sn).map t.p.sv).length = t.p.sn := by simp
  have hgd : ∀ i, i < t.p.sn → ((List.range t.p.sn).map t.p.sv).getD i nilV = t.p.sv i := fun i hi => by simp [List.getD_eq_getElem?_getD, hi]
  have hcell : ∀ j u, (vCells ((List.range t.p.sn).map t.p.sv))[j]? = some u → w.cell? ⟨s, j, none⟩ = some u := fun j u hj => by
    have hjl : j < t.p.sn * 3 := by
      have := (List.getElem?_eq_some_iff.1 hj).1
      rw [vCells_len, hlen] at this; exact this
    obtain ⟨i, hi⟩ : ∃ i, j / 3 = i := ⟨_, rfl⟩
    have hil : i < t.p.sn := by omega
    obtain ⟨a0, a1, a2⟩ := vCells_at ((List.range t.p.sn).map t.p.sv) i (by rw [hlen]; exact hil)
    rw [hgd i hil] at a0 a1 a2
    have hC := H.pt.sl i hil
    have h3 : j = i * 3 ∨ j = i * 3 + 1 ∨ j = i * 3 + 2 := by omega
    rcases h3 with rfl | rfl | rfl
    · rw [hj] at a0; rw [Option.some.inj a0]; exact hC.c0
    · rw [hj] at a1; rw [Option.some.inj a1]; exact hC.c1
    · rw [hj] at a2; rw [Option.some.inj a2]; exact hC.c2
  have HC := Lib.hid hcell
  have HZ := Lib.hid hok.sz; have HZ2 := Lib.hid hok.hg.sz
  have HLEN := Lib.hid hlen; have HGD := Lib.hid hgd
  clear H hcell hok hlen hgd
  obtain ⟨n, hn⟩ : ∃ n, t.p.sn = n := ⟨_, rfl⟩
  rw [hn] at HC HLEN HGD HZ c0 ⊢
  obtain ⟨m, hm⟩ : ∃ m, t.p.h.n = m := ⟨_, rfl⟩
  have HM := Lib.hid hm
  rw [hm] at HZ2 ⊢
  go_enter Tryz.func14, Tryz.ntmps14
  go_wp2_with fail
  have HS0 : Hid (∀ w', Below w.heap.size w w' → w'.cell? ⟨a, 0, none⟩ = some (.slice (some ⟨s, 0, none⟩) n n) ∧ w'.cell? ⟨a, 1, none⟩ = some (.pointer (some ⟨b, 0, none⟩))) := Lib.hid (fun w' hb => by
    have h := HI.out.below hb
    exact ⟨by rw [← hn]; exact h.pt.c0, h.pt.c1⟩)
  have HCL : Hid (∀ w', Below w.heap.size w w' → ∀ j u, (vCells ((List.range n).map t.p.sv))[j]? = some u → w'.cell? ⟨s, j, none⟩ = some u) := Lib.hid (fun w' hb j u hj => (hb.cell (p := ⟨s, j, none⟩) HI.out.pt.ls).trans (HC.out j u hj))
  have HL3 : Hid ((vCells ((List.range n).map t.p.sv)).length = n * 3) := Lib.hid (by rw [vCells_len, HLEN.out])
  have HSL : Hid (∀ w' gs, (∀ j u, (vCells ((List.range n).map t.p.sv))[j]? = some u → w'.cell? ⟨gs, j, none⟩ = some u) → SlotsAt w' gs t.p) := Lib.hid (fun w' gs h i hi => by
    rw [hn] at hi
    obtain ⟨a0, a1, a2⟩ := vCells_at ((List.range n).map t.p.sv) i (by rw [HLEN.out]; exact hi)
    rw [HGD.out i hi] at a0 a1 a2
    exact ⟨h _ _ a0, h _ _ a1, h _ _ a2⟩)
  go_region_held3 (fun w' => w'.cell? ⟨a, 0, none⟩ = some (.slice (some ⟨s, 0, none⟩) n n) ∧ w'.cell? ⟨a, 1, none⟩ = some (.pointer (some ⟨b, 0, none⟩)))
    (first | exact HS0.out _ (Below.refl _ w).drew | exact HS0.out _ HB1.out | exact HS0.out _ HB2.out | assumption)
    (first
      | (go_at_call 59; (with_reducible refine (clone_vals s n n (vCells ((List.range n).map t.p.sv)) HL3.out (vCells_one _) HZ.out _ (HCL.out _ (Below.refl _ w).drew)).mono ?_); rintro e w1 ⟨gs, cs, rfl, g1, g2, g3, g4, g5, g6⟩; have HB1 := Lib.hid (below_step (Below.refl _ w).drew g6); have HG1 := Lib.hid (And.intro g1 (And.intro g2 (And.intro g3 (And.intro g4 g5)))); clear g1 g2 g3 g4 g5 g6)
      | (go_at_call 60; (with_reducible refine (Nd_Dump b g t.p.h (by rw [HM.out]; exact HZ2.out) _ (HI.out.below HB1.out).pt.nd).mono ?_); rintro e w2 ⟨gd, cp, rfl, d1, d2, d3, d4, d5⟩; have HB2 := Lib.hid (below_step HB1.out d5); have HD2 := Lib.hid (And.intro d1 (And.intro d2 (And.intro d3 (And.intro d4 d5)))); clear d1 d2 d3 d4 d5; rw [HM.out]))
  go_wp2
  obtain ⟨g1, g2, g3, g4, g5⟩ := HG1.out
  obtain ⟨d1, d2, d3, d4, d5⟩ := HD2.out
  exact bodyPost_ret (v := .tuple #[.slice (some ⟨gs, 0, none⟩) n cs, .slice (some ⟨gd, 0, none⟩) m cp]) (by simp [results, Tryz.results14, go_sem]) rfl ⟨gs, cs, gd, cp, rfl, by simpa [go_sem] using g1, by omega, d2, HSL.out _ _ (fun j u hj => (d5.cell (p := ⟨gs, j, none⟩) g2).trans (g4 j u hj)), fun i => (d5.frozen (p := ⟨gs, i, none⟩) g2).trans (g5 i), d3, g3, by rw [← HM.out]; exact d4, HB2.out⟩
end Go.Proofs.YteheolefemlcgaaGreat
