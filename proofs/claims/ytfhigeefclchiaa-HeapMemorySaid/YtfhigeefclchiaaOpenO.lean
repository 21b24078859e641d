/- Slices of operations that came in: what the reading says. -/
import Derived.Test.YtfhigeefclchiaaLaw06a
import Derived.Deep.Slices
import Derived.WideShapes
import Derived.ChangeSlices
import Derived.ChangeOld
import Derived.SizedLaws
import Derived.OpenShut
import Derived.ProofKit
namespace Go.Proofs.Ytfhigeefclchiaa
open Go.RowKit Go.ChangeShapes Go.WideShapes Go.Deep Go.ChangeAt
set_option linter.unusedVariables false
set_option linter.unusedSimpArgs false

/-- A slice of operations that came in. -/
def OSA (W : World) (v : Value) (l : List (Int × Int)) : Prop :=
  (∃ A c, v = .slice A l.length c ∧ l.length ≤ c) ∧ POps W v l ∧ (∀ x ∈ l, In64 x.1 ∧ In64 x.2) ∧ l.length * 16 ≤ 140737488351232
theorem trod_int64 {H : Type} {enc : TypeId × Value → H} {W : World} {base : Nat} {spare : Nat → Bool} {held : Bool} {n : Nat} {c : Value} {y : DataW H × List MemPlace} (f : DataW.trod enc Try.prog W base spare held n 3 [c] = some y) : ∃ k, c = .int .i64 k ∧ In64 k := by
  obtain ⟨k, e0, -, w0⟩ := DataW.trod_int Try.underlying3 f
  simp only [List.cons.injEq, and_true] at e0
  exact ⟨k, e0, bounds_i64 w0⟩
set_option maxRecDepth 100000 in
theorem opens_ops {H : Type} {enc : TypeId × Value → H} {W : World} {base : Nat} {spare : Nat → Bool} {held : Bool} {r : Reach} {b0 : Nat} {v : Value} {d : DataW H} {p : List MemPlace} {ts : List TypeId} {ds : List (DataW H)} {j : Nat}
    (hv : Value.okWide Try.prog W r b0 36 v) (h : DataW.Trod enc Try.prog W base spare held 36 v d p) (hsz : (DataW.weightsEach Try.prog ts ds).all (· ≤ reachBytes) = true) (ht : ts[j]? = some 36) (hd : ds[j]? = some d) : ∃ l, OSA W v l := by
  obtain ⟨a, len, cap, rfl⟩ := okWide_slice Try.underlying36 hv
  obtain ⟨fuel, hf⟩ := h
  rcases open_slice Try.underlying36 hf with ⟨hcs, _⟩ | ⟨ad, l, c, m, n, D, Pl, hcs, hb, hl, hm, hmm, hx, hi⟩
  · simp [Value.cells] at hcs
    obtain ⟨rfl, rfl, rfl⟩ := hcs
    exact ⟨[], ⟨none, 0, rfl, Nat.le_refl _⟩, ⟨none, 0, rfl, fun h => by simp at h⟩, fun x hx => by simp at hx, by simp⟩
  · simp [Value.cells] at hcs
    obtain ⟨rfl, rfl, rfl⟩ := hcs
    have hC : Try.prog.cellsOf 50 = 2 := by kernel_rfl
    have hI : Try.prog.cellsOf 3 = 1 := by kernel_rfl
    have key : ∀ i, i < len → ∃ v : Int × Int, (In64 v.1 ∧ In64 v.2) ∧ W.cell? ((ad.add (i * 2)).add 0) = some (.int .i64 v.1) ∧ W.cell? ((ad.add (i * 2)).add 1) = some (.int .i64 v.2) := by
      intro i h
      obtain ⟨cs', hc, ht'⟩ := hi i (by rw [hmm]; split <;> omega)
      rw [hC] at hc
      obtain ⟨_, hcl, hat⟩ := World.cells?_some hc
      obtain ⟨ys, n', -, -, -, hyl, hfl⟩ := DataW.trod_struct Try.underlying50 ht'
      match cs', hcl with
      | [c0, c1], _ =>
        match ys, hyl with
        | [y0, y1], _ =>
          have g0 := hfl 0 _ rfl
          have g1 := hfl 1 _ rfl
          have f0 : DataW.trod enc Try.prog W base spare held n' 3 (List.take (Try.prog.cellsOf 3) [c0, c1]) = some y0 := g0
          have f1 : DataW.trod enc Try.prog W base spare held n' 3 (List.take (Try.prog.cellsOf 3) [c1]) = some y1 := g1
          rw [hI] at f0 f1
          simp only [List.take_succ_cons, List.take_zero] at f0 f1
          obtain ⟨k, rfl, w0⟩ := trod_int64 f0
          obtain ⟨q, rfl, w1⟩ := trod_int64 f1
          exact ⟨(k, q), ⟨w0, w1⟩, by rw [hat 0 (by omega)]; rfl, by rw [hat 1 (by omega)]; rfl⟩
    obtain ⟨g, hg⟩ : ∃ g : Nat → Int × Int, ∀ i, i < len → (In64 (g i).1 ∧ In64 (g i).2) ∧ W.cell? ((ad.add (i * 2)).add 0) = some (.int .i64 (g i).1) ∧ W.cell? ((ad.add (i * 2)).add 1) = some (.int .i64 (g i).2) :=
      ⟨fun i => if h : i < len then Classical.choose (key i h) else (0, 0), fun i h => by simp only [dif_pos h]; exact Classical.choose_spec (key i h)⟩
    have hll : ((List.range len).map g).length = len := by simp
    refine ⟨(List.range len).map g, ⟨some ad, cap, by rw [hll], by rw [hll]; exact hl⟩, ⟨some ad, cap, by rw [hll], fun h0 => ?_⟩, fun x hx' => ?_, ?_⟩
    · rw [hll] at h0
      have h1 := (hg 0 h0).2.1
      rw [show (ad.add (0 * 2)).add 0 = ad by simp [Addr.add]] at h1
      obtain ⟨b, o, rfl, hbl⟩ := spot_of_cell h1
      refine ⟨b, o, rfl, hbl, fun i hi' => ?_⟩
      have hil : i < len := by simpa using hi'
      obtain ⟨-, c0, c1⟩ := hg i hil
      simp only [addr_add, Nat.add_zero] at c0 c1
      have e : ((List.range len).map g).getD i (0, 0) = g i := by simp [List.getD_eq_getElem?_getD, hil]
      unfold opK opN
      rw [e]
      exact ⟨c0, c1⟩
    · obtain ⟨i, hi', rfl⟩ := List.mem_map.1 hx'
      exact (hg i (List.mem_range.1 hi')).1
    · rw [hll]
      obtain ⟨hx, _⟩ := Prod.mk.inj hx
      subst hx
      have z := sized_slice hsz ht hd Try.underlying36
      rw [show Try.prog.bytesOf 50 = 16 by kernel_rfl] at z
      simp only [List.length_map, List.length_range] at z ⊢
      exact Nat.le_trans (Nat.mul_le_mul_right _ (Nat.le_add_right _ _)) z
end Go.Proofs.Ytfhigeefclchiaa
