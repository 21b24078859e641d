/- A slice of operations of the walk's laws that came in. -/
import Derived.Test.YteheolefemlcgaaOpenX
namespace Go.Proofs.Yteheolefemlcgaa
open Go.RowKit Go.Joins Go.ChangeShapes Go.WideShapes Go.Deep Go.ChangeAt
set_option linter.unusedVariables false
set_option linter.unusedSimpArgs false

/-- A slice of operations that came in. -/
structure OSl where
  A : Option Addr
  c : Nat
  l : List OX
structure OSA (W : World) (v : Value) (x : OSl) : Prop where
  e : v = .slice x.A x.l.length x.c
  le : x.l.length ≤ x.c
  mx : x.c ≤ 9223372036854775807
  ops : TOpsX W x.A x.l
  in_ : ∀ y ∈ x.l, y.ok
set_option maxRecDepth 100000 in
theorem opens_ops10 {H : Type} {enc : TypeId × Value → H} {W : World} {base : Nat} {spare : Nat → Bool} {held : Bool} {r : Reach} {b0 : Nat} {v : Value} {d : DataW H} {p : List MemPlace} {ts : List TypeId} {ds : List (DataW H)} {j : Nat}
    (hv : Value.okWide Try.prog W r b0 68 v) (h : DataW.Trod enc Try.prog W base spare held 68 v d p) (hsz : (DataW.weightsEach Try.prog ts ds).all (· ≤ reachBytes) = true) (ht : ts[j]? = some 68) (hd : ds[j]? = some d) : ∃ x : OSl, OSA W v x := by
  obtain ⟨aa, llen, ccap, rfl⟩ := okWide_slice Try.underlying68 hv
  obtain ⟨fuel, hf⟩ := h
  rcases open_slice Try.underlying68 hf with ⟨hcs, _⟩ | ⟨ad, len, cap, m, n, D, Pl, hcs, hb, hl, hm, hmm, hx, hi⟩
  · simp [Value.cells] at hcs
    obtain ⟨rfl, rfl, rfl⟩ := hcs
    exact ⟨⟨none, 0, []⟩, rfl, Nat.le_refl _, by simp, fun h => by simp at h, fun y hy => by simp at hy⟩
  · simp [Value.cells] at hcs
    obtain ⟨rfl, rfl, rfl⟩ := hcs
    have hC : Try.prog.cellsOf 74 = 7 := by kernel_rfl
    have hI : Try.prog.cellsOf 3 = 1 := by kernel_rfl
    have hV : Try.prog.cellsOf 39 = 3 := by kernel_rfl
    have key : ∀ i, i < llen → ∃ x : OX, x.ok ∧ W.cell? ((ad.add (i * 7)).add 0) = some (.int .i64 x.kd) ∧ W.cell? ((ad.add (i * 7)).add 1) = some (.int .i64 x.ky.k) ∧ W.cell? ((ad.add (i * 7)).add 2) = some (.int .i64 x.ky.n) ∧ W.cell? ((ad.add (i * 7)).add 3) = some (.string x.ky.s) ∧ W.cell? ((ad.add (i * 7)).add 4) = some (.int .i64 x.vl.k) ∧ W.cell? ((ad.add (i * 7)).add 5) = some (.int .i64 x.vl.n) ∧ W.cell? ((ad.add (i * 7)).add 6) = some (.string x.vl.s) := by
      intro i h
      obtain ⟨cs', hc, ht'⟩ := hi i (by rw [hmm]; split <;> omega)
      rw [hC] at hc
      obtain ⟨_, hcl, hat⟩ := World.cells?_some hc
      obtain ⟨ys, n', -, -, -, hyl, hfl⟩ := DataW.trod_struct Try.underlying74 ht'
      match cs', hcl with
      | [c0, c1, c2, c3, c4, c5, c6], _ =>
        match ys, hyl with
        | [y0, y1, y2], _ =>
          have g0 := hfl 0 _ rfl
          have g1 := hfl 1 _ rfl
          have g2 := hfl 2 _ rfl
          have f0 : DataW.trod enc Try.prog W base spare held n' 3 (List.take (Try.prog.cellsOf 3) [c0, c1, c2, c3, c4, c5, c6]) = some y0 := g0
          have f1 : DataW.trod enc Try.prog W base spare held n' 39 (List.take (Try.prog.cellsOf 39) [c1, c2, c3, c4, c5, c6]) = some y1 := g1
          have f2 : DataW.trod enc Try.prog W base spare held n' 39 (List.take (Try.prog.cellsOf 39) [c4, c5, c6]) = some y2 := g2
          rw [hI] at f0
          rw [hV] at f1 f2
          simp only [List.take_succ_cons, List.take_zero] at f0 f1 f2
          obtain ⟨kd, rfl, i0'⟩ := trod_i64 f0
          obtain ⟨x, hx, rfl, rfl, rfl⟩ := trod_val f1
          obtain ⟨z, hz, rfl, rfl, rfl⟩ := trod_val f2
          exact ⟨⟨kd, x, z⟩, ⟨i0', hx, hz⟩, by rw [hat 0 (by omega)]; rfl, by rw [hat 1 (by omega)]; rfl, by rw [hat 2 (by omega)]; rfl, by rw [hat 3 (by omega)]; rfl, by rw [hat 4 (by omega)]; rfl, by rw [hat 5 (by omega)]; rfl, by rw [hat 6 (by omega)]; rfl⟩
    obtain ⟨g, hg⟩ : ∃ g : Nat → OX, ∀ i, i < llen → (g i).ok ∧ W.cell? ((ad.add (i * 7)).add 0) = some (.int .i64 (g i).kd) ∧ W.cell? ((ad.add (i * 7)).add 1) = some (.int .i64 (g i).ky.k) ∧ W.cell? ((ad.add (i * 7)).add 2) = some (.int .i64 (g i).ky.n) ∧ W.cell? ((ad.add (i * 7)).add 3) = some (.string (g i).ky.s) ∧ W.cell? ((ad.add (i * 7)).add 4) = some (.int .i64 (g i).vl.k) ∧ W.cell? ((ad.add (i * 7)).add 5) = some (.int .i64 (g i).vl.n) ∧ W.cell? ((ad.add (i * 7)).add 6) = some (.string (g i).vl.s) :=
      ⟨fun i => if h : i < llen then Classical.choose (key i h) else OX.zero, fun i h => by simp only [dif_pos h]; exact Classical.choose_spec (key i h)⟩
    have hll : ((List.range llen).map g).length = llen := by simp
    refine ⟨⟨some ad, ccap, (List.range llen).map g⟩, by rw [hll], by rw [hll]; exact hl, hm, fun h0 => ?_, fun x hx' => ?_⟩
    · rw [hll] at h0
      have h1 := (hg 0 h0).2.1
      rw [show (ad.add (0 * 7)).add 0 = ad by simp [Addr.add]] at h1
      obtain ⟨b, o, rfl, hbl⟩ := spot_of_cell h1
      refine ⟨b, o, rfl, hbl, fun i hi' => ?_⟩
      have hil : i < llen := by simpa using hi'
      obtain ⟨-, c0, c1, c2, c3, c4, c5, c6⟩ := hg i hil
      simp only [addr_add] at c0 c1 c2 c3 c4 c5 c6
      have e : opX ((List.range llen).map g) i = g i := by unfold opX; simp [List.getD_eq_getElem?_getD, hil]
      rw [e]
      exact ⟨c0, c1, c2, c3, c4, c5, c6⟩
    · obtain ⟨i, hi', rfl⟩ := List.mem_map.1 hx'
      exact (hg i (List.mem_range.1 hi')).1
theorem OSA.in64 {W : World} {v : Value} {x : OSl} (f : OSA W v x) (j : Nat) : (opX x.l j).ok := by
  unfold opX
  rw [List.getD_eq_getElem?_getD]
  cases e : x.l[j]? with
  | none => show OX.zero.ok; unfold OX.ok OX.zero In64V In64 nilV; simp
  | some y => exact f.in_ y (List.mem_of_getElem? e)
end Go.Proofs.Yteheolefemlcgaa
