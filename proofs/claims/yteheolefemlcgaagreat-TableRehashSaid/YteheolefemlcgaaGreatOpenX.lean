/- A case of the walk's laws that came in. -/
import Derived.Test.YteheolefemlcgaaGreatTabM
namespace Go.Proofs.YteheolefemlcgaaGreat
open Go.RowKit Go.Joins Go.ChangeShapes Go.WideShapes Go.Deep Go.ChangeAt
set_option linter.unusedVariables false
set_option linter.unusedSimpArgs false

/-- One operation: its kind, key, value. -/
structure OX where
  kd : Int
  ky : V
  vl : V
def OX.zero : OX := ⟨0, nilV, nilV⟩
structure COX (w : World) (b o : Nat) (x : OX) : Prop where
  kd : w.cell? ⟨b, o, none⟩ = some (.int .i64 x.kd)
  k0 : w.cell? ⟨b, o + 1, none⟩ = some (.int .i64 x.ky.k)
  k1 : w.cell? ⟨b, o + 2, none⟩ = some (.int .i64 x.ky.n)
  k2 : w.cell? ⟨b, o + 3, none⟩ = some (.string x.ky.s)
  v0 : w.cell? ⟨b, o + 4, none⟩ = some (.int .i64 x.vl.k)
  v1 : w.cell? ⟨b, o + 5, none⟩ = some (.int .i64 x.vl.n)
  v2 : w.cell? ⟨b, o + 6, none⟩ = some (.string x.vl.s)
def OX.ok (x : OX) : Prop := In64 x.kd ∧ In64V x.ky ∧ In64V x.vl
def opX (l : List OX) (j : Nat) : OX := l.getD j OX.zero
def TOpsX (w : World) (A : Option Addr) (l : List OX) : Prop := 0 < l.length → ∃ b o, A = some ⟨b, o, none⟩ ∧ b < w.heap.size ∧ ∀ j, j < l.length → COX w b (o + j * 7) (opX l j)
structure CXX where
  arr : Int
  hsh : Int
  A : Option Addr
  c : Nat
  l : List OX
def CXX.val (x : CXX) : Value := .agg #[.int .i64 x.arr, .int .i64 x.hsh, .slice x.A x.l.length x.c]
structure CSX (W : World) (v : Value) (x : CXX) : Prop where
  e : v = x.val
  l1 : In64 x.arr
  l2 : In64 x.hsh
  le : x.l.length ≤ x.c
  mx : x.c ≤ 9223372036854775807
  ops : TOpsX W x.A x.l
  in_ : ∀ y ∈ x.l, y.ok
set_option maxRecDepth 100000 in
theorem opens_case10 {H : Type} {enc : TypeId × Value → H} {W : World} {base : Nat} {spare : Nat → Bool} {held : Bool} {r : Reach} {b0 : Nat} {v : Value} {d : DataW H} {p : List MemPlace} {ts : List TypeId} {ds : List (DataW H)} {j : Nat}
    (hv : Value.okWide Tryz.prog W r b0 63 v) (h : DataW.Trod enc Tryz.prog W base spare held 63 v d p) (hsz : (DataW.weightsEach Tryz.prog ts ds).all (· ≤ reachBytes) = true) (ht : ts[j]? = some 63) (hd : ds[j]? = some d) : ∃ x : CXX, CSX W v x := by
  obtain ⟨v0, v1, v2, y0, y1, y2, n, rfl, -, -, h0, h1, hf⟩ := open_agg3 Tryz.underlying63 (by kernel_rfl) (by kernel_rfl) hv h
  obtain ⟨k0, rfl, i0⟩ := trod_i64 h0
  obtain ⟨k1, rfl, i1⟩ := trod_i64 h1
  have hf' : DataW.trod enc Tryz.prog W base spare held n 61 [v2] = some y2 := hf
  rcases open_slice Tryz.underlying61 hf' with ⟨hcs, _⟩ | ⟨ad, len, cap, m, n, D, Pl, hcs, hb, hl, hm, hmm, hx, hi⟩
  · simp only [List.cons.injEq, and_true] at hcs
    subst hcs
    exact ⟨⟨k0, k1, none, 0, []⟩, rfl, i0, i1, Nat.le_refl _, by simp, fun h => by simp at h, fun y hy => by simp at hy⟩
  · simp only [List.cons.injEq, and_true] at hcs
    subst hcs
    have hC : Tryz.prog.cellsOf 67 = 7 := by kernel_rfl
    have hI : Tryz.prog.cellsOf 3 = 1 := by kernel_rfl
    have hV : Tryz.prog.cellsOf 35 = 3 := by kernel_rfl
    have key : ∀ i, i < len → ∃ x : OX, x.ok ∧ W.cell? ((ad.add (i * 7)).add 0) = some (.int .i64 x.kd) ∧ W.cell? ((ad.add (i * 7)).add 1) = some (.int .i64 x.ky.k) ∧ W.cell? ((ad.add (i * 7)).add 2) = some (.int .i64 x.ky.n) ∧ W.cell? ((ad.add (i * 7)).add 3) = some (.string x.ky.s) ∧ W.cell? ((ad.add (i * 7)).add 4) = some (.int .i64 x.vl.k) ∧ W.cell? ((ad.add (i * 7)).add 5) = some (.int .i64 x.vl.n) ∧ W.cell? ((ad.add (i * 7)).add 6) = some (.string x.vl.s) := by
      intro i h
      obtain ⟨cs', hc, ht'⟩ := hi i (by rw [hmm]; split <;> omega)
      rw [hC] at hc
      obtain ⟨_, hcl, hat⟩ := World.cells?_some hc
      obtain ⟨ys, n', -, -, -, hyl, hfl⟩ := DataW.trod_struct Tryz.underlying67 ht'
      match cs', hcl with
      | [c0, c1, c2, c3, c4, c5, c6], _ =>
        match ys, hyl with
        | [y0, y1, y2], _ =>
          have g0 := hfl 0 _ rfl
          have g1 := hfl 1 _ rfl
          have g2 := hfl 2 _ rfl
          have f0 : DataW.trod enc Tryz.prog W base spare held n' 3 (List.take (Tryz.prog.cellsOf 3) [c0, c1, c2, c3, c4, c5, c6]) = some y0 := g0
          have f1 : DataW.trod enc Tryz.prog W base spare held n' 35 (List.take (Tryz.prog.cellsOf 35) [c1, c2, c3, c4, c5, c6]) = some y1 := g1
          have f2 : DataW.trod enc Tryz.prog W base spare held n' 35 (List.take (Tryz.prog.cellsOf 35) [c4, c5, c6]) = some y2 := g2
          rw [hI] at f0
          rw [hV] at f1 f2
          simp only [List.take_succ_cons, List.take_zero] at f0 f1 f2
          obtain ⟨kd, rfl, i0'⟩ := trod_i64 f0
          obtain ⟨x, hx, rfl, rfl, rfl⟩ := trod_val f1
          obtain ⟨z, hz, rfl, rfl, rfl⟩ := trod_val f2
          exact ⟨⟨kd, x, z⟩, ⟨i0', hx, hz⟩, by rw [hat 0 (by omega)]; rfl, by rw [hat 1 (by omega)]; rfl, by rw [hat 2 (by omega)]; rfl, by rw [hat 3 (by omega)]; rfl, by rw [hat 4 (by omega)]; rfl, by rw [hat 5 (by omega)]; rfl, by rw [hat 6 (by omega)]; rfl⟩
    obtain ⟨g, hg⟩ : ∃ g : Nat → OX, ∀ i, i < len → (g i).ok ∧ W.cell? ((ad.add (i * 7)).add 0) = some (.int .i64 (g i).kd) ∧ W.cell? ((ad.add (i * 7)).add 1) = some (.int .i64 (g i).ky.k) ∧ W.cell? ((ad.add (i * 7)).add 2) = some (.int .i64 (g i).ky.n) ∧ W.cell? ((ad.add (i * 7)).add 3) = some (.string (g i).ky.s) ∧ W.cell? ((ad.add (i * 7)).add 4) = some (.int .i64 (g i).vl.k) ∧ W.cell? ((ad.add (i * 7)).add 5) = some (.int .i64 (g i).vl.n) ∧ W.cell? ((ad.add (i * 7)).add 6) = some (.string (g i).vl.s) :=
      ⟨fun i => if h : i < len then Classical.choose (key i h) else OX.zero, fun i h => by simp only [dif_pos h]; exact Classical.choose_spec (key i h)⟩
    have hll : ((List.range len).map g).length = len := by simp
    refine ⟨⟨k0, k1, some ad, cap, (List.range len).map g⟩, by unfold CXX.val; rw [hll], i0, i1, by rw [hll]; exact hl, hm, fun h0 => ?_, fun x hx' => ?_⟩
    · rw [hll] at h0
      have h1 := (hg 0 h0).2.1
      rw [show (ad.add (0 * 7)).add 0 = ad by simp [Addr.add]] at h1
      obtain ⟨b, o, rfl, hbl⟩ := spot_of_cell h1
      refine ⟨b, o, rfl, hbl, fun i hi' => ?_⟩
      have hil : i < len := by simpa using hi'
      obtain ⟨-, c0, c1, c2, c3, c4, c5, c6⟩ := hg i hil
      simp only [addr_add] at c0 c1 c2 c3 c4 c5 c6
      have e : opX ((List.range len).map g) i = g i := by unfold opX; simp [List.getD_eq_getElem?_getD, hil]
      rw [e]
      exact ⟨c0, c1, c2, c3, c4, c5, c6⟩
    · obtain ⟨i, hi', rfl⟩ := List.mem_map.1 hx'
      exact (hg i (List.mem_range.1 hi')).1
theorem CSX.in64 {W : World} {v : Value} {x : CXX} (f : CSX W v x) (j : Nat) : (opX x.l j).ok := by
  unfold opX
  rw [List.getD_eq_getElem?_getD]
  cases e : x.l[j]? with
  | none => show OX.zero.ok; unfold OX.ok OX.zero In64V In64 nilV; simp
  | some y => exact f.in_ y (List.mem_of_getElem? e)
theorem COX.bel {W w : World} {b o : Nat} {x : OX} (H : COX W b o x) (hb : Below W.heap.size W w) (h : b < W.heap.size) : COX w b o x :=
  ⟨(hb.cell (p := ⟨b, _, none⟩) h).trans H.kd, (hb.cell (p := ⟨b, _, none⟩) h).trans H.k0, (hb.cell (p := ⟨b, _, none⟩) h).trans H.k1, (hb.cell (p := ⟨b, _, none⟩) h).trans H.k2, (hb.cell (p := ⟨b, _, none⟩) h).trans H.v0, (hb.cell (p := ⟨b, _, none⟩) h).trans H.v1, (hb.cell (p := ⟨b, _, none⟩) h).trans H.v2⟩
end Go.Proofs.YteheolefemlcgaaGreat
