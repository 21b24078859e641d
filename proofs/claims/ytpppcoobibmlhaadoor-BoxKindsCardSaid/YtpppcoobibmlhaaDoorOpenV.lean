/- Slices of values that came in; BoxKinds joined. -/
import Derived.Test.YtpppcoobibmlhaaDoorLaw03k
import Derived.Deep.Slices
import Derived.SizedLaws
import Derived.OpenShut
import Derived.ProofKit
namespace Go.Proofs.YtpppcoobibmlhaaDoor
open Go.RowKit Go.Joins Go.ChangeShapes Go.WideShapes Go.Deep

/-- A slice of values that came in. -/
def ValsA (W : World) (v : Value) (l : List V) : Prop :=
  (v = .slice none 0 0 ∧ l = []) ∨ (∃ ad c, v = .slice (some ad) 0 c ∧ l = []) ∨ ∃ b o c, v = .slice (some ⟨b, o, none⟩) l.length c ∧ 0 < l.length ∧ l.length * 32 ≤ 140737488351232 ∧ b < W.heap.size ∧
    ∀ i (h : i < l.length), W.cell? ⟨b, o + i * 3, none⟩ = some (.int .i64 l[i].k) ∧ W.cell? ⟨b, o + i * 3 + 1, none⟩ = some (.int .i64 l[i].n) ∧ W.cell? ⟨b, o + i * 3 + 2, none⟩ = some (.string l[i].s)
set_option maxRecDepth 100000 in
theorem opens_vals {H : Type} {enc : TypeId × Value → H} {W : World} {base : Nat} {spare : Nat → Bool} {held : Bool} {r : Reach} {b0 : Nat} {v : Value} {d : DataW H} {p : List MemPlace} {ts : List TypeId} {ds : List (DataW H)} {j : Nat}
    (hv : Value.okWide Tryd.prog W r b0 49 v) (h : DataW.Trod enc Tryd.prog W base spare held 49 v d p) (hsz : (DataW.weightsEach Tryd.prog ts ds).all (· ≤ reachBytes) = true) (ht : ts[j]? = some 49) (hd : ds[j]? = some d) : ∃ l, ValsA W v l := by
  obtain ⟨a, len, cap, rfl⟩ := okWide_slice Tryd.underlying49 hv
  obtain ⟨fuel, hf⟩ := h
  rcases open_slice Tryd.underlying49 hf with ⟨hcs, _⟩ | ⟨ad, l, c, m, n, D, Pl, hcs, hb, hl, hm, hmm, hx, hi⟩
  · simp [Value.cells] at hcs
    obtain ⟨rfl, rfl, rfl⟩ := hcs
    exact ⟨[], .inl ⟨rfl, rfl⟩⟩
  · simp [Value.cells] at hcs
    obtain ⟨rfl, rfl, rfl⟩ := hcs
    have hC : Tryd.prog.cellsOf 33 = 3 := by kernel_rfl
    have hI : Tryd.prog.cellsOf 3 = 1 := by kernel_rfl
    have hS : Tryd.prog.cellsOf 9 = 1 := by kernel_rfl
    have key : ∀ i, i < len → ∃ v : V, W.cell? ((ad.add (i * 3)).add 0) = some (.int .i64 v.k) ∧ W.cell? ((ad.add (i * 3)).add 1) = some (.int .i64 v.n) ∧ W.cell? ((ad.add (i * 3)).add 2) = some (.string v.s) := by
      intro i h
      obtain ⟨cs', hc, ht'⟩ := hi i (by rw [hmm]; split <;> omega)
      rw [hC] at hc
      obtain ⟨_, hcl, hat⟩ := World.cells?_some hc
      obtain ⟨ys, n', -, -, -, hyl, hfl⟩ := DataW.trod_struct Tryd.underlying33 ht'
      match cs', hcl with
      | [c0, c1, c2], _ =>
        match ys, hyl with
        | [y0, y1, y2], _ =>
          have g0 := hfl 0 _ rfl
          have g1 := hfl 1 _ rfl
          have g2 := hfl 2 _ rfl
          have f0 : DataW.trod enc Tryd.prog W base spare held n' 3 (List.take (Tryd.prog.cellsOf 3) [c0, c1, c2]) = some y0 := g0
          have f1 : DataW.trod enc Tryd.prog W base spare held n' 3 (List.take (Tryd.prog.cellsOf 3) [c1, c2]) = some y1 := g1
          have f2 : DataW.trod enc Tryd.prog W base spare held n' 9 (List.take (Tryd.prog.cellsOf 9) [c2]) = some y2 := g2
          rw [hI] at f0 f1
          rw [hS] at f2
          simp only [List.take_succ_cons, List.take_zero] at f0 f1 f2
          obtain ⟨k, e0, -, w0⟩ := DataW.trod_int Tryd.underlying3 f0
          obtain ⟨q, e1, -, w1⟩ := DataW.trod_int Tryd.underlying3 f1
          obtain ⟨s, e2, -, w2⟩ := DataW.trod_string Tryd.underlying9 f2
          simp only [List.cons.injEq, and_true] at e0 e1 e2
          subst e0 e1 e2
          exact ⟨⟨k, q, s⟩, by rw [hat 0 (by omega)]; rfl, by rw [hat 1 (by omega)]; rfl, by rw [hat 2 (by omega)]; rfl⟩
    obtain ⟨g, hg⟩ : ∃ g : Nat → V, ∀ i, i < len → W.cell? ((ad.add (i * 3)).add 0) = some (.int .i64 (g i).k) ∧ W.cell? ((ad.add (i * 3)).add 1) = some (.int .i64 (g i).n) ∧ W.cell? ((ad.add (i * 3)).add 2) = some (.string (g i).s) :=
      ⟨fun i => if h : i < len then Classical.choose (key i h) else nilV, fun i h => by simp only [dif_pos h]; exact Classical.choose_spec (key i h)⟩
    by_cases h0 : len = 0
    · subst h0
      exact ⟨[], .inr (.inl ⟨ad, cap, rfl, rfl⟩)⟩
    · have h1 := (hg 0 (by omega)).1
      rw [show (ad.add (0 * 3)).add 0 = ad by simp [Addr.add]] at h1
      obtain ⟨b, o, rfl, hbl⟩ := spot_of_cell h1
      refine ⟨(List.range len).map g, .inr (.inr ⟨b, o, cap, by simp, by simp; omega, ?_, hbl, fun i hi' => ?_⟩)⟩
      · obtain ⟨hx, _⟩ := Prod.mk.inj hx
        subst hx
        have z := sized_slice hsz ht hd Tryd.underlying49
        rw [show Tryd.prog.bytesOf 33 = 32 by kernel_rfl] at z
        simp only [List.length_map, List.length_range] at z ⊢
        exact Nat.le_trans (Nat.mul_le_mul_right _ (Nat.le_add_right _ _)) z
      · have hil : i < len := by simpa using hi'
        obtain ⟨c0, c1, c2⟩ := hg i hil
        simp only [addr_add, Nat.add_zero] at c0 c1 c2
        simp only [List.getElem_map, List.getElem_range]
        exact ⟨c0, c1, c2⟩
theorem rowBoxKinds {v : Value} {W : World} (l : List V) (k : Int) (f : ValsA W v l) (nk : In64 k) (w : World) (hE : Env W) : Calls Tryd.prog 12 #[v, .int .i64 k] W fun e w' => e = .returned (.bool true) ∧ Below W.heap.size W w' := by
  rcases f with ⟨rfl, rfl⟩ | ⟨ad, c, rfl, rfl⟩ | ⟨b, o, c, rfl, h1, h2, h3, h4⟩
  · exact walk_BoxKinds_none k nk W hE
  · exact walk_BoxKinds_zero ad c k nk W hE
  · exact walk_BoxKinds_more l h1 b o c h2 k nk W hE h3 h4
end Go.Proofs.YtpppcoobibmlhaaDoor
