/- A slice of truths that came in; BorderStacks, in plain terms. -/
import Derived.Test.YteheolefemlcgaaBT
import Derived.Test.YteheolefemlcgaaSetF
namespace Go.Proofs.Yteheolefemlcgaa
open Go.RowKit Go.Joins Go.ChangeShapes Go.WideShapes Go.Deep Go.ChangeAt
set_option linter.unusedVariables false
set_option linter.unusedSimpArgs false

structure BSL (W : World) (v : Value) (bs : List Bool) : Prop where
  ex : ∃ A c, v = .slice A bs.length c ∧ bs.length ≤ c ∧ c ≤ 9223372036854775807 ∧ (0 < bs.length → ∃ b o, A = some ⟨b, o, none⟩ ∧ b < W.heap.size ∧ ∀ j, j < bs.length → W.cell? ⟨b, o + j, none⟩ = some (.bool (bs.getD j false)))
set_option maxRecDepth 100000 in
theorem opens_bools {H : Type} {enc : TypeId × Value → H} {W : World} {base : Nat} {spare : Nat → Bool} {held : Bool} {r : Reach} {b0 : Nat} {v : Value} {d : DataW H} {p : List MemPlace} {ts : List TypeId} {ds : List (DataW H)} {j : Nat}
    (hv : Value.okWide Try.prog W r b0 95 v) (h : DataW.Trod enc Try.prog W base spare held 95 v d p) (hsz : (DataW.weightsEach Try.prog ts ds).all (· ≤ reachBytes) = true) (ht : ts[j]? = some 95) (hd : ds[j]? = some d) : ∃ bs : List Bool, BSL W v bs := by
  obtain ⟨a, len, cap, rfl⟩ := okWide_slice Try.underlying95 hv
  obtain ⟨fuel, hf⟩ := h
  have hf' : DataW.trod enc Try.prog W base spare held fuel 95 [.slice a len cap] = some (d, p) := by simpa [Value.cells] using hf
  rcases open_slice Try.underlying95 hf' with ⟨hcs, _⟩ | ⟨ad, len', cap', m, n, D, Pl, hcs, hb, hl, hm, hmm, hx, hi⟩
  · simp only [List.cons.injEq, and_true] at hcs
    rw [hcs]
    exact ⟨[], ⟨none, 0, rfl, Nat.le_refl _, by omega, fun h => by simp at h⟩⟩
  · simp only [List.cons.injEq, and_true] at hcs
    rw [hcs]
    have hC : Try.prog.cellsOf 4 = 1 := by kernel_rfl
    have key : ∀ i, i < len' → ∃ x : Bool, W.cell? ((ad.add (i * 1)).add 0) = some (.bool x) := by
      intro i h
      obtain ⟨cs', hc, ht'⟩ := hi i (by rw [hmm]; split <;> omega)
      rw [hC] at hc
      obtain ⟨_, hcl, hat⟩ := World.cells?_some hc
      obtain ⟨x, e1, -⟩ := DataW.trod_bool Try.underlying4 ht'
      subst e1
      exact ⟨x, by rw [hat 0 (by omega)]; rfl⟩
    obtain ⟨g, hg⟩ : ∃ g : Nat → Bool, ∀ i, i < len' → W.cell? ((ad.add (i * 1)).add 0) = some (.bool (g i)) := ⟨fun i => if h : i < len' then Classical.choose (key i h) else false, fun i h => by simp only [dif_pos h]; exact Classical.choose_spec (key i h)⟩
    have hll : ((List.range len').map g).length = len' := by simp
    refine ⟨(List.range len').map g, ⟨some ad, cap', by rw [hll], by rw [hll]; exact hl, hm, fun h0 => ?_⟩⟩
    rw [hll] at h0
    have h1 := hg 0 h0
    rw [show (ad.add (0 * 1)).add 0 = ad by simp [Addr.add]] at h1
    obtain ⟨b, o, rfl, hbl⟩ := spot_of_cell h1
    refine ⟨b, o, rfl, hbl, fun i hi' => ?_⟩
    have hil : i < len' := by simpa using hi'
    have c0 := hg i hil
    simp only [addr_add, Nat.mul_one, Nat.add_zero] at c0
    have e : ((List.range len').map g).getD i false = g i := by simp [List.getD_eq_getElem?_getD, hil]
    rw [e]
    exact c0
/-- The table holds just the numbers from 1 to n. -/
structure Stk (t : Tbl) (n : Nat) : Prop where
  has : ∀ i : Nat, 1 ≤ i → i ≤ n → (t.get (iV i)).k ≠ 0
  only : ∀ k, (t.get k).k ≠ 0 → ∃ i : Nat, 1 ≤ i ∧ i ≤ n ∧ k = iV i
theorem Stk.border {t : Tbl} {n : Nat} (H : Stk t n) (hn : n ≤ 1000) {m : Int} (h : isB t m) : m = n := by
  obtain ⟨m0, m1, m2, m3⟩ := h
  have hle : m ≤ n := by
    rcases m2 with e | e
    · omega
    · obtain ⟨i, i1, i2, e2⟩ := H.only (iV m) (by unfold hasT at e; simpa using e)
      have := iV_inj e2; omega
  have hge : (n : Int) ≤ m := by
    apply Decidable.byContradiction
    intro hlt
    have h1 := m3.resolve_left (by omega)
    have h2 := H.has (m + 1).toNat (by omega) (by omega)
    rw [show (((m + 1).toNat : Nat) : Int) = m + 1 by omega] at h2
    unfold hasT at h1
    simp at h1
    exact h2 h1
  omega
theorem Stk.list {t : Tbl} {n : Nat} (H : Stk t n) : ∀ k, (t.get k).k ≠ 0 → k ∈ (List.range n).map fun i : Nat => iV ((i + 1 : Nat) : Int) := fun k hk => by
  obtain ⟨i, i1, i2, rfl⟩ := H.only k hk
  exact List.mem_map.2 ⟨i - 1, List.mem_range.2 (by omega), by rw [show i - 1 + 1 = i by omega]⟩
theorem Stk.push {t t' : Tbl} {n : Nat} {v : V} (H : Stk t n) (hv : v.k ≠ 0) (h : ∀ k, t'.get k = if k = iV ((n + 1 : Nat) : Int) then v else t.get k) : Stk t' (n + 1) := by
  refine ⟨fun i i1 i2 => ?_, fun k hk => ?_⟩
  · rw [h]
    split
    · exact hv
    · rename_i hne
      refine H.has i i1 ?_
      apply Decidable.byContradiction
      intro h3
      exact hne (by rw [show i = n + 1 by omega])
  · rw [h] at hk
    split at hk
    · rename_i e; exact ⟨n + 1, by omega, Nat.le_refl _, e⟩
    · obtain ⟨i, i1, i2, e⟩ := H.only k hk
      exact ⟨i, i1, by omega, e⟩
theorem Stk.pop {t t' : Tbl} {n : Nat} (H : Stk t (n + 1)) (h : ∀ k, t'.get k = if k = iV ((n + 1 : Nat) : Int) then nilV else t.get k) : Stk t' n := by
  refine ⟨fun i i1 i2 => ?_, fun k hk => ?_⟩
  · rw [h, if_neg (fun e => by have := iV_inj e; omega)]
    exact H.has i i1 (by omega)
  · rw [h] at hk
    split at hk
    · exact absurd rfl hk
    · rename_i hne
      obtain ⟨i, i1, i2, e⟩ := H.only k hk
      refine ⟨i, i1, ?_, e⟩
      apply Decidable.byContradiction
      intro h3
      exact hne (by rw [e, show i = n + 1 by omega])
theorem Stk.same {t t' : Tbl} {n : Nat} (H : Stk t n) (h : t'.p = t.p) : Stk t' n := by
  have e : ∀ k, t'.get k = t.get k := fun k => by unfold Tbl.get; rw [h]
  exact ⟨fun i i1 i2 => by rw [e]; exact H.has i i1 i2, fun k hk => H.only k (by rw [← e]; exact hk)⟩
end Go.Proofs.Yteheolefemlcgaa
