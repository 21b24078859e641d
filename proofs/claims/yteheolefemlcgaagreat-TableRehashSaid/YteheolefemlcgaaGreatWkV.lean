/- WalkWhole in plain terms. -/
import Derived.Test.YteheolefemlcgaaGreatWkS
import Derived.Test.YteheolefemlcgaaGreatWkR
namespace Go.Proofs.YteheolefemlcgaaGreat
open Go.RowKit
set_option linter.unusedVariables false
set_option linter.unusedSimpArgs false

/-- A traversal that has come to the place cur, i keys behind the beginning. -/
structure WW (p0 p : PT) (cur i : Nat) (gone came : List V) : Prop where
  tot : p.tot = p0.tot
  key : ∀ j : Nat, (p.pair (j : Int)).1 = (p0.pair (j : Int)).1
  sub : ∀ j, p.full j → p0.full j
  at_ : cur = 0 ∨ p0.full cur
  cm : ∃ L : List Nat, came = L.map (fun j : Nat => (p0.pair (j : Int)).1) ∧ L.length = i ∧ L.Pairwise (· < ·) ∧ ∀ j ∈ L, j ≤ cur ∧ p0.full j
  a : ∀ j, j ≤ cur → p0.full j → (p0.pair (j : Int)).1 ∈ came ∨ (p0.pair (j : Int)).1 ∈ gone
  b : ∀ j, p0.full j → ¬ p.full j → (p0.pair (j : Int)).1 ∈ gone
theorem WW.start (p : PT) : WW p p 0 0 [] [] :=
  ⟨rfl, fun _ => rfl, fun _ h => h, .inl rfl, ⟨[], rfl, rfl, List.Pairwise.nil, fun j h => by simp at h⟩, fun j hj hf => by rw [show j = 0 by omega] at hf; exact absurd hf full_zero, fun j h1 h2 => absurd h1 h2⟩
section
variable {p0 p : PT} {cur i : Nat} {gone came : List V}
theorem key_inj (H0 : p0.ok) {j k : Nat} (hj : p0.full j) (hk : p0.full k) (e : (p0.pair (j : Int)).1 = (p0.pair (k : Int)).1) : j = k := by
  have h1 := place_full H0 hj
  have h2 := place_full H0 hk
  rw [e, h2] at h1
  omega
theorem WW.next (H : WW p0 p cur i gone came) (Hp : p.ok) (H0 : p0.ok) : p.nextE (p0.pair (cur : Int)).1 = 0 ∧ p.nextP (p0.pair (cur : Int)).1 = p.pair ((p.nx cur : Nat) : Int) := by
  rw [← H.key cur]
  refine next_key Hp ?_
  rcases H.at_ with h | h
  · exact .inl h
  · obtain ⟨h1, h2⟩ := full_in h
    exact .inr ⟨h1, by rw [H.tot]; exact h2, by rw [H.key]; exact (key_full H0 h).1⟩
theorem WW.done (H : WW p0 p cur i gone came) (h0 : p.nx cur = 0) :
    (∀ i, i < p0.prs.length → (prAt p0.prs i).1 ∈ gone ∨ (prAt p0.prs i).1 ∈ came) ∧ (∀ j, j < came.length → ∃ i, i < p0.prs.length ∧ (prAt p0.prs i).1 = came.getD j nilV) := by
  constructor
  · intro i hi
    rw [prs_len] at hi
    have e : prAt p0.prs i = p0.pair ((p0.at_ i : Nat) : Int) := prs_at i hi
    obtain ⟨h1, h2, h3⟩ := at_full i hi
    rw [e]
    by_cases hc : p0.at_ i ≤ cur
    · exact (H.a _ hc h3).symm
    · refine .inl (H.b _ h3 ?_)
      rcases nx_is p cur with ⟨-, h⟩ | ⟨h, -⟩
      · exact h _ (by omega) (by rw [H.tot]; exact h2)
      · omega
  · intro j hj
    obtain ⟨L, e, hl, hs, hm⟩ := H.cm
    subst e
    rw [List.length_map] at hj
    obtain ⟨i, hi, e⟩ := at_of (L[j]) (hm _ (List.getElem_mem hj)).2
    refine ⟨i, by rw [prs_len]; exact hi, ?_⟩
    have e2 : prAt p0.prs i = p0.pair ((p0.at_ i : Nat) : Int) := prs_at i hi
    rw [e2, e, List.getD_eq_getElem?_getD, List.getElem?_map, List.getElem?_eq_getElem hj]
    rfl
theorem WW.step (H : WW p0 p cur i gone came) (H0 : p0.ok) (h0 : p.nx cur ≠ 0) :
    p.full (p.nx cur) ∧ (p.pair ((p.nx cur : Nat) : Int)).1 ∉ came ∧ i < p0.cnt ∧ WW p0 p (p.nx cur) (i + 1) gone (came ++ [(p.pair ((p.nx cur : Nat) : Int)).1]) := by
  rcases nx_is p cur with ⟨h, -⟩ | ⟨h1, h2, h3, h4⟩
  · exact absurd h h0
  · generalize p.nx cur = z at h1 h2 h3 h4 ⊢
    have hz := H.sub z h3
    obtain ⟨L, e, hl, hs, hm⟩ := H.cm
    refine ⟨h3, ?_, ?_, ⟨H.tot, H.key, H.sub, .inr hz, ⟨L ++ [z], by rw [e, List.map_append, H.key]; rfl, by rw [List.length_append, hl]; rfl, ?_, ?_⟩, ?_, H.b⟩⟩
    · rw [e, H.key]
      intro hmem
      obtain ⟨j, hj, e2⟩ := List.mem_map.1 hmem
      obtain ⟨hj1, hj2⟩ := hm j hj
      have := key_inj H0 hj2 hz e2
      omega
    · have hnd : (L ++ [z]).Nodup := by
        rw [List.nodup_iff_pairwise_ne, List.pairwise_append]
        refine ⟨hs.imp (fun h => Nat.ne_of_lt h), List.pairwise_singleton _ _, fun x hx y hy => ?_⟩
        rw [List.mem_singleton] at hy
        have := (hm x hx).1
        omega
      have hsub : (L ++ [z]) ⊆ p0.pos 0 p0.tot := by
        intro x hx
        have hf : p0.full x := by
          rcases List.mem_append.1 hx with h | h
          · exact (hm x h).2
          · rw [List.mem_singleton.1 h]; exact hz
        obtain ⟨g1, g2⟩ := full_in hf
        exact pos_mem.2 ⟨by omega, by omega, hf⟩
      have := List.Nodup.length_le_of_subset hnd hsub
      rw [List.length_append, hl] at this
      exact this
    · rw [List.pairwise_append]
      refine ⟨hs, List.pairwise_singleton _ _, fun x hx y hy => ?_⟩
      rw [List.mem_singleton] at hy
      have := (hm x hx).1
      omega
    · intro j hj
      rcases List.mem_append.1 hj with h | h
      · exact ⟨by have := (hm j h).1; omega, (hm j h).2⟩
      · rw [List.mem_singleton.1 h]; exact ⟨Nat.le_refl _, hz⟩
    · intro j hj hf
      by_cases hc : j ≤ cur
      · rcases H.a j hc hf with h | h
        · exact .inl (List.mem_append_left _ h)
        · exact .inr h
      · by_cases hz2 : j = z
        · subst hz2
          exact .inl (List.mem_append_right _ (by rw [H.key]; exact List.mem_singleton.2 rfl))
        · exact .inr (H.b j hf (h4 j (by omega) (by omega)))
/-- A key that is found is a key of a full place. -/
theorem get_place (Hp : p.ok) {k : V} (hg : (p.get k).k ≠ 0) : ∃ j : Nat, p.full j ∧ (p.pair (j : Int)).1 = k := by
  rcases place_is Hp k with ⟨-, h⟩ | ⟨j, -, -, -, h1, h2, -⟩
  · rw [h] at hg; exact absurd rfl hg
  · exact ⟨j, by unfold PT.full; rw [← h2]; exact hg, h1⟩
theorem WW.set (H : WW p0 p cur i gone came) (Hp : p.ok) {k v : V} (hv : okV v = true) (hg : (p.get k).k ≠ 0) :
    (p.put k v).2.2 = 0 ∧ okV k = true ∧ In64 k.n ∧ WW p0 (p.put k v).1 cur i (if v.k = 0 then gone ++ [k] else gone) came := by
  obtain ⟨j0, hj0, hk0⟩ := get_place Hp hg
  obtain ⟨hk1, hk2, hk3⟩ := key_full Hp hj0
  rw [hk0] at hk1 hk2 hk3
  obtain ⟨j, h1, h2, h3, h4, h5, h6, h7, h8⟩ := put_here Hp hk2 hv hk1 hg
  have hkey : ∀ x : Nat, ((p.put k v).1.pair (x : Int)).1 = (p.pair (x : Int)).1 := fun x => by
    rw [h8]; split
    · rename_i e; subst e; exact h3.symm
    · rfl
  refine ⟨h5, hk2, hk3, ⟨?_, fun x => (hkey x).trans (H.key x), fun x hx => ?_, H.at_, H.cm, fun x hx hf => ?_, fun x hf hn => ?_⟩⟩
  · unfold PT.tot; rw [h6, h7]; exact H.tot
  · unfold PT.full at hx
    rw [h8] at hx
    by_cases e : x = j
    · rw [e]; exact H.sub j h4
    · rw [if_neg e] at hx; exact H.sub x hx
  · rcases H.a x hx hf with h | h
    · exact .inl h
    · right; split
      · exact List.mem_append_left _ h
      · exact h
  · by_cases e : x = j
    · subst e
      have hv0 : v.k = 0 := by
        unfold PT.full at hn
        rw [h8, if_pos rfl] at hn
        exact Decidable.byContradiction hn
      rw [if_pos hv0, ← H.key, h3]
      exact List.mem_append_right _ (List.mem_singleton.2 rfl)
    · have hn2 : ¬ p.full x := by
        unfold PT.full at hn ⊢
        rw [h8, if_neg e] at hn
        exact hn
      have h := H.b x hf hn2
      split
      · exact List.mem_append_left _ h
      · exact h
end
theorem set_here {t : Tbl} {hs : HS} {k v : V} (hk : okV k = true) (hv : okV v = true) (h : (t.p.put k v).2.2 = 0) : (t.set hs k v).1.p = (t.p.put k v).1 ∧ (t.set hs k v).2.1 = hs := by
  unfold Tbl.set
  rw [if_neg (by rw [hk, hv]; simp), if_pos (by rw [h]; decide)]
  exact ⟨rfl, rfl⟩
end Go.Proofs.YteheolefemlcgaaGreat
