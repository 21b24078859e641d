/- WalkKeys in plain terms. -/
import Derived.Test.YteheolefemlcgaaGreatWkV
namespace Go.Proofs.YteheolefemlcgaaGreat
open Go.RowKit
set_option linter.unusedVariables false
set_option linter.unusedSimpArgs false

/-- A present key has a place behind a Set of it too. -/
theorem keys_set {t : Tbl} {hs : HS} {k v : V} (H : t.p.ok) (h64 : In64 k.n) (hg : (t.get k).k ≠ 0) : (t.set hs k v).1.p.nextE k = 0 := by
  obtain ⟨j0, hj0, hk0⟩ := get_place H hg
  obtain ⟨hk1, hk2, hk3⟩ := key_full H hj0
  rw [hk0] at hk1 hk2 hk3
  by_cases hv : okV v = true
  · obtain ⟨j, h1, h2, h3, h4, h5, h6, h7, h8⟩ := put_here H hk2 hv hk1 hg
    obtain ⟨e1, e2⟩ := set_here (hs := hs) hk2 hv h5
    have hok := (Tbl.set_is (hs := hs) (v := v) H h64).1
    rw [e1] at hok ⊢
    have hp : ((t.p.put k v).1.pair (j : Int)).1 = k := by rw [h8, if_pos rfl]
    have hkey : (t.p.put k v).1.keyed j := ⟨h1, by unfold PT.tot; rw [h6, h7]; exact h2, by rw [hp]; exact hk1⟩
    have hpl := place_keyed hok hkey
    rw [hp] at hpl
    unfold PT.nextE
    rw [if_neg (by rw [hk2]; simp), if_neg (by rw [hpl]; omega)]
  · have hv' : okV v = false := by simpa using hv
    have e : (t.set hs k v).1 = t := by unfold Tbl.set; rw [if_pos (.inr hv')]
    rw [e]
    have hpl := place_full H hj0
    obtain ⟨h1, -⟩ := full_in hj0
    rw [hk0] at hpl
    unfold PT.nextE
    rw [if_neg (by rw [hk2]; simp), if_neg (by rw [hpl]; omega)]
/-- ErrKey just where no node and no slot bears the key. -/
theorem keys_yes {p : PT} (H : p.ok) {k : V} (hk : okV k = true) (h : k.k = 0 ∨ p.inB k ∨ ∃ i, i < p.h.n ∧ p.h.key i = k) : p.nextE k = 0 := by
  unfold PT.nextE
  rw [if_neg (by rw [hk]; simp)]
  by_cases h0 : k.k = 0
  · rw [if_neg (fun e => e.1 h0)]
  · refine if_neg (fun e => ?_)
    have e2 := e.2
    unfold PT.place at e2
    by_cases hb : p.inB k
    · rw [if_pos hb] at e2
      have := hb.2.2.1
      omega
    · rw [if_neg hb] at e2
      rcases h with h | h | ⟨i, hi, hki⟩
      · exact h0 h
      · exact hb h
      · have ho : p.h.occ i := by
          show (p.h.key i).k ≠ 0
          rw [hki]; exact h0
        rw [(PH.findA_iff H.hg k i).2 ⟨ho, hki⟩] at e2
        have e3 : (p.sn : Int) + 1 + i = 0 := e2
        omega
theorem keys_no {p : PT} (H : p.ok) {k : V} (hk : okV k = true) (h0 : k.k ≠ 0) (hb : ¬ p.inB k) (hn : ∀ i, i < p.h.n → p.h.key i ≠ k) : p.nextE k = 9 := by
  unfold PT.nextE
  rw [if_neg (by rw [hk]; simp), if_pos]
  refine ⟨h0, ?_⟩
  unfold PT.place
  rw [if_neg hb]
  cases e : (p.h.findA k).1 with
  | none => rfl
  | some i =>
    obtain ⟨ho, hki⟩ := (PH.findA_iff H.hg k i).1 e
    exact absurd hki (hn i (H.hg.ok.occ_lt ho))
theorem keys_form {p : PT} {k : V} (hk : okV k = false) : p.nextE k = 2 := by
  unfold PT.nextE; rw [if_pos hk]
end Go.Proofs.YteheolefemlcgaaGreat
