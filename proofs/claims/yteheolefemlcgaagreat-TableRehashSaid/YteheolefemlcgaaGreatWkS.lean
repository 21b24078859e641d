/- The walk in plain terms: a present key is set anew. -/
import Derived.Test.YteheolefemlcgaaGreatWkP
namespace Go.Proofs.YteheolefemlcgaaGreat
open Go.RowKit
set_option linter.unusedVariables false
set_option linter.unusedSimpArgs false

/-- A present key is set anew: the value at its place turns, nothing else. -/
theorem put_here {p : PT} (H : p.ok) {k v : V} (hk : okV k = true) (hv : okV v = true) (hk0 : k.k ≠ 0) (hg : (p.get k).k ≠ 0) :
    ∃ j : Nat, 1 ≤ j ∧ j ≤ p.tot ∧ (p.pair (j : Int)).1 = k ∧ p.full j ∧ (p.put k v).2.2 = 0 ∧ (p.put k v).1.sn = p.sn ∧ (p.put k v).1.h.n = p.h.n ∧ ∀ i : Nat, (p.put k v).1.pair (i : Int) = if i = j then (k, v) else p.pair (i : Int) := by
  by_cases hb : p.inB k
  · obtain ⟨e1, e2, e3, e4⟩ := id hb
    have hp : p.put k v = ({ p with sv := PH.upd p.sv (PT.ix k) v }, 0, 0) := PT.put_in hb
    have hj : (k.n.toNat : Int) = k.n := by omega
    have hix : PT.ix k = k.n.toNat - 1 := by unfold PT.ix; omega
    have hkey : (p.pair ((k.n.toNat : Nat) : Int)).1 = k := by rw [pair_lo (by omega) (by omega), hj]; exact (PT.inB_iV hb).symm
    refine ⟨k.n.toNat, by omega, by unfold PT.tot; omega, hkey, ?_, by rw [hp], by rw [hp], by rw [hp], fun i => ?_⟩
    · unfold PT.full
      rw [pair_lo (by omega) (by omega)]
      have : p.get k = p.sv (k.n.toNat - 1) := by unfold PT.get; rw [if_pos hb, hix]
      rw [← this]; exact hg
    · rw [hp]
      by_cases hi : 1 ≤ i ∧ i ≤ p.sn
      · rw [pair_lo (p := { p with sv := PH.upd p.sv (PT.ix k) v }) hi.1 hi.2]
        split
        · rename_i e
          subst e
          rw [hix]
          show (iV ((k.n.toNat : Nat) : Int), PH.upd p.sv (k.n.toNat - 1) v (k.n.toNat - 1)) = (k, v)
          rw [PH.upd_same, hj, ← PT.inB_iV hb]
        · rename_i e
          rw [pair_lo hi.1 hi.2, hix]
          show (iV (i : Int), PH.upd p.sv (k.n.toNat - 1) v (i - 1)) = _
          rw [PH.upd_other _ _ _ (by omega)]
      · rw [if_neg (by omega)]
        have h1 : ¬ (i : Int) ≤ ((p.sn : Nat) : Int) ∨ (i : Int) < 1 := by omega
        unfold PT.pair
        by_cases h0 : (i : Int) < 1
        · rw [if_pos h0, if_pos h0]
        · have h2 := h1.resolve_right h0
          rw [if_neg h0, if_neg h0, if_neg h2]
          exact (if_neg h2).symm
  · have hf : ∃ m, (p.h.findA k).1 = some m := by
      cases e : (p.h.findA k).1 with
      | some m => exact ⟨m, rfl⟩
      | none =>
        exfalso; apply hg
        unfold PT.get; rw [if_neg hb]; unfold PH.get; rw [e]; rfl
    obtain ⟨m, hm⟩ := hf
    obtain ⟨ho, hkm⟩ := (PH.findA_iff H.hg k m).1 hm
    have hlt := H.hg.ok.occ_lt ho
    have hput : p.h.put k v = (p.h.setVal m v, (p.h.findA k).2, 0) := by
      unfold PH.put
      rw [if_neg (by rw [hk, hv]; simp), if_neg hk0, hm]
    have hp : p.put k v = ({ p with h := p.h.setVal m v }, (p.h.findA k).2, 0) := by rw [PT.put_out hb, hput]
    have hgv : p.get k = p.h.val m := by unfold PT.get; rw [if_neg hb]; unfold PH.get; rw [hm]
    have e0 : p.sn + 1 + m - 1 - p.sn = m := by omega
    have e2 := pair_hi (p := p) (j := p.sn + 1 + m) (by omega) (by unfold PT.tot; omega)
    rw [e0] at e2
    refine ⟨p.sn + 1 + m, by omega, by unfold PT.tot; omega, by rw [e2]; exact hkm, by unfold PT.full; rw [e2, ← hgv]; exact hg, by rw [hp], by rw [hp], by rw [hp]; rfl, fun i => ?_⟩
    rw [hp]
    by_cases hi : p.sn < i ∧ i ≤ p.tot
    · have e3 := pair_hi (p := { p with h := p.h.setVal m v }) hi.1 hi.2
      rw [e3]
      split
      · rename_i e
        subst e
        show (p.h.key (p.sn + 1 + m - 1 - p.sn), PH.upd p.h.val m v (p.sn + 1 + m - 1 - p.sn)) = (k, v)
        rw [e0, PH.upd_same, hkm]
      · rename_i e
        rw [pair_hi hi.1 hi.2]
        show (p.h.key (i - 1 - p.sn), PH.upd p.h.val m v (i - 1 - p.sn)) = _
        rw [PH.upd_other _ _ _ (by omega)]
    · unfold PT.tot at hi
      rw [if_neg (by omega)]
      by_cases hs : 1 ≤ i ∧ i ≤ p.sn
      · rw [pair_lo hs.1 hs.2, pair_lo (p := { p with h := p.h.setVal m v }) hs.1 hs.2]
      · unfold PT.pair
        by_cases h0 : (i : Int) < 1
        · rw [if_pos h0, if_pos h0]
        · have h2 : ¬ (i : Int) ≤ ((p.sn : Nat) : Int) := by omega
          have h3 : ¬ ((i : Int) - 1 - ((p.sn : Nat) : Int) < ((p.h.n : Nat) : Int)) := by omega
          rw [if_neg h0, if_neg h0, if_neg h2, if_neg h3]
          exact (if_neg h3).trans (if_neg h2).symm
end Go.Proofs.YteheolefemlcgaaGreat
