/- The walk in plain terms: places whose values aren't Nil. -/
import Derived.Test.YteheolefemlcgaaGreatPlaB
namespace Go.Proofs.YteheolefemlcgaaGreat
open Go.RowKit
set_option linter.unusedVariables false
set_option linter.unusedSimpArgs false

/-- How many places there are. -/
def PT.tot (p : PT) : Nat := p.sn + p.h.n
/-- Does the place bear a value that isn't Nil? -/
def PT.full (p : PT) (j : Nat) : Prop := (p.pair (j : Int)).2.k ≠ 0
instance (p : PT) (j : Nat) : Decidable (p.full j) := inferInstanceAs (Decidable ((p.pair (j : Int)).2.k ≠ 0))
/-- The full ones of the first k places behind lo. -/
def PT.pos (p : PT) (lo k : Nat) : List Nat := ((List.range k).map fun j => lo + 1 + j).filter fun j => decide (p.full j)
theorem pos_mem {p : PT} {lo k j : Nat} : j ∈ p.pos lo k ↔ lo < j ∧ j ≤ lo + k ∧ p.full j := by
  unfold PT.pos
  rw [List.mem_filter, List.mem_map]
  simp only [List.mem_range, decide_eq_true_eq]
  constructor
  · rintro ⟨⟨i, hi, rfl⟩, hf⟩; exact ⟨by omega, by omega, hf⟩
  · rintro ⟨h1, h2, hf⟩; exact ⟨⟨j - lo - 1, by omega, by omega⟩, hf⟩
theorem pos_sorted (p : PT) (lo k : Nat) : (p.pos lo k).Pairwise (· < ·) := by
  unfold PT.pos
  refine List.Pairwise.filter _ ?_
  rw [List.pairwise_map]
  refine List.pairwise_lt_range.imp ?_
  intro a b h; omega
theorem pos_len (p : PT) (lo k : Nat) : (p.pos lo k).length ≤ k := by
  unfold PT.pos
  refine Nat.le_trans (List.length_filter_le _ _) ?_
  simp
theorem pos_yes (p : PT) (lo k : Nat) (h : p.full (lo + 1 + k)) : p.pos lo (k + 1) = p.pos lo k ++ [lo + 1 + k] := by
  unfold PT.pos
  rw [List.range_succ, List.map_append, List.filter_append]
  congr 1
  rw [List.map_singleton, List.filter_cons_of_pos (by simpa using h)]; rfl
theorem pos_no (p : PT) (lo k : Nat) (h : ¬ p.full (lo + 1 + k)) : p.pos lo (k + 1) = p.pos lo k := by
  unfold PT.pos
  rw [List.range_succ, List.map_append, List.filter_append, List.map_singleton, List.filter_cons_of_neg (by simpa using h)]
  exact List.append_nil _
/-- The first full place behind lo, nought: there is none. -/
def PT.nx (p : PT) (lo : Nat) : Nat := (p.pos lo (p.tot - lo)).headD 0
theorem nx_some {p : PT} {lo j : Nat} (h1 : lo < j) (h2 : j ≤ p.tot) (h3 : p.full j) (h4 : ∀ i, lo < i → i < j → ¬ p.full i) : p.nx lo = j := by
  have hm : j ∈ p.pos lo (p.tot - lo) := pos_mem.2 ⟨h1, by omega, h3⟩
  have hs := pos_sorted p lo (p.tot - lo)
  unfold PT.nx
  have hall : ∀ i ∈ p.pos lo (p.tot - lo), j ≤ i := fun i hi => by
    obtain ⟨a, b, c⟩ := pos_mem.1 hi
    exact Decidable.byContradiction fun h => h4 i a (by omega) c
  generalize p.pos lo (p.tot - lo) = l at hm hs hall ⊢
  cases l with
  | nil => simp at hm
  | cons x r =>
    show x = j
    rcases List.mem_cons.1 hm with h | h
    · exact h.symm
    · have := List.rel_of_pairwise_cons hs h
      have := hall x List.mem_cons_self
      omega
theorem nx_none {p : PT} {lo : Nat} (h : ∀ i, lo < i → i ≤ p.tot → ¬ p.full i) : p.nx lo = 0 := by
  unfold PT.nx
  cases e : p.pos lo (p.tot - lo) with
  | nil => rfl
  | cons x r =>
    obtain ⟨a, b, c⟩ := pos_mem.1 (show x ∈ p.pos lo (p.tot - lo) by rw [e]; exact List.mem_cons_self)
    exact absurd c (h x a (by by_cases hl : lo ≤ p.tot; · omega
                              · omega))
/-- What nx answers. -/
theorem nx_is (p : PT) (lo : Nat) : (p.nx lo = 0 ∧ ∀ i, lo < i → i ≤ p.tot → ¬ p.full i) ∨ (lo < p.nx lo ∧ p.nx lo ≤ p.tot ∧ p.full (p.nx lo) ∧ ∀ i, lo < i → i < p.nx lo → ¬ p.full i) := by
  have hs := pos_sorted p lo (p.tot - lo)
  unfold PT.nx
  cases e : p.pos lo (p.tot - lo) with
  | nil =>
    refine .inl ⟨rfl, fun i h1 h2 hf => ?_⟩
    have : i ∈ p.pos lo (p.tot - lo) := pos_mem.2 ⟨h1, by omega, hf⟩
    rw [e] at this; simp at this
  | cons x r =>
    obtain ⟨a, b, c⟩ := pos_mem.1 (show x ∈ p.pos lo (p.tot - lo) by rw [e]; exact List.mem_cons_self)
    refine .inr ⟨a, ?_, c, fun i h1 h2 hf => ?_⟩
    · show x ≤ p.tot
      omega
    · have h2' : i < x := h2
      have : i ∈ p.pos lo (p.tot - lo) := pos_mem.2 ⟨h1, by omega, hf⟩
      rw [e] at this hs
      rcases List.mem_cons.1 this with h | h
      · omega
      · have := List.rel_of_pairwise_cons hs h; omega
section
variable {p : PT}
theorem pair_lo {j : Nat} (h1 : 1 ≤ j) (h2 : j ≤ p.sn) : p.pair (j : Int) = (iV j, p.sv (j - 1)) := by
  unfold PT.pair
  rw [if_neg (by omega), if_pos (by omega), show ((j : Int) - 1).toNat = j - 1 by omega]
theorem pair_hi {j : Nat} (h1 : p.sn < j) (h2 : j ≤ p.tot) : p.pair (j : Int) = (p.h.key (j - 1 - p.sn), p.h.val (j - 1 - p.sn)) := by
  unfold PT.tot at h2
  unfold PT.pair
  rw [if_neg (by omega), if_neg (by omega), if_pos (by omega), show ((j : Int) - 1 - p.sn).toNat = j - 1 - p.sn by omega]
theorem pair_zero : p.pair ((0 : Nat) : Int) = (nilV, nilV) := by
  unfold PT.pair
  rw [if_pos (by omega)]
theorem pair_past {j : Nat} (h : p.tot < j) : p.pair (j : Int) = (nilV, nilV) := by
  unfold PT.tot at h
  unfold PT.pair
  rw [if_neg (by omega), if_neg (by omega), if_neg (by omega)]
theorem full_zero : ¬ p.full 0 := by unfold PT.full; rw [pair_zero]; simp [nilV]
theorem full_in {j : Nat} (h : p.full j) : 1 ≤ j ∧ j ≤ p.tot := by
  constructor
  · exact Decidable.byContradiction fun hn => full_zero (p := p) (by rwa [show j = 0 by omega] at h)
  · exact Decidable.byContradiction fun hn => h (by rw [pair_past (by omega)]; rfl)
/-- A full place in the nodes bears a key. -/
theorem full_occ (H : p.ok) {j : Nat} (h1 : p.sn < j) (h2 : j ≤ p.tot) (h : p.full j) : p.h.occ (j - 1 - p.sn) := by
  refine Decidable.byContradiction fun hn => h ?_
  rw [pair_hi h1 h2]
  show (p.h.val _).k = 0
  rw [(H.hg.ok.emp _ hn).2]; rfl
theorem okV_nilV : okV nilV = true := by simp [okV, nilV]
theorem inB_iVn {j : Nat} (h1 : 1 ≤ j) (h2 : j ≤ p.sn) : p.inB (iV j) := ⟨rfl, emp_toList, by show (1 : Int) ≤ j; omega, by show (j : Int) ≤ p.sn; omega⟩
theorem place_key (H : p.ok) {j : Nat} (h1 : 1 ≤ j) (h2 : j ≤ p.tot) (h3 : j ≤ p.sn ∨ p.h.occ (j - 1 - p.sn)) : p.place (p.pair (j : Int)).1 = j := by
  unfold PT.place
  by_cases hl : j ≤ p.sn
  · rw [pair_lo h1 hl, if_pos (inB_iVn h1 hl)]; rfl
  · have ho := h3.resolve_left hl
    rw [pair_hi (by omega) h2, if_neg (H.off _ ho), (PH.findA_iff H.hg _ _).2 ⟨ho, rfl⟩]
    show (p.sn : Int) + 1 + ((j - 1 - p.sn : Nat) : Int) = j
    omega
theorem place_full (H : p.ok) {j : Nat} (h : p.full j) : p.place (p.pair (j : Int)).1 = j := by
  obtain ⟨h1, h2⟩ := full_in h
  refine place_key H h1 h2 ?_
  by_cases hl : j ≤ p.sn
  · exact .inl hl
  · exact .inr (full_occ H (by omega) h2 h)
theorem get_full (H : p.ok) {j : Nat} (h : p.full j) : p.get (p.pair (j : Int)).1 = (p.pair (j : Int)).2 := by
  obtain ⟨h1, h2⟩ := full_in h
  unfold PT.get
  by_cases hl : j ≤ p.sn
  · rw [pair_lo h1 hl, if_pos (inB_iVn h1 hl)]
    show p.sv (((j : Int) - 1).toNat) = p.sv (j - 1)
    congr 1; omega
  · have ho := full_occ H (by omega) h2 h
    rw [pair_hi (by omega) h2, if_neg (H.off _ ho)]
    exact PH.get_at H.hg _ ho
theorem key_full (H : p.ok) {j : Nat} (h : p.full j) : (p.pair (j : Int)).1.k ≠ 0 ∧ okV (p.pair (j : Int)).1 = true ∧ In64 (p.pair (j : Int)).1.n := by
  obtain ⟨h1, h2⟩ := full_in h
  by_cases hl : j ≤ p.sn
  · rw [pair_lo h1 hl]
    have := H.sz
    exact ⟨by show (2 : Int) ≠ 0; decide, PT.inB_ok (inB_iVn h1 hl), by show In64 (j : Int); unfold In64; omega⟩
  · have ho := full_occ H (by omega) h2 h
    rw [pair_hi (by omega) h2]
    exact ⟨ho, H.hg.ok.form _, H.kin _⟩
theorem val_ok (H : p.ok) (j : Nat) : okV (p.pair (j : Int)).2 = true := by
  unfold PT.pair
  split
  · exact okV_nilV
  · split
    · exact H.sf _
    · split
      · exact H.vf _
      · exact okV_nilV
theorem key_ok (H : p.ok) (j : Nat) : okV (p.pair (j : Int)).1 = true := by
  by_cases h1 : 1 ≤ j
  · by_cases hl : j ≤ p.sn
    · rw [pair_lo h1 hl]; exact PT.inB_ok (inB_iVn h1 hl)
    · by_cases h2 : j ≤ p.tot
      · rw [pair_hi (by omega) h2]; exact H.hg.ok.form _
      · rw [pair_past (by omega)]; exact okV_nilV
  · rw [show j = 0 by omega, pair_zero]; exact okV_nilV
/-- The place of a key that is found. -/
theorem place_is (H : p.ok) (k : V) : (p.place k = 0 ∧ p.get k = nilV) ∨ ∃ j : Nat, 1 ≤ j ∧ j ≤ p.tot ∧ p.place k = j ∧ (p.pair (j : Int)).1 = k ∧ p.get k = (p.pair (j : Int)).2 ∧ (j ≤ p.sn ∨ p.h.occ (j - 1 - p.sn)) := by
  unfold PT.place PT.get
  by_cases hb : p.inB k
  · rw [if_pos hb, if_pos hb]
    obtain ⟨e1, e2, e3, e4⟩ := id hb
    refine .inr ⟨k.n.toNat, by omega, by unfold PT.tot; omega, by omega, ?_, ?_, .inl (by omega)⟩
    · rw [pair_lo (by omega) (by omega), show ((k.n.toNat : Nat) : Int) = k.n by omega]
      exact (PT.inB_iV hb).symm
    · rw [pair_lo (by omega) (by omega)]
      show p.sv ((k.n - 1).toNat) = p.sv (k.n.toNat - 1)
      congr 1; omega
  · rw [if_neg hb, if_neg hb]
    cases e : (p.h.findA k).1 with
    | none => exact .inl ⟨rfl, by unfold PH.get; rw [e]⟩
    | some i =>
      obtain ⟨ho, hk⟩ := (PH.findA_iff H.hg k i).1 e
      have hi := H.hg.ok.occ_lt ho
      have e1 : p.sn + 1 + i - 1 - p.sn = i := by omega
      have e2 := pair_hi (p := p) (j := p.sn + 1 + i) (by omega) (by unfold PT.tot; omega)
      rw [e1] at e2
      refine .inr ⟨p.sn + 1 + i, by omega, by unfold PT.tot; omega, by show (p.sn : Int) + 1 + i = _; omega, by rw [e2]; exact hk, by rw [e2]; unfold PH.get; rw [e], .inr (by rw [e1]; exact ho)⟩
end
/-- What Next answers. -/
def PT.nextE (p : PT) (k : V) : Int := if okV k = false then 2 else if k.k ≠ 0 ∧ p.place k = 0 then 9 else 0
def PT.nextP (p : PT) (k : V) : V × V := if p.nextE k ≠ 0 then (nilV, nilV) else p.pair ((p.nx (if k.k = 0 then 0 else (p.place k).toNat) : Nat) : Int)
/-- All pairs, in their order. -/
def PT.prs (p : PT) : List (V × V) := (p.pos 0 p.tot).map fun j => p.pair ((j : Nat) : Int)
/-- How many there are. -/
def PT.cnt (p : PT) : Nat := (p.pos 0 p.tot).length
/-- The i-th full place. -/
def PT.at_ (p : PT) (i : Nat) : Nat := (p.pos 0 p.tot).getD i 0
/-- The full place ahead of the i-th. -/
def PT.ahead (p : PT) (i : Nat) : Nat := if i = 0 then 0 else p.at_ (i - 1)
section
variable {p : PT}
theorem prs_len : p.prs.length = p.cnt := by unfold PT.prs PT.cnt; rw [List.length_map]
theorem prs_at (i : Nat) (h : i < p.cnt) : p.prs.getD i (nilV, nilV) = p.pair ((p.at_ i : Nat) : Int) := by
  unfold PT.cnt at h
  unfold PT.prs PT.at_
  rw [List.getD_eq_getElem?_getD, List.getElem?_map, List.getElem?_eq_getElem h, List.getD_eq_getElem?_getD, List.getElem?_eq_getElem h]; rfl
theorem at_mem (i : Nat) (h : i < p.cnt) : p.at_ i ∈ p.pos 0 p.tot := by
  unfold PT.cnt at h
  unfold PT.at_
  rw [List.getD_eq_getElem?_getD, List.getElem?_eq_getElem h]
  exact List.getElem_mem h
theorem at_full (i : Nat) (h : i < p.cnt) : 1 ≤ p.at_ i ∧ p.at_ i ≤ p.tot ∧ p.full (p.at_ i) := by
  obtain ⟨a, b, c⟩ := pos_mem.1 (at_mem i h)
  exact ⟨by omega, by omega, c⟩
theorem at_lt (i j : Nat) (hij : i < j) (h : j < p.cnt) : p.at_ i < p.at_ j := by
  have hs := pos_sorted p 0 p.tot
  unfold PT.cnt at h
  rw [List.pairwise_iff_getElem] at hs
  have := hs i j (by omega) h hij
  unfold PT.at_
  rw [List.getD_eq_getElem?_getD, List.getElem?_eq_getElem (by omega), List.getD_eq_getElem?_getD, List.getElem?_eq_getElem h]
  exact this
theorem at_of (j : Nat) (h : p.full j) : ∃ i, i < p.cnt ∧ p.at_ i = j := by
  obtain ⟨h1, h2⟩ := full_in h
  have hm : j ∈ p.pos 0 p.tot := pos_mem.2 ⟨by omega, by omega, h⟩
  obtain ⟨i, hi, e⟩ := List.mem_iff_getElem.1 hm
  refine ⟨i, hi, ?_⟩
  unfold PT.at_
  rw [List.getD_eq_getElem?_getD, List.getElem?_eq_getElem hi]
  exact e
theorem ahead_lt (i : Nat) (h : i < p.cnt) : p.ahead i < p.at_ i := by
  unfold PT.ahead
  split
  · have := (at_full i h).1; omega
  · exact at_lt _ _ (by omega) h
theorem ahead_succ (i : Nat) : p.ahead (i + 1) = p.at_ i := by unfold PT.ahead; rw [if_neg (by omega)]; rfl
theorem ahead_next (i m : Nat) (hm : m < p.cnt) (h : p.ahead i < p.at_ m) (hi : i ≤ p.cnt) : i ≤ m := by
  refine Decidable.byContradiction fun hn => ?_
  unfold PT.ahead at h
  rw [if_neg (by omega)] at h
  by_cases e : m = i - 1
  · rw [e] at h; omega
  · have := at_lt (p := p) m (i - 1) (by omega) (by omega); omega
theorem nx_at (i : Nat) (h : i < p.cnt) : p.nx (p.ahead i) = p.at_ i := by
  obtain ⟨h1, h2, h3⟩ := at_full i h
  refine nx_some (ahead_lt i h) h2 h3 (fun j a b hf => ?_)
  obtain ⟨m, hm, rfl⟩ := at_of j hf
  have := ahead_next i m hm a (by omega)
  by_cases e : m = i
  · rw [e] at b; omega
  · have := at_lt (p := p) i m (by omega) hm; omega
theorem nx_end : p.nx (p.ahead p.cnt) = 0 := nx_none fun j a _ hf => by
  obtain ⟨m, hm, rfl⟩ := at_of j hf
  have := ahead_next p.cnt m hm a (by omega)
  omega
/-- The key ahead of the i-th full place (nil ahead of the first). -/
theorem ahead_key (H : p.ok) (i : Nat) (h : i ≤ p.cnt) : (i = 0 ∧ (p.pair ((p.ahead i : Nat) : Int)).1 = nilV) ∨ (0 < i ∧ p.full (p.ahead i)) := by
  by_cases e : i = 0
  · left; refine ⟨e, ?_⟩
    rw [e]
    show (p.pair (((0 : Nat)) : Int)).1 = nilV
    rw [pair_zero]
  · right
    refine ⟨by omega, ?_⟩
    unfold PT.ahead
    rw [if_neg e]
    exact (at_full (i - 1) (by omega)).2.2
/-- A place that bears a key. -/
def PT.keyed (p : PT) (j : Nat) : Prop := 1 ≤ j ∧ j ≤ p.tot ∧ (p.pair (j : Int)).1.k ≠ 0
theorem keyed_full (H : p.ok) {j : Nat} (h : p.full j) : p.keyed j := by
  obtain ⟨h1, h2⟩ := full_in h
  exact ⟨h1, h2, (key_full H h).1⟩
theorem place_keyed (H : p.ok) {j : Nat} (h : p.keyed j) : p.place (p.pair (j : Int)).1 = j := by
  obtain ⟨h1, h2, h3⟩ := h
  refine place_key H h1 h2 ?_
  by_cases hl : j ≤ p.sn
  · exact .inl hl
  · right
    rw [pair_hi (by omega) h2] at h3
    exact fun e => h3 (by first | exact e | (rw [e]; rfl))
/-- Next of the key at a place, or of Nil. -/
theorem next_key (H : p.ok) {lo : Nat} (h : lo = 0 ∨ p.keyed lo) : p.nextE (p.pair (lo : Int)).1 = 0 ∧ p.nextP (p.pair (lo : Int)).1 = p.pair ((p.nx lo : Nat) : Int) := by
  have hE : p.nextE (p.pair (lo : Int)).1 = 0 := by
    unfold PT.nextE
    rw [if_neg (by rw [key_ok H lo]; simp)]
    rcases h with rfl | h
    · rw [pair_zero, if_neg (by simp [nilV])]
    · rw [if_neg (by rw [place_keyed H h]; have := h.1; omega)]
  refine ⟨hE, ?_⟩
  unfold PT.nextP
  rw [if_neg (by rw [hE]; simp)]
  rcases h with rfl | h
  · rw [pair_zero, if_pos (by rfl)]
  · rw [if_neg h.2.2, place_keyed H h]; rfl
end
end Go.Proofs.YteheolefemlcgaaGreat
