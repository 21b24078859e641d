/- The sizes behind a rehash in plain terms: what the law's fits asks for. -/
import Derived.Test.YteheolefemlcgaaGreatWkV
import Derived.Test.YteheolefemlcgaaGreatSetF
namespace Go.Proofs.YteheolefemlcgaaGreat
open Go.RowKit
set_option linter.unusedVariables false
set_option linter.unusedSimpArgs false

/-- How many of the keys are whole numbers from 1 to n. -/
def cntK (l : List V) (n : Int) : Nat := (l.filter fun k => decide (k.k = 2 ∧ 1 ≤ k.n ∧ k.n ≤ n)).length
theorem cntK_le (l : List V) (n : Int) : cntK l n ≤ l.length := List.length_filter_le _ _
/-- The sizes that fit the keys. -/
structure FIT (a h : Nat) (l : List V) : Prop where
  pw : a = 0 ∨ ∃ e, e ≤ 16 ∧ a = 2 ^ e
  de : 0 < a → a < 2 * cntK l a
  gr : ∀ j, j ≤ 16 → a < 2 ^ j → 2 * cntK l ((2 ^ j : Nat) : Int) ≤ 2 ^ j
  rs : (l.length = cntK l a ∧ h = 0) ∨ (cntK l a < l.length ∧ (∃ e, e ≤ 16 ∧ h = 2 ^ e) ∧ l.length - cntK l a ≤ h ∧ (h = 1 ∨ h / 2 < l.length - cntK l a))
/-- Lists of the same members, each once: as many of each sort. -/
theorem same_len {l m : List V} (hl : l.Nodup) (hm : m.Nodup) (h : ∀ x, x ∈ l ↔ x ∈ m) (f : V → Bool) : (l.filter f).length = (m.filter f).length := by
  have h1 := List.Nodup.length_le_of_subset (hl.filter f) (l₂ := m.filter f) (fun x hx => by
    obtain ⟨a, b⟩ := List.mem_filter.1 hx
    exact List.mem_filter.2 ⟨(h x).1 a, b⟩)
  have h2 := List.Nodup.length_le_of_subset (hm.filter f) (l₂ := l.filter f) (fun x hx => by
    obtain ⟨a, b⟩ := List.mem_filter.1 hx
    exact List.mem_filter.2 ⟨(h x).2 a, b⟩)
  omega
/-- The present keys in the order of the places. -/
def PT.kys (p : PT) : List V := (p.pos 0 p.tot).map fun j : Nat => (p.pair (j : Int)).1
namespace PT
variable {p : PT}
theorem kys_mem (H : p.ok) {k : V} : k ∈ p.kys ↔ (p.get k).k ≠ 0 := by
  unfold kys
  constructor
  · intro h
    obtain ⟨j, hj, rfl⟩ := List.mem_map.1 h
    have hf := (pos_mem.1 hj).2.2
    rw [get_full H hf]
    exact hf
  · intro h
    obtain ⟨j, hf, e⟩ := get_place H h
    obtain ⟨h1, h2⟩ := full_in hf
    exact List.mem_map.2 ⟨j, pos_mem.2 ⟨by omega, by omega, hf⟩, e⟩
theorem kys_nodup (H : p.ok) : p.kys.Nodup := by
  unfold kys
  rw [List.nodup_iff_pairwise_ne, List.pairwise_map]
  refine List.Pairwise.imp_of_mem ?_ (pos_sorted p 0 p.tot)
  intro a b ha hb hab e
  have := key_inj H (pos_mem.1 ha).2.2 (pos_mem.1 hb).2.2 e
  omega
/-- What lies in slots, what lies in nodes. -/
def held2 (p : PT) : List V := p.slI.map iV ++ p.ndL.map p.h.key
theorem slI_in {x : Int} : x ∈ p.slI ↔ ∃ i : Nat, i < p.sn ∧ (p.sv i).k ≠ 0 ∧ x = (i : Int) + 1 := by
  unfold slI
  constructor
  · intro hx
    obtain ⟨i, hi, rfl⟩ := List.mem_map.1 hx
    obtain ⟨h1, h2⟩ := List.mem_filter.1 hi
    exact ⟨i, List.mem_range.1 h1, by simpa using h2, rfl⟩
  · rintro ⟨i, h1, h2, rfl⟩
    exact List.mem_map.2 ⟨i, List.mem_filter.2 ⟨List.mem_range.2 h1, by simpa using h2⟩, rfl⟩
theorem slot_in {i : Nat} (hi : i < p.sn) : p.inB (iV ((i : Int) + 1)) := ⟨rfl, emp_toList, by show (1 : Int) ≤ (i : Int) + 1; omega, by show (i : Int) + 1 ≤ p.sn; omega⟩
theorem ix_iV (i : Nat) : ix (iV ((i : Int) + 1)) = i := by show ((i : Int) + 1 - 1).toNat = i; omega
theorem held2_nodup (H : p.ok) : p.held2.Nodup := by
  unfold held2
  rw [List.nodup_append]
  refine ⟨?_, ?_, ?_⟩
  · unfold slI
    rw [List.map_map, List.nodup_iff_pairwise_ne, List.pairwise_map]
    refine List.Pairwise.imp ?_ (List.nodup_iff_pairwise_ne.1 (List.nodup_range.filter _))
    intro a b hab e
    exact hab (by have h2 : ((a : Nat) : Int) + 1 = ((b : Nat) : Int) + 1 := iV_inj e; omega)
  · rw [List.nodup_iff_pairwise_ne, List.pairwise_map]
    refine List.Pairwise.imp_of_mem ?_ (List.nodup_iff_pairwise_ne.1 (List.nodup_range.filter _))
    intro a b ha hb hab e
    exact hab (H.hg.ok.dist a b (ndL_occ H ha) (ndL_occ H hb) e)
  · intro a ha b hb e
    subst e
    obtain ⟨x, hx, rfl⟩ := List.mem_map.1 ha
    obtain ⟨q, hq, e2⟩ := List.mem_map.1 hb
    obtain ⟨i, h1, -, rfl⟩ := slI_in.1 hx
    exact H.off q (ndL_occ H hq) (by rw [e2]; exact slot_in h1)
theorem held2_mem (H : p.ok) {k : V} : k ∈ p.held2 ↔ (p.get k).k ≠ 0 := by
  unfold held2
  rw [List.mem_append]
  constructor
  · rintro (h | h)
    · obtain ⟨x, hx, rfl⟩ := List.mem_map.1 h
      obtain ⟨i, h1, h2, rfl⟩ := slI_in.1 hx
      rw [get_in (slot_in h1), ix_iV]
      exact h2
    · obtain ⟨q, hq, rfl⟩ := List.mem_map.1 h
      rw [get_out (H.off q (ndL_occ H hq)), PH.get_at H.hg q (ndL_occ H hq)]
      exact (ndL_mem.1 hq).2
  · intro h
    by_cases hb : p.inB k
    · rw [get_in hb] at h
      left
      obtain ⟨e1, e2, e3, e4⟩ := id hb
      exact List.mem_map.2 ⟨k.n, slI_in.2 ⟨ix k, by unfold ix; omega, h, by unfold ix; omega⟩, (inB_iV hb).symm⟩
    · rw [get_out hb] at h
      right
      cases e : (p.h.findA k).1 with
      | none =>
        exfalso; apply h
        unfold PH.get; rw [e]; rfl
      | some m =>
        obtain ⟨ho, hkm⟩ := (PH.findA_iff H.hg k m).1 e
        have hv : p.h.get k = p.h.val m := by unfold PH.get; rw [e]
        rw [hv] at h
        exact List.mem_map.2 ⟨m, ndL_mem.2 ⟨H.hg.ok.occ_lt ho, h⟩, hkm⟩
/-- The census's numbers, by the keys. -/
theorem held2_cnt (k : V) (n : Int) : ((cntK (k :: p.held2) n : Nat) : Int) = Cs.within (p.ints k) n := by
  unfold cntK held2 Cs.within ints
  have e1 : ((p.slI.map iV).filter fun k => decide (k.k = 2 ∧ 1 ≤ k.n ∧ k.n ≤ n)).length = (p.slI.filter fun x => decide (1 ≤ x ∧ x ≤ n)).length := by
    rw [length_map_filter]
    congr 1
    apply List.filter_congr
    intro x _
    show decide ((2 : Int) = 2 ∧ 1 ≤ x ∧ x ≤ n) = _
    simp
  have e2 : ((p.ndL.map p.h.key).filter fun k => decide (k.k = 2 ∧ 1 ≤ k.n ∧ k.n ≤ n)).length = (p.ndI.filter fun x => decide (1 ≤ x ∧ x ≤ n)).length := by
    unfold ndI
    rw [length_map_filter, length_map_filter, List.filter_filter]
    congr 1
    apply List.filter_congr
    intro x _
    rw [← Bool.decide_and]
    congr 1
    exact propext ⟨fun h => ⟨h.2, h.1⟩, fun h => ⟨h.2, h.1⟩⟩
  rw [List.filter_append, List.length_append, List.filter_append, List.length_append, ← e1, ← e2, List.filter_cons]
  by_cases h2 : k.k = 2
  · rw [if_pos h2]
    by_cases h3 : 1 ≤ k.n ∧ k.n ≤ n
    · rw [if_pos (by simpa using ⟨h2, h3⟩), List.filter_cons_of_pos (by simpa using h3)]
      simp only [List.length_cons, List.filter_append, List.length_append, List.filter_nil, List.length_nil]
    · rw [if_neg (by simp only [decide_eq_true_eq]; exact fun h => h3 h.2), List.filter_cons_of_neg (by simp only [decide_eq_true_eq]; exact h3)]
      simp only [List.filter_append, List.length_append, List.filter_nil, List.length_nil]
      omega
  · rw [if_neg h2, if_neg (by simp only [decide_eq_true_eq]; exact fun h => h2 h.1)]
    simp only [List.filter_append, List.length_append, List.filter_nil, List.length_nil]
    omega
theorem held2_len (k : V) : (((k :: p.held2).length : Nat) : Int) = (p.ints k).length + p.oth k := by
  have := ints_oth (p := p) k
  unfold held2
  simp only [List.length_cons, List.length_append, List.length_map]
  omega
/-- What a rehash comes to fits the keys. -/
theorem fit_re (H : p.ok) {k : V} (hk : okV k = true) (hb : ¬ p.inB k) (hn : ∀ i, p.h.occ i → p.h.key i ≠ k) (he : p.reE k = 0) : FIT (p.reA k) (p.reN k) (k :: p.held2) := by
  have hl := ints_length H k
  have ho := oth_range H k
  obtain ⟨-, hR⟩ := re_is H hk hb hn
  obtain ⟨-, -, r3, r4, r5, r6, r7, r8⟩ := hR he
  have hc := fun n => held2_cnt (p := p) k n
  have hL := held2_len (p := p) k
  have hbw := beyond_within (p.ints k) (p.reA k)
  have hcA := hc (p.reA k)
  have e2 : ∀ j : Nat, ((2 : Int) ^ j) = ((2 ^ j : Nat) : Int) := fun j => by simp
  refine ⟨?_, ?_, ?_, ?_⟩
  · rcases Cs.choose_dense (p.ints k) (by omega) with ⟨a, -⟩ | ⟨i, hi, a, -⟩
    · left; omega
    · right
      rw [a, e2] at r3
      exact ⟨i, hi, by omega⟩
  · intro h0
    rcases Cs.choose_dense (p.ints k) (by omega) with ⟨a, -⟩ | ⟨i, hi, a, -, c, -⟩
    · omega
    · rw [a] at r3
      rw [← r3] at c
      omega
  · intro j hj hlt
    have h3 := hc ((2 ^ j : Nat) : Int)
    have h4 : 2 * Cs.within (p.ints k) (2 ^ j) ≤ 2 ^ j := by
      rcases Cs.choose_dense (p.ints k) (by omega) with ⟨a, -, c⟩ | ⟨i, hi, a, -, -, c⟩
      · exact c j hj
      · refine c j ?_ hj
        rw [a, e2] at r3
        apply Decidable.byContradiction
        intro hij
        have : (2 : Nat) ^ j ≤ 2 ^ i := Nat.pow_le_pow_right (by omega) (by omega)
        omega
    rw [e2] at h4
    omega
  · have hcle := cntK_le (k :: p.held2) (p.reA k)
    by_cases e : (beyond (p.ints k) (p.reA k) : Int) + p.oth k = 0
    · left
      rw [e] at r7
      have : Ws.ceil2 0 = 0 := by decide
      omega
    · right
      obtain ⟨j, -, -, g2, -, -, g6, -⟩ := Ws.ceil2_k ((beyond (p.ints k) (p.reA k) : Int) + p.oth k) (by omega) (by omega)
      rw [g2] at r7
      rw [e2] at g6 r7
      have hpw : ∃ e, e ≤ 16 ∧ p.reN k = 2 ^ e := by
        rcases r6 with h | h
        · omega
        · exact h
      refine ⟨by omega, hpw, by omega, ?_⟩
      have h7 : p.reN k = 2 ^ j := by omega
      rw [← h7] at g6
      rw [show (((p.reN k : Nat) : Int)).tdiv 2 = ((p.reN k / 2 : Nat) : Int) by rw [Int.tdiv_eq_ediv_of_nonneg (by omega)]; omega] at g6
      omega
/-- Full, and a new key: there is no room. -/
theorem full_no (H : p.ok) {k v : V} (hk : okV k = true) (hv : okV v = true) (hk0 : k.k ≠ 0) (hv0 : v.k ≠ 0) (hb : ¬ p.inB k) (hn : ∀ i, p.h.occ i → p.h.key i ≠ k) (hall : ∀ i, i < p.h.n → p.h.occ i) : (p.put k v).2.2 = 12 := by
  rw [put_out hb]
  show (p.h.put k v).2.2 = 12
  unfold PH.put
  rw [if_neg (by rw [hk, hv]; simp), if_neg hk0, (PH.findA_none H.hg k).2 hn]
  show (if v.k = 0 then (p.h, (p.h.findA k).2, (0 : Int)) else ((p.h.ins k v).1, (p.h.findA k).2, (p.h.ins k v).2)).2.2 = 12
  rw [if_neg hv0]
  obtain ⟨-, -, h | ⟨-, ⟨f, hf, hfo⟩, -⟩⟩ := PH.ins_is (v := v) H.hg hk hk0 hn
  · exact h.1
  · exact absurd (hall f hf) hfo
theorem place_no (H : p.ok) {k : V} : p.place k = 0 ↔ ¬ p.inB k ∧ ∀ i, p.h.occ i → p.h.key i ≠ k := by
  unfold place
  by_cases hb : p.inB k
  · rw [if_pos hb]
    have := hb.2.2.1
    exact ⟨fun h => by omega, fun h => absurd hb h.1⟩
  · rw [if_neg hb, ← PH.findA_none H.hg k]
    cases e : (p.h.findA k).1 with
    | none => exact ⟨fun _ => ⟨hb, rfl⟩, fun _ => rfl⟩
    | some i => exact ⟨fun h => by have h2 : (p.sn : Int) + 1 + i = 0 := h; omega, fun h => by simp at h⟩
end PT
theorem place_nonneg (p : PT) (k : V) : 0 ≤ p.place k := by
  unfold PT.place
  by_cases hb : p.inB k
  · rw [if_pos hb]; have := hb.2.2.1; omega
  · rw [if_neg hb]
    cases (p.h.findA k).1 with
    | none => exact Int.le_refl _
    | some i => show (0 : Int) ≤ (p.sn : Int) + 1 + i; omega
/-- Do all nodes hold keys? -/
def PT.fullB (p : PT) : Prop := ∀ i, i < p.h.n → p.h.occ i
/-- What a Set comes to: a rehash that goes through, the sizes fit; or the sizes are as they were. -/
theorem set_sizes {t : Tbl} {hs : HS} (H : t.p.ok) {k v : V} (h64 : In64 k.n) :
    ((t.set hs k v).2.2 = 0 ∧ (okV k = true ∧ okV v = true ∧ k.k ≠ 0 ∧ v.k ≠ 0 ∧ t.p.fullB ∧ t.p.place k = 0) ∧ FIT (t.set hs k v).1.p.sn (t.set hs k v).1.p.h.n (t.set hs k v).1.p.kys ∧ (t.set hs k v).1.hint = 0)
    ∨ (((t.set hs k v).2.2 ≠ 0 ∨ ¬ (okV k = true ∧ okV v = true ∧ k.k ≠ 0 ∧ v.k ≠ 0 ∧ t.p.fullB ∧ t.p.place k = 0)) ∧ (t.set hs k v).1.p.sn = t.p.sn ∧ (t.set hs k v).1.p.h.n = t.p.h.n ∧ (t.set hs k v).1.hint = t.hint) := by
  by_cases h1 : okV k = false ∨ okV v = false
  · have e : t.set hs k v = (t, hs, 2) := by unfold Tbl.set; rw [if_pos h1]
    rw [e]
    exact .inr ⟨.inl (show (2 : Int) ≠ 0 by decide), rfl, rfl, rfl⟩
  · have hk : okV k = true := by cases e : okV k; exact absurd (.inl e) h1; rfl
    have hv : okV v = true := by cases e : okV v; exact absurd (.inr e) h1; rfl
    by_cases hk0 : k.k = 0
    · have e := PT.put_nil (p := t.p) hk hv hk0
      have eS : t.set hs k v = (t.tried k v, hs, 9) := by unfold Tbl.set; rw [if_neg h1, if_pos (by rw [e]; exact (show (9 : Int) ≠ 12 by decide)), e]
      rw [eS]
      refine .inr ⟨.inl (show (9 : Int) ≠ 0 by decide), ?_⟩
      unfold Tbl.tried
      rw [e]
      exact ⟨rfl, rfl, rfl⟩
    · obtain ⟨o1, o2, o3, o4, o5, -, o6⟩ := PT.put_is H (v := v) hk hv hk0 h64
      rcases o6 with ⟨e, hb, hall, hnew, hv0, esv, ek, ev, ec, eg⟩ | ⟨e, -, -⟩
      · obtain ⟨tr, htr⟩ : ∃ tr, t.tried k v = tr := ⟨_, rfl⟩
        have hp : tr.p = (t.p.put k v).1 := by rw [← htr]; rfl
        have hb' : ¬ tr.p.inB k := fun h => hb ((PT.inB_sn (by rw [hp]; exact o2) k).1 h)
        have hnew' : ∀ i, tr.p.h.occ i → tr.p.h.key i ≠ k := fun i hi => by
          have e2 : tr.p.h.key = t.p.h.key := by rw [hp]; exact ek
          unfold PH.occ at hi
          rw [e2] at hi ⊢
          exact hnew i hi
        have hok : tr.p.ok := by rw [hp]; exact o1
        have hpl : t.p.place k = 0 := (PT.place_no H).2 ⟨hb, hnew⟩
        have hsn : tr.p.sn = t.p.sn := by rw [hp]; exact o2
        have hnn : tr.p.h.n = t.p.h.n := by rw [hp]; exact o5
        have hth : tr.hint = t.hint := by rw [← htr]; rfl
        have eS : t.set hs k v = if (tr.reh hs k).2.2 ≠ 0 then tr.reh hs k else ({ (tr.reh hs k).1 with p := ((tr.reh hs k).1.p.put k v).1 }, (tr.reh hs k).2.1, ((tr.reh hs k).1.p.put k v).2.2) := by
          unfold Tbl.set
          rw [if_neg h1, if_neg (by rw [e]; decide), htr]
        by_cases he : tr.p.reE k = 0
        · by_cases hl : layE hs (tr.p.reA k) (tr.p.reN k) = 0
          · left
            have eR : tr.reh hs k = ({ p := tr.p.laid k (layA hs (tr.p.reA k)) (layN hs (tr.p.reA k) (tr.p.reN k)), hint := 0, pr := tr.pr }, ((layH hs (tr.p.reA k) (tr.p.reN k)).give tr.p.sAt).give tr.p.nAt, 0) := by
              unfold Tbl.reh
              rw [if_neg (by simpa using he), if_neg (by simpa using hl)]
            obtain ⟨q1, q2, -, -, q5, q6, q7⟩ := PT.laid_is hok hk hk0 h64 hb' hnew' he (layA hs (tr.p.reA k)) (layN hs (tr.p.reA k) (tr.p.reN k))
            obtain ⟨pl, hpl2⟩ : ∃ pl, tr.p.laid k (layA hs (tr.p.reA k)) (layN hs (tr.p.reA k) (tr.p.reN k)) = pl := ⟨_, rfl⟩
            rw [hpl2] at eR q1 q2 q5 q6 q7
            obtain ⟨u1, u2, -, -, u5, -, u6⟩ := PT.put_is q1 (v := v) hk hv hk0 h64
            have eS2 : t.set hs k v = ({ p := (pl.put k v).1, hint := 0, pr := tr.pr }, ((layH hs (tr.p.reA k) (tr.p.reN k)).give tr.p.sAt).give tr.p.nAt, (pl.put k v).2.2) := by
              rw [eS, if_neg (by rw [eR]; simp), eR]
            rw [eS2]
            refine ⟨q7 v hv, ⟨hk, hv, hk0, hv0, hall, hpl⟩, ?_, rfl⟩
            have hF := PT.fit_re hok hk hb' hnew' he
            show FIT (pl.put k v).1.sn (pl.put k v).1.h.n (pl.put k v).1.kys
            rw [u2, u5, q2, q5]
            have hget : ∀ k', (pl.put k v).1.get k' = if k' = k then v else tr.p.get k' := by
              rcases u6 with ⟨r7, -⟩ | ⟨-, r8, -⟩
              · rw [q7 v hv] at r7; simp at r7
              · intro k'; rw [r8, q6]
            have hk2 : (tr.p.get k).k = 0 := by
              rcases place_is hok k with ⟨-, h⟩ | ⟨j, j1, -, j3, -⟩
              · rw [h]; rfl
              · have := (PT.place_no hok).2 ⟨hb', hnew'⟩
                omega
            have hsame : ∀ f : V → Bool, ((pl.put k v).1.kys.filter f).length = ((k :: tr.p.held2).filter f).length := fun f => by
              refine same_len (PT.kys_nodup u1) (List.nodup_cons.2 ⟨fun h => (PT.held2_mem hok).1 h hk2, PT.held2_nodup hok⟩) (fun x => ?_) f
              rw [PT.kys_mem u1, hget, List.mem_cons, PT.held2_mem hok]
              by_cases ex : x = k
              · rw [if_pos ex]; exact ⟨fun _ => .inl ex, fun _ => hv0⟩
              · rw [if_neg ex]; exact ⟨fun h => .inr h, fun h => h.resolve_left ex⟩
            have hlen : (pl.put k v).1.kys.length = (k :: tr.p.held2).length := by
              have := hsame fun _ => true
              have hft : ∀ L : List V, L.filter (fun _ => true) = L := fun L => by simp
              rw [hft, hft] at this
              exact this
            have hcn : ∀ n, cntK (pl.put k v).1.kys n = cntK (k :: tr.p.held2) n := fun n => hsame _
            exact ⟨hF.pw, by rw [hcn]; exact hF.de, fun j hj hlt => by rw [hcn]; exact hF.gr j hj hlt, by rw [hcn, hlen]; exact hF.rs⟩
          · have eR : tr.reh hs k = (tr, layH hs (tr.p.reA k) (tr.p.reN k), layE hs (tr.p.reA k) (tr.p.reN k)) := by
              unfold Tbl.reh
              rw [if_neg (by simpa using he), if_pos hl]
            have eS2 : t.set hs k v = (tr, layH hs (tr.p.reA k) (tr.p.reN k), layE hs (tr.p.reA k) (tr.p.reN k)) := by rw [eS, if_pos (by rw [eR]; exact hl), eR]
            rw [eS2]
            exact .inr ⟨.inl hl, hsn, hnn, hth⟩
        · have eR : tr.reh hs k = (tr, hs, tr.p.reE k) := by
            unfold Tbl.reh
            rw [if_pos he]
          have eS2 : t.set hs k v = (tr, hs, tr.p.reE k) := by rw [eS, if_pos (by rw [eR]; exact he), eR]
          rw [eS2]
          exact .inr ⟨.inl he, hsn, hnn, hth⟩
      · have eS : t.set hs k v = (t.tried k v, hs, 0) := by
          unfold Tbl.set
          rw [if_neg h1, if_pos (by rw [e]; decide), e]
        rw [eS]
        refine .inr ⟨.inr fun ⟨_, _, _, a4, a5, a6⟩ => ?_, o2, o5, rfl⟩
        obtain ⟨b1, b2⟩ := (PT.place_no H).1 a6
        rw [PT.full_no H hk hv hk0 a4 b1 b2 a5] at e
        simp at e
end Go.Proofs.YteheolefemlcgaaGreat
