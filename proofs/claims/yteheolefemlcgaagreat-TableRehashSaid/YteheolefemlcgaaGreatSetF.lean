/- A Set that goes through: few keys, cells enough. -/
import Derived.Test.YteheolefemlcgaaGreatTabX
namespace Go.Proofs.YteheolefemlcgaaGreat
open Go.RowKit
set_option linter.unusedVariables false
set_option linter.unusedSimpArgs false

theorem iV_inj {a b : Int} (h : iV a = iV b) : a = b := congrArg V.n h
namespace PT
variable {p : PT}
/-- As many present keys as the list that holds them, at most. -/
theorem present_le (H : p.ok) {L : List V} (hL : ∀ k, (p.get k).k ≠ 0 → k ∈ L) : p.slI.length + p.ndL.length ≤ L.length := by
  have hsl : ∀ x, x ∈ p.slI → ∃ i : Nat, i < p.sn ∧ (p.sv i).k ≠ 0 ∧ x = (i : Int) + 1 := fun x hx => by
    unfold slI at hx
    obtain ⟨i, hi, rfl⟩ := List.mem_map.1 hx
    obtain ⟨h1, h2⟩ := List.mem_filter.1 hi
    exact ⟨i, List.mem_range.1 h1, by simpa using h2, rfl⟩
  have hin : ∀ i : Nat, i < p.sn → p.inB (iV ((i : Int) + 1)) := fun i hi => ⟨rfl, emp_toList, by show (1 : Int) ≤ (i : Int) + 1; omega, by show (i : Int) + 1 ≤ p.sn; omega⟩
  have hnd : (p.slI.map iV ++ p.ndL.map p.h.key).Nodup := by
    rw [List.nodup_append]
    refine ⟨?_, ?_, ?_⟩
    · unfold slI
      rw [List.map_map, List.nodup_iff_pairwise_ne, List.pairwise_map]
      refine List.Pairwise.imp ?_ (List.nodup_iff_pairwise_ne.1 (List.nodup_range.filter _))
      intro a b hab e
      exact hab (by have h2 : ((a : Nat) : Int) + 1 = ((b : Nat) : Int) + 1 := iV_inj e; omega)
    · rw [List.nodup_iff_pairwise_ne, List.pairwise_map]
      refine List.Pairwise.imp_of_mem ?_ (List.nodup_iff_pairwise_ne.1 (List.nodup_range.filter _))
      intro a b ha hb hab e
      exact hab (H.hg.ok.dist a b (ndL_occ H ha) (ndL_occ H hb) e)
    · intro a ha b hb e
      subst e
      obtain ⟨x, hx, rfl⟩ := List.mem_map.1 ha
      obtain ⟨q, hq, e2⟩ := List.mem_map.1 hb
      obtain ⟨i, h1, -, rfl⟩ := hsl x hx
      exact H.off q (ndL_occ H hq) (by rw [e2]; exact hin i h1)
  have hsub : (p.slI.map iV ++ p.ndL.map p.h.key) ⊆ L := by
    intro a ha
    rcases List.mem_append.1 ha with h | h
    · obtain ⟨x, hx, rfl⟩ := List.mem_map.1 h
      obtain ⟨i, h1, h2, rfl⟩ := hsl x hx
      refine hL _ ?_
      rw [get_in (hin i h1)]
      have e : ix (iV ((i : Int) + 1)) = i := by show ((i : Int) + 1 - 1).toNat = i; omega
      rw [e]; exact h2
    · obtain ⟨q, hq, rfl⟩ := List.mem_map.1 h
      refine hL _ ?_
      rw [get_out (H.off q (ndL_occ H hq)), PH.get_at H.hg q (ndL_occ H hq)]
      exact (ndL_mem.1 hq).2
  have := List.Nodup.length_le_of_subset hnd hsub
  simpa using this
theorem ints_oth (k : V) : ((p.ints k).length : Int) + p.oth k = p.slI.length + p.ndL.length + 1 := by
  have h1 := filter_split (fun _ => true) (fun i => decide ((p.h.key i).k = 2)) p.ndL
  have e : (p.ndL.filter fun i => !decide ((p.h.key i).k = 2)) = p.ndO := by unfold ndO; congr 1; funext i; simp
  have e2 : p.ndI.length = (p.ndL.filter fun i => decide ((p.h.key i).k = 2)).length := by unfold ndI; rw [List.length_map]
  rw [e] at h1
  have hft : ∀ l : List Nat, l.filter (fun _ => true) = l := fun l => by simp
  rw [hft, hft, hft] at h1
  unfold ints oth
  rw [List.length_append, List.length_append, e2]
  by_cases h2 : k.k = 2
  · rw [if_pos h2, if_pos h2]
    simp only [List.length_singleton]
    omega
  · rw [if_neg h2, if_neg h2]
    simp only [List.length_nil]
    omega
/-- What a rehash of few keys comes to. -/
theorem re_few (H : p.ok) {L : List V} (hL : ∀ k, (p.get k).k ≠ 0 → k ∈ L) (hl : L.length ≤ 10000) {k : V} (hk : okV k = true) (hb : ¬ p.inB k) (hn : ∀ i, p.h.occ i → p.h.key i ≠ k) : p.reE k = 0 ∧ p.reA k ≤ 2 * (L.length + 1) ∧ p.reN k ≤ 2 * (L.length + 1) := by
  have h1 := present_le H hL
  have h2 := ints_oth (p := p) k
  have ho := oth_range H k
  have hE : p.reE k = 0 := by
    have hd : Cs.dup (p.ints k) = false := by unfold Cs.dup; simp [ints_nodup H hk hb hn]
    have hw := Cs.chooseN_within (p.ints k) (by omega)
    have hw0 : 0 ≤ Cs.within (p.ints k) (Cs.chooseA (Cs.countL (p.ints k))) := by unfold Cs.within; omega
    unfold reE
    exact (Cs.sizes_ok (by omega) hd (by unfold Cs.rest; omega)).1
  obtain ⟨-, hR⟩ := re_is H hk hb hn
  obtain ⟨-, -, r3, -, -, -, r7, -⟩ := hR hE
  refine ⟨hE, ?_, ?_⟩
  · rcases Cs.choose_dense (p.ints k) (by omega) with ⟨a, -⟩ | ⟨i, hi, a, -, c, -⟩
    · rw [a] at r3; omega
    · have hle : Cs.within (p.ints k) (2 ^ i) ≤ (p.ints k).length := by unfold Cs.within; exact Int.ofNat_le.2 (List.length_filter_le _ _)
      rw [a] at r3
      omega
  · have hb2 : beyond (p.ints k) (p.reA k) ≤ (p.ints k).length := by unfold beyond; exact List.length_filter_le _ _
    by_cases e : (beyond (p.ints k) (p.reA k) : Int) + p.oth k = 0
    · rw [e] at r7
      have : Ws.ceil2 0 = 0 := by decide
      omega
    · obtain ⟨j, -, -, g2, -, -, g6, -⟩ := Ws.ceil2_k ((beyond (p.ints k) (p.reA k) : Int) + p.oth k) (by omega) (by omega)
      rw [g2] at r7
      have h3 : ((2 : Int) ^ j) = ((2 ^ j : Nat) : Int) := by simp
      rw [h3] at g6 r7
      generalize (2 : Nat) ^ j = q at g6 r7
      rw [show ((q : Int)).tdiv 2 = ((q / 2 : Nat) : Int) by rw [Int.tdiv_eq_ediv_of_nonneg (by omega)]; omega] at g6
      omega
end PT
/-- A Set among keys that are not many goes through. -/
theorem set_goes {t : Tbl} {hs : HS} (H : t.p.ok) (K : hs.ok) (hlim : hs.lim = 400000) (hlive : hs.live = 4 + t.p.cells) (hc : t.p.cells ≤ 10000) {L : List V} (hL : ∀ k, (t.get k).k ≠ 0 → k ∈ L) (hl : L.length ≤ 10000)
    {k v : V} (hk : okV k = true) (hv : okV v = true) (hk0 : k.k ≠ 0) (h64 : In64 k.n) : (t.set hs k v).2.2 = 0 := by
  have hform : ¬ (okV k = false ∨ okV v = false) := by rw [hk, hv]; simp
  obtain ⟨o1, o2, o3, o4, o5, -, o6⟩ := PT.put_is H (v := v) hk hv hk0 h64
  have hcell : (t.p.put k v).1.cells = t.p.cells := by unfold PT.cells; rw [o2, o5]
  rcases o6.symm with ⟨e, -⟩ | ⟨e, hb, -, hnew, -, esv, ek, ev, ec, eg⟩
  · have eS : t.set hs k v = (t.tried k v, hs, 0) := by
      unfold Tbl.set
      rw [if_neg hform, if_pos (by rw [e]; decide), e]
    rw [eS]
  · obtain ⟨tr, htr⟩ : ∃ tr, t.tried k v = tr := ⟨_, rfl⟩
    have hp : tr.p = (t.p.put k v).1 := by rw [← htr]; rfl
    have hb' : ¬ tr.p.inB k := fun h => hb ((PT.inB_sn (by rw [hp]; exact o2) k).1 h)
    have hnew' : ∀ i, tr.p.h.occ i → tr.p.h.key i ≠ k := fun i hi => by
      have e2 : tr.p.h.key = t.p.h.key := by rw [hp]; exact ek
      unfold PH.occ at hi
      rw [e2] at hi ⊢
      exact hnew i hi
    have hL' : ∀ k', (tr.p.get k').k ≠ 0 → k' ∈ L := fun k' h => by
      rw [hp, eg] at h
      exact hL k' h
    have hok : tr.p.ok := by rw [hp]; exact o1
    obtain ⟨rE, rA, rN⟩ := PT.re_few hok hL' hl hk hb' hnew'
    have hr0 : hs.roomE (tr.p.reA k : Int) = 0 := by unfold HS.roomE; rw [if_neg (by omega), if_neg (by omega)]
    obtain ⟨-, t2, -, t4, -⟩ := HS.take_bears K hr0
    have hr1 : (hs.take (tr.p.reA k : Int)).roomE (3 * (tr.p.reN k : Int)) = 0 := by unfold HS.roomE; rw [if_neg (by omega), if_neg (by rw [t2, t4]; omega)]
    have hlay : layE hs (tr.p.reA k : Nat) (tr.p.reN k : Nat) = 0 := by
      unfold layE
      rw [if_neg (by rw [hr0]; simp)]
      exact hr1
    obtain ⟨X, hX⟩ : ∃ X, layA hs (tr.p.reA k : Nat) = X := ⟨_, rfl⟩
    obtain ⟨Y, hY⟩ : ∃ Y, layN hs (tr.p.reA k : Nat) (tr.p.reN k : Nat) = Y := ⟨_, rfl⟩
    obtain ⟨q1, q2, -, -, q5, -, q7⟩ := PT.laid_is hok hk hk0 h64 hb' hnew' rE X Y
    have eR : tr.reh hs k = ({ p := tr.p.laid k X Y, hint := 0, pr := tr.pr }, ((layH hs (tr.p.reA k : Nat) (tr.p.reN k : Nat)).give tr.p.sAt).give tr.p.nAt, 0) := by
      unfold Tbl.reh
      rw [if_neg (by rw [rE]; simp), if_neg (by rw [hlay]; simp), hX, hY]
    have eS : t.set hs k v = ({ p := ((tr.p.laid k X Y).put k v).1, hint := 0, pr := tr.pr }, ((layH hs (tr.p.reA k : Nat) (tr.p.reN k : Nat)).give tr.p.sAt).give tr.p.nAt, ((tr.p.laid k X Y).put k v).2.2) := by
      unfold Tbl.set
      rw [if_neg hform, if_neg (by rw [e]; decide), htr, eR]
      rfl
    rw [eS]
    exact q7 v hv
/-- A Set among few keys goes through. -/
theorem set_fit {t : Tbl} {hs : HS} (H : t.p.ok) (K : hs.ok) (hlim : hs.lim = 400000) (hlive : hs.live = 4 + t.p.cells) (hc : t.p.cells ≤ 10000) {L : List V} (hL : ∀ k, (t.get k).k ≠ 0 → k ∈ L) (hl : L.length ≤ 1000)
    {k v : V} (hk : okV k = true) (hv : okV v = true) (hk0 : k.k ≠ 0) (h64 : In64 k.n) : (t.set hs k v).2.2 = 0 ∧ (t.set hs k v).1.p.cells ≤ 10000 := by
  have hform : ¬ (okV k = false ∨ okV v = false) := by rw [hk, hv]; simp
  obtain ⟨o1, o2, o3, o4, o5, -, o6⟩ := PT.put_is H (v := v) hk hv hk0 h64
  have hcell : (t.p.put k v).1.cells = t.p.cells := by unfold PT.cells; rw [o2, o5]
  rcases o6.symm with ⟨e, -⟩ | ⟨e, hb, -, hnew, -, esv, ek, ev, ec, eg⟩
  · have eS : t.set hs k v = (t.tried k v, hs, 0) := by
      unfold Tbl.set
      rw [if_neg hform, if_pos (by rw [e]; decide), e]
    rw [eS]
    exact ⟨rfl, by show (t.p.put k v).1.cells ≤ 10000; rw [hcell]; exact hc⟩
  · obtain ⟨tr, htr⟩ : ∃ tr, t.tried k v = tr := ⟨_, rfl⟩
    have hp : tr.p = (t.p.put k v).1 := by rw [← htr]; rfl
    have hb' : ¬ tr.p.inB k := fun h => hb ((PT.inB_sn (by rw [hp]; exact o2) k).1 h)
    have hnew' : ∀ i, tr.p.h.occ i → tr.p.h.key i ≠ k := fun i hi => by
      have e2 : tr.p.h.key = t.p.h.key := by rw [hp]; exact ek
      unfold PH.occ at hi
      rw [e2] at hi ⊢
      exact hnew i hi
    have hL' : ∀ k', (tr.p.get k').k ≠ 0 → k' ∈ L := fun k' h => by
      rw [hp, eg] at h
      exact hL k' h
    have hok : tr.p.ok := by rw [hp]; exact o1
    obtain ⟨rE, rA, rN⟩ := PT.re_few hok hL' (Nat.le_trans hl (by decide)) hk hb' hnew'
    have hr0 : hs.roomE (tr.p.reA k : Int) = 0 := by unfold HS.roomE; rw [if_neg (by omega), if_neg (by omega)]
    obtain ⟨-, t2, -, t4, -⟩ := HS.take_bears K hr0
    have hr1 : (hs.take (tr.p.reA k : Int)).roomE (3 * (tr.p.reN k : Int)) = 0 := by unfold HS.roomE; rw [if_neg (by omega), if_neg (by rw [t2, t4]; omega)]
    have hlay : layE hs (tr.p.reA k : Nat) (tr.p.reN k : Nat) = 0 := by
      unfold layE
      rw [if_neg (by rw [hr0]; simp)]
      exact hr1
    obtain ⟨X, hX⟩ : ∃ X, layA hs (tr.p.reA k : Nat) = X := ⟨_, rfl⟩
    obtain ⟨Y, hY⟩ : ∃ Y, layN hs (tr.p.reA k : Nat) (tr.p.reN k : Nat) = Y := ⟨_, rfl⟩
    obtain ⟨q1, q2, -, -, q5, -, q7⟩ := PT.laid_is hok hk hk0 h64 hb' hnew' rE X Y
    have eR : tr.reh hs k = ({ p := tr.p.laid k X Y, hint := 0, pr := tr.pr }, ((layH hs (tr.p.reA k : Nat) (tr.p.reN k : Nat)).give tr.p.sAt).give tr.p.nAt, 0) := by
      unfold Tbl.reh
      rw [if_neg (by rw [rE]; simp), if_neg (by rw [hlay]; simp), hX, hY]
    have eS : t.set hs k v = ({ p := ((tr.p.laid k X Y).put k v).1, hint := 0, pr := tr.pr }, ((layH hs (tr.p.reA k : Nat) (tr.p.reN k : Nat)).give tr.p.sAt).give tr.p.nAt, ((tr.p.laid k X Y).put k v).2.2) := by
      unfold Tbl.set
      rw [if_neg hform, if_neg (by rw [e]; decide), htr, eR]
      rfl
    obtain ⟨-, u2, -, -, u5, -, -⟩ := PT.put_is q1 (v := v) hk hv hk0 h64
    rw [eS]
    refine ⟨q7 v hv, ?_⟩
    show ((((tr.p.laid k X Y).put k v).1.sn : Nat) : Int) + 3 * ((((tr.p.laid k X Y).put k v).1.h.n : Nat) : Int) ≤ 10000
    rw [u2, u5, q2, q5]
    omega
end Go.Proofs.YteheolefemlcgaaGreat
