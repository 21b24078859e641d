/- Consecutive whole numbers in a table: the rehash, the state behind each Set. -/
import Derived.Test.YteheolefemlcgaaRowP
namespace Go.Proofs.Yteheolefemlcgaa
open Go.RowKit
set_option linter.unusedVariables false
set_option linter.unusedSimpArgs false

theorem iV_k (n : Int) : (iV n).k = 2 := rfl
namespace PH
theorem kb_n (b i : Nat) : (kb b i).n = ((b + i : Nat) : Int) := rfl
/-- As many nodes as keys. -/
theorem keys_le {h : PH} (hg : h.good) {b j : Nat} (hh : ∀ i, 1 ≤ i → i ≤ j → ∃ q, h.occ q ∧ h.key q = kb b i) : j ≤ h.n := by
  have hnd : ((List.range j).map fun i => kb b (i + 1)).Nodup := by
    rw [List.nodup_iff_pairwise_ne, List.pairwise_map]
    refine List.Pairwise.imp ?_ (List.nodup_iff_pairwise_ne.1 List.nodup_range)
    intro x y hne e
    exact hne (by have := kb_inj e; omega)
  have hsub : ((List.range j).map fun i => kb b (i + 1)) ⊆ (List.range h.n).map h.key := by
    intro x hx
    obtain ⟨i, hi, rfl⟩ := List.mem_map.1 hx
    have := List.mem_range.1 hi
    obtain ⟨q, hq, e⟩ := hh (i + 1) (by omega) (by omega)
    exact List.mem_map.2 ⟨q, List.mem_range.2 (hg.ok.occ_lt hq), e⟩
  have h2 := List.Nodup.length_le_of_subset hnd hsub
  simpa using h2
theorem dd_ge {h : PH} (hg : h.good) (h0 : 0 < h.n) {n : Nat} (hn : n < h.n) : n ≤ dd h.n ∧ dd h.n ≤ h.n := by
  rcases hg.even h0 with e | e
  · rw [e]; exact ⟨by have : dd 1 = 1 := by decide
                      omega, by decide⟩
  · by_cases e1 : h.n = 1
    · omega
    · rw [dd_even e1 e h0]; omega
/-- The keys b+1 to b+j in a hash part, as Sets have laid them. -/
structure Lin (b j : Nat) (h : PH) : Prop where
  good : h.good
  lt : b + h.n < 9223372036854775808
  jn : j ≤ h.n
  only : ∀ q, h.occ q → (∃ i, 1 ≤ i ∧ i ≤ j ∧ h.key q = kb b i) ∧ (h.val q).k ≠ 0
  has : ∀ i, 1 ≤ i → i ≤ j → ∃ q, h.occ q ∧ h.key q = kb b i
  rd : ∀ i, 1 ≤ i → i ≤ j → (h.findA (kb b i)).2 ≤ if i = h.n then 2 else 1
  sh : j = h.n ∨ Str b (dd h.n) (fun i => 1 ≤ i ∧ i ≤ j) h
theorem Lin.ofStr {b j : Nat} {h : PH} (H : Str b (dd h.n) (fun i => 1 ≤ i ∧ i ≤ j) h) (hl : b + h.n < 9223372036854775808) (hj : j ≤ h.n) : Lin b j h := by
  refine ⟨H.good, hl, hj, fun q hq => ⟨?_, H.vl q hq⟩, fun i i1 ij => ?_, fun i i1 ij => ?_, .inr H⟩
  · obtain ⟨i, hi, e⟩ := H.only q hq
    exact ⟨i, hi.1, hi.2, e⟩
  · obtain ⟨-, -, ea⟩ := H.at_ i ⟨i1, ij⟩
    exact ⟨_, by unfold occ; rw [ea, kb_k]; decide, ea⟩
  · rw [H.find ⟨i1, ij⟩]
    show 1 ≤ _
    split <;> omega
/-- The next key, where there is room. -/
theorem Lin.put {b j : Nat} {h : PH} (H : Lin b j h) (hj : j < h.n) {v : V} (hv : okV v = true) (hv0 : v.k ≠ 0) : (h.put (kb b (j + 1)) v).2.2 = 0 ∧ (h.put (kb b (j + 1)) v).1.n = h.n ∧ Lin b (j + 1) (h.put (kb b (j + 1)) v).1 := by
  have hS : Str b (dd h.n) (fun i => 1 ≤ i ∧ i ≤ j) h := H.sh.resolve_left (by omega)
  have hlt := H.lt
  obtain ⟨hd1, hd2⟩ := dd_ge H.good (by omega) hj
  by_cases hr : j + 1 ≤ dd h.n
  · obtain ⟨e1, e2, e3⟩ := hS.putN (i := j + 1) (by omega) (by omega) hr hv hv0
    have e4 : Str b (dd (h.put (kb b (j + 1)) v).1.n) (fun i => 1 ≤ i ∧ i ≤ j + 1) (h.put (kb b (j + 1)) v).1 := by
      rw [e2]
      exact e3.mono (fun i => by omega)
    exact ⟨e1, e2, Lin.ofStr e4 (by rw [e2]; exact hlt) (by rw [e2]; omega)⟩
  · have hjd : j = dd h.n := by omega
    have h2 : 2 ≤ h.n := by
      apply Decidable.byContradiction
      intro h3
      have : h.n = 1 := by omega
      rw [this] at hjd
      have : dd 1 = 1 := by decide
      omega
    have hev : h.n % 2 = 0 := (H.good.even (by omega)).resolve_left (by omega)
    have hd := dd_even (by omega) hev (by omega)
    have hjn : j + 1 = h.n := by omega
    have hS' : Str b (h.n - 1) (fun i => 1 ≤ i ∧ i ≤ h.n - 1) h := by
      rw [← hd, ← hjd]
      rw [← hjd] at hS
      exact hS
    obtain ⟨e1, e2, e3, e4, e5, e6⟩ := hS'.last rfl h2 (by omega) hv hv0
    rw [hjn]
    refine ⟨e1, e2, e3, by rw [e2]; exact hlt, by rw [e2]; exact Nat.le_refl _, e4, e5, fun i i1 i2 => ?_, .inl e2.symm⟩
    rw [e6 i i1 i2, e2]
    exact Nat.le_refl _
/-- Where there is none. -/
theorem Lin.full {b j : Nat} {h : PH} (H : Lin b j h) (hj : h.n = j) {v : V} (hv : okV v = true) (hv0 : v.k ≠ 0) : (h.put (kb b (j + 1)) v).2.2 = 12 := by
  have hk0 : (kb b (j + 1)).k ≠ 0 := by rw [kb_k]; decide
  obtain ⟨g1, g2, -, g4⟩ := put_is H.good (k := kb b (j + 1)) (kb_ok b _) hv hk0
  rcases g4 with ⟨h1, -⟩ | ⟨-, h2, -, h3, -⟩
  · exact h1
  · exfalso
    have := keys_le (j := j + 1) g1 (b := b) (fun i i1 i2 => by
      by_cases e : i = j + 1
      · subst e
        have e2 := h2 (kb b (j + 1))
        rw [if_pos rfl] at e2
        rcases get_two g1 (kb b (j + 1)) with ⟨q, a, c, -⟩ | ⟨-, c⟩
        · exact ⟨q, a, c⟩
        · rw [c] at e2
          rw [← e2] at hv0
          exact absurd rfl hv0
      · obtain ⟨q, a, c⟩ := H.has i i1 (by omega)
        obtain ⟨q', a', c'⟩ := h3 q a
        exact ⟨q', a', c'.trans c⟩)
    omega
end PH
namespace PT
open PH
theorem notB {p : PT} (h : p.sn = 0) (k : V) : ¬ p.inB k := fun ⟨_, _, h1, h2⟩ => by omega
/-- Puts of new keys that stay in the window. -/
theorem putL_str {b J : Nat} : ∀ (L : List (V × V)) (p : PT) (P : Nat → Prop), p.sn = 0 → Str b J P p.h → (∀ kv ∈ L, ∃ x, kv.1 = kb b x ∧ ¬ P x ∧ 1 ≤ x ∧ x ≤ J ∧ okV kv.2 = true ∧ kv.2.k ≠ 0) → (L.map Prod.fst).Nodup →
    (p.putL L).h.n = p.h.n ∧ Str b J (fun x => P x ∨ ∃ kv ∈ L, kv.1 = kb b x) (p.putL L).h
  | [], p, P, _, H, _, _ => ⟨rfl, H.mono (fun i => by simp)⟩
  | kv :: L, p, P, h0, H, hL, hn => by
    obtain ⟨x, ex, hx, x1, xJ, v1, v2⟩ := hL kv (by simp)
    obtain ⟨a1, a2, a3⟩ := H.putN hx x1 xJ v1 v2
    rw [putL_cons, put_out (notB h0 _), ex]
    have hn' : ∀ kv' ∈ L, kv'.1 ≠ kv.1 := fun kv' h e => by
      rw [List.map_cons, List.nodup_cons] at hn
      exact hn.1 (List.mem_map.2 ⟨kv', h, e⟩)
    obtain ⟨b1, b2⟩ := putL_str L { p with h := (p.h.put (kb b x) kv.2).1 } (fun i => P i ∨ i = x) h0 a3 (fun kv' h => by
      obtain ⟨y, ey, hy, y1, yJ, w1, w2⟩ := hL kv' (List.mem_cons_of_mem _ h)
      exact ⟨y, ey, fun h2 => h2.elim hy (fun e => hn' kv' h (by rw [ey, ex, e])), y1, yJ, w1, w2⟩) (by rw [List.map_cons, List.nodup_cons] at hn; exact hn.2)
    refine ⟨b1.trans a2, b2.mono (fun i => ?_)⟩
    constructor
    · rintro (h | ⟨kv', h, e⟩)
      · exact .inl (.inl h)
      · rcases List.mem_cons.1 h with rfl | h
        · exact .inl (.inr (kb_inj (e.symm.trans ex)))
        · exact .inr ⟨kv', h, e⟩
    · rintro ((h | h) | ⟨kv', h, e⟩)
      · exact .inl h
      · exact .inr ⟨kv, by simp, by rw [ex, h]⟩
      · exact .inr ⟨kv', List.mem_cons_of_mem _ h, e⟩
/-- What a rehash of a full row comes to. -/
theorem row_re {p : PT} (H : p.ok) (h0 : p.sn = 0) {b j : Nat} (hl : ∀ q, p.h.occ q → ∃ i, 1 ≤ i ∧ i ≤ j ∧ p.h.key q = kb b i) (hn : p.h.n = j) (hj : 2 * (j + 1) ≤ b) (hj2 : j ≤ 700) (hlt : b + j + 1 < 9223372036854775808) :
    p.reE (kb b (j + 1)) = 0 ∧ p.reA (kb b (j + 1)) = 0 ∧ p.reN (kb b (j + 1)) ≤ 2 * (j + 1) := by
  have hnew : ∀ q, p.h.occ q → p.h.key q ≠ kb b (j + 1) := fun q hq e => by
    obtain ⟨i, i1, i2, e2⟩ := hl q hq
    have := kb_inj (e2.symm.trans e)
    omega
  have hlen : (p.ints (kb b (j + 1))).length ≤ j + 1 := by
    have h1 := p.slI_length
    have h2 := p.ndI_length
    unfold ints
    rw [if_pos (kb_k b _), List.length_append, List.length_append, List.length_singleton]
    omega
  have hge : ∀ x ∈ p.ints (kb b (j + 1)), (b : Int) + 1 ≤ x := fun x hx => by
    unfold ints at hx
    rw [if_pos (kb_k b _), List.mem_append, List.mem_append] at hx
    rcases hx with (hx | hx) | hx
    · unfold slI at hx
      rw [h0] at hx
      simp at hx
    · unfold ndI at hx
      obtain ⟨i, hi, rfl⟩ := List.mem_map.1 hx
      obtain ⟨y, y1, y2, e⟩ := hl i (ndL_occ H (List.mem_filter.1 hi).1)
      rw [e, kb_n]; omega
    · obtain rfl : x = (kb b (j + 1)).n := by simpa using hx
      rw [kb_n]; omega
  have hoth : p.oth (kb b (j + 1)) = 0 := by
    unfold oth
    rw [if_pos (kb_k b _)]
    have : p.ndO = [] := by
      unfold ndO
      rw [List.filter_eq_nil_iff]
      intro i hi
      obtain ⟨y, -, -, e⟩ := hl i (ndL_occ H hi)
      rw [e, kb_k]; simp
    rw [this]; simp
  obtain ⟨hE, hR⟩ := re_is H (kb_ok b (j + 1)) (notB h0 _) hnew
  have hE0 : p.reE (kb b (j + 1)) = 0 := by
    have hd : Cs.dup (p.ints (kb b (j + 1))) = false := by unfold Cs.dup; simp [ints_nodup H (kb_ok b (j + 1)) (notB h0 _) hnew]
    have hw := Cs.chooseN_within (p.ints (kb b (j + 1))) (by omega)
    have hw0 : 0 ≤ Cs.within (p.ints (kb b (j + 1))) (Cs.chooseA (Cs.countL (p.ints (kb b (j + 1))))) := by unfold Cs.within; omega
    unfold reE
    rw [hoth]
    exact (Cs.sizes_ok (by omega) hd (by unfold Cs.rest; omega)).1
  obtain ⟨-, -, r3, -, -, -, r7, -⟩ := hR hE0
  have hA : p.reA (kb b (j + 1)) = 0 := by
    rcases Cs.choose_dense (p.ints (kb b (j + 1))) (by omega) with ⟨a, -⟩ | ⟨i, hi, a, -, c, -⟩
    · rw [a] at r3; omega
    · exfalso
      have hle : Cs.within (p.ints (kb b (j + 1))) (2 ^ i) ≤ (p.ints (kb b (j + 1))).length := by
        unfold Cs.within
        exact Int.ofNat_le.2 (List.length_filter_le _ _)
      have hz : Cs.within (p.ints (kb b (j + 1))) (2 ^ i) = 0 := by
        unfold Cs.within
        rw [List.filter_eq_nil_iff.2 (fun x hx => by
          have := hge x hx
          simp only [decide_eq_true_eq]
          intro h
          omega)]
        rfl
      have : (0 : Int) < 2 ^ i := Int.pow_pos (by decide)
      omega
  refine ⟨hE0, hA, ?_⟩
  have hb : beyond (p.ints (kb b (j + 1))) (p.reA (kb b (j + 1))) ≤ j + 1 := by
    unfold beyond
    exact Nat.le_trans (List.length_filter_le _ _) hlen
  rw [hoth] at r7
  by_cases e : beyond (p.ints (kb b (j + 1))) (p.reA (kb b (j + 1))) = 0
  · rw [e] at r7
    have : Ws.ceil2 (((0 : Nat) : Int) + 0) = 0 := by decide
    rw [this] at r7
    omega
  · obtain ⟨k, -, -, h2, -, -, h6, -⟩ := Ws.ceil2_k ((beyond (p.ints (kb b (j + 1))) (p.reA (kb b (j + 1))) : Nat) + 0 : Int) (by omega) (by omega)
    rw [h2] at r7
    have h3 : ((2 : Int) ^ k) = ((2 ^ k : Nat) : Int) := by simp
    rw [h3] at h6 r7
    generalize (2 : Nat) ^ k = q at h6 r7
    rw [show ((q : Int)).tdiv 2 = ((q / 2 : Nat) : Int) by rw [Int.tdiv_eq_ediv_of_nonneg (by omega)]; omega] at h6
    omega
/-- The new parts of a row. -/
theorem row_laid {p : PT} (H : p.ok) (h0 : p.sn = 0) {b j : Nat} (hl : ∀ q, p.h.occ q → (∃ i, 1 ≤ i ∧ i ≤ j ∧ p.h.key q = kb b i) ∧ (p.h.val q).k ≠ 0) (hh : ∀ i, 1 ≤ i → i ≤ j → ∃ q, p.h.occ q ∧ p.h.key q = kb b i) (hn : p.h.n = j) (hj : 2 * (j + 1) ≤ b) (hj2 : j ≤ 700) (hlt : b + 2 * (j + 1) < 9223372036854775808) (x y : Int) :
    (p.laid (kb b (j + 1)) x y).ok ∧ (p.laid (kb b (j + 1)) x y).sn = 0 ∧ j < (p.laid (kb b (j + 1)) x y).h.n ∧ (p.laid (kb b (j + 1)) x y).h.n ≤ 2 * (j + 1) ∧ Lin b j (p.laid (kb b (j + 1)) x y).h := by
  have hnew : ∀ q, p.h.occ q → p.h.key q ≠ kb b (j + 1) := fun q hq e => by
    obtain ⟨⟨i, i1, i2, e2⟩, -⟩ := hl q hq
    have := kb_inj (e2.symm.trans e)
    omega
  obtain ⟨hE, hA, hN⟩ := row_re H h0 (fun q hq => (hl q hq).1) hn hj hj2 (by omega)
  have h64 : In64 (kb b (j + 1)).n := by rw [kb_n]; unfold In64; omega
  obtain ⟨l1, l2, -, -, l5, l6, l7⟩ := laid_is H (kb_ok b (j + 1)) (by rw [kb_k]; decide) h64 (notB h0 _) hnew hE x y
  have hsn : (p.laid (kb b (j + 1)) x y).sn = 0 := l2.trans hA
  have hsome : ∀ i, 1 ≤ i → i ≤ j → ((p.laid (kb b (j + 1)) x y).get (kb b i)).k ≠ 0 := fun i i1 i2 => by
    rw [l6, get_out (notB h0 _)]
    obtain ⟨q, a, c⟩ := hh i i1 i2
    rw [← c, PH.get_at H.hg q a]
    exact (hl q a).2
  have hjN : j + 1 ≤ (p.laid (kb b (j + 1)) x y).h.n := by
    have e12 := l7 (iV 1) (okV_iV 1)
    rw [put_out (notB hsn _)] at e12
    obtain ⟨g1, g2, -, g4⟩ := PH.put_is l1.hg (k := kb b (j + 1)) (v := iV 1) (kb_ok b _) (okV_iV 1) (by rw [kb_k]; decide)
    rcases g4 with ⟨h1, -⟩ | ⟨-, h2, -⟩
    · have e12' : ((p.laid (kb b (j + 1)) x y).h.put (kb b (j + 1)) (iV 1)).2.2 = 0 := e12
      rw [h1] at e12'; simp at e12'
    · rw [← g2]
      refine keys_le g1 (b := b) (fun i i1 i2 => ?_)
      have e2 := h2 (kb b i)
      have hv : (((p.laid (kb b (j + 1)) x y).h.put (kb b (j + 1)) (iV 1)).1.get (kb b i)).k ≠ 0 := by
        rw [e2]
        split
        · rw [iV_k]; decide
        · rename_i hne
          have := hsome i i1 (by
            apply Decidable.byContradiction
            intro h3
            exact hne (by rw [show i = j + 1 by omega]))
          rw [get_out (notB hsn _)] at this
          exact this
      rcases PH.get_two g1 (kb b i) with ⟨q, a, c, -⟩ | ⟨-, c⟩
      · exact ⟨q, a, c⟩
      · rw [c] at hv; exact absurd rfl hv
  refine ⟨l1, hsn, by omega, by rw [l5]; exact hN, ?_⟩
  have hgN : (PH.new (p.reN (kb b (j + 1)))).good := by
    have := l1.hg
    refine good_new _ (by rw [← l5]; exact this.sz) (by rw [← l5]; exact this.pw)
  have hN0 : 0 < p.reN (kb b (j + 1)) := by rw [← l5]; omega
  obtain ⟨d1, d2⟩ := PH.dd_ge hgN hN0 (show j < (PH.new (p.reN (kb b (j + 1)))).n by show j < p.reN _; rw [← l5]; omega)
  have d1' : j ≤ dd (p.reN (kb b (j + 1))) := d1
  have d2' : dd (p.reN (kb b (j + 1))) ≤ p.reN (kb b (j + 1)) := d2
  have hstart : Str b (dd (p.reN (kb b (j + 1)))) (fun _ => False) (p.fresh (p.reA (kb b (j + 1))) (p.reN (kb b (j + 1))) x y).h := by
    refine ⟨hgN, hN0, Nat.le_refl _, by omega, fun i h => h.elim, fun q hq => absurd rfl hq, fun q hq => absurd rfl hq⟩
  have hmv : p.moves (p.reA (kb b (j + 1))) = p.ndM := by
    unfold moves slM
    rw [h0]; rfl
  have hL : ∀ kv ∈ p.ndM, ∃ z, kv.1 = kb b z ∧ ¬ False ∧ 1 ≤ z ∧ z ≤ dd (p.reN (kb b (j + 1))) ∧ okV kv.2 = true ∧ kv.2.k ≠ 0 := fun kv hkv => by
    obtain ⟨q, hq, rfl⟩ := ndM_mem.1 hkv
    obtain ⟨⟨i, i1, i2, e⟩, hv⟩ := hl q (ndL_occ H hq)
    exact ⟨i, e, fun h => h, i1, by omega, H.vf q, hv⟩
  have hnd : (p.ndM.map Prod.fst).Nodup := by
    unfold ndM
    rw [List.map_map, List.nodup_iff_pairwise_ne, List.pairwise_map]
    have h1 : p.ndL.reverse.Nodup := by
      have h2 : p.ndL.Nodup := List.nodup_range.filter _
      rw [List.nodup_iff_pairwise_ne, List.pairwise_reverse]
      exact (List.nodup_iff_pairwise_ne.1 h2).imp (fun h => h.symm)
    refine List.Pairwise.imp_of_mem ?_ (List.nodup_iff_pairwise_ne.1 h1)
    intro q r hq hr hne e
    exact hne (H.hg.ok.dist q r (ndL_occ H (List.mem_reverse.1 hq)) (ndL_occ H (List.mem_reverse.1 hr)) e)
  obtain ⟨-, s2⟩ := putL_str p.ndM (p.fresh (p.reA (kb b (j + 1))) (p.reN (kb b (j + 1))) x y) (fun _ => False) hA hstart hL hnd
  have e : p.laid (kb b (j + 1)) x y = (p.fresh (p.reA (kb b (j + 1))) (p.reN (kb b (j + 1))) x y).putL p.ndM := by
    unfold laid; rw [hmv]
  have s3 : Str b (dd (p.laid (kb b (j + 1)) x y).h.n) (fun i => 1 ≤ i ∧ i ≤ j) (p.laid (kb b (j + 1)) x y).h := by
    rw [l5, e]
    refine s2.mono (fun i => ⟨fun h => .inr ?_, ?_⟩)
    · obtain ⟨q, a, c⟩ := hh i h.1 h.2
      exact ⟨(p.h.key q, p.h.val q), ndM_mem.2 ⟨q, ndL_mem.2 ⟨H.hg.ok.occ_lt a, (hl q a).2⟩, rfl⟩, c⟩
    · rintro (h | ⟨kv, hkv, h⟩)
      · exact h.elim
      · obtain ⟨q, hq, rfl⟩ := ndM_mem.1 hkv
        obtain ⟨⟨z, z1, z2, ez⟩, -⟩ := hl q (ndL_occ H hq)
        have h' : p.h.key q = kb b i := h
        have := kb_inj (ez.symm.trans h')
        omega
  exact Lin.ofStr s3 (by rw [l5]; omega) (by omega)
end PT
/-- The table behind j Sets of a row. -/
structure RowT (b j : Nat) (t : Tbl) : Prop where
  ok : t.p.ok
  sn : t.p.sn = 0
  lin : PH.Lin b j t.p.h
  n2 : t.p.h.n ≤ 2 * j
  get : ∀ i, 1 ≤ i → i ≤ j → t.get (PH.kb b i) = iV i
theorem RowT.step {b j : Nat} {t : Tbl} {hs : HS} (H : RowT b j t) (K : hs.ok) (hlim : hs.lim = 400000) (hlive : hs.live = 4 + t.p.cells) (hj : 2 * (j + 1) ≤ b) (hj2 : j ≤ 700) (hlt : b < 4611686018427387904) :
    (t.set hs (PH.kb b (j + 1)) (iV ((j + 1 : Nat) : Int))).2.2 = 0 ∧ RowT b (j + 1) (t.set hs (PH.kb b (j + 1)) (iV ((j + 1 : Nat) : Int))).1 := by
  have hk := PH.kb_ok b (j + 1)
  have hv := okV_iV ((j + 1 : Nat) : Int)
  have hk0 : (PH.kb b (j + 1)).k ≠ 0 := by rw [PH.kb_k]; decide
  have hv0 : (iV ((j + 1 : Nat) : Int)).k ≠ 0 := by rw [iV_k]; decide
  have h64 : In64 (PH.kb b (j + 1)).n := by rw [PH.kb_n]; unfold In64; omega
  obtain ⟨s1, s2, -⟩ := Tbl.set_is (hs := hs) H.ok (k := PH.kb b (j + 1)) (v := iV ((j + 1 : Nat) : Int)) h64
  suffices h : (t.set hs (PH.kb b (j + 1)) (iV ((j + 1 : Nat) : Int))).2.2 = 0 ∧ (t.set hs (PH.kb b (j + 1)) (iV ((j + 1 : Nat) : Int))).1.p.sn = 0 ∧ PH.Lin b (j + 1) (t.set hs (PH.kb b (j + 1)) (iV ((j + 1 : Nat) : Int))).1.p.h ∧ (t.set hs (PH.kb b (j + 1)) (iV ((j + 1 : Nat) : Int))).1.p.h.n ≤ 2 * (j + 1) by
    obtain ⟨h1, h2, h3, h4⟩ := h
    refine ⟨h1, s1, h2, h3, h4, fun i i1 i2 => ?_⟩
    rw [s2 h1]
    by_cases e : i = j + 1
    · subst e; rw [if_pos rfl]
    · rw [if_neg (fun e2 => e (PH.kb_inj e2))]
      exact H.get i i1 (by omega)
  have hn2 := H.n2
  have hform : ¬ (okV (PH.kb b (j + 1)) = false ∨ okV (iV ((j + 1 : Nat) : Int)) = false) := by rw [hk, hv]; simp
  by_cases hr : j < t.p.h.n
  · obtain ⟨e1, e2, e3⟩ := H.lin.put hr hv hv0
    have e : (t.p.put (PH.kb b (j + 1)) (iV ((j + 1 : Nat) : Int))).2.2 = 0 := by rw [PT.put_out (PT.notB H.sn _)]; exact e1
    have eS : t.set hs (PH.kb b (j + 1)) (iV ((j + 1 : Nat) : Int)) = (t.tried (PH.kb b (j + 1)) (iV ((j + 1 : Nat) : Int)), hs, 0) := by
      unfold Tbl.set
      rw [if_neg hform, if_pos (by rw [e]; decide), e]
    rw [eS]
    unfold Tbl.tried
    rw [PT.put_out (PT.notB H.sn _)]
    exact ⟨rfl, H.sn, e3, by show PH.n _ ≤ _; rw [e2]; omega⟩
  · have hn : t.p.h.n = j := by have := H.lin.jn; omega
    have h12 : (t.p.h.put (PH.kb b (j + 1)) (iV ((j + 1 : Nat) : Int))).2.2 = 12 := H.lin.full hn hv hv0
    have e : (t.p.put (PH.kb b (j + 1)) (iV ((j + 1 : Nat) : Int))).2.2 = 12 := by rw [PT.put_out (PT.notB H.sn _)]; exact h12
    obtain ⟨o1, o2, o3, o4, o5, -, o6⟩ := PT.put_is H.ok (v := iV ((j + 1 : Nat) : Int)) hk hv hk0 h64
    rcases o6.symm with ⟨e0, -⟩ | ⟨-, -, -, -, -, esv, ek, ev, ec, -⟩
    · rw [e] at e0; simp at e0
    obtain ⟨tr, htr⟩ : ∃ tr, t.tried (PH.kb b (j + 1)) (iV ((j + 1 : Nat) : Int)) = tr := ⟨_, rfl⟩
    have hp : tr.p = (t.p.put (PH.kb b (j + 1)) (iV ((j + 1 : Nat) : Int))).1 := by rw [← htr]; rfl
    rw [← hp] at o1 o2 o3 o4 o5 ek ev ec
    have hocc : ∀ q, tr.p.h.occ q ↔ t.p.h.occ q := fun q => by unfold PH.occ; rw [ek]
    have hl : ∀ q, tr.p.h.occ q → (∃ i, 1 ≤ i ∧ i ≤ j ∧ tr.p.h.key q = PH.kb b i) ∧ (tr.p.h.val q).k ≠ 0 := fun q hq => by
      rw [ek, ev]; exact H.lin.only q ((hocc q).1 hq)
    have hh : ∀ i, 1 ≤ i → i ≤ j → ∃ q, tr.p.h.occ q ∧ tr.p.h.key q = PH.kb b i := fun i i1 i2 => by
      obtain ⟨q, a, c⟩ := H.lin.has i i1 i2
      exact ⟨q, (hocc q).2 a, by rw [ek]; exact c⟩
    have hsn : tr.p.sn = 0 := o2.trans H.sn
    have htn : tr.p.h.n = j := o5.trans hn
    obtain ⟨rE, rA, rN⟩ := PT.row_re o1 hsn (fun q hq => (hl q hq).1) htn hj hj2 (by omega)
    have hcells : t.p.cells = 3 * (j : Int) := by unfold PT.cells; rw [H.sn, hn]; simp
    have hl0 : hs.roomE 0 = 0 := by have := K.l1; unfold HS.roomE; rw [if_neg (by omega), if_neg (by omega)]
    have hl1 : hs.roomE (3 * (tr.p.reN (PH.kb b (j + 1)) : Int)) = 0 := by unfold HS.roomE; rw [if_neg (by omega), if_neg (by omega)]
    have hlay : layE hs (tr.p.reA (PH.kb b (j + 1)) : Nat) (tr.p.reN (PH.kb b (j + 1)) : Nat) = 0 := by
      rw [rA]
      unfold layE
      rw [if_neg (by simpa using hl0)]
      show (hs.take 0).roomE _ = 0
      rw [HS.take_zero.1]
      exact hl1
    obtain ⟨X, hX⟩ : ∃ X, layA hs (tr.p.reA (PH.kb b (j + 1)) : Nat) = X := ⟨_, rfl⟩
    obtain ⟨Y, hY⟩ : ∃ Y, layN hs (tr.p.reA (PH.kb b (j + 1)) : Nat) (tr.p.reN (PH.kb b (j + 1)) : Nat) = Y := ⟨_, rfl⟩
    have eR : (tr.reh hs (PH.kb b (j + 1))) = ({ p := tr.p.laid (PH.kb b (j + 1)) X Y, hint := 0, pr := tr.pr }, ((layH hs (tr.p.reA (PH.kb b (j + 1)) : Nat) (tr.p.reN (PH.kb b (j + 1)) : Nat)).give tr.p.sAt).give tr.p.nAt, 0) := by
      unfold Tbl.reh
      rw [if_neg (by rw [rE]; simp), if_neg (by rw [hlay]; simp), hX, hY]
    obtain ⟨l1, l2, l3, l4, l5⟩ := PT.row_laid o1 hsn hl hh htn hj hj2 (by omega) X Y
    obtain ⟨e1, e2, e3⟩ := l5.put l3 hv hv0
    have eS : t.set hs (PH.kb b (j + 1)) (iV ((j + 1 : Nat) : Int)) = ({ p := ((tr.p.laid (PH.kb b (j + 1)) X Y).put (PH.kb b (j + 1)) (iV ((j + 1 : Nat) : Int))).1, hint := 0, pr := tr.pr }, ((layH hs (tr.p.reA (PH.kb b (j + 1)) : Nat) (tr.p.reN (PH.kb b (j + 1)) : Nat)).give tr.p.sAt).give tr.p.nAt, ((tr.p.laid (PH.kb b (j + 1)) X Y).put (PH.kb b (j + 1)) (iV ((j + 1 : Nat) : Int))).2.2) := by
      unfold Tbl.set
      rw [if_neg hform, if_neg (by rw [e]; decide), htr, eR]
      rfl
    rw [eS, PT.put_out (PT.notB l2 _)]
    exact ⟨e1, l2, e3, by show PH.n _ ≤ _; rw [e2]; omega⟩
/-- The reads of all keys of the row. -/
def rdSum (b : Nat) (h : PH) : Nat → Nat
  | 0 => 0
  | i + 1 => rdSum b h i + (h.findA (PH.kb b (i + 1))).2
theorem rdSum_le {b j : Nat} {h : PH} (H : PH.Lin b j h) : ∀ i, i ≤ j → rdSum b h i ≤ i + (if h.n ≤ i then 1 else 0)
  | 0, _ => by unfold rdSum; omega
  | i + 1, hi => by
    have ih := rdSum_le H i (by omega)
    have h1 := H.rd (i + 1) (by omega) hi
    have hj := H.jn
    unfold rdSum
    by_cases e : i + 1 = h.n
    · rw [if_pos e] at h1
      rw [if_neg (by omega)] at ih
      rw [if_pos (by omega)]
      omega
    · rw [if_neg e] at h1
      rw [if_neg (by omega)] at ih
      split <;> omega
end Go.Proofs.Yteheolefemlcgaa
