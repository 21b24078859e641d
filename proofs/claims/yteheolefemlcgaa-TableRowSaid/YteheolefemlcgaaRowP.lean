/- Consecutive whole numbers in a hash part: how many nodes a search reads. -/
import Derived.Test.YteheolefemlcgaaTabW
namespace Go.Proofs.Yteheolefemlcgaa
open Go.RowKit
set_option linter.unusedVariables false
set_option linter.unusedSimpArgs false

namespace PH
def dd (n : Nat) : Nat := (n - 1) ||| 1
def kb (b i : Nat) : V := iV ((b + i : Nat) : Int)
theorem kb_inj {b i j : Nat} (h : kb b i = kb b j) : i = j := by
  have := congrArg V.n h
  simp only [kb, iV] at this
  omega
theorem kb_ok (b i : Nat) : okV (kb b i) = true := okV_iV _
theorem kb_k (b i : Nat) : (kb b i).k = 2 := rfl
theorem mpos_kb (n b i : Nat) (hx : b + i < 9223372036854775808) : mpos n (kb b i) = (b + i) % dd n := by
  unfold mpos
  rw [if_pos (kb_k b i)]
  have e : ((kb b i).n % 18446744073709551616).toNat = b + i := by
    show ((((b + i : Nat) : Int)) % 18446744073709551616).toNat = b + i
    omega
  rw [e]; rfl
theorem res_inj {b d J i j : Nat} (hJ : J ≤ d) (i1 : 1 ≤ i) (iJ : i ≤ J) (j1 : 1 ≤ j) (jJ : j ≤ J) (h : (b + i) % d = (b + j) % d) : i = j := by
  have key : ∀ i j, i ≤ j → 1 ≤ i → j ≤ J → (b + i) % d = (b + j) % d → i = j := fun i j hij i1 jJ h => by
    have h2 := Nat.sub_mod_eq_zero_of_mod_eq h.symm
    rw [show b + j - (b + i) = j - i by omega] at h2
    by_cases e : j - i = 0
    · omega
    · have h3 : d ≤ j - i := Nat.le_of_dvd (by omega) (Nat.dvd_of_mod_eq_zero h2)
      omega
  rcases Nat.le_total i j with h1 | h1
  · exact key i j h1 i1 jJ h
  · exact (key j i h1 j1 iJ h.symm).symm
/-- Each key at its own main position. -/
structure Str (b J : Nat) (P : Nat → Prop) (h : PH) : Prop where
  good : h.good
  n0 : 0 < h.n
  le : J ≤ dd h.n
  lt : b + J < 9223372036854775808
  at_ : ∀ i, P i → 1 ≤ i ∧ i ≤ J ∧ h.key ((b + i) % dd h.n) = kb b i
  only : ∀ q, h.occ q → ∃ i, P i ∧ h.key q = kb b i
  vl : ∀ q, h.occ q → (h.val q).k ≠ 0
section
variable {b J : Nat} {P : Nat → Prop} {h : PH}
theorem Str.own (H : Str b J P h) {q : Nat} (hq : h.occ q) : mpos h.n (h.key q) = q := by
  obtain ⟨i, hi, e⟩ := H.only q hq
  obtain ⟨i1, iJ, ea⟩ := H.at_ i hi
  have hlt := H.lt
  rw [e, mpos_kb _ _ _ (by omega)]
  refine H.good.ok.dist _ _ ?_ hq (by rw [ea, e])
  unfold occ; rw [ea, kb_k]; decide
theorem Str.ch (H : Str b J P h) {q : Nat} (hq : h.occ q) : h.ch q = [q] := by
  have h1 := H.good.ok.cov q hq
  rw [H.own hq] at h1
  have h2 : ∀ x ∈ h.ch q, x = q := fun x hx => by
    obtain ⟨-, ho, e⟩ := H.good.ok.mem q x hx
    rw [H.own ho] at e
    exact e
  have hn := H.good.ok.nd q
  match e : h.ch q with
  | [] => rw [e] at h1; simp at h1
  | [a] => rw [e] at h2; rw [h2 a (by simp)]
  | a :: c :: l =>
    rw [e] at h2 hn
    have ea := h2 a (by simp); have ec := h2 c (by simp)
    subst ea; subst ec
    simp at hn
theorem Str.find (H : Str b J P h) {i : Nat} (hi : P i) : h.findA (kb b i) = (some ((b + i) % dd h.n), 1) := by
  obtain ⟨i1, iJ, ea⟩ := H.at_ i hi
  have hlt := H.lt
  have hm := mpos_kb h.n b i (by omega)
  have ho : h.occ ((b + i) % dd h.n) := by unfold occ; rw [ea, kb_k]; decide
  unfold findA
  rw [if_pos (show h.has (kb b i) from ⟨H.n0, kb_ok b i, by rw [kb_k]; decide⟩)]
  have hp : h.path (mpos h.n) (kb b i) = [(b + i) % dd h.n] := by
    unfold path
    rw [hm, if_pos ho, H.own ho, H.ch ho]
    simp [fromL]
  unfold PH.find
  rw [hp]
  simp [seek, ea]
/-- A new key whose place is in the window goes to its own main position. -/
theorem Str.putN (H : Str b J P h) {i : Nat} (hi : ¬ P i) (i1 : 1 ≤ i) (iJ : i ≤ J) {v : V} (hv : okV v = true) (hv0 : v.k ≠ 0) : (h.put (kb b i) v).2.2 = 0 ∧ (h.put (kb b i) v).1.n = h.n ∧ Str b J (fun x => P x ∨ x = i) (h.put (kb b i) v).1 := by
  have hlt := H.lt
  have hm := mpos_kb h.n b i (by omega)
  have hnew : ∀ q, h.occ q → h.key q ≠ kb b i := fun q hq e => by
    obtain ⟨x, hx, e2⟩ := H.only q hq
    exact hi (kb_inj (e2.symm.trans e) ▸ hx)
  have hno : ¬ h.occ ((b + i) % dd h.n) := fun ho => by
    obtain ⟨x, hx, e2⟩ := H.only _ ho
    obtain ⟨x1, xJ, ea⟩ := H.at_ x hx
    have e3 := H.own ho
    rw [e2, mpos_kb _ _ _ (by omega)] at e3
    exact hi (res_inj H.le x1 xJ i1 iJ e3 ▸ hx)
  have hk0 : (kb b i).k ≠ 0 := by rw [kb_k]; decide
  have hhas : h.has (kb b i) := ⟨H.n0, kb_ok b i, hk0⟩
  have hf : (h.findA (kb b i)).1 = none := (findA_none H.good _).2 hnew
  have hins : h.ins (kb b i) v = (h.place ((b + i) % dd h.n) (kb b i) v, 0) := by
    unfold ins
    rw [hm, if_neg (by simpa using hhas), if_pos hno]
  obtain ⟨g1, g2, -⟩ := ins_is H.good (k := kb b i) (v := v) (kb_ok b i) hk0 hnew
  have e : h.put (kb b i) v = (h.place ((b + i) % dd h.n) (kb b i) v, (h.findA (kb b i)).2, 0) := by
    unfold PH.put
    rw [if_neg (by rw [kb_ok b i, hv]; simp), if_neg hk0, hf]
    simp only [if_neg hv0, hins]
  rw [hins] at g1 g2
  rw [e]
  refine ⟨rfl, rfl, g1, H.n0, H.le, hlt, fun x hx => ?_, fun q hq => ?_, fun q hq => ?_⟩
  · show 1 ≤ x ∧ x ≤ J ∧ upd h.key ((b + i) % dd h.n) (kb b i) ((b + x) % dd h.n) = kb b x
    rcases hx with hx | rfl
    · obtain ⟨x1, xJ, ea⟩ := H.at_ x hx
      refine ⟨x1, xJ, ?_⟩
      rw [upd_other _ _ _ (fun e => hno (by rw [← e]; unfold occ; rw [ea, kb_k]; decide))]
      exact ea
    · exact ⟨i1, iJ, upd_same _ _ _⟩
  · by_cases eq : q = (b + i) % dd h.n
    · exact ⟨i, .inr rfl, by rw [eq]; exact upd_same _ _ _⟩
    · have hq' : h.occ q := by
        have : (upd h.key ((b + i) % dd h.n) (kb b i) q).k ≠ 0 := hq
        rw [upd_other _ _ _ eq] at this; exact this
      obtain ⟨x, hx, e2⟩ := H.only q hq'
      exact ⟨x, .inl hx, (upd_other _ _ _ eq).trans e2⟩
  · show (upd h.val ((b + i) % dd h.n) v q).k ≠ 0
    by_cases eq : q = (b + i) % dd h.n
    · rw [eq, upd_same]; exact hv0
    · have hq' : h.occ q := by
        have : (upd h.key ((b + i) % dd h.n) (kb b i) q).k ≠ 0 := hq
        rw [upd_other _ _ _ eq] at this; exact this
      rw [upd_other _ _ _ eq]; exact H.vl q hq'
theorem Str.mono {Q : Nat → Prop} (H : Str b J P h) (h1 : ∀ i, Q i ↔ P i) : Str b J Q h := by
  have : Q = P := funext fun i => propext (h1 i)
  rw [this]; exact H
theorem dd_even {n : Nat} (h0 : n ≠ 1) (h1 : n % 2 = 0) (h2 : 0 < n) : dd n = n - 1 := by
  unfold dd
  apply Nat.eq_of_testBit_eq
  intro i
  rw [Nat.testBit_or]
  cases i with
  | zero => simp; omega
  | succ i => simp [Nat.testBit_succ]
/-- n keys in n nodes: the last one lies at the last node, linked. -/
theorem Str.last {n : Nat} (hn : h.n = n) (h2 : 2 ≤ n) (H : Str b (n - 1) (fun i => 1 ≤ i ∧ i ≤ n - 1) h) (hlt : b + n < 9223372036854775808) {v : V} (hv : okV v = true) (hv0 : v.k ≠ 0) :
    (h.put (kb b n) v).2.2 = 0 ∧ (h.put (kb b n) v).1.n = n ∧ (h.put (kb b n) v).1.good ∧ (∀ q, (h.put (kb b n) v).1.occ q → (∃ i, 1 ≤ i ∧ i ≤ n ∧ (h.put (kb b n) v).1.key q = kb b i) ∧ ((h.put (kb b n) v).1.val q).k ≠ 0) ∧
    (∀ i, 1 ≤ i → i ≤ n → ∃ q, (h.put (kb b n) v).1.occ q ∧ (h.put (kb b n) v).1.key q = kb b i) ∧ (∀ i, 1 ≤ i → i ≤ n → ((h.put (kb b n) v).1.findA (kb b i)).2 = if i = n then 2 else 1) := by
  subst hn
  have hev := H.good.even (by omega)
  have hd : dd h.n = h.n - 1 := dd_even (by omega) (by omega) (by omega)
  have hk0 : (kb b h.n).k ≠ 0 := by rw [kb_k]; decide
  have hnew : ∀ q, h.occ q → h.key q ≠ kb b h.n := fun q hq e => by
    obtain ⟨x, hx, e2⟩ := H.only q hq
    have := kb_inj (e2.symm.trans e)
    omega
  obtain ⟨m, hm⟩ : ∃ m, (b + 1) % dd h.n = m := ⟨_, rfl⟩
  have hmn : (b + h.n) % dd h.n = m := by
    rw [← hm, hd, show b + h.n = (b + 1) + (h.n - 1) by omega, Nat.add_mod_right]
  have hmp : mpos h.n (kb b h.n) = m := by rw [mpos_kb _ _ _ hlt, hmn]
  have ea1 : h.key m = kb b 1 := by rw [← hm]; exact (H.at_ 1 ⟨by omega, by omega⟩).2.2
  have hom : h.occ m := by unfold occ; rw [ea1, kb_k]; decide
  have hml : m < h.n - 1 := by rw [← hm, hd]; exact Nat.mod_lt _ (by omega)
  have hlast : ¬ h.occ (h.n - 1) := fun ho => by
    obtain ⟨x, hx, e2⟩ := H.only _ ho
    have e3 := H.own ho
    rw [e2, mpos_kb _ _ _ (by omega), hd] at e3
    have := Nat.mod_lt (b + x) (show 0 < h.n - 1 by omega)
    omega
  have hfree : h.free = h.n := by
    apply Decidable.byContradiction
    intro hne
    have := H.good.ok.free
    exact hlast (H.good.ok.past (h.n - 1) (by omega) (by omega))
  have hroom : h.roomF h.free = some (h.n - 1) := by
    rw [hfree]
    have := roomF_here h (h.n - 1) hlast
    rwa [show h.n - 1 + 1 = h.n by omega] at this
  have hhas : h.has (kb b h.n) := ⟨H.n0, kb_ok b _, hk0⟩
  have hf : (h.findA (kb b h.n)).1 = none := (findA_none H.good _).2 hnew
  have hins : h.ins (kb b h.n) v = (({ h with free := h.n - 1 } : PH).link m (h.n - 1) (kb b h.n) v, 0) := by
    unfold ins
    rw [hmp, if_neg (by simpa using hhas), if_neg (by simpa using hom), hroom]
    simp only [H.own hom, if_true]
  obtain ⟨g1, g2, -⟩ := ins_is H.good (k := kb b h.n) (v := v) (kb_ok b _) hk0 hnew
  have e : h.put (kb b h.n) v = (({ h with free := h.n - 1 } : PH).link m (h.n - 1) (kb b h.n) v, (h.findA (kb b h.n)).2, 0) := by
    unfold PH.put
    rw [if_neg (by rw [kb_ok b, hv]; simp), if_neg hk0, hf]
    simp only [if_neg hv0, hins]
  rw [hins] at g1 g2
  rw [e]
  obtain ⟨h', hh'⟩ : ∃ h', ({ h with free := h.n - 1 } : PH).link m (h.n - 1) (kb b h.n) v = h' := ⟨_, rfl⟩
  have kn : h'.n = h.n := by rw [← hh']; rfl
  have kk : h'.key = upd h.key (h.n - 1) (kb b h.n) := by rw [← hh']; rfl
  have kv : h'.val = upd h.val (h.n - 1) v := by rw [← hh']; rfl
  have kc : h'.ch = upd h.ch m [m, h.n - 1] := by rw [← hh']; show upd h.ch m (m :: (h.n - 1) :: (h.ch m).tail) = _; rw [H.ch hom]; rfl
  have g1' : h'.good := by rw [← hh']; exact g1
  rw [hh']
  have hocc : ∀ q, h'.occ q ↔ q = h.n - 1 ∨ h.occ q := fun q => by
    unfold occ; rw [kk]
    by_cases eq : q = h.n - 1
    · rw [eq, upd_same]; simp [kb_k]
    · rw [upd_other _ _ _ eq]; simp [eq]
  have hkey : ∀ q, h.occ q → h'.key q = h.key q := fun q hq => by
    rw [kk, upd_other _ _ _ (fun e => hlast (by rw [← e]; exact hq))]
  refine ⟨rfl, kn, g1', fun q hq => ?_, fun i i1 iN => ?_, fun i i1 iN => ?_⟩
  · rcases (hocc q).1 hq with rfl | ho
    · exact ⟨⟨h.n, by omega, Nat.le_refl _, by rw [kk, upd_same]⟩, by rw [kv, upd_same]; exact hv0⟩
    · obtain ⟨x, hx, e2⟩ := H.only q ho
      exact ⟨⟨x, hx.1, by omega, (hkey q ho).trans e2⟩, by rw [kv, upd_other _ _ _ (fun e => hlast (by rw [← e]; exact ho))]; exact H.vl q ho⟩
  · by_cases ei : i = h.n
    · exact ⟨h.n - 1, (hocc _).2 (.inl rfl), by rw [kk, upd_same, ei]⟩
    · have ea := (H.at_ i ⟨i1, by omega⟩).2.2
      have ho : h.occ ((b + i) % dd h.n) := by unfold occ; rw [ea, kb_k]; decide
      exact ⟨_, (hocc _).2 (.inr ho), (hkey _ ho).trans ea⟩
  · have hmi : mpos h'.n (kb b i) = (b + i) % dd h.n := by rw [kn, mpos_kb _ _ _ (by omega)]
    unfold findA
    rw [if_pos (show h'.has (kb b i) from ⟨by rw [kn]; omega, kb_ok b i, by rw [kb_k]; decide⟩)]
    by_cases ei : i = h.n
    · subst ei
      rw [if_pos rfl]
      have hp : h'.path (mpos h'.n) (kb b h.n) = [m, h.n - 1] := by
        unfold path
        rw [hmi, hmn, if_pos ((hocc m).2 (.inr hom)), hkey m hom, kn, H.own hom, kc, upd_same]
        simp [fromL]
      unfold PH.find
      rw [hp]
      have s1 : h'.key m ≠ kb b h.n := by rw [hkey m hom]; exact hnew m hom
      have s2 : h'.key (h.n - 1) = kb b h.n := by rw [kk, upd_same]
      simp [seek, s1, s2]
    · rw [if_neg ei]
      have ea := (H.at_ i ⟨i1, by omega⟩).2.2
      have ho : h.occ ((b + i) % dd h.n) := by unfold occ; rw [ea, kb_k]; decide
      obtain ⟨p, hpq⟩ : ∃ p, (b + i) % dd h.n = p := ⟨_, rfl⟩
      rw [hpq] at ea ho hmi
      have hp : ∃ l, h'.path (mpos h'.n) (kb b i) = p :: l := by
        unfold path
        rw [hmi, if_pos ((hocc p).2 (.inr ho)), hkey p ho, kn, H.own ho, kc]
        by_cases e : p = m
        · subst e; rw [upd_same]; exact ⟨[h.n - 1], by simp [fromL]⟩
        · rw [upd_other _ _ _ e, H.ch ho]; exact ⟨[], by simp [fromL]⟩
      obtain ⟨l, hp⟩ := hp
      unfold PH.find
      rw [hp]
      have s1 : h'.key p = kb b i := (hkey p ho).trans ea
      simp [seek, s1]
end
end PH
end Go.Proofs.Yteheolefemlcgaa
