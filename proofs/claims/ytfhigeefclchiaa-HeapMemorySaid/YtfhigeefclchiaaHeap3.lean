/- The program's heap: New, room, Take, Give, Spend, Live, Laid. -/
import Derived.Test.YtfhigeefclchiaaHeap2
import Derived.StillTailTactics
namespace Go.Proofs.Ytfhigeefclchiaa
open Go.RowKit Go.Maps
set_option linter.unusedVariables false
set_option linter.unusedSimpArgs false

namespace HS
def roomE (h : HS) (n : Int) : Int := if n < 0 then 1 else if h.lim - h.live < n then 10 else 0
def takeId (h : HS) (n : Int) : Int := if roomE h n ≠ 0 ∨ n = 0 then 0 else match (h.rd n).getLast? with | some id => id | none => (h.sizes.length : Int) + 1
def takeOld (h : HS) (n id : Int) : HS := { h with rd := updI h.rd n (h.rd n).dropLast, tk := updI h.tk id (some n), live := h.live + n }
def takeNew (h : HS) (n : Int) : HS := { h with sizes := h.sizes ++ [n], laid := h.laid + n, tk := updI h.tk ((h.sizes.length : Int) + 1) (some n), live := h.live + n }
def take (h : HS) (n : Int) : HS := if roomE h n ≠ 0 ∨ n = 0 then h else match (h.rd n).getLast? with | some id => h.takeOld n id | none => h.takeNew n
def giveE (h : HS) (id : Int) : Int := if id = 0 then 0 else if (h.tk id).isSome then 0 else 1
def giveBack (h : HS) (id n : Int) : HS := { h with tk := updI h.tk id none, rd := updI h.rd n (h.rd n ++ [id]), live := h.live - n }
def give (h : HS) (id : Int) : HS := if id = 0 then h else match h.tk id with | some n => h.giveBack id n | none => h
def spend (h : HS) (n : Int) : HS := if roomE h n = 0 then { h with live := h.live + n } else h
def new (lim : Int) : HS := ⟨lim, 0, 0, [], fun _ => none, fun _ => []⟩
/-- The cells of what is taken. -/
def tsum (tk : Int → Option Int) (k : Nat) : Int := ((List.range k).map fun i : Nat => (tk ((i : Int) + 1)).getD 0).sum
structure ok (h : HS) : Prop where
  l1 : h.live ≤ h.lim
  l2 : h.lim ≤ 400000
  sz : ∀ s ∈ h.sizes, 1 ≤ s ∧ s ≤ 400000
  ld : h.laid = h.sizes.sum
  tk : ∀ id n, h.tk id = some n → 1 ≤ id ∧ id ≤ h.sizes.length ∧ h.sizes.getD (id - 1).toNat 0 = n
  rd : ∀ n id, id ∈ h.rd n → 1 ≤ id ∧ id ≤ h.sizes.length ∧ h.sizes.getD (id - 1).toNat 0 = n ∧ h.tk id = none
  nd : ∀ n, (h.rd n).Nodup
  ts : tsum h.tk h.sizes.length ≤ h.live
theorem tsum_succ (tk : Int → Option Int) (k : Nat) : tsum tk (k + 1) = tsum tk k + (tk ((k : Int) + 1)).getD 0 := by unfold tsum; simp [List.range_succ]
theorem tsum_out (tk : Int → Option Int) (id : Int) (x : Option Int) : ∀ k : Nat, (k : Int) < id → tsum (updI tk id x) k = tsum tk k
  | 0, _ => rfl
  | k + 1, h => by
    rw [tsum_succ, tsum_succ, tsum_out tk id x k (by omega), updI_other _ _ _ (by omega)]
theorem tsum_upd (tk : Int → Option Int) (id : Int) (x : Option Int) (h1 : 1 ≤ id) : ∀ k : Nat, id ≤ k → tsum (updI tk id x) k = tsum tk k - (tk id).getD 0 + x.getD 0
  | 0, h => by omega
  | k + 1, h => by
    rw [tsum_succ, tsum_succ]
    by_cases e : id = (k : Int) + 1
    · subst e
      rw [tsum_out tk _ x k (by omega), updI_same]
      omega
    · rw [tsum_upd tk id x h1 k (by omega), updI_other _ _ _ (fun h => e h.symm)]
      omega
theorem tsum_nonneg (tk : Int → Option Int) (h : ∀ id n, tk id = some n → 0 ≤ n) : ∀ k, 0 ≤ tsum tk k
  | 0 => Int.le_refl _
  | k + 1 => by
    rw [tsum_succ]
    have := tsum_nonneg tk h k
    cases e : tk ((k : Int) + 1) with
    | none => simp; omega
    | some n => have := h _ _ e; simp; omega
theorem getD_in {l : List Int} {P : Int → Prop} (h : ∀ x ∈ l, P x) {j : Nat} (hj : j < l.length) : P (l.getD j 0) := by
  rw [List.getD_eq_getElem?_getD, List.getElem?_eq_getElem hj]; exact h _ (List.getElem_mem hj)
theorem ok.tkn {h : HS} (k : h.ok) {id n : Int} (e : h.tk id = some n) : 1 ≤ n ∧ n ≤ 400000 := by
  obtain ⟨h1, h2, h3⟩ := k.tk _ _ e
  rw [← h3]
  exact getD_in k.sz (by omega)
theorem ok.rdn {h : HS} (k : h.ok) {id n : Int} (e : id ∈ h.rd n) : 1 ≤ n ∧ n ≤ 400000 := by
  obtain ⟨h1, h2, h3, -⟩ := k.rd _ _ e
  rw [← h3]
  exact getD_in k.sz (by omega)
theorem ok.l0 {h : HS} (k : h.ok) : 0 ≤ h.live := Int.le_trans (tsum_nonneg _ (fun id n e => by have := k.tkn e; omega) _) k.ts
theorem sum_bound (l : List Int) (h : ∀ s ∈ l, 1 ≤ s ∧ s ≤ 400000) : 0 ≤ l.sum ∧ l.sum ≤ 400000 * l.length := by
  induction l with
  | nil => simp
  | cons x l ih =>
    have h1 := h x (by simp)
    have h2 := ih (fun s hs => h s (by simp [hs]))
    simp only [List.sum_cons, List.length_cons]
    push_cast
    omega
theorem ok.laid_le {h : HS} (k : h.ok) : 0 ≤ h.laid ∧ h.laid ≤ 400000 * h.sizes.length := by rw [k.ld]; exact sum_bound _ k.sz
theorem ok_new (lim : Int) (h0 : 0 ≤ lim) (h1 : lim ≤ 400000) : (new lim).ok := by
  refine ⟨h0, h1, fun s hs => by simp [new] at hs, rfl, fun id n e => by simp [new] at e, fun n id e => by simp [new] at e, fun n => by simp [new], by simp [new, tsum]⟩
theorem roomE_ok {h : HS} {n : Int} : roomE h n = 0 ↔ 0 ≤ n ∧ h.live + n ≤ h.lim := by
  unfold roomE
  by_cases h1 : n < 0
  · rw [if_pos h1]; omega
  · rw [if_neg h1]
    by_cases h2 : h.lim - h.live < n
    · rw [if_pos h2]; omega
    · rw [if_neg h2]; omega
theorem getLast_concat {l : List Int} {x : Int} (h : l.getLast? = some x) : l = l.dropLast ++ [x] := by
  have h0 : l ≠ [] := by intro e; subst e; simp at h
  have := List.dropLast_concat_getLast h0
  rw [List.getLast?_eq_some_getLast h0] at h
  have e : l.getLast h0 = x := by simpa using h
  rw [e] at this
  exact this.symm
theorem ok_old {h : HS} (k : h.ok) {n id : Int} (hr : roomE h n = 0) (hl : (h.rd n).getLast? = some id) : (h.takeOld n id).ok := by
  obtain ⟨r1, r2⟩ := roomE_ok.1 hr
  have hc := getLast_concat hl
  have hm : id ∈ h.rd n := by rw [hc]; simp
  obtain ⟨a1, a2, a3, a4⟩ := k.rd _ _ hm
  have hnd := k.nd n
  have hnot : id ∉ (h.rd n).dropLast := by
    rw [hc, List.nodup_append] at hnd
    intro hm2
    exact hnd.2.2 _ hm2 _ (by simp) rfl
  have hsub : ∀ x, x ∈ (h.rd n).dropLast → x ∈ h.rd n := fun x hx => (List.dropLast_sublist _).subset hx
  refine ⟨?_, k.l2, k.sz, k.ld, fun x m e => ?_, fun m x e => ?_, fun m => ?_, ?_⟩
  · show h.live + n ≤ h.lim; omega
  · change updI h.tk id (some n) x = some m at e
    by_cases e2 : x = id
    · subst e2; rw [updI_same] at e; simp at e; subst e; exact ⟨a1, a2, a3⟩
    · rw [updI_other _ _ _ e2] at e; exact k.tk _ _ e
  · change x ∈ updI h.rd n (h.rd n).dropLast m at e
    by_cases e2 : m = n
    · subst e2
      rw [updI_same] at e
      obtain ⟨b1, b2, b3, b4⟩ := k.rd _ _ (hsub x e)
      refine ⟨b1, b2, b3, ?_⟩
      show updI h.tk id (some m) x = none
      rw [updI_other _ _ _ (by intro e3; subst e3; exact hnot e)]; exact b4
    · rw [updI_other _ _ _ e2] at e
      obtain ⟨b1, b2, b3, b4⟩ := k.rd _ _ e
      refine ⟨b1, b2, b3, ?_⟩
      show updI h.tk id (some n) x = none
      rw [updI_other _ _ _ (by intro e3; subst e3; exact e2 (b3.symm.trans a3))]; exact b4
  · show (updI h.rd n (h.rd n).dropLast m).Nodup
    by_cases e2 : m = n
    · subst e2; rw [updI_same]; exact (List.dropLast_sublist _).nodup (k.nd m)
    · rw [updI_other _ _ _ e2]; exact k.nd m
  · show tsum (updI h.tk id (some n)) h.sizes.length ≤ h.live + n
    rw [tsum_upd _ _ _ a1 _ a2, a4]
    have := k.ts
    simp
    omega
theorem ok_newB {h : HS} (k : h.ok) {n : Int} (hr : roomE h n = 0) (h0 : n ≠ 0) : (h.takeNew n).ok := by
  obtain ⟨r1, r2⟩ := roomE_ok.1 hr
  have l0 := k.l0
  have l2 := k.l2
  have hlen : ((h.sizes ++ [n]).length : Int) = h.sizes.length + 1 := by simp
  have hget : ∀ x : Int, 1 ≤ x → x ≤ h.sizes.length → (h.sizes ++ [n]).getD (x - 1).toNat 0 = h.sizes.getD (x - 1).toNat 0 := fun x h1 h2 => by
    rw [List.getD_eq_getElem?_getD, List.getD_eq_getElem?_getD, List.getElem?_append_left (by omega)]
  have hno : h.tk ((h.sizes.length : Int) + 1) = none := by
    cases e : h.tk ((h.sizes.length : Int) + 1) with
    | none => rfl
    | some m => have := k.tk _ _ e; omega
  refine ⟨?_, k.l2, fun s hs => ?_, ?_, fun x m e => ?_, fun m x e => ?_, k.nd, ?_⟩
  · show h.live + n ≤ h.lim; omega
  · rcases List.mem_append.1 hs with hs | hs
    · exact k.sz s hs
    · rw [List.mem_singleton.1 hs]; omega
  · show h.laid + n = (h.sizes ++ [n]).sum
    rw [k.ld]; simp
  · change updI h.tk _ (some n) x = some m at e
    show 1 ≤ x ∧ x ≤ ((h.sizes ++ [n]).length : Int) ∧ (h.sizes ++ [n]).getD (x - 1).toNat 0 = m
    rw [hlen]
    by_cases e2 : x = (h.sizes.length : Int) + 1
    · subst e2
      rw [updI_same] at e
      simp at e
      subst e
      refine ⟨by omega, by omega, ?_⟩
      rw [show ((h.sizes.length : Int) + 1 - 1).toNat = h.sizes.length by omega, List.getD_eq_getElem?_getD]
      simp
    · rw [updI_other _ _ _ e2] at e
      obtain ⟨b1, b2, b3⟩ := k.tk _ _ e
      exact ⟨b1, by omega, by rw [hget x b1 b2]; exact b3⟩
  · obtain ⟨b1, b2, b3, b4⟩ := k.rd _ _ e
    show 1 ≤ x ∧ x ≤ ((h.sizes ++ [n]).length : Int) ∧ (h.sizes ++ [n]).getD (x - 1).toNat 0 = m ∧ updI h.tk _ (some n) x = none
    rw [hlen]
    exact ⟨b1, by omega, by rw [hget x b1 b2]; exact b3, by rw [updI_other _ _ _ (by omega)]; exact b4⟩
  · show tsum (updI h.tk _ (some n)) (h.sizes ++ [n]).length ≤ h.live + n
    have e : (h.sizes ++ [n]).length = h.sizes.length + 1 := by simp
    rw [e, tsum_succ, tsum_out _ _ _ _ (by omega), updI_same]
    have := k.ts
    simp
    omega
theorem ok_take {h : HS} (k : h.ok) (n : Int) : (h.take n).ok := by
  unfold take
  by_cases hr : roomE h n ≠ 0 ∨ n = 0
  · rw [if_pos hr]; exact k
  · rw [if_neg hr]
    have h1 : roomE h n = 0 := by apply Decidable.byContradiction; intro e; exact hr (.inl e)
    have h2 : n ≠ 0 := fun e => hr (.inr e)
    cases hl : (h.rd n).getLast? with
    | some id => exact ok_old k h1 hl
    | none => exact ok_newB k h1 h2
theorem ok_giveBack {h : HS} (k : h.ok) {n id : Int} (e : h.tk id = some n) : (h.giveBack id n).ok := by
  obtain ⟨a1, a2, a3⟩ := k.tk _ _ e
  have hn := k.tkn e
  refine ⟨?_, k.l2, k.sz, k.ld, fun x m e1 => ?_, fun m x e1 => ?_, fun m => ?_, ?_⟩
  · show h.live - n ≤ h.lim; have := k.l1; omega
  · change updI h.tk id none x = some m at e1
    by_cases e2 : x = id
    · subst e2; rw [updI_same] at e1; simp at e1
    · rw [updI_other _ _ _ e2] at e1; exact k.tk _ _ e1
  · change x ∈ updI h.rd n (h.rd n ++ [id]) m at e1
    show 1 ≤ x ∧ x ≤ h.sizes.length ∧ h.sizes.getD (x - 1).toNat 0 = m ∧ updI h.tk id none x = none
    by_cases e2 : x = id
    · subst e2
      rw [updI_same]
      by_cases e3 : m = n
      · subst e3; exact ⟨a1, a2, a3, rfl⟩
      · rw [updI_other _ _ _ e3] at e1
        have := k.rd _ _ e1
        rw [this.2.2.2] at e
        simp at e
    · rw [updI_other _ _ _ e2]
      by_cases e3 : m = n
      · subst e3
        rw [updI_same] at e1
        rcases List.mem_append.1 e1 with e1 | e1
        · exact k.rd _ _ e1
        · exact absurd (List.mem_singleton.1 e1) e2
      · rw [updI_other _ _ _ e3] at e1; exact k.rd _ _ e1
  · show (updI h.rd n (h.rd n ++ [id]) m).Nodup
    by_cases e3 : m = n
    · subst e3
      rw [updI_same, List.nodup_append]
      refine ⟨k.nd m, by simp, fun a ha b hb => ?_⟩
      rw [List.mem_singleton.1 hb]
      intro e4; subst e4
      have := k.rd _ _ ha
      rw [this.2.2.2] at e
      simp at e
    · rw [updI_other _ _ _ e3]; exact k.nd m
  · show tsum (updI h.tk id none) h.sizes.length ≤ h.live - n
    rw [tsum_upd _ _ _ a1 _ a2, e]
    have := k.ts
    simp
    omega
theorem ok_give {h : HS} (k : h.ok) (id : Int) : (h.give id).ok := by
  unfold give
  by_cases h0 : id = 0
  · rw [if_pos h0]; exact k
  · rw [if_neg h0]
    cases e : h.tk id with
    | none => exact k
    | some n => exact ok_giveBack k e
theorem ok_spend {h : HS} (k : h.ok) (n : Int) : (h.spend n).ok := by
  unfold spend
  by_cases hr : roomE h n = 0
  · rw [if_pos hr]
    obtain ⟨r1, r2⟩ := roomE_ok.1 hr
    have := k.ts
    exact ⟨r2, k.l2, k.sz, k.ld, k.tk, k.rd, k.nd, by show tsum h.tk h.sizes.length ≤ h.live + n; omega⟩
  · rw [if_neg hr]; exact k
end HS
/-- The heap h behind the pointer to block p, on the blocks of F. -/
def HeapAt (F : Nat → Prop) (w : World) (p : Nat) (h : HS) : Prop :=
  h.ok ∧ ∃ bt br sv rv, HeapIn w p bt br h.sizes.length h.sizes.length sv rv h ∧ (∀ x, In64 x → (rv x).isSome = true → x ∈ h.sizes) ∧ F = own p bt br sv rv
/-- The heap has become h', on blocks of F and new ones. -/
def Goes (F : Nat → Prop) (w : World) (p : Nat) (h' : HS) (w' : World) : Prop := ∃ F', HeapAt F' w' p h' ∧ Kp F w w' ∧ ∀ q, F' q → F q ∨ w.heap.size ≤ q
theorem HeapAt.lt {F : Nat → Prop} {w : World} {p : Nat} {h : HS} (H : HeapAt F w p h) (q : Nat) (hq : F q) : q < w.heap.size := by
  obtain ⟨-, bt, br, sv, rv, h1, -, rfl⟩ := H
  exact h1.lt q hq
theorem HeapAt.kp {F G : Nat → Prop} {w w' : World} {p : Nat} {h : HS} (H : HeapAt F w p h) (hk : Kp G w w') (hF : ∀ q, F q → ¬ G q) : HeapAt F w' p h := by
  obtain ⟨k, bt, br, sv, rv, h1, h2, rfl⟩ := H
  exact ⟨k, bt, br, sv, rv, h1.kp hk hF, h2, rfl⟩
theorem HeapAt.below {F : Nat → Prop} {w w' : World} {p : Nat} {h : HS} (H : HeapAt F w p h) (hb : Below w.heap.size w w') : HeapAt F w' p h := by
  obtain ⟨k, bt, br, sv, rv, h1, h2, rfl⟩ := H
  exact ⟨k, bt, br, sv, rv, h1.below hb, h2, rfl⟩
theorem Goes.same {F : Nat → Prop} {w w' : World} {p : Nat} {h : HS} (H : HeapAt F w p h) (hb : Below w.heap.size w w') : Goes F w p h w' := ⟨F, H.below hb, below_kp hb, fun q hq => .inl hq⟩
theorem ids_mem (k : Nat) (x : Int) : x ∈ Cs.up k ↔ 1 ≤ x ∧ x ≤ k := Cs.up_mem k x
/-- The maps have no more entries than there are blocks. -/
theorem HeapAt.shut {w : World} {p bt br nt nr : Nat} {sv : Value} {rv : Int → Option Value} {h : HS} (k : h.ok) (H : HeapIn w p bt br nt nr sv rv h) (hr : ∀ x, In64 x → (rv x).isSome = true → x ∈ h.sizes) : HeapAt (own p bt br sv rv) w p h := by
  refine ⟨k, bt, br, sv, rv, ⟨H.c0, H.c1, H.c2, H.c3, H.c4, H.c5, H.fz, ?_, H.mr.fit _ hr, H.fam, H.off, H.n1, H.n2, H.n3⟩, hr, rfl⟩
  have := H.mt.fit (Cs.up h.sizes.length) (fun x hx hs => by
    cases e : h.tk x with
    | none => rw [e] at hs; simp at hs
    | some n => have := k.tk _ _ e; rw [Cs.up_mem]; omega)
  rw [Cs.up_length] at this
  exact this
end Go.Proofs.Ytfhigeefclchiaa
