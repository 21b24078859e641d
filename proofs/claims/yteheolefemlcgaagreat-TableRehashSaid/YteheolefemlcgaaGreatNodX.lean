/- Folded of NodeP, NodeQ, NodeR. -/
import Derived.Test.YteheolefemlcgaaGreatBoxV
/- The hash part of a table in plain terms: what each node holds, the chains by main position, the free pointer. -/
namespace Go.Proofs.YteheolefemlcgaaGreat
open Go.RowKit
set_option linter.unusedVariables false
set_option linter.unusedSimpArgs false

instance : DecidableEq V := fun a b => by
  cases a with | mk k n s => cases b with | mk k' n' s' =>
    if h : k = k' ∧ n = n' ∧ s = s' then exact isTrue (by obtain ⟨rfl, rfl, rfl⟩ := h; rfl)
    else exact isFalse (fun e => h (by cases e; exact ⟨rfl, rfl, rfl⟩))
/-- A hash part of n nodes. -/
structure PH where
  n : Nat
  key : Nat → V
  val : Nat → V
  ch : Nat → List Nat
  free : Nat
namespace PH
def occ (h : PH) (i : Nat) : Prop := (h.key i).k ≠ 0
instance (h : PH) (i : Nat) : Decidable (h.occ i) := inferInstanceAs (Decidable ((h.key i).k ≠ 0))
def upd {α : Type} (f : Nat → α) (i : Nat) (x : α) (j : Nat) : α := if j = i then x else f j
theorem upd_same {α : Type} (f : Nat → α) (i : Nat) (x : α) : upd f i x i = x := if_pos rfl
theorem upd_other {α : Type} (f : Nat → α) (i : Nat) (x : α) {j : Nat} (h : j ≠ i) : upd f i x j = f j := if_neg h
/-- What follows i in a list. -/
def succL : List Nat → Nat → Option Nat
  | [], _ => none
  | [_], _ => none
  | a :: b :: l, i => if a = i then some b else succL (b :: l) i
/-- The list from m on. -/
def fromL : List Nat → Nat → List Nat
  | [], _ => []
  | a :: l, m => if a = m then a :: l else fromL l m
theorem fromL_suffix (l : List Nat) (m : Nat) : fromL l m <:+ l := by
  induction l with
  | nil => exact List.suffix_refl _
  | cons a l ih =>
    unfold fromL
    split
    · exact List.suffix_refl _
    · exact ih.trans (List.suffix_cons a l)
theorem fromL_head {l : List Nat} {m : Nat} (h : m ∈ l) : ∃ r, fromL l m = m :: r := by
  induction l with
  | nil => simp at h
  | cons a l ih =>
    unfold fromL
    by_cases e : a = m
    · subst e; exact ⟨l, if_pos rfl⟩
    · rw [if_neg e]
      rcases List.mem_cons.1 h with h | h
      · exact absurd h.symm e
      · exact ih h
/-- In a list without repeats: what follows the t-th. -/
theorem succL_get {l : List Nat} (hd : l.Nodup) (t : Nat) (ht : t < l.length) : succL l l[t] = l[t + 1]? := by
  induction l generalizing t with
  | nil => simp at ht
  | cons a l ih =>
    cases l with
    | nil =>
      have : t = 0 := by simpa using ht
      subst this; rfl
    | cons b l =>
      have hd' := List.nodup_cons.1 hd
      cases t with
      | zero => simp [succL]
      | succ t =>
        have ht' : t < (b :: l).length := by simpa using ht
        have hne : a ≠ (b :: l)[t] := fun e => hd'.1 (e ▸ List.getElem_mem ht')
        show (if a = (b :: l)[t] then some b else succL (b :: l) (b :: l)[t]) = _
        rw [if_neg hne, ih hd'.2 t ht']
        rfl
/-- The same behind a suffix. -/
theorem succL_suffix {l r : List Nat} (hd : l.Nodup) (hs : r <:+ l) (t : Nat) (ht : t < r.length) : succL l r[t] = r[t + 1]? := by
  obtain ⟨p, rfl⟩ := hs
  have h1 : p.length + t < (p ++ r).length := by simp; omega
  have h2 := succL_get hd (p.length + t) h1
  have e1 : (p ++ r)[p.length + t] = r[t] := by
    rw [List.getElem_append_right (by omega)]
    simp
  rw [e1] at h2
  rw [h2, List.getElem?_append_right (by omega)]
  congr 1
  omega
/-- Where the key stands in the list: how far. -/
def seek (f : Nat → V) (k : V) : List Nat → Option Nat
  | [] => none
  | a :: l => if f a = k then some 0 else (seek f k l).map (· + 1)
theorem seek_some {f : Nat → V} {k : V} : ∀ {l : List Nat} {t : Nat}, seek f k l = some t → ∃ h : t < l.length, f l[t] = k ∧ ∀ s (hs : s < t), f (l[s]'(by omega)) ≠ k
  | [], t, h => by simp [seek] at h
  | a :: l, t, h => by
    unfold seek at h
    by_cases e : f a = k
    · rw [if_pos e] at h
      obtain rfl : 0 = t := by simpa using h
      exact ⟨by simp, e, fun s hs => by omega⟩
    · rw [if_neg e] at h
      cases e2 : seek f k l with
      | none => rw [e2] at h; simp at h
      | some u =>
        rw [e2] at h
        obtain rfl : u + 1 = t := by simpa using h
        obtain ⟨h1, h2, h3⟩ := seek_some e2
        refine ⟨by simpa using h1, h2, fun s hs => ?_⟩
        cases s with
        | zero => exact e
        | succ s => exact h3 s (by omega)
theorem seek_none {f : Nat → V} {k : V} : ∀ {l : List Nat}, seek f k l = none → ∀ s (hs : s < l.length), f l[s] ≠ k
  | [], _, s, hs => by simp at hs
  | a :: l, h, s, hs => by
    unfold seek at h
    by_cases e : f a = k
    · rw [if_pos e] at h; simp at h
    · rw [if_neg e] at h
      cases e2 : seek f k l with
      | some u => rw [e2] at h; simp at h
      | none =>
        cases s with
        | zero => exact e
        | succ s => exact seek_none e2 s (by simpa using hs)
section
variable (mp : V → Nat)
def nxt (h : PH) (i : Nat) : Int := if h.occ i then (match succL (h.ch (mp (h.key i))) i with | some j => (j : Int) - i | none => 0) else 0
structure ok (h : PH) : Prop where
  free : h.free ≤ h.n
  out : ∀ i, h.n ≤ i → h.key i = nilV
  emp : ∀ i, ¬ h.occ i → h.key i = nilV ∧ h.val i = nilV
  mem : ∀ m i, i ∈ h.ch m → i < h.n ∧ h.occ i ∧ mp (h.key i) = m
  cov : ∀ i, h.occ i → i ∈ h.ch (mp (h.key i))
  nd : ∀ m, (h.ch m).Nodup
  head : ∀ m, h.ch m ≠ [] → (h.ch m).head? = some m
  dist : ∀ i j, h.occ i → h.occ j → h.key i = h.key j → i = j
  form : ∀ i, okV (h.key i) = true
  past : ∀ i, h.free ≤ i → i < h.n → h.occ i
/-- The nodes that a search for k reads, one behind the other. -/
def path (h : PH) (k : V) : List Nat := if h.occ (mp k) then fromL (h.ch (mp (h.key (mp k)))) (mp k) else [mp k]
/-- The search: the node (none), how many nodes were read. -/
def find (h : PH) (k : V) : Option Nat × Nat := match seek h.key k (h.path mp k) with | some t => ((h.path mp k)[t]?, t + 1) | none => (none, (h.path mp k).length)
def new (n : Nat) : PH := ⟨n, fun _ => nilV, fun _ => nilV, fun _ => [], n⟩
theorem ok_new (n : Nat) : (new n).ok mp := by
  refine ⟨Nat.le_refl _, fun _ _ => rfl, fun _ _ => ⟨rfl, rfl⟩, fun m i h => by simp [new] at h, fun i h => absurd rfl h, fun m => by simp [new], fun m h => absurd rfl h, fun i j h => absurd rfl h, fun i => by simp [new, okV, nilV], fun i h1 h2 => by simp [new] at h1 h2; omega⟩
variable {mp} {h : PH}
theorem ok.occ_lt (H : h.ok mp) {i : Nat} (ho : h.occ i) : i < h.n := (H.mem _ i (H.cov i ho)).1
theorem path_suffix (H : h.ok mp) (k : V) (ho : h.occ (mp k)) : h.path mp k <:+ h.ch (mp (h.key (mp k))) := by unfold path; rw [if_pos ho]; exact fromL_suffix _ _
theorem path_head (H : h.ok mp) (k : V) : ∃ r, h.path mp k = mp k :: r := by
  unfold path
  by_cases ho : h.occ (mp k)
  · rw [if_pos ho]; exact fromL_head (H.cov _ ho)
  · rw [if_neg ho]; exact ⟨[], rfl⟩
theorem path_lt (H : h.ok mp) (k : V) (hk : mp k < h.n) (i : Nat) (hi : i ∈ h.path mp k) : i < h.n := by
  by_cases ho : h.occ (mp k)
  · exact (H.mem _ i ((path_suffix H k ho).subset hi)).1
  · unfold path at hi
    rw [if_neg ho] at hi
    obtain rfl : i = mp k := by simpa using hi
    exact hk
theorem path_nodup (H : h.ok mp) (k : V) : (h.path mp k).Nodup := by
  by_cases ho : h.occ (mp k)
  · exact (path_suffix H k ho).sublist.nodup (H.nd _)
  · unfold path; rw [if_neg ho]; simp
theorem path_len (H : h.ok mp) (k : V) (hk : mp k < h.n) : (h.path mp k).length ≤ h.n := by
  have hnd : (h.path mp k).Nodup := by
    by_cases ho : h.occ (mp k)
    · exact (path_suffix H k ho).sublist.nodup (H.nd _)
    · unfold path; rw [if_neg ho]; simp
  have hsub : ∀ x ∈ h.path mp k, x ∈ List.range h.n := fun x hx => List.mem_range.2 (path_lt H k hk x hx)
  have := (List.nodup_iff_pairwise_ne.1 hnd)
  have h2 := List.Nodup.length_le_of_subset hnd hsub
  simpa using h2
/-- The links lead along the path. -/
theorem path_next (H : h.ok mp) (k : V) (t : Nat) (ht : t < (h.path mp k).length) : h.nxt mp (h.path mp k)[t] = match (h.path mp k)[t + 1]? with | some j => (j : Int) - (h.path mp k)[t] | none => 0 := by
  by_cases ho : h.occ (mp k)
  · have hs := path_suffix H k ho
    obtain ⟨-, h1, h2⟩ := H.mem _ _ (hs.subset (List.getElem_mem ht))
    unfold nxt
    rw [if_pos h1, h2, succL_suffix (H.nd _) hs t ht]
  · have hp : h.path mp k = [mp k] := by unfold path; rw [if_neg ho]
    have h0 : t = 0 := by rw [hp] at ht; simpa using ht
    subst h0
    have e : (h.path mp k)[0] = mp k := by simp [hp]
    rw [e]
    unfold nxt
    rw [if_neg ho, hp]
    rfl
end
end PH
end Go.Proofs.YteheolefemlcgaaGreat
/- The hash part in plain terms: a new key, step by step. -/
namespace Go.Proofs.YteheolefemlcgaaGreat
open Go.RowKit
set_option linter.unusedVariables false
set_option linter.unusedSimpArgs false

namespace PH
def setVal (h : PH) (i : Nat) (v : V) : PH := { h with val := upd h.val i v }
/-- The free pointer goes down to a node without a key. -/
def roomF (h : PH) : Nat → Option Nat
  | 0 => none
  | f + 1 => if h.occ f then roomF h f else some f
def roomed (h : PH) : PH := { h with free := (h.roomF h.free).getD 0 }
/-- k at its empty main position m. -/
def place (h : PH) (m : Nat) (k v : V) : PH := { h with key := upd h.key m k, val := upd h.val m v, ch := upd h.ch m [m] }
/-- k at f, behind the node that stands at its own main position m. -/
def link (h : PH) (m f : Nat) (k v : V) : PH := { h with key := upd h.key f k, val := upd h.val f v, ch := upd h.ch m (m :: f :: (h.ch m).tail) }
/-- The node at m, of the chain o, goes to f; k takes its place. -/
def move (h : PH) (m f o : Nat) (k v : V) : PH := { h with key := upd (upd h.key f (h.key m)) m k, val := upd (upd h.val f (h.val m)) m v, ch := upd (upd h.ch o ((h.ch o).map fun i => if i = m then f else i)) m [m] }
theorem roomF_some {h : PH} : ∀ {n f : Nat}, h.roomF n = some f → f < n ∧ ¬ h.occ f ∧ ∀ i, f < i → i < n → h.occ i
  | 0, f, e => by simp [roomF] at e
  | n + 1, f, e => by
    unfold roomF at e
    by_cases ho : h.occ n
    · rw [if_pos ho] at e
      obtain ⟨h1, h2, h3⟩ := roomF_some e
      refine ⟨by omega, h2, fun i a b => ?_⟩
      by_cases e2 : i = n
      · subst e2; exact ho
      · exact h3 i a (by omega)
    · rw [if_neg ho] at e
      obtain rfl : n = f := by simpa using e
      exact ⟨by omega, ho, fun i a b => by omega⟩
theorem roomF_none {h : PH} : ∀ {n : Nat}, h.roomF n = none → ∀ i, i < n → h.occ i
  | 0, _, i, hi => by omega
  | n + 1, e, i, hi => by
    unfold roomF at e
    by_cases ho : h.occ n
    · rw [if_pos ho] at e
      by_cases e2 : i = n
      · subst e2; exact ho
      · exact roomF_none e i (by omega)
    · rw [if_neg ho] at e; simp at e
section
variable {mp : V → Nat} {h : PH}
theorem ok_setVal (H : h.ok mp) (i : Nat) (v : V) (hi : h.occ i) : (h.setVal i v).ok mp :=
  ⟨H.free, H.out, fun j hj => ⟨(H.emp j hj).1, by
    show upd h.val i v j = nilV
    rw [upd_other _ _ _ (fun e => hj (by subst e; exact hi))]; exact (H.emp j hj).2⟩, H.mem, H.cov, H.nd, H.head, H.dist, H.form, H.past⟩
theorem ok_roomed_full (H : h.ok mp) (hr : h.roomF h.free = none) : ({ h with free := 0 } : PH).ok mp :=
  ⟨Nat.zero_le _, H.out, H.emp, H.mem, H.cov, H.nd, H.head, H.dist, H.form, fun i _ hi => by
    by_cases e : i < h.free
    · exact roomF_none hr i e
    · exact H.past i (by omega) hi⟩
theorem nilk : nilV.k = 0 := rfl
theorem ok_place (H : h.ok mp) (m : Nat) (k v : V) (hm : m < h.n) (hmp : mp k = m) (ho : ¬ h.occ m) (hk : k.k ≠ 0) (hf : okV k = true) (hnew : ∀ i, h.occ i → h.key i ≠ k) : (h.place m k v).ok mp := by
  have hch : h.ch m = [] := by
    cases e : h.ch m with
    | nil => rfl
    | cons a l =>
      have := H.head m (by rw [e]; simp)
      rw [e] at this
      obtain rfl : a = m := by simpa using this
      exact absurd (H.mem a a (by rw [e]; simp)).2.1 ho
  have hocc : ∀ i, (h.place m k v).occ i ↔ (i = m ∨ h.occ i) := fun i => by
    unfold occ
    show (upd h.key m k i).k ≠ 0 ↔ _
    by_cases e : i = m
    · subst e; rw [upd_same]; simp [hk]
    · rw [upd_other _ _ _ e]; simp [e]
  have hnc : ∀ q, m ∉ h.ch q := fun q hq => ho (H.mem q m hq).2.1
  refine ⟨H.free, fun i hi => ?_, fun i hi => ?_, fun q i hi => ?_, fun i hi => ?_, fun q => ?_, fun q hq => ?_, fun i j hi hj e => ?_, fun i => ?_, fun i h1 h2 => ?_⟩
  · show upd h.key m k i = nilV
    have : h.n ≤ i := hi
    rw [upd_other _ _ _ (by omega)]; exact H.out i hi
  · rw [hocc] at hi
    have e : i ≠ m := fun e => hi (.inl e)
    have := H.emp i (fun h => hi (.inr h))
    exact ⟨by show upd h.key m k i = nilV; rw [upd_other _ _ _ e]; exact this.1, by show upd h.val m v i = nilV; rw [upd_other _ _ _ e]; exact this.2⟩
  · change i ∈ upd h.ch m [m] q at hi
    show i < h.n ∧ (h.place m k v).occ i ∧ mp (upd h.key m k i) = q
    rw [hocc]
    by_cases e : q = m
    · subst e
      rw [upd_same] at hi
      obtain rfl : i = q := by simpa using hi
      rw [upd_same]; exact ⟨hm, .inl rfl, hmp⟩
    · rw [upd_other _ _ _ e] at hi
      have hne : i ≠ m := fun e2 => hnc q (e2 ▸ hi)
      obtain ⟨a, b, c⟩ := H.mem q i hi
      rw [upd_other _ _ _ hne]; exact ⟨a, .inr b, c⟩
  · show i ∈ upd h.ch m [m] (mp (upd h.key m k i))
    rw [hocc] at hi
    by_cases e : i = m
    · subst e; rw [upd_same, hmp, upd_same]; simp
    · rw [upd_other _ _ _ e]
      have ho2 := hi.resolve_left e
      have := H.cov i ho2
      rw [upd_other _ _ _ (fun e2 => by rw [e2, hch] at this; simp at this)]
      exact this
  · show (upd h.ch m [m] q).Nodup
    by_cases e : q = m
    · subst e; rw [upd_same]; simp
    · rw [upd_other _ _ _ e]; exact H.nd q
  · change upd h.ch m [m] q ≠ [] at hq
    show (upd h.ch m [m] q).head? = some q
    by_cases e : q = m
    · subst e; rw [upd_same]; rfl
    · rw [upd_other _ _ _ e] at hq ⊢; exact H.head q hq
  · change upd h.key m k i = upd h.key m k j at e
    rw [hocc] at hi hj
    by_cases e1 : i = m
    · by_cases e2 : j = m
      · rw [e1, e2]
      · rw [e1, upd_same, upd_other _ _ _ e2] at e
        exact absurd e.symm (hnew j (hj.resolve_left e2))
    · by_cases e2 : j = m
      · rw [e2, upd_same, upd_other _ _ _ e1] at e
        exact absurd e (hnew i (hi.resolve_left e1))
      · rw [upd_other _ _ _ e1, upd_other _ _ _ e2] at e
        exact H.dist i j (hi.resolve_left e1) (hj.resolve_left e2) e
  · show okV (upd h.key m k i) = true
    by_cases e : i = m
    · subst e; rw [upd_same]; exact hf
    · rw [upd_other _ _ _ e]; exact H.form i
  · rw [hocc]; exact .inr (H.past i h1 h2)
theorem ok_link (H : h.ok mp) (m f : Nat) (k v : V) (hmp : mp k = m) (ho : h.occ m) (hmo : mp (h.key m) = m) (hr : h.roomF h.free = some f) (hk : k.k ≠ 0) (hf : okV k = true) (hnew : ∀ i, h.occ i → h.key i ≠ k) : (({ h with free := f } : PH).link m f k v).ok mp := by
  obtain ⟨f1, f2, f3⟩ := roomF_some hr
  have hfn : f < h.n := Nat.lt_of_lt_of_le f1 H.free
  have hmf : m ≠ f := fun e => f2 (e ▸ ho)
  have hmc : m ∈ h.ch m := by have := H.cov m ho; rwa [hmo] at this
  obtain ⟨r, hcr⟩ : ∃ r, h.ch m = m :: r := by
    cases e : h.ch m with
    | nil => rw [e] at hmc; simp at hmc
    | cons a l =>
      have := H.head m (by rw [e]; simp)
      rw [e] at this
      obtain rfl : a = m := by simpa using this
      exact ⟨l, rfl⟩
  have hnc : ∀ q, f ∉ h.ch q := fun q hq => f2 (H.mem q f hq).2.1
  have hocc : ∀ i, (({ h with free := f } : PH).link m f k v).occ i ↔ (i = f ∨ h.occ i) := fun i => by
    unfold occ
    show (upd h.key f k i).k ≠ 0 ↔ _
    by_cases e : i = f
    · subst e; rw [upd_same]; simp [hk]
    · rw [upd_other _ _ _ e]; simp [e]
  have hch : (({ h with free := f } : PH).link m f k v).ch = upd h.ch m (m :: f :: r) := by
    show upd h.ch m (m :: f :: (h.ch m).tail) = _
    rw [hcr]; rfl
  refine ⟨Nat.le_of_lt hfn, fun i hi => ?_, fun i hi => ?_, fun q i hi => ?_, fun i hi => ?_, fun q => ?_, fun q hq => ?_, fun i j hi hj e => ?_, fun i => ?_, fun i h1 h2 => ?_⟩
  · show upd h.key f k i = nilV
    have : h.n ≤ i := hi
    rw [upd_other _ _ _ (by omega)]; exact H.out i hi
  · rw [hocc] at hi
    have e : i ≠ f := fun e => hi (.inl e)
    have := H.emp i (fun h => hi (.inr h))
    exact ⟨by show upd h.key f k i = nilV; rw [upd_other _ _ _ e]; exact this.1, by show upd h.val f v i = nilV; rw [upd_other _ _ _ e]; exact this.2⟩
  · rw [hch] at hi
    show i < h.n ∧ (({ h with free := f } : PH).link m f k v).occ i ∧ mp (upd h.key f k i) = q
    rw [hocc]
    have old : i ∈ h.ch q → i < h.n ∧ (i = f ∨ h.occ i) ∧ mp (upd h.key f k i) = q := fun hi => by
      have hne : i ≠ f := fun e2 => hnc q (e2 ▸ hi)
      obtain ⟨a, b, c⟩ := H.mem q i hi
      rw [upd_other _ _ _ hne]; exact ⟨a, .inr b, c⟩
    by_cases e : q = m
    · subst e
      rw [upd_same] at hi
      by_cases e2 : i = f
      · subst e2; rw [upd_same]; exact ⟨hfn, .inl rfl, hmp⟩
      · refine old ?_
        rw [hcr]
        simp only [List.mem_cons] at hi ⊢
        rcases hi with hi | hi | hi
        · exact .inl hi
        · exact absurd hi e2
        · exact .inr hi
    · rw [upd_other _ _ _ e] at hi; exact old hi
  · rw [hch]
    show i ∈ upd h.ch m (m :: f :: r) (mp (upd h.key f k i))
    rw [hocc] at hi
    by_cases e : i = f
    · subst e; rw [upd_same, hmp, upd_same]; simp
    · rw [upd_other _ _ _ e]
      have := H.cov i (hi.resolve_left e)
      by_cases e2 : mp (h.key i) = m
      · rw [e2, upd_same]
        rw [e2, hcr] at this
        simp only [List.mem_cons] at this ⊢
        rcases this with h | h
        · exact .inl h
        · exact .inr (.inr h)
      · rw [upd_other _ _ _ e2]; exact this
  · rw [hch]
    by_cases e : q = m
    · subst e
      rw [upd_same]
      have := H.nd q
      rw [hcr] at this
      have h1 := List.nodup_cons.1 this
      have h3 : f ∉ q :: r := by rw [← hcr]; exact hnc q
      refine List.nodup_cons.2 ⟨?_, List.nodup_cons.2 ⟨fun h => h3 (List.mem_cons_of_mem _ h), h1.2⟩⟩
      simp only [List.mem_cons, not_or]
      exact ⟨hmf, h1.1⟩
    · rw [upd_other _ _ _ e]; exact H.nd q
  · rw [hch] at hq ⊢
    by_cases e : q = m
    · subst e; rw [upd_same]; rfl
    · rw [upd_other _ _ _ e] at hq ⊢; exact H.head q hq
  · change upd h.key f k i = upd h.key f k j at e
    rw [hocc] at hi hj
    by_cases e1 : i = f
    · by_cases e2 : j = f
      · rw [e1, e2]
      · rw [e1, upd_same, upd_other _ _ _ e2] at e
        exact absurd e.symm (hnew j (hj.resolve_left e2))
    · by_cases e2 : j = f
      · rw [e2, upd_same, upd_other _ _ _ e1] at e
        exact absurd e (hnew i (hi.resolve_left e1))
      · rw [upd_other _ _ _ e1, upd_other _ _ _ e2] at e
        exact H.dist i j (hi.resolve_left e1) (hj.resolve_left e2) e
  · show okV (upd h.key f k i) = true
    by_cases e : i = f
    · subst e; rw [upd_same]; exact hf
    · rw [upd_other _ _ _ e]; exact H.form i
  · rw [hocc]
    have h1' : f ≤ i := h1
    by_cases e : i = f
    · exact .inl e
    · by_cases e2 : i < h.free
      · exact .inr (f3 i (by omega) e2)
      · exact .inr (H.past i (by omega) h2)
theorem ok_move (H : h.ok mp) (m f o : Nat) (k v : V) (hmp : mp k = m) (ho : h.occ m) (hmo : mp (h.key m) = o) (hom : o ≠ m) (hr : h.roomF h.free = some f) (hk : k.k ≠ 0) (hf : okV k = true) (hnew : ∀ i, h.occ i → h.key i ≠ k) : (({ h with free := f } : PH).move m f o k v).ok mp := by
  obtain ⟨f1, f2, f3⟩ := roomF_some hr
  have hfn : f < h.n := Nat.lt_of_lt_of_le f1 H.free
  have hmf : m ≠ f := fun e => f2 (e ▸ ho)
  have hmn := H.occ_lt ho
  have hmc : m ∈ h.ch o := by have := H.cov m ho; rwa [hmo] at this
  have hcm : h.ch m = [] := by
    cases e : h.ch m with
    | nil => rfl
    | cons a l =>
      have := H.head m (by rw [e]; simp)
      rw [e] at this
      obtain rfl : a = m := by simpa using this
      have := (H.mem a a (by rw [e]; simp)).2.2
      exact absurd (hmo.symm.trans this) hom
  have hnc : ∀ q, f ∉ h.ch q := fun q hq => f2 (H.mem q f hq).2.1
  have km : (({ h with free := f } : PH).move m f o k v).key m = k := upd_same _ _ _
  have kf : (({ h with free := f } : PH).move m f o k v).key f = h.key m := by
    show upd (upd h.key f (h.key m)) m k f = _
    rw [upd_other _ _ _ hmf.symm, upd_same]
  have ko : ∀ i, i ≠ m → i ≠ f → (({ h with free := f } : PH).move m f o k v).key i = h.key i := fun i a b => by
    show upd (upd h.key f (h.key m)) m k i = _
    rw [upd_other _ _ _ a, upd_other _ _ _ b]
  have cm : (({ h with free := f } : PH).move m f o k v).ch m = [m] := upd_same _ _ _
  have co : (({ h with free := f } : PH).move m f o k v).ch o = (h.ch o).map fun i => if i = m then f else i := by
    show upd (upd h.ch o _) m [m] o = _
    rw [upd_other _ _ _ hom, upd_same]
  have cq : ∀ q, q ≠ m → q ≠ o → (({ h with free := f } : PH).move m f o k v).ch q = h.ch q := fun q a b => by
    show upd (upd h.ch o _) m [m] q = _
    rw [upd_other _ _ _ a, upd_other _ _ _ b]
  have hocc : ∀ i, (({ h with free := f } : PH).move m f o k v).occ i ↔ (i = f ∨ h.occ i) := fun i => by
    unfold occ
    by_cases e : i = m
    · subst e; rw [km]; constructor
      · exact fun _ => .inr ho
      · exact fun _ => hk
    · by_cases e2 : i = f
      · subst e2; rw [kf]; constructor
        · exact fun _ => .inl rfl
        · exact fun _ => ho
      · rw [ko i e e2]; simp [e2]
  refine ⟨Nat.le_of_lt hfn, fun i hi => ?_, fun i hi => ?_, fun q i hi => ?_, fun i hi => ?_, fun q => ?_, fun q hq => ?_, fun i j hi hj e => ?_, fun i => ?_, fun i h1 h2 => ?_⟩
  · have : h.n ≤ i := hi
    rw [ko i (by omega) (by omega)]; exact H.out i hi
  · rw [hocc] at hi
    have e : i ≠ f := fun e => hi (.inl e)
    have e2 : i ≠ m := fun e2 => hi (.inr (e2 ▸ ho))
    have := H.emp i (fun h => hi (.inr h))
    refine ⟨by rw [ko i e2 e]; exact this.1, ?_⟩
    show upd (upd h.val f (h.val m)) m v i = nilV
    rw [upd_other _ _ _ e2, upd_other _ _ _ e]; exact this.2
  · show i < h.n ∧ _
    rw [hocc]
    by_cases e : q = m
    · subst e
      rw [cm] at hi
      obtain rfl : i = q := by simpa using hi
      rw [km]; exact ⟨hmn, .inr ho, hmp⟩
    · by_cases e2 : q = o
      · subst e2
        rw [co] at hi
        obtain ⟨j, hj, rfl⟩ := List.mem_map.1 hi
        by_cases e3 : j = m
        · rw [if_pos e3, kf]; exact ⟨hfn, .inl rfl, hmo⟩
        · rw [if_neg e3, ko j e3 (fun e4 => hnc q (e4 ▸ hj))]
          obtain ⟨a, b, c⟩ := H.mem q j hj
          exact ⟨a, .inr b, c⟩
      · rw [cq q e e2] at hi
        obtain ⟨a, b, c⟩ := H.mem q i hi
        have e3 : i ≠ m := fun e3 => by subst e3; exact e2 (c.symm.trans hmo)
        rw [ko i e3 (fun e4 => hnc q (e4 ▸ hi))]
        exact ⟨a, .inr b, c⟩
  · rw [hocc] at hi
    by_cases e : i = m
    · subst e; rw [km, hmp, cm]; simp
    · by_cases e2 : i = f
      · subst e2
        rw [kf, hmo, co]
        exact List.mem_map.2 ⟨m, hmc, if_pos rfl⟩
      · rw [ko i e e2]
        have := H.cov i (hi.resolve_left e2)
        by_cases e3 : mp (h.key i) = m
        · rw [e3, hcm] at this; simp at this
        · by_cases e4 : mp (h.key i) = o
          · rw [e4] at this ⊢
            rw [co]
            exact List.mem_map.2 ⟨i, this, if_neg e⟩
          · rw [cq _ e3 e4]; exact this
  · by_cases e : q = m
    · subst e; rw [cm]; simp
    · by_cases e2 : q = o
      · subst e2
        rw [co]
        refine List.pairwise_map.2 ((H.nd q).imp_of_mem fun {a b} ha hb hab => ?_)
        by_cases e3 : a = m
        · by_cases e4 : b = m
          · exact absurd (e3.trans e4.symm) hab
          · rw [if_pos e3, if_neg e4]; exact fun e5 => hnc q (e5 ▸ hb)
        · by_cases e4 : b = m
          · rw [if_neg e3, if_pos e4]; exact fun e5 => hnc q (e5 ▸ ha)
          · rw [if_neg e3, if_neg e4]; exact hab
      · rw [cq q e e2]; exact H.nd q
  · by_cases e : q = m
    · subst e; rw [cm]; rfl
    · by_cases e2 : q = o
      · subst e2
        rw [co, List.head?_map, H.head q (fun e5 => by rw [e5] at hmc; simp at hmc)]
        simp [e]
      · rw [cq q e e2] at hq ⊢; exact H.head q hq
  · rw [hocc] at hi hj
    have g : ∀ i, (i = f ∨ h.occ i) → i ≠ m → ∃ g, (({ h with free := f } : PH).move m f o k v).key i = h.key g ∧ h.occ g ∧ ((i = f ∧ g = m) ∨ (i ≠ f ∧ g = i)) := fun i hi him => by
      by_cases e2 : i = f
      · subst e2; exact ⟨m, kf, ho, .inl ⟨rfl, rfl⟩⟩
      · exact ⟨i, ko i him e2, hi.resolve_left e2, .inr ⟨e2, rfl⟩⟩
    by_cases e1 : i = m
    · by_cases e2 : j = m
      · rw [e1, e2]
      · obtain ⟨gj, a, b, c⟩ := g j hj e2
        rw [e1, km, a] at e
        exact absurd e.symm (hnew gj b)
    · obtain ⟨gi, a, b, c⟩ := g i hi e1
      by_cases e2 : j = m
      · rw [e2, km, a] at e
        exact absurd e (hnew gi b)
      · obtain ⟨gj, a', b', c'⟩ := g j hj e2
        rw [a, a'] at e
        have hg := H.dist gi gj b b' e
        rcases c with ⟨c1, c2⟩ | ⟨c1, c2⟩ <;> rcases c' with ⟨d1, d2⟩ | ⟨d1, d2⟩
        · rw [c1, d1]
        · exact absurd (d2.symm.trans (hg.symm.trans c2)) e2
        · exact absurd (c2.symm.trans (hg.trans d2)) e1
        · rw [← c2, ← d2]; exact hg
  · by_cases e : i = m
    · subst e; rw [km]; exact hf
    · by_cases e2 : i = f
      · subst e2; rw [kf]; exact H.form m
      · rw [ko i e e2]; exact H.form i
  · rw [hocc]
    have h1' : f ≤ i := h1
    by_cases e : i = f
    · exact .inl e
    · by_cases e2 : i < h.free
      · exact .inr (f3 i (by omega) e2)
      · exact .inr (H.past i (by omega) h2)
end
end PH
end Go.Proofs.YteheolefemlcgaaGreat
/- The hash part in plain terms: what becomes of the links. -/
namespace Go.Proofs.YteheolefemlcgaaGreat
open Go.RowKit
set_option linter.unusedVariables false
set_option linter.unusedSimpArgs false

namespace PH
theorem succL_map (g : Nat → Nat) (i : Nat) : ∀ (c : List Nat), (∀ a ∈ c, g a = g i → a = i) → succL (c.map g) (g i) = (succL c i).map g
  | [], _ => rfl
  | [a], _ => rfl
  | a :: b :: l, h => by
    show (if g a = g i then some (g b) else succL ((b :: l).map g) (g i)) = (if a = i then some b else succL (b :: l) i).map g
    by_cases e : a = i
    · subst e; rw [if_pos rfl, if_pos rfl]; rfl
    · rw [if_neg e, if_neg (fun e2 => e (h a (by simp) e2))]
      exact succL_map g i (b :: l) (fun x hx => h x (by simp [hx]))
theorem succL_mem {c : List Nat} {i j : Nat} (h : succL c i = some j) : j ∈ c.tail := by
  induction c with
  | nil => simp [succL] at h
  | cons a l ih =>
    cases l with
    | nil => simp [succL] at h
    | cons b l =>
      change (if a = i then some b else succL (b :: l) i) = some j at h
      by_cases e : a = i
      · rw [if_pos e] at h
        obtain rfl : b = j := by simpa using h
        simp
      · rw [if_neg e] at h
        have := ih h
        simp only [List.tail_cons] at this ⊢
        exact List.mem_cons_of_mem _ this
/-- A link that leads on is not nought. -/
theorem succL_ne {c : List Nat} (hd : c.Nodup) {i j : Nat} (h : succL c i = some j) : j ≠ i := by
  induction c with
  | nil => simp [succL] at h
  | cons a l ih =>
    cases l with
    | nil => simp [succL] at h
    | cons b l =>
      have hd' := List.nodup_cons.1 hd
      change (if a = i then some b else succL (b :: l) i) = some j at h
      by_cases e : a = i
      · rw [if_pos e] at h
        obtain rfl : b = j := by simpa using h
        subst e
        exact fun e2 => hd'.1 (e2 ▸ by simp)
      · rw [if_neg e] at h
        exact ih hd'.2 h
theorem succL_cons (a : Nat) (l : List Nat) (i : Nat) (h : a ≠ i) : succL (a :: l) i = succL l i := by
  cases l with
  | nil => rfl
  | cons b l => show (if a = i then some b else succL (b :: l) i) = _; rw [if_neg h]
theorem succL_first (a : Nat) (l : List Nat) : succL (a :: l) a = l.head? := by
  cases l with
  | nil => rfl
  | cons b l => show (if a = a then some b else succL (b :: l) a) = _; rw [if_pos rfl]; rfl
section
variable {mp : V → Nat} {h : PH}
def lnk (o : Option Nat) (i : Nat) : Int := match o with | some j => (j : Int) - i | none => 0
theorem nxt_occ (i : Nat) (hi : h.occ i) : h.nxt mp i = lnk (succL (h.ch (mp (h.key i))) i) i := by unfold nxt; rw [if_pos hi]; rfl
theorem nxt_not (i : Nat) (hi : ¬ h.occ i) : h.nxt mp i = 0 := by unfold nxt; rw [if_neg hi]
theorem lnk_zero {o : Option Nat} {i : Nat} (h : ∀ j, o = some j → j ≠ i) : lnk o i = 0 ↔ o = none := by
  cases o with
  | none => simp [lnk]
  | some j => have := h j rfl; simp [lnk]; omega
theorem nxt_setVal (i j : Nat) (v : V) : (h.setVal i v).nxt mp j = h.nxt mp j := rfl
theorem nxt_free (f j : Nat) : ({ h with free := f } : PH).nxt mp j = h.nxt mp j := rfl
theorem nxt_place (H : h.ok mp) (m : Nat) (k v : V) (hmp : mp k = m) (ho : ¬ h.occ m) (hk : k.k ≠ 0) (i : Nat) : (h.place m k v).nxt mp i = if i = m then 0 else h.nxt mp i := by
  have hnc : ∀ q, m ∉ h.ch q := fun q hq => ho (H.mem q m hq).2.1
  have hch : h.ch m = [] := by
    cases e : h.ch m with
    | nil => rfl
    | cons a l =>
      have := H.head m (by rw [e]; simp)
      rw [e] at this
      obtain rfl : a = m := by simpa using this
      exact absurd (by rw [e]; simp) (hnc a)
  by_cases e : i = m
  · subst e
    rw [if_pos rfl, nxt_occ (h := h.place i k v) i (by unfold occ; show (upd h.key i k i).k ≠ 0; rw [upd_same]; exact hk)]
    show lnk (succL (upd h.ch i [i] (mp (upd h.key i k i))) i) i = 0
    rw [upd_same, hmp, upd_same]; rfl
  · rw [if_neg e]
    have hkey : (h.place m k v).key i = h.key i := upd_other _ _ _ e
    by_cases ho2 : h.occ i
    · have ho3 : (h.place m k v).occ i := by unfold occ; rw [hkey]; exact ho2
      rw [nxt_occ i ho2, nxt_occ i ho3, hkey]
      have hq : mp (h.key i) ≠ m := fun e2 => by have := H.cov i ho2; rw [e2, hch] at this; simp at this
      show lnk (succL (upd h.ch m [m] (mp (h.key i))) i) i = _
      rw [upd_other _ _ _ hq]
    · have ho3 : ¬ (h.place m k v).occ i := by unfold occ; rw [hkey]; exact ho2
      rw [nxt_not i ho2, nxt_not i ho3]
theorem nxt_link (H : h.ok mp) (m f : Nat) (k v : V) (hmp : mp k = m) (ho : h.occ m) (hmo : mp (h.key m) = m) (hfo : ¬ h.occ f) (hk : k.k ≠ 0) (i : Nat) :
    (h.link m f k v).nxt mp i = if i = m then (f : Int) - m else if i = f then (if h.nxt mp m = 0 then 0 else (m : Int) + h.nxt mp m - f) else h.nxt mp i := by
  have hmf : m ≠ f := fun e => hfo (e ▸ ho)
  have hmc : m ∈ h.ch m := by have := H.cov m ho; rwa [hmo] at this
  obtain ⟨r, hcr⟩ : ∃ r, h.ch m = m :: r := by
    cases e : h.ch m with
    | nil => rw [e] at hmc; simp at hmc
    | cons a l =>
      have := H.head m (by rw [e]; simp)
      rw [e] at this
      obtain rfl : a = m := by simpa using this
      exact ⟨l, rfl⟩
  have hnd := H.nd m
  rw [hcr] at hnd
  have hnc : ∀ q, f ∉ h.ch q := fun q hq => hfo (H.mem q f hq).2.1
  have hch : (h.link m f k v).ch = upd h.ch m (m :: f :: r) := by
    show upd h.ch m (m :: f :: (h.ch m).tail) = _
    rw [hcr]; rfl
  have hm : h.nxt mp m = lnk r.head? m := by rw [nxt_occ m ho, hmo, hcr, succL_first]
  by_cases e : i = m
  · subst e
    have hkey : (h.link i f k v).key i = h.key i := upd_other _ _ _ hmf
    rw [if_pos rfl, nxt_occ (h := h.link i f k v) i (by unfold occ; rw [hkey]; exact ho), hkey, hmo, hch, upd_same, succL_first]
    rfl
  · rw [if_neg e]
    by_cases e2 : i = f
    · subst e2
      have hkey : (h.link m i k v).key i = k := upd_same _ _ _
      rw [if_pos rfl, nxt_occ (h := h.link m i k v) i (by unfold occ; rw [hkey]; exact hk), hkey, hmp, hch, upd_same, succL_cons m (i :: r) i hmf, succL_first, hm]
      cases hr : r.head? with
      | none => simp [lnk]
      | some j =>
        have hj : j ≠ m := fun e3 => by
          have : j ∈ r := List.mem_of_mem_head? hr
          exact (List.nodup_cons.1 hnd).1 (e3 ▸ this)
        have e4 : ¬ (lnk (some j) m = 0) := by show ¬ ((j : Int) - m = 0); omega
        rw [if_neg e4]
        show (j : Int) - i = m + ((j : Int) - m) - i
        omega
    · rw [if_neg e2]
      have hkey : (h.link m f k v).key i = h.key i := upd_other _ _ _ e2
      by_cases ho2 : h.occ i
      · have ho3 : (h.link m f k v).occ i := by unfold occ; rw [hkey]; exact ho2
        rw [nxt_occ i ho2, nxt_occ i ho3, hkey, hch]
        by_cases hq : mp (h.key i) = m
        · rw [hq, upd_same, hcr, succL_cons m _ i (fun h => e h.symm), succL_cons f _ i (fun h => e2 h.symm), succL_cons m _ i (fun h => e h.symm)]
        · rw [upd_other _ _ _ hq]
      · have ho3 : ¬ (h.link m f k v).occ i := by unfold occ; rw [hkey]; exact ho2
        rw [nxt_not i ho2, nxt_not i ho3]
theorem nxt_move (H : h.ok mp) (m f o p : Nat) (k v : V) (hmp : mp k = m) (ho : h.occ m) (hmo : mp (h.key m) = o) (hom : o ≠ m) (hfo : ¬ h.occ f) (hk : k.k ≠ 0) (hp : p ∈ h.ch o) (hpm : succL (h.ch o) p = some m) (i : Nat) :
    (h.move m f o k v).nxt mp i = if i = m then 0 else if i = f then (if h.nxt mp m = 0 then 0 else (m : Int) + h.nxt mp m - f) else if i = p then (f : Int) - p else h.nxt mp i := by
  have hmf : m ≠ f := fun e => hfo (e ▸ ho)
  have hmc : m ∈ h.ch o := by have := H.cov m ho; rwa [hmo] at this
  have hnc : ∀ q, f ∉ h.ch q := fun q hq => hfo (H.mem q f hq).2.1
  have hnd := H.nd o
  have hcm : h.ch m = [] := by
    cases e : h.ch m with
    | nil => rfl
    | cons a l =>
      have := H.head m (by rw [e]; simp)
      rw [e] at this
      obtain rfl : a = m := by simpa using this
      have := (H.mem a a (by rw [e]; simp)).2.2
      exact absurd (hmo.symm.trans this) hom
  have km : (h.move m f o k v).key m = k := upd_same _ _ _
  have kf : (h.move m f o k v).key f = h.key m := by
    show upd (upd h.key f (h.key m)) m k f = _
    rw [upd_other _ _ _ hmf.symm, upd_same]
  have ko : ∀ i, i ≠ m → i ≠ f → (h.move m f o k v).key i = h.key i := fun i a b => by
    show upd (upd h.key f (h.key m)) m k i = _
    rw [upd_other _ _ _ a, upd_other _ _ _ b]
  have cm : (h.move m f o k v).ch m = [m] := upd_same _ _ _
  have co : (h.move m f o k v).ch o = (h.ch o).map fun i => if i = m then f else i := by
    show upd (upd h.ch o _) m [m] o = _
    rw [upd_other _ _ _ hom, upd_same]
  have cq : ∀ q, q ≠ m → q ≠ o → (h.move m f o k v).ch q = h.ch q := fun q a b => by
    show upd (upd h.ch o _) m [m] q = _
    rw [upd_other _ _ _ a, upd_other _ _ _ b]
  have hm : h.nxt mp m = lnk (succL (h.ch o) m) m := by rw [nxt_occ m ho, hmo]
  by_cases e : i = m
  · subst e
    rw [if_pos rfl, nxt_occ (h := h.move i f o k v) i (by unfold occ; rw [km]; exact hk), km, hmp, cm]
    rfl
  · rw [if_neg e]
    by_cases e2 : i = f
    · subst e2
      rw [if_pos rfl, nxt_occ (h := h.move m i o k v) i (by unfold occ; rw [kf]; exact ho), kf, hmo, co]
      have hs := succL_map (fun x => if x = m then i else x) m (h.ch o) (fun a ha hg => by
        by_cases e3 : a = m
        · exact e3
        · simp only [if_neg e3, if_true] at hg
          exact absurd (hg ▸ ha) (hnc o))
      simp only [if_true] at hs
      rw [hs, hm]
      cases hc : succL (h.ch o) m with
      | none => simp [lnk]
      | some j =>
        have hj := succL_ne hnd hc
        have e4 : ¬ (lnk (some j) m = 0) := by show ¬ ((j : Int) - m = 0); omega
        rw [if_neg e4, Option.map_some, if_neg hj]
        show (j : Int) - i = m + ((j : Int) - m) - i
        omega
    · rw [if_neg e2]
      have hkey := ko i e e2
      by_cases ho2 : h.occ i
      · have ho3 : (h.move m f o k v).occ i := by unfold occ; rw [hkey]; exact ho2
        rw [nxt_occ i ho2, nxt_occ i ho3, hkey]
        by_cases hq : mp (h.key i) = m
        · have := H.cov i ho2; rw [hq, hcm] at this; simp at this
        · by_cases hq2 : mp (h.key i) = o
          · rw [hq2, co]
            have hs := succL_map (fun x => if x = m then f else x) i (h.ch o) (fun a ha hg => by
              by_cases e3 : a = m
              · simp only [e3, if_true, if_neg e] at hg; exact absurd hg.symm e2
              · simpa only [if_neg e3, if_neg e] using hg)
            simp only [if_neg e] at hs
            rw [hs]
            by_cases e3 : i = p
            · subst e3
              rw [if_pos rfl, hpm]
              simp [lnk]
            · rw [if_neg e3]
              cases hc : succL (h.ch o) i with
              | none => rfl
              | some j =>
                have hj : j ≠ m := fun e4 => by
                  subst e4
                  obtain ⟨t, ht, rfl⟩ := List.getElem_of_mem hp
                  obtain ⟨s, hs', rfl⟩ := List.getElem_of_mem (show i ∈ h.ch o by have := H.cov i ho2; rwa [hq2] at this)
                  rw [succL_get hnd t ht] at hpm
                  rw [succL_get hnd s hs'] at hc
                  obtain ⟨t1, t2⟩ := List.getElem?_eq_some_iff.1 hpm
                  obtain ⟨s1, s2⟩ := List.getElem?_eq_some_iff.1 hc
                  have hpw := List.pairwise_iff_getElem.1 (List.nodup_iff_pairwise_ne.1 hnd)
                  have hst : s = t := by
                    rcases Nat.lt_trichotomy (s + 1) (t + 1) with h5 | h5 | h5
                    · exact absurd (s2.trans t2.symm) (hpw _ _ s1 t1 h5)
                    · omega
                    · exact absurd (t2.trans s2.symm) (hpw _ _ t1 s1 h5)
                  subst hst
                  exact e3 rfl
                simp [lnk, hj]
          · rw [cq _ hq hq2]
            rw [if_neg (fun e3 => by subst e3; exact hq2 (H.mem o i hp).2.2)]
      · have ho3 : ¬ (h.move m f o k v).occ i := by unfold occ; rw [hkey]; exact ho2
        rw [nxt_not i ho2, nxt_not i ho3, if_neg (fun e3 => by subst e3; exact ho2 (H.mem o i hp).2.1)]
end
end PH
end Go.Proofs.YteheolefemlcgaaGreat
