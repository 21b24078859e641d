/- The reference's heap in plain terms, and that it is the program's. -/
import Derived.Test.YtfhigeefclchiaaHeap3
namespace Go.Proofs.Ytfhigeefclchiaa
open Go.RowKit Go.Maps
set_option linter.unusedVariables false
set_option linter.unusedSimpArgs false

/-- The reference's heap: its limit, what is spent, the clock, all blocks (cells, when given back). -/
structure RS where
  lim : Int
  spent : Int
  clock : Int
  all : List (Int × Int)
namespace RS
def cel (l : List (Int × Int)) (i : Nat) : Int := (l.getD i (0, 0)).1
def giv (l : List (Int × Int)) (i : Nat) : Int := (l.getD i (0, 0)).2
/-- The cells of the first j blocks that are taken. -/
def lsum (l : List (Int × Int)) : Nat → Int
  | 0 => 0
  | j + 1 => lsum l j + (if giv l j = 0 then cel l j else 0)
def dsum (l : List (Int × Int)) : Nat → Int
  | 0 => 0
  | j + 1 => dsum l j + cel l j
def best (l : List (Int × Int)) (n : Int) : Nat → Int
  | 0 => -1
  | j + 1 => if cel l j = n ∧ 0 < giv l j ∧ (best l n j < 0 ∨ giv l (best l n j).toNat < giv l j) then j else best l n j
def blk (l : List (Int × Int)) : Nat → List Int
  | 0 => []
  | j + 1 => if giv l j = 0 then blk l j ++ [(j : Int) + 1] else blk l j
def liveR (r : RS) : Int := r.spent + lsum r.all r.all.length
def laidR (r : RS) : Int := dsum r.all r.all.length
def setG (l : List (Int × Int)) (i : Nat) (g : Int) : List (Int × Int) := l.set i (cel l i, g)
theorem cel_set (l : List (Int × Int)) (i j : Nat) (g : Int) : cel (setG l i g) j = cel l j := by
  unfold cel setG
  rw [List.getD_eq_getElem?_getD, List.getD_eq_getElem?_getD, List.getElem?_set]
  by_cases e : i = j
  · subst e
    by_cases h : i < l.length
    · simp [h, cel, List.getD_eq_getElem?_getD]
    · simp [h]
  · simp [e]
theorem giv_set (l : List (Int × Int)) (i j : Nat) (g : Int) (hi : i < l.length) : giv (setG l i g) j = if j = i then g else giv l j := by
  unfold giv setG
  rw [List.getD_eq_getElem?_getD, List.getD_eq_getElem?_getD, List.getElem?_set]
  by_cases e : i = j
  · subst e; simp [hi]
  · have : ¬ j = i := fun h => e h.symm
    simp [e, this]
theorem len_set (l : List (Int × Int)) (i : Nat) (g : Int) : (setG l i g).length = l.length := by simp [setG]
theorem cel_app (l : List (Int × Int)) (x : Int × Int) (j : Nat) : cel (l ++ [x]) j = if j = l.length then x.1 else cel l j := by
  unfold cel
  rw [List.getD_eq_getElem?_getD, List.getD_eq_getElem?_getD]
  by_cases h : j < l.length
  · have : ¬ j = l.length := by omega
    rw [List.getElem?_append_left h]; simp [this]
  · by_cases e : j = l.length
    · subst e; simp
    · have : l.length < j := by omega
      rw [List.getElem?_eq_none (by simp; omega), List.getElem?_eq_none (by omega)]; simp [e]
theorem giv_app (l : List (Int × Int)) (x : Int × Int) (j : Nat) : giv (l ++ [x]) j = if j = l.length then x.2 else giv l j := by
  unfold giv
  rw [List.getD_eq_getElem?_getD, List.getD_eq_getElem?_getD]
  by_cases h : j < l.length
  · have : ¬ j = l.length := by omega
    rw [List.getElem?_append_left h]; simp [this]
  · by_cases e : j = l.length
    · subst e; simp
    · have : l.length < j := by omega
      rw [List.getElem?_eq_none (by simp; omega), List.getElem?_eq_none (by omega)]; simp [e]
def roomR (r : RS) (n : Int) : Int := if n < 0 then 1 else if r.lim - r.liveR < n then 10 else 0
def takeId (r : RS) (n : Int) : Int := if r.roomR n ≠ 0 ∨ n = 0 then 0 else if best r.all n r.all.length < 0 then (r.all.length : Int) + 1 else best r.all n r.all.length + 1
def take (r : RS) (n : Int) : RS := if r.roomR n ≠ 0 ∨ n = 0 then r else if best r.all n r.all.length < 0 then { r with all := r.all ++ [(n, 0)] } else { r with all := setG r.all (best r.all n r.all.length).toNat 0 }
def giveE (r : RS) (id : Int) : Int := if id = 0 then 0 else if id < 0 ∨ (r.all.length : Int) < id ∨ 0 < giv r.all (id - 1).toNat then 1 else 0
def give (r : RS) (id : Int) : RS := if id = 0 then r else if id < 0 ∨ (r.all.length : Int) < id ∨ 0 < giv r.all (id - 1).toNat then r else { r with clock := r.clock + 1, all := setG r.all (id - 1).toNat (r.clock + 1) }
def spend (r : RS) (n : Int) : RS := if r.roomR n = 0 then { r with spent := r.spent + n } else r
def new (lim : Int) : RS := ⟨lim, 0, 0, []⟩
end RS
open RS
/-- The two heaps are the same. -/
structure Sim (h : HS) (r : RS) : Prop where
  k : h.ok
  lim : h.lim = r.lim
  sizes : h.sizes = r.all.map Prod.fst
  tk : ∀ i, i < r.all.length → h.tk ((i : Int) + 1) = if giv r.all i = 0 then some (cel r.all i) else none
  rd : ∀ n x, x ∈ h.rd n ↔ ∃ i, i < r.all.length ∧ x = (i : Int) + 1 ∧ cel r.all i = n ∧ 0 < giv r.all i
  inc : ∀ n, (h.rd n).Pairwise fun a b => giv r.all (a - 1).toNat < giv r.all (b - 1).toNat
  clk : ∀ i, i < r.all.length → 0 ≤ giv r.all i ∧ giv r.all i ≤ r.clock
  c0 : 0 ≤ r.clock
  live : h.live = r.liveR
namespace Sim
variable {h : HS} {r : RS}
theorem len (s : Sim h r) : h.sizes.length = r.all.length := by rw [s.sizes]; simp
theorem laid_prefix (l : List (Int × Int)) : ∀ j, j ≤ l.length → dsum l j = ((l.take j).map Prod.fst).sum
  | 0, _ => by simp [dsum]
  | j + 1, h => by
    have e : l[j]? = some l[j] := List.getElem?_eq_getElem (by omega)
    rw [dsum, laid_prefix l j (by omega), List.take_add_one, List.map_append, List.sum_append, e]
    unfold cel
    rw [List.getD_eq_getElem?_getD, e]
    simp
theorem laid (s : Sim h r) : h.laid = r.laidR := by
  unfold laidR
  rw [s.k.ld, s.sizes, laid_prefix _ _ (Nat.le_refl _), List.take_length]
theorem room (s : Sim h r) (n : Int) : h.roomE n = r.roomR n := by unfold HS.roomE roomR; rw [s.lim, s.live]
theorem bestSpec (l : List (Int × Int)) (n : Int) : ∀ j, j ≤ l.length →
    (best l n j < 0 ∧ (best l n j = -1) ∧ ∀ i, i < j → ¬ (cel l i = n ∧ 0 < giv l i)) ∨
    (∃ b : Nat, best l n j = b ∧ b < j ∧ cel l b = n ∧ 0 < giv l b ∧ ∀ i, i < j → cel l i = n → 0 < giv l i → giv l i ≤ giv l b)
  | 0, _ => .inl ⟨by simp [best], by simp [best], fun i h => by omega⟩
  | j + 1, hj => by
    have ih := bestSpec l n j (by omega)
    rw [best]
    by_cases e : cel l j = n ∧ 0 < giv l j ∧ (best l n j < 0 ∨ giv l (best l n j).toNat < giv l j)
    · rw [if_pos e]
      obtain ⟨e1, e2, e3⟩ := e
      refine .inr ⟨j, rfl, by omega, e1, e2, fun i hi h1 h2 => ?_⟩
      by_cases e4 : i = j
      · subst e4; exact Int.le_refl _
      · rcases ih with ⟨-, -, h⟩ | ⟨b, hb, hbj, hb1, hb2, hm⟩
        · exact absurd ⟨h1, h2⟩ (h i (by omega))
        · have := hm i (by omega) h1 h2
          rw [hb] at e3
          simp only [Int.toNat_natCast] at e3
          omega
    · rw [if_neg e]
      rcases ih with ⟨h0, h1, h⟩ | ⟨b, hb, hbj, hb1, hb2, hm⟩
      · refine .inl ⟨h0, h1, fun i hi g => ?_⟩
        by_cases e4 : i = j
        · subst e4; exact e ⟨g.1, g.2, .inl h0⟩
        · exact h i (by omega) g
      · refine .inr ⟨b, hb, by omega, hb1, hb2, fun i hi h1 h2 => ?_⟩
        by_cases e4 : i = j
        · subst e4
          apply Decidable.byContradiction
          intro hn
          exact e ⟨h1, h2, .inr (by rw [hb]; simp only [Int.toNat_natCast]; omega)⟩
        · exact hm i (by omega) h1 h2
/-- What the reference finds is the last that lies ready. -/
theorem best_last (s : Sim h r) (n : Int) : (best r.all n r.all.length < 0 ∧ (h.rd n).getLast? = none) ∨ (∃ b : Nat, best r.all n r.all.length = b ∧ b < r.all.length ∧ (h.rd n).getLast? = some ((b : Int) + 1) ∧ cel r.all b = n ∧ 0 < giv r.all b) := by
  rcases bestSpec r.all n r.all.length (Nat.le_refl _) with ⟨h0, -, hno⟩ | ⟨b, hb, hbl, h1, h2, hm⟩
  · refine .inl ⟨h0, ?_⟩
    rw [List.getLast?_eq_none_iff]
    apply List.eq_nil_iff_forall_not_mem.2
    intro x hx
    obtain ⟨i, hi, -, g1, g2⟩ := (s.rd n x).1 hx
    exact hno i hi ⟨g1, g2⟩
  · refine .inr ⟨b, hb, hbl, ?_, h1, h2⟩
    have hmem : (b : Int) + 1 ∈ h.rd n := (s.rd n _).2 ⟨b, hbl, rfl, h1, h2⟩
    cases e : (h.rd n).getLast? with
    | none => rw [List.getLast?_eq_none_iff] at e; rw [e] at hmem; simp at hmem
    | some y =>
      have hc := HS.getLast_concat e
      have hp := s.inc n
      rw [hc, List.pairwise_append] at hp
      rw [hc] at hmem
      rcases List.mem_append.1 hmem with hm2 | hm2
      · have := hp.2.2 _ hm2 y (by simp)
        obtain ⟨i, hi, rfl, g1, g2⟩ := (s.rd n y).1 (by rw [hc]; simp)
        have h3 := hm i hi g1 g2
        rw [show ((b : Int) + 1 - 1).toNat = b by omega, show ((i : Int) + 1 - 1).toNat = i by omega] at this
        omega
      · rw [List.mem_singleton.1 hm2]
theorem takeIdE (s : Sim h r) (n : Int) : h.takeId n = r.takeId n := by
  unfold HS.takeId RS.takeId
  rw [s.room]
  by_cases e : r.roomR n ≠ 0 ∨ n = 0
  · rw [if_pos e, if_pos e]
  · rw [if_neg e, if_neg e]
    rcases s.best_last n with ⟨h0, h1⟩ | ⟨b, hb, hbl, h1, -, -⟩
    · rw [if_pos h0, h1, s.len]
    · rw [h1, hb, if_neg (by omega)]
theorem giveEE (s : Sim h r) (id : Int) : h.giveE id = r.giveE id := by
  unfold HS.giveE RS.giveE
  by_cases h0 : id = 0
  · rw [if_pos h0, if_pos h0]
  · rw [if_neg h0, if_neg h0]
    by_cases h1 : 1 ≤ id ∧ id ≤ r.all.length
    · have e : id = (((id - 1).toNat : Nat) : Int) + 1 := by omega
      have := s.tk (id - 1).toNat (by omega)
      rw [← e] at this
      rw [this]
      have hc := s.clk (id - 1).toNat (by omega)
      by_cases h2 : giv r.all (id - 1).toNat = 0
      · rw [if_pos h2, if_neg (show ¬ (id < 0 ∨ (r.all.length : Int) < id ∨ 0 < giv r.all (id - 1).toNat) by omega)]; rfl
      · rw [if_neg h2, if_pos (show (id < 0 ∨ (r.all.length : Int) < id ∨ 0 < giv r.all (id - 1).toNat) by omega)]; rfl
    · rw [if_pos (show (id < 0 ∨ (r.all.length : Int) < id ∨ 0 < giv r.all (id - 1).toNat) by omega)]
      cases e : h.tk id with
      | none => rfl
      | some n => have := s.k.tk _ _ e; rw [s.len] at this; omega
theorem lsum_app (l : List (Int × Int)) (x : Int × Int) : ∀ j, j ≤ l.length → lsum (l ++ [x]) j = lsum l j
  | 0, _ => rfl
  | j + 1, h => by rw [lsum, lsum, lsum_app l x j (by omega), cel_app, giv_app, if_neg (show ¬ j = l.length by omega), if_neg (show ¬ j = l.length by omega)]
theorem lsum_set (l : List (Int × Int)) (i : Nat) (g : Int) (hi : i < l.length) : ∀ j, lsum (setG l i g) j = lsum l j + if i < j then (if g = 0 then cel l i else 0) - (if giv l i = 0 then cel l i else 0) else 0
  | 0 => by simp [lsum]
  | j + 1 => by
    rw [lsum, lsum, lsum_set l i g hi j, cel_set, giv_set _ _ _ _ hi]
    by_cases e : j = i
    · subst e; rw [if_neg (show ¬ j < j by omega), if_pos (show j < j + 1 by omega), if_pos rfl]; omega
    · rw [if_neg e]
      by_cases h : i < j
      · rw [if_pos h, if_pos (show i < j + 1 by omega)]; omega
      · rw [if_neg h, if_neg (show ¬ i < j + 1 by omega)]; omega
theorem take_sim (s : Sim h r) (n : Int) : Sim (h.take n) (r.take n) := by
  have hk := HS.ok_take s.k n
  revert hk
  unfold HS.take RS.take
  rw [s.room]
  by_cases e : r.roomR n ≠ 0 ∨ n = 0
  · rw [if_pos e, if_pos e]; exact fun _ => s
  · rw [if_neg e, if_neg e]
    rcases s.best_last n with ⟨h0, h1⟩ | ⟨b, hb, hbl, h1, h2, h3⟩
    · rw [if_pos h0, h1]
      intro hk
      have hl := s.len
      refine ⟨hk, s.lim, ?_, fun i hi => ?_, fun m x => ?_, fun m => ?_, fun i hi => ?_, s.c0, ?_⟩
      · show h.sizes ++ [n] = _
        rw [s.sizes]; simp
      · simp only [List.length_append, List.length_cons, List.length_nil] at hi
        show updI h.tk _ (some n) ((i : Int) + 1) = if giv (r.all ++ [(n, 0)]) i = 0 then some (cel (r.all ++ [(n, 0)]) i) else none
        rw [cel_app, giv_app]
        by_cases e2 : i = r.all.length
        · subst e2; rw [hl, updI_same]; simp
        · rw [updI_other _ _ _ (by omega), if_neg e2, if_neg e2]; exact s.tk i (by omega)
      · show x ∈ h.rd m ↔ _
        rw [s.rd m x]
        show (∃ i, i < r.all.length ∧ x = (i : Int) + 1 ∧ cel r.all i = m ∧ 0 < giv r.all i) ↔ ∃ i : Nat, i < (r.all ++ [(n, 0)]).length ∧ x = (i : Int) + 1 ∧ cel (r.all ++ [(n, 0)]) i = m ∧ 0 < giv (r.all ++ [(n, 0)]) i
        constructor
        · rintro ⟨i, a1, a2, a3, a4⟩
          exact ⟨i, by simp; omega, a2, by rw [cel_app, if_neg (by omega)]; exact a3, by rw [giv_app, if_neg (by omega)]; exact a4⟩
        · rintro ⟨i, a1, a2, a3, a4⟩
          simp only [List.length_append, List.length_cons, List.length_nil] at a1
          rw [giv_app] at a4
          rw [cel_app] at a3
          by_cases e2 : i = r.all.length
          · rw [if_pos e2] at a4; simp at a4
          · rw [if_neg e2] at a4 a3; exact ⟨i, by omega, a2, a3, a4⟩
      · show (h.rd m).Pairwise fun a b => giv (r.all ++ [(n, 0)]) (a - 1).toNat < giv (r.all ++ [(n, 0)]) (b - 1).toNat
        refine (s.inc m).imp_of_mem fun {a b} ha hb hab => ?_
        obtain ⟨i, hi, rfl, -, -⟩ := (s.rd m a).1 ha
        obtain ⟨j, hj, rfl, -, -⟩ := (s.rd m b).1 hb
        rw [giv_app, giv_app, if_neg (by omega), if_neg (by omega)]; exact hab
      · show 0 ≤ giv (r.all ++ [(n, 0)]) i ∧ giv (r.all ++ [(n, 0)]) i ≤ r.clock
        simp only [List.length_append, List.length_cons, List.length_nil] at hi
        rw [giv_app]
        by_cases e2 : i = r.all.length
        · rw [if_pos e2]; exact ⟨Int.le_refl _, s.c0⟩
        · rw [if_neg e2]; exact s.clk i (by omega)
      · show h.live + n = r.spent + lsum (r.all ++ [(n, 0)]) (r.all ++ [(n, 0)]).length
        rw [show (r.all ++ [(n, (0 : Int))]).length = r.all.length + 1 by simp, lsum, lsum_app _ _ _ (Nat.le_refl _), giv_app, cel_app, if_pos rfl, if_pos rfl, if_pos rfl, s.live]
        unfold liveR; omega
    · rw [h1, hb, if_neg (by omega)]
      intro hk
      have hc := HS.getLast_concat h1
      have hnd := s.k.nd n
      have hnot : (b : Int) + 1 ∉ (h.rd n).dropLast := by
        rw [hc, List.nodup_append] at hnd
        intro hm2
        exact hnd.2.2 _ hm2 _ (by simp) rfl
      have hsub : ∀ x, x ∈ (h.rd n).dropLast → x ∈ h.rd n := fun x hx => (List.dropLast_sublist _).subset hx
      simp only [Int.toNat_natCast]
      refine ⟨hk, s.lim, ?_, fun i hi => ?_, fun m x => ?_, fun m => ?_, fun i hi => ?_, s.c0, ?_⟩
      · show h.sizes = (setG r.all b 0).map Prod.fst
        rw [s.sizes]
        apply List.ext_getElem
        · simp [setG]
        · intro i h1 h2
          have hi : i < r.all.length := by simpa using h1
          have := cel_set r.all b i 0
          unfold cel at this
          rw [List.getD_eq_getElem?_getD, List.getD_eq_getElem?_getD, List.getElem?_eq_getElem (by rw [len_set]; exact hi), List.getElem?_eq_getElem hi] at this
          simp only [List.getElem_map]
          exact this.symm
      · rw [len_set] at hi
        show updI h.tk ((b : Int) + 1) (some n) ((i : Int) + 1) = if giv (setG r.all b 0) i = 0 then some (cel (setG r.all b 0) i) else none
        rw [cel_set, giv_set _ _ _ _ hbl]
        by_cases e2 : i = b
        · subst e2; rw [updI_same, if_pos rfl, h2]; simp
        · rw [updI_other _ _ _ (by omega), if_neg e2]; exact s.tk i hi
      · show x ∈ updI h.rd n (h.rd n).dropLast m ↔ ∃ i, i < (setG r.all b 0).length ∧ x = (i : Int) + 1 ∧ cel (setG r.all b 0) i = m ∧ 0 < giv (setG r.all b 0) i
        rw [len_set]
        have key : (∃ i, i < r.all.length ∧ x = (i : Int) + 1 ∧ cel (setG r.all b 0) i = m ∧ 0 < giv (setG r.all b 0) i) ↔ x ∈ h.rd m ∧ x ≠ (b : Int) + 1 := by
          rw [s.rd m x]
          constructor
          · rintro ⟨i, a1, a2, a3, a4⟩
            rw [cel_set] at a3
            rw [giv_set _ _ _ _ hbl] at a4
            by_cases e2 : i = b
            · rw [if_pos e2] at a4; omega
            · rw [if_neg e2] at a4; exact ⟨⟨i, a1, a2, a3, a4⟩, by omega⟩
          · rintro ⟨⟨i, a1, a2, a3, a4⟩, a5⟩
            exact ⟨i, a1, a2, by rw [cel_set]; exact a3, by rw [giv_set _ _ _ _ hbl, if_neg (by omega)]; exact a4⟩
        rw [key]
        by_cases e2 : m = n
        · subst e2
          rw [updI_same]
          constructor
          · intro hx; exact ⟨hsub x hx, fun e3 => by subst e3; exact hnot hx⟩
          · rintro ⟨hx, hne⟩
            rw [hc] at hx
            rcases List.mem_append.1 hx with hx | hx
            · exact hx
            · exact absurd (List.mem_singleton.1 hx) hne
        · rw [updI_other _ _ _ e2]
          constructor
          · intro hx
            refine ⟨hx, fun e3 => ?_⟩
            obtain ⟨i, a1, a2, a3, a4⟩ := (s.rd m x).1 hx
            have : i = b := by omega
            subst this
            exact e2 (a3.symm.trans h2)
          · exact fun hx => hx.1
      · show (updI h.rd n (h.rd n).dropLast m).Pairwise fun x y => giv (setG r.all b 0) (x - 1).toNat < giv (setG r.all b 0) (y - 1).toNat
        have hstep : ∀ l : List Int, l.Pairwise (fun x y => giv r.all (x - 1).toNat < giv r.all (y - 1).toNat) → (∀ x ∈ l, ∃ i : Nat, x = (i : Int) + 1 ∧ i ≠ b) → l.Pairwise fun x y => giv (setG r.all b 0) (x - 1).toNat < giv (setG r.all b 0) (y - 1).toNat := fun l hl hx => hl.imp_of_mem fun {a c} ha hcc hac => by
          obtain ⟨i, rfl, hi⟩ := hx a ha
          obtain ⟨j, rfl, hj⟩ := hx c hcc
          rw [show ((i : Int) + 1 - 1).toNat = i by omega, show ((j : Int) + 1 - 1).toNat = j by omega] at hac ⊢
          rw [giv_set _ _ _ _ hbl, giv_set _ _ _ _ hbl, if_neg hi, if_neg hj]; exact hac
        by_cases e2 : m = n
        · subst e2
          rw [updI_same]
          refine hstep _ ((s.inc m).sublist (List.dropLast_sublist _)) fun x hx => ?_
          obtain ⟨i, a1, rfl, a3, a4⟩ := (s.rd m x).1 (hsub x hx)
          exact ⟨i, rfl, fun e3 => by subst e3; exact hnot hx⟩
        · rw [updI_other _ _ _ e2]
          refine hstep _ (s.inc m) fun x hx => ?_
          obtain ⟨i, a1, rfl, a3, a4⟩ := (s.rd m x).1 hx
          exact ⟨i, rfl, fun e3 => by subst e3; exact e2 (a3.symm.trans h2)⟩
      · rw [len_set] at hi
        show 0 ≤ giv (setG r.all b 0) i ∧ giv (setG r.all b 0) i ≤ r.clock
        rw [giv_set _ _ _ _ hbl]
        by_cases e2 : i = b
        · rw [if_pos e2]; exact ⟨Int.le_refl _, s.c0⟩
        · rw [if_neg e2]; exact s.clk i hi
      · show h.live + n = r.spent + lsum (setG r.all b 0) (setG r.all b 0).length
        rw [len_set, lsum_set _ _ _ hbl, if_pos hbl, if_pos rfl, if_neg (show ¬ giv r.all b = 0 by omega), h2, s.live]
        unfold liveR; omega
theorem give_sim (s : Sim h r) (id : Int) : Sim (h.give id) (r.give id) := by
  have hk := HS.ok_give s.k id
  have hE := s.giveEE id
  unfold HS.giveE RS.giveE at hE
  revert hk
  unfold HS.give RS.give
  by_cases h0 : id = 0
  · rw [if_pos h0, if_pos h0]; exact fun _ => s
  · rw [if_neg h0, if_neg h0]
    rw [if_neg h0, if_neg h0] at hE
    by_cases hbad : id < 0 ∨ (r.all.length : Int) < id ∨ 0 < giv r.all (id - 1).toNat
    · rw [if_pos hbad] at hE ⊢
      cases e : h.tk id with
      | none => exact fun _ => s
      | some n => rw [e] at hE; simp at hE
    · rw [if_neg hbad] at hE ⊢
      cases e : h.tk id with
      | none => rw [e] at hE; simp at hE
      | some n =>
        intro hk
        obtain ⟨b, rfl⟩ : ∃ b : Nat, id = (b : Int) + 1 := ⟨(id - 1).toNat, by omega⟩
        have hb' : ((b : Int) + 1 - 1).toNat = b := by omega
        rw [hb'] at hbad ⊢
        have hbl : b < r.all.length := by omega
        have hg0 : giv r.all b = 0 := by have := s.clk b hbl; omega
        have htk := s.tk b hbl
        rw [if_pos hg0, e] at htk
        have hcel : cel r.all b = n := by simpa using htk.symm
        have hold : ∀ m x, x ∈ h.rd m → x ≠ (b : Int) + 1 := fun m x hx e3 => by
          obtain ⟨i, a1, a2, a3, a4⟩ := (s.rd m x).1 hx
          have : i = b := by omega
          subst this; omega
        refine ⟨hk, s.lim, ?_, fun i hi => ?_, fun m x => ?_, fun m => ?_, fun i hi => ?_, by show 0 ≤ r.clock + 1; have := s.c0; omega, ?_⟩
        · show h.sizes = (setG r.all b (r.clock + 1)).map Prod.fst
          rw [s.sizes]
          apply List.ext_getElem
          · simp [setG]
          · intro i h1 h2
            have hi : i < r.all.length := by simpa using h1
            have := cel_set r.all b i (r.clock + 1)
            unfold cel at this
            rw [List.getD_eq_getElem?_getD, List.getD_eq_getElem?_getD, List.getElem?_eq_getElem (by rw [len_set]; exact hi), List.getElem?_eq_getElem hi] at this
            simp only [List.getElem_map]
            exact this.symm
        · rw [len_set] at hi
          show updI h.tk ((b : Int) + 1) none ((i : Int) + 1) = if giv (setG r.all b (r.clock + 1)) i = 0 then some (cel (setG r.all b (r.clock + 1)) i) else none
          rw [cel_set, giv_set _ _ _ _ hbl]
          have := s.c0
          by_cases e2 : i = b
          · subst e2; rw [updI_same, if_pos rfl, if_neg (by omega)]
          · rw [updI_other _ _ _ (by omega), if_neg e2]; exact s.tk i hi
        · show x ∈ updI h.rd n (h.rd n ++ [(b : Int) + 1]) m ↔ ∃ i, i < (setG r.all b (r.clock + 1)).length ∧ x = (i : Int) + 1 ∧ cel (setG r.all b (r.clock + 1)) i = m ∧ 0 < giv (setG r.all b (r.clock + 1)) i
          rw [len_set]
          have := s.c0
          have key : (∃ i, i < r.all.length ∧ x = (i : Int) + 1 ∧ cel (setG r.all b (r.clock + 1)) i = m ∧ 0 < giv (setG r.all b (r.clock + 1)) i) ↔ x ∈ h.rd m ∨ (x = (b : Int) + 1 ∧ m = n) := by
            rw [s.rd m x]
            constructor
            · rintro ⟨i, a1, a2, a3, a4⟩
              rw [cel_set] at a3
              rw [giv_set _ _ _ _ hbl] at a4
              by_cases e2 : i = b
              · subst e2; exact .inr ⟨a2, a3.symm.trans hcel⟩
              · rw [if_neg e2] at a4; exact .inl ⟨i, a1, a2, a3, a4⟩
            · rintro (⟨i, a1, a2, a3, a4⟩ | ⟨a2, a3⟩)
              · exact ⟨i, a1, a2, by rw [cel_set]; exact a3, by rw [giv_set _ _ _ _ hbl]; by_cases e2 : i = b; rw [if_pos e2]; omega; rw [if_neg e2]; exact a4⟩
              · exact ⟨b, hbl, a2, by rw [cel_set, a3]; exact hcel, by rw [giv_set _ _ _ _ hbl, if_pos rfl]; omega⟩
          rw [key]
          by_cases e2 : m = n
          · subst e2
            rw [updI_same, List.mem_append, List.mem_singleton]
            simp
          · rw [updI_other _ _ _ e2]
            simp [e2]
        · show (updI h.rd n (h.rd n ++ [(b : Int) + 1]) m).Pairwise fun x y => giv (setG r.all b (r.clock + 1)) (x - 1).toNat < giv (setG r.all b (r.clock + 1)) (y - 1).toNat
          have hg : ∀ x, x ∈ h.rd m → giv (setG r.all b (r.clock + 1)) (x - 1).toNat = giv r.all (x - 1).toNat := fun x hx => by
            have hne := hold m x hx
            obtain ⟨i, a1, rfl, a3, a4⟩ := (s.rd m x).1 hx
            rw [giv_set _ _ _ _ hbl, if_neg (by omega)]
          have hp : (h.rd m).Pairwise fun x y => giv (setG r.all b (r.clock + 1)) (x - 1).toNat < giv (setG r.all b (r.clock + 1)) (y - 1).toNat := (s.inc m).imp_of_mem fun {a c} ha hcc hac => by rw [hg a ha, hg c hcc]; exact hac
          by_cases e2 : m = n
          · subst e2
            rw [updI_same, List.pairwise_append]
            refine ⟨hp, by simp, fun x hx y hy => ?_⟩
            rw [List.mem_singleton.1 hy, hg x hx, hb', giv_set _ _ _ _ hbl, if_pos rfl]
            obtain ⟨i, a1, rfl, a3, a4⟩ := (s.rd m x).1 hx
            have := (s.clk i a1).2
            rw [show ((i : Int) + 1 - 1).toNat = i by omega]
            omega
          · rw [updI_other _ _ _ e2]; exact hp
        · rw [len_set] at hi
          show 0 ≤ giv (setG r.all b (r.clock + 1)) i ∧ giv (setG r.all b (r.clock + 1)) i ≤ r.clock + 1
          rw [giv_set _ _ _ _ hbl]
          have := s.c0
          by_cases e2 : i = b
          · rw [if_pos e2]; omega
          · rw [if_neg e2]; have := s.clk i hi; omega
        · show h.live - n = r.spent + lsum (setG r.all b (r.clock + 1)) (setG r.all b (r.clock + 1)).length
          have := s.c0
          rw [len_set, lsum_set _ _ _ hbl, if_pos hbl, if_neg (show ¬ r.clock + 1 = 0 by omega), if_pos hg0, hcel, s.live]
          unfold liveR; omega
theorem spend_sim (s : Sim h r) (n : Int) : Sim (h.spend n) (r.spend n) := by
  have hk := HS.ok_spend s.k n
  revert hk
  unfold HS.spend RS.spend
  rw [s.room]
  by_cases e : r.roomR n = 0
  · rw [if_pos e, if_pos e]
    exact fun hk => ⟨hk, s.lim, s.sizes, s.tk, s.rd, s.inc, s.clk, s.c0, by show h.live + n = (r.spent + n) + lsum r.all r.all.length; rw [s.live]; unfold liveR; omega⟩
  · rw [if_neg e, if_neg e]; exact fun _ => s
theorem new_sim (lim : Int) (h0 : 0 ≤ lim) (h1 : lim ≤ 400000) : Sim (HS.new lim) (RS.new lim) := by
  refine ⟨HS.ok_new lim h0 h1, rfl, rfl, fun i hi => by simp [RS.new] at hi, fun n x => ?_, fun n => by simp [HS.new], fun i hi => by simp [RS.new] at hi, Int.le_refl _, ?_⟩
  · simp [HS.new, RS.new]
  · simp [HS.new, RS.new, liveR, lsum]
theorem blk_mem (l : List (Int × Int)) : ∀ j x, x ∈ blk l j ↔ ∃ i, i < j ∧ x = (i : Int) + 1 ∧ giv l i = 0
  | 0, x => by simp [blk]
  | j + 1, x => by
    rw [blk]
    by_cases e : giv l j = 0
    · rw [if_pos e, List.mem_append, List.mem_singleton, blk_mem l j x]
      constructor
      · rintro (⟨i, a1, a2, a3⟩ | a2)
        · exact ⟨i, by omega, a2, a3⟩
        · exact ⟨j, by omega, a2, e⟩
      · rintro ⟨i, a1, a2, a3⟩
        by_cases e2 : i = j
        · subst e2; exact .inr a2
        · exact .inl ⟨i, by omega, a2, a3⟩
    · rw [if_neg e, blk_mem l j x]
      constructor
      · rintro ⟨i, a1, a2, a3⟩; exact ⟨i, by omega, a2, a3⟩
      · rintro ⟨i, a1, a2, a3⟩
        refine ⟨i, ?_, a2, a3⟩
        by_cases e2 : i = j
        · subst e2; exact absurd a3 e
        · omega
end Sim
/-- The blocks that are taken, rising: what Blocks answers. -/
def HS.blocks (h : HS) : List Int := (Cs.up h.sizes.length).filter fun x => (h.tk x).isSome
theorem Sim.blocks {h : HS} {r : RS} (s : Sim h r) : h.blocks = blk r.all r.all.length := by
  unfold HS.blocks
  rw [s.len]
  have : ∀ j, j ≤ r.all.length → (Cs.up j).filter (fun x => (h.tk x).isSome) = blk r.all j := by
    intro j
    induction j with
    | zero => intro _; rfl
    | succ j ih =>
      intro hj
      rw [Cs.up_succ, List.filter_append, ih (by omega), blk]
      have := s.tk j (by omega)
      by_cases e : giv r.all j = 0
      · rw [if_pos e] at this ⊢
        simp [this]
      · rw [if_neg e] at this ⊢
        simp [this]
  exact this _ (Nat.le_refl _)
end Go.Proofs.Ytfhigeefclchiaa
