/- The document's answer for layer 5, in plain Lean. -/
import Derived.Test.YtfhigeefclchiaaPlain
namespace Go.Proofs.Ytfhigeefclchiaa.Cs
set_option linter.unusedVariables false
set_option linter.unusedSimpArgs false

/-- The slices of the keys from 1 to 65536, in order. -/
def slots (l : List Int) : List Nat := (l.filter fun n => decide (1 ≤ n ∧ n ≤ 65536)).map fun n => (Ws.log2 n).toNat
/-- How many lie in slice i. -/
def cnt (l : List Int) (i : Nat) : Int := ((slots l).filter (· == i)).length
def countL (l : List Int) : List Int := (List.range 17).map (cnt l)
/-- The sum of the first i numbers. -/
def pre (c : List Int) : Nat → Int
  | 0 => 0
  | i + 1 => pre c i + c.getD i 0
/-- Does the array of 2^i fit? -/
def fit (c : List Int) (i : Nat) : Bool := decide ((2 : Int) ^ i < 2 * pre c (i + 1))
/-- The greatest i below k that fits. -/
def best (c : List Int) : Nat → Option Nat
  | 0 => none
  | k + 1 => if fit c k = true then some k else best c k
def okC (c : List Int) : Bool := decide (c.length = 17) && c.all fun n => decide (0 ≤ n ∧ n ≤ 4294967296)
def chooseA (c : List Int) : Int := if okC c = true then (match best c 17 with | some i => 2 ^ i | none => 0) else 0
def chooseN (c : List Int) : Int := if okC c = true then (match best c 17 with | some i => pre c (i + 1) | none => 0) else 0
def chooseE (c : List Int) : Int := if okC c = true then 0 else 2
/-- Does a number stand twice? -/
def dup (l : List Int) : Bool := !(decide l.Nodup)
def rest (l : List Int) (o : Int) : Int := (l.length : Int) - chooseN (countL l) + o
def sizesE (l : List Int) (o : Int) : Int := if o < 0 then 1 else if dup l = true then 2 else if 65536 < o ∨ 65536 < rest l o then 14 else 0
def sizesA (l : List Int) (o : Int) : Int := if sizesE l o = 0 then chooseA (countL l) else 0
def sizesH (l : List Int) (o : Int) : Int := if sizesE l o = 0 then Ws.ceil2 (rest l o) else 0

theorem slots_append (a b : List Int) : slots (a ++ b) = slots a ++ slots b := by simp [slots]
theorem cnt_append (a b : List Int) (i : Nat) : cnt (a ++ b) i = cnt a i + cnt b i := by simp [cnt, slots_append]
theorem countL_length (l : List Int) : (countL l).length = 17 := by simp [countL]
theorem countL_get (l : List Int) (i : Nat) (h : i < 17) : (countL l).getD i 0 = cnt l i := by
  simp [countL, List.getD_eq_getElem?_getD, h]
theorem cnt_nonneg (l : List Int) (i : Nat) : 0 ≤ cnt l i := by unfold cnt; omega
theorem slots_le (l : List Int) : (slots l).length ≤ l.length := by
  unfold slots; rw [List.length_map]; exact List.length_filter_le _ _
theorem cnt_le (l : List Int) (i : Nat) : cnt l i ≤ l.length := by
  have := slots_le l
  have h2 : ((slots l).filter (· == i)).length ≤ (slots l).length := List.length_filter_le _ _
  unfold cnt; omega
theorem countL_nil : countL [] = List.replicate 17 0 := by decide
theorem cnt_out (l : List Int) (x : Int) (h : ¬ (1 ≤ x ∧ x ≤ 65536)) (i : Nat) : cnt (l ++ [x]) i = cnt l i := by
  rw [cnt_append]
  have : cnt [x] i = 0 := by simp [cnt, slots, h]
  omega
theorem cnt_in (l : List Int) (x : Int) (h : 1 ≤ x ∧ x ≤ 65536) (k : Nat) (hk : Ws.log2 x = k) (i : Nat) : cnt (l ++ [x]) i = cnt l i + if i = k then 1 else 0 := by
  rw [cnt_append]
  have : cnt [x] i = if i = k then 1 else 0 := by
    by_cases e : i = k
    · simp [cnt, slots, h, hk, e]
    · rw [if_neg e]; simp [cnt, slots, h, hk]; omega
  omega
theorem log2_range (x : Int) (h1 : 1 ≤ x) (h2 : x ≤ 9223372036854775807) (k : Nat) (hk : Ws.log2 x = k) : k ≤ 16 ↔ x ≤ 65536 := by
  obtain ⟨k', h3, e, hlt, hle⟩ := Ws.log2_spec x h1 h2
  have : k' = k := by omega
  subst this
  constructor
  · intro h
    have : (2 : Int) ^ k' ≤ 2 ^ 16 := by exact_mod_cast Nat.pow_le_pow_right (by decide) h
    omega
  · intro h
    apply Decidable.byContradiction
    intro hn
    have := hlt 16 (by omega)
    omega
theorem countL_out (l : List Int) (x : Int) (h : ¬ (1 ≤ x ∧ x ≤ 65536)) : countL (l ++ [x]) = countL l := by
  unfold countL
  exact List.map_congr_left fun i _ => cnt_out l x h i
theorem countL_in (l : List Int) (x : Int) (h : 1 ≤ x ∧ x ≤ 65536) (k : Nat) (hk : Ws.log2 x = k) : countL (l ++ [x]) = (countL l).set k ((countL l).getD k 0 + 1) := by
  have hk16 : k ≤ 16 := (log2_range x h.1 (by omega) k hk).2 h.2
  apply List.ext_getElem
  · simp [countL]
  · intro i h1 h2
    have hi : i < 17 := by simpa [countL] using h1
    rw [List.getElem_set]
    by_cases e : k = i
    · subst e; rw [if_pos rfl, countL_get l k (by omega)]; simp [countL, cnt_in l x h k hk]
    · rw [if_neg e]
      have := cnt_in l x h k hk i
      rw [if_neg (fun h => e h.symm)] at this
      simp [countL, this]
end Go.Proofs.Ytfhigeefclchiaa.Cs
