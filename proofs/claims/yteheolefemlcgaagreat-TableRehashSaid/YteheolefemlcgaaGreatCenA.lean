/- Folded of Sl, Cens, Census1, Census2, Iter, Census3, Census4, Census5, Census6, Census7. -/
import Derived.Test.YteheolefemlcgaaGreatBase
import Derived.Test.YteheolefemlcgaaGreatPlain
import Derived.Test.YteheolefemlcgaaGreatWords3
import Derived.Laws.OwnMore
import Derived.RangeFuncBox
import Derived.RangeFuncLeaves
import Derived.Shelf.Abstract
import Derived.OwnWalkIn
import Derived.TacticsInMore
import Derived.LoopNIn
import Derived.LoopIn
import Derived.Maps.AppendAt
import Derived.Lib.SlKeysI
import Derived.Deep.RegionHeld3
/- Slices of numbers that are read. -/
namespace Go.Proofs.YteheolefemlcgaaGreat
open Go.RowKit
set_option linter.unusedVariables false
set_option linter.unusedSimpArgs false

theorem addr_add (b o j : Nat) : (⟨b, o, none⟩ : Addr).add j = ⟨b, o + j, none⟩ := by
  unfold Addr.add
  by_cases h : j = 0
  · subst h; simp
  · simp [h]
theorem spot_of_cell {w : World} {a : Addr} {v : Value} (h : w.cell? a = some v) : ∃ b o, a = ⟨b, o, none⟩ ∧ b < w.heap.size := by
  obtain ⟨b, o, s⟩ := a
  unfold World.cell? at h
  simp only at h
  cases hh : w.heap[b]? with
  | none => rw [hh] at h; exact absurd h (by simp)
  | some x =>
    have hb : b < w.heap.size := (Array.getElem?_eq_some_iff.1 hh).1
    cases s with
    | none => exact ⟨b, o, rfl, hb⟩
    | some y => rw [hh] at h; cases x <;> simp at h
/-- The slice's value reads as these numbers. -/
def IS (w : World) (sv : Value) (zs : List Int) : Prop :=
  ∃ A c, sv = .slice A zs.length c ∧ zs.length ≤ c ∧ (A = none → c = 0) ∧ (0 < zs.length → ∃ ad, A = some ad ∧ ∀ j, j < zs.length → w.cell? (ad.add j) = some (.int .i64 (zs.getD j 0)))
theorem IS.below {w w' : World} {sv : Value} {zs : List Int} (h : IS w sv zs) (hb : Below w.heap.size w w') : IS w' sv zs := by
  obtain ⟨A, c, rfl, hc, hn, hz⟩ := h
  refine ⟨A, c, rfl, hc, hn, fun h0 => ?_⟩
  obtain ⟨ad, e, hj⟩ := hz h0
  refine ⟨ad, e, fun j hjl => ?_⟩
  obtain ⟨b, o, ea, hl⟩ := spot_of_cell (hj j hjl)
  rw [hb.cell (by rw [ea]; exact hl)]
  exact hj j hjl
/-- Written out: address, offset. -/
theorem IS.form {w : World} {sv : Value} {zs : List Int} (h : IS w sv zs) : ∃ A b o c, sv = .slice A zs.length c ∧ zs.length ≤ c ∧ (A = none → c = 0) ∧
    (0 < zs.length → A = some ⟨b, o, none⟩ ∧ b < w.heap.size ∧ ∀ j, j < zs.length → w.cell? ⟨b, o + j, none⟩ = some (.int .i64 (zs.getD j 0))) := by
  obtain ⟨A, c, rfl, hc, hn, hz⟩ := h
  by_cases h0 : 0 < zs.length
  · obtain ⟨ad, e, hj⟩ := hz h0
    have h1 := hj 0 h0
    have ea : ad.add 0 = ad := by unfold Addr.add; rw [if_pos rfl]
    rw [ea] at h1
    obtain ⟨b, o, rfl, hl⟩ := spot_of_cell h1
    exact ⟨A, b, o, c, rfl, hc, hn, fun _ => ⟨e, hl, fun j hjl => by rw [← addr_add]; exact hj j hjl⟩⟩
  · exact ⟨A, 0, 0, c, rfl, hc, hn, fun h => absurd h h0⟩
theorem IS.of_form {w : World} {A : Option Addr} {b o c : Nat} {zs : List Int} (hc : zs.length ≤ c) (hn : A = none → c = 0)
    (h : 0 < zs.length → A = some ⟨b, o, none⟩ ∧ b < w.heap.size ∧ ∀ j, j < zs.length → w.cell? ⟨b, o + j, none⟩ = some (.int .i64 (zs.getD j 0))) : IS w (.slice A zs.length c) zs :=
  ⟨A, c, rfl, hc, hn, fun h0 => by obtain ⟨e, hl, hj⟩ := h h0; exact ⟨_, e, fun j hjl => by rw [addr_add]; exact hj j hjl⟩⟩
/-- What an owned row reads as. -/
theorem IS.of_row {w : World} {base : Nat} {e : TypeId} {v : Value} {zs : List Int} (h : w.ownsRow base e 1 v zs.length (zs.map (Value.int .i64))) : IS w v zs := by
  rcases h.2 with ⟨rfl, h0⟩ | ⟨g, cap, cur, rfl, hb, hg, hn, hc, hs, ht⟩
  · have : zs = [] := List.eq_nil_of_length_eq_zero h0
    subst this
    exact ⟨none, 0, rfl, Nat.le_refl _, fun _ => rfl, fun h => absurd h (by simp)⟩
  · refine ⟨some ⟨g, 0, none⟩, cap, rfl, hn, fun h => by simp at h, fun h0 => ⟨_, rfl, fun j hj => ?_⟩⟩
    rw [addr_add, Nat.zero_add, h.cellAt j (by omega)]
    simp [hj]
theorem ownsRow_below {w w' : World} {base : Nat} {e : TypeId} {size : Nat} {v : Value} {n : Nat} {xs : List Value} (h : w.ownsRow base e size v n xs) (hb : Below w.heap.size w w') : w'.ownsRow base e size v n xs := by
  obtain ⟨h1, h2⟩ := h
  refine ⟨h1, ?_⟩
  rcases h2 with h2 | ⟨g, cap, cur, hv, hg, hh, r⟩
  · exact Or.inl h2
  · refine Or.inr ⟨g, cap, cur, hv, hg, ?_, r⟩
    rw [hb.block g (Array.getElem?_eq_some_iff.1 hh).1]
    exact hh
theorem getD_in {l : List Int} {P : Int → Prop} (h : ∀ x ∈ l, P x) {j : Nat} (hj : j < l.length) : P (l.getD j 0) := by
  rw [List.getD_eq_getElem?_getD, List.getElem?_eq_getElem hj]; exact h _ (List.getElem_mem hj)
theorem take_succ_getD (l : List Int) (j : Nat) (h : j < l.length) : l.take (j + 1) = l.take j ++ [l.getD j 0] := by
  rw [List.take_succ_eq_append_getElem h, List.getD_eq_getElem?_getD, List.getElem?_eq_getElem h]; rfl
end Go.Proofs.YteheolefemlcgaaGreat
/- The document's answer for layer 5, in plain Lean. -/
namespace Go.Proofs.YteheolefemlcgaaGreat.Cs
set_option linter.unusedVariables false
set_option linter.unusedSimpArgs false

/-- The slices of the keys from 1 to 65536, in order. -/
def slots (l : List Int) : List Nat := (l.filter fun n => decide (1 ≤ n ∧ n ≤ 65536)).map fun n => (Ws.log2 n).toNat
/-- How many lie in slice i. -/
def cnt (l : List Int) (i : Nat) : Int := ((slots l).filter (· == i)).length
def countL (l : List Int) : List Int := (List.range 17).map (cnt l)
/-- The sum of the first i numbers. -/
def pre (c : List Int) : Nat → Int
  | 0 => 0
  | i + 1 => pre c i + c.getD i 0
/-- Does the array of 2^i fit? -/
def fit (c : List Int) (i : Nat) : Bool := decide ((2 : Int) ^ i < 2 * pre c (i + 1))
/-- The greatest i below k that fits. -/
def best (c : List Int) : Nat → Option Nat
  | 0 => none
  | k + 1 => if fit c k = true then some k else best c k
def okC (c : List Int) : Bool := decide (c.length = 17) && c.all fun n => decide (0 ≤ n ∧ n ≤ 4294967296)
def chooseA (c : List Int) : Int := if okC c = true then (match best c 17 with | some i => 2 ^ i | none => 0) else 0
def chooseN (c : List Int) : Int := if okC c = true then (match best c 17 with | some i => pre c (i + 1) | none => 0) else 0
def chooseE (c : List Int) : Int := if okC c = true then 0 else 2
/-- Does a number stand twice? -/
def dup (l : List Int) : Bool := !(decide l.Nodup)
def rest (l : List Int) (o : Int) : Int := (l.length : Int) - chooseN (countL l) + o
def sizesE (l : List Int) (o : Int) : Int := if o < 0 then 1 else if dup l = true then 2 else if 65536 < o ∨ 65536 < rest l o then 14 else 0
def sizesA (l : List Int) (o : Int) : Int := if sizesE l o = 0 then chooseA (countL l) else 0
def sizesH (l : List Int) (o : Int) : Int := if sizesE l o = 0 then Ws.ceil2 (rest l o) else 0

theorem slots_append (a b : List Int) : slots (a ++ b) = slots a ++ slots b := by simp [slots]
theorem cnt_append (a b : List Int) (i : Nat) : cnt (a ++ b) i = cnt a i + cnt b i := by simp [cnt, slots_append]
theorem countL_length (l : List Int) : (countL l).length = 17 := by simp [countL]
theorem countL_get (l : List Int) (i : Nat) (h : i < 17) : (countL l).getD i 0 = cnt l i := by
  simp [countL, List.getD_eq_getElem?_getD, h]
theorem cnt_nonneg (l : List Int) (i : Nat) : 0 ≤ cnt l i := by unfold cnt; omega
theorem slots_le (l : List Int) : (slots l).length ≤ l.length := by
  unfold slots; rw [List.length_map]; exact List.length_filter_le _ _
theorem cnt_le (l : List Int) (i : Nat) : cnt l i ≤ l.length := by
  have := slots_le l
  have h2 : ((slots l).filter (· == i)).length ≤ (slots l).length := List.length_filter_le _ _
  unfold cnt; omega
theorem countL_nil : countL [] = List.replicate 17 0 := by decide
theorem cnt_out (l : List Int) (x : Int) (h : ¬ (1 ≤ x ∧ x ≤ 65536)) (i : Nat) : cnt (l ++ [x]) i = cnt l i := by
  rw [cnt_append]
  have : cnt [x] i = 0 := by simp [cnt, slots, h]
  omega
theorem cnt_in (l : List Int) (x : Int) (h : 1 ≤ x ∧ x ≤ 65536) (k : Nat) (hk : Ws.log2 x = k) (i : Nat) : cnt (l ++ [x]) i = cnt l i + if i = k then 1 else 0 := by
  rw [cnt_append]
  have : cnt [x] i = if i = k then 1 else 0 := by
    by_cases e : i = k
    · simp [cnt, slots, h, hk, e]
    · rw [if_neg e]; simp [cnt, slots, h, hk]; omega
  omega
theorem log2_range (x : Int) (h1 : 1 ≤ x) (h2 : x ≤ 9223372036854775807) (k : Nat) (hk : Ws.log2 x = k) : k ≤ 16 ↔ x ≤ 65536 := by
  obtain ⟨k', h3, e, hlt, hle⟩ := Ws.log2_spec x h1 h2
  have : k' = k := by omega
  subst this
  constructor
  · intro h
    have : (2 : Int) ^ k' ≤ 2 ^ 16 := by exact_mod_cast Nat.pow_le_pow_right (by decide) h
    omega
  · intro h
    apply Decidable.byContradiction
    intro hn
    have := hlt 16 (by omega)
    omega
theorem countL_out (l : List Int) (x : Int) (h : ¬ (1 ≤ x ∧ x ≤ 65536)) : countL (l ++ [x]) = countL l := by
  unfold countL
  exact List.map_congr_left fun i _ => cnt_out l x h i
theorem countL_in (l : List Int) (x : Int) (h : 1 ≤ x ∧ x ≤ 65536) (k : Nat) (hk : Ws.log2 x = k) : countL (l ++ [x]) = (countL l).set k ((countL l).getD k 0 + 1) := by
  have hk16 : k ≤ 16 := (log2_range x h.1 (by omega) k hk).2 h.2
  apply List.ext_getElem
  · simp [countL]
  · intro i h1 h2
    have hi : i < 17 := by simpa [countL] using h1
    rw [List.getElem_set]
    by_cases e : k = i
    · subst e; rw [if_pos rfl, countL_get l k (by omega)]; simp [countL, cnt_in l x h k hk]
    · rw [if_neg e]
      have := cnt_in l x h k hk i
      rw [if_neg (fun h => e h.symm)] at this
      simp [countL, this]
end Go.Proofs.YteheolefemlcgaaGreat.Cs
/- Contracts of the package census: Slice, Count. -/
namespace Go.Proofs.YteheolefemlcgaaGreat
open Go.RowKit
set_option linter.unusedVariables false
set_option linter.unusedSimpArgs false

theorem census_Slice (n : Int) (hn : In64 n) (w : World) : Calls Tryz.prog 139 #[.int .i64 n] w fun e w' => e = .returned (.int .i64 (Ws.log2 n)) ∧ w = w' := by
  go_enter Tryz.func139, Tryz.ntmps139
  go_wp2_with (first | (go_at_call 108; refine (words_Log2 n hn _).mono ?_; rintro e w' ⟨rfl, rfl⟩))
  go_ret
  exact ⟨rfl, rfl⟩
theorem census_Slice_c (n k : Int) (hn : In64 n) (hk : Ws.log2 n = k) (w : World) : Calls Tryz.prog 139 #[.int .i64 n] w fun e w' => e = .returned (.int .i64 k) ∧ w = w' := by
  rw [← hk]; exact census_Slice n hn w
theorem Tryz.infoInt : (Tryz.prog.info? 3).map (fun i => (i.zero, i.size, i.bytes)) = some (some (.int .i64 0), 1, 8) := by kernel_rfl
set_option maxRecDepth 100000 in
set_option maxHeartbeats 1600000 in
theorem census_Count_s (A : Option Addr) (b o c : Nat) (zs : List Int) (w : World) (hl : zs.length ≤ 17592186044416) (hz : ∀ x ∈ zs, In64 x)
    (hA : 0 < zs.length → A = some ⟨b, o, none⟩ ∧ b < w.heap.size ∧ ∀ j, j < zs.length → w.cell? ⟨b, o + j, none⟩ = some (.int .i64 (zs.getD j 0))) :
    Calls Tryz.prog 126 #[.slice A zs.length c] w fun e w' => ∃ v, e = .returned v ∧ w'.ownsRow w.heap.size 3 1 v 17 ((Cs.countL zs).map (Value.int .i64)) ∧ Below w.heap.size w w' := by
  obtain ⟨i0, hi, hz0, hz1, hz2⟩ := info_parts Tryz.infoInt
  have HA := Lib.hid hA
  have HZ := Lib.hid hz
  have hl63 : (zs.length : Int) ≤ 9223372036854775807 := by omega
  clear hA hz
  go_enter Tryz.func126, Tryz.ntmps126
  go_wp2_with (first | (refine wpList_make_full _ rfl _ _ 128 rfl w.heap.size 3 i0 (.int .i64 0) 1 Tryz.underlying128 hi hz0 hz1 .i64 .i64 17 17 17 rfl rfl rfl rfl (by omega) (by unfold maxLen; omega) (Nat.le_refl _) ?_; intro w1 hown1 hg1))
  have hB1 : Below w.heap.size w w1 := Below.grown (Below.refl _ _) hg1 (Nat.le_refl _) (fun q hq => by simp at hq)
  have hr1 : w1.ownsRow w.heap.size 3 1 (.slice (some ⟨w.heap.size, 0, none⟩) 17 17) 17 ((Cs.countL (zs.take 0)).map (Value.int .i64)) := by
    rw [List.take_zero, Cs.countL_nil]
    have e : (madeCells (Value.int IntKind.i64 0).cells (17 * 1)).toList = (List.replicate 17 (0 : Int)).map (Value.int .i64) := by kernel_rfl
    rw [e] at hown1; exact hown1
  clear hown1 hg1
  go_loopw [5, 6, 10] (fun p q i wr => ∃ j : Nat, j ≤ zs.length ∧ i = .int .i64 j ∧ wr.ownsRow w.heap.size 3 1 (.slice (some ⟨w.heap.size, 0, none⟩) 17 17) 17 ((Cs.countL (zs.take j)).map (Value.int .i64)) ∧ Below w.heap.size w wr) (fun _ _ i _ => zs.length - (intOf i).toNat)
  case atStart => exact ⟨0, Nat.zero_le _, rfl, hr1, hB1⟩
  case round =>
    clear hr1 hB1
    obtain ⟨j, hj, rfl, hown, hB⟩ := hrel
    by_cases hjl : j < zs.length
    · obtain ⟨rfl, hbl, hcell⟩ := HA.out (by omega)
      have cx := (hB.cell (p := ⟨b, o + j, none⟩) hbl).trans (hcell j hjl)
      have hx := getD_in HZ.out hjl
      have HT := Lib.hid (take_succ_getD zs j hjl)
      generalize zs.getD j 0 = x at cx hx HT
      have dj : decide ((j : Int) < (zs.length : Int)) = true := by simp; omega
      by_cases hin : 1 ≤ x ∧ x ≤ 65536
      · obtain ⟨k, hk63, hk, -, -⟩ := Ws.log2_spec x hin.1 (by omega)
        have hk16 : k ≤ 16 := (Cs.log2_range x hin.1 (by omega) k hk).2 hin.2
        have HK := Lib.hid hk
        have HI := Lib.hid hin
        clear hk hin
        obtain ⟨y, hy⟩ : ∃ y, (Cs.countL (zs.take j)).getD k 0 = y := ⟨_, rfl⟩
        have hyb : 0 ≤ y ∧ y ≤ zs.length := by
          rw [← hy, Cs.countL_get _ _ (by omega)]
          have h1 := Cs.cnt_nonneg (zs.take j) k
          have h2 := Cs.cnt_le (zs.take j) k
          have h3 : (zs.take j).length ≤ zs.length := by rw [List.length_take]; omega
          omega
        have cy : wr.cell? ⟨w.heap.size, k, none⟩ = some (.int .i64 y) := by
          rw [hown.cellAt k (by omega), List.getElem?_map]
          have : (Cs.countL (zs.take j))[k]? = some y := by
            rw [← hy, List.getD_eq_getElem?_getD, List.getElem?_eq_getElem (by rw [Cs.countL_length]; omega)]; rfl
          rw [this]; rfl
        have fy := hown.frozenAt k
        have HY := Lib.hid hy
        clear hy
        have hw : wrap64 (y + 1) = y + 1 := by unfold wrap64; omega
        have k0 : decide ((0 : Int) ≤ (k : Int)) = true := by simp
        have k1 : decide ((k : Int) < 17) = true := by simp; omega
        have k17 : (k : Int) < 17 := by omega
        go_wp2_with (first | (go_at_call 139; (with_reducible refine (census_Slice_c x k hx HK.out _).mono ?_); rintro e w' ⟨rfl, rfl⟩))
        obtain ⟨hst, hgr⟩ := hown.stored k (.int .i64 (y + 1))
        have hB2 := hB.grown hgr hB.size (fun q hq => by simp at hq; omega)
        rw [← List.map_set, ← HY.out, ← Cs.countL_in _ x HI.out k HK.out, ← HT.out] at hst
        go_roundw
        case rel => exact ⟨j + 1, by omega, by go_num, by rw [HY.out] at hst; exact hst, hB2⟩
        case measure => simp [intOf]; omega
      · have HI := Lib.hid hin
        have hT2 : Cs.countL (zs.take (j + 1)) = Cs.countL (zs.take j) := by rw [HT.out, Cs.countL_out _ x HI.out]
        have HT2 := Lib.hid hT2
        obtain ⟨k, hk⟩ : ∃ k, Ws.log2 x = k := ⟨_, rfl⟩
        have HK := Lib.hid hk
        by_cases h1 : 1 ≤ x
        · obtain ⟨k', hk63, hk', -, -⟩ := Ws.log2_spec x h1 (by unfold In64 at hx; omega)
          have h17 : ¬ (k' ≤ 16) := fun h => hin ⟨h1, (Cs.log2_range x h1 (by unfold In64 at hx; omega) k' hk').1 h⟩
          have e : k = (k' : Int) := hk.symm.trans hk'
          subst e
          have k0 : decide ((0 : Int) ≤ (k' : Int)) = true := by simp
          have k1 : decide ((k' : Int) < 17) = false := by simp; omega
          clear hin hk hk' hT2
          go_wp2_with (first | (go_at_call 139; (with_reducible refine (census_Slice_c x k' hx HK.out _).mono ?_); rintro e w' ⟨rfl, rfl⟩))
          go_roundw
          case rel => exact ⟨j + 1, by omega, by go_num, by rw [HT2.out]; exact hown, hB⟩
          case measure => simp [intOf]; omega
        · have e : k = -1 := by rw [← hk]; unfold Ws.log2; rw [if_pos (by omega)]
          subst e
          clear hin hk hT2
          go_wp2_with (first | (go_at_call 139; (with_reducible refine (census_Slice_c x (-1) hx HK.out _).mono ?_); rintro e w' ⟨rfl, rfl⟩))
          go_roundw
          case rel => exact ⟨j + 1, by omega, by go_num, by rw [HT2.out]; exact hown, hB⟩
          case measure => simp [intOf]; omega
    · obtain rfl : j = zs.length := by omega
      rw [List.take_length] at hown
      go_wp2
      go_ret
      exact ⟨_, rfl, hown, hB⟩
theorem census_Count (sv : Value) (zs : List Int) (w : World) (hl : zs.length ≤ 17592186044416) (hz : ∀ x ∈ zs, In64 x) (h : IS w sv zs) :
    Calls Tryz.prog 126 #[sv] w fun e w' => ∃ v, e = .returned v ∧ w'.ownsRow w.heap.size 3 1 v 17 ((Cs.countL zs).map (Value.int .i64)) ∧ Below w.heap.size w w' := by
  obtain ⟨A, b, o, c, rfl, hc, hn, hf⟩ := h.form
  exact census_Count_s A b o c zs w hl hz hf
end Go.Proofs.YteheolefemlcgaaGreat
/- Contracts of the package census: Choose. -/
namespace Go.Proofs.YteheolefemlcgaaGreat
open Go.RowKit
set_option linter.unusedVariables false
set_option linter.unusedSimpArgs false

def badC (n : Int) : Bool := !decide (0 ≤ n ∧ n ≤ 4294967296)
theorem choose1 (n : Int) (b : Bool) (hb : badC n = b) (w : World) : Calls Tryz.prog 138 #[.int .i64 n] w fun e w' => e = .returned (.bool b) ∧ w = w' := by
  subst hb
  unfold badC
  by_cases h1 : n < 0
  · have e : decide (0 ≤ n ∧ n ≤ 4294967296) = false := by simp; omega
    rw [e]
    have d1 : decide (n < 0) = true := by simpa using h1
    go_enter Tryz.func138, Tryz.ntmps138
    go_wp2
    go_ret
    exact ⟨rfl, rfl⟩
  · have d1 : decide (n < 0) = false := by simpa using h1
    by_cases h2 : 4294967296 < n
    · have e : decide (0 ≤ n ∧ n ≤ 4294967296) = false := by simp; omega
      rw [e]
      have d2 : decide (4294967296 < n) = true := by simpa using h2
      go_enter Tryz.func138, Tryz.ntmps138
      go_wp2
      go_ret
      exact ⟨rfl, rfl⟩
    · have e : decide (0 ≤ n ∧ n ≤ 4294967296) = true := by simp; omega
      rw [e]
      have d2 : decide (4294967296 < n) = false := by simpa using h2
      go_enter Tryz.func138, Tryz.ntmps138
      go_wp2
      go_ret
      exact ⟨rfl, rfl⟩
set_option maxRecDepth 100000 in
theorem indexFunc (A : Option Addr) (b o c : Nat) (zs : List Int) (w : World) (hl : zs.length ≤ 17592186044416)
    (hA : 0 < zs.length → A = some ⟨b, o, none⟩ ∧ b < w.heap.size ∧ ∀ j, j < zs.length → w.cell? ⟨b, o + j, none⟩ = some (.int .i64 (zs.getD j 0))) :
    Calls Tryz.prog 144 #[.slice A zs.length c, .func (.func 138) #[] #[]] w fun e w' => ∃ r, e = .returned (.int .i64 r) ∧ decide (0 ≤ r) = zs.any badC ∧ w = w' := by
  have HA := Lib.hid hA
  have hl63 : (zs.length : Int) ≤ 9223372036854775807 := by omega
  clear hA
  go_enter Tryz.func144, Tryz.ntmps144
  go_wp2
  go_loopw [5, 8] (fun p i wr => ∃ j : Nat, j ≤ zs.length ∧ i = .int .i64 j ∧ (zs.take j).any badC = false ∧ w = wr) (fun _ i _ => zs.length - (intOf i).toNat)
  case atStart => exact ⟨0, Nat.zero_le _, rfl, rfl, rfl⟩
  case round =>
    obtain ⟨j, hj, rfl, hf, rfl⟩ := hrel
    by_cases hjl : j < zs.length
    · obtain ⟨rfl, hbl, hcell⟩ := HA.out (by omega)
      have cx := hcell j hjl
      clear hcell
      have HT := Lib.hid (take_succ_getD zs j hjl)
      have HM : Hid (zs.getD j 0 ∈ zs) := Lib.hid (by rw [List.getD_eq_getElem?_getD, List.getElem?_eq_getElem hjl]; exact List.getElem_mem hjl)
      generalize zs.getD j 0 = x at cx HT HM
      have dj : decide ((j : Int) < (zs.length : Int)) = true := by simp; omega
      have HF := Lib.hid hf
      clear hf
      cases hb : badC x with
      | true =>
        have HB := Lib.hid hb
        clear hb
        go_wp2_with (first | (go_at_call 138; (with_reducible refine (choose1 x true HB.out _).mono ?_); rintro e w' ⟨rfl, rfl⟩))
        go_ret
        refine ⟨_, rfl, ?_, rfl⟩
        have : zs.any badC = true := List.any_eq_true.2 ⟨x, HM.out, HB.out⟩
        rw [this]; simp
      | false =>
        have HB := Lib.hid hb
        clear hb
        go_wp2_with (first | (go_at_call 138; (with_reducible refine (choose1 x false HB.out _).mono ?_); rintro e w' ⟨rfl, rfl⟩))
        go_roundw
        case rel => exact ⟨j + 1, by omega, by go_num, by rw [HT.out, List.any_append, HF.out]; simp [HB.out], (by first | rfl | trivial)⟩
        case measure => simp [intOf]; omega
    · obtain rfl : j = zs.length := by omega
      rw [List.take_length] at hf
      have HF := Lib.hid hf
      clear hf
      go_wp2
      go_ret
      exact ⟨_, rfl, by rw [HF.out]; rfl, rfl⟩
theorem containsFunc (A : Option Addr) (b o c : Nat) (zs : List Int) (q : Bool) (hq : zs.any badC = q) (w : World) (hl : zs.length ≤ 17592186044416)
    (hA : 0 < zs.length → A = some ⟨b, o, none⟩ ∧ b < w.heap.size ∧ ∀ j, j < zs.length → w.cell? ⟨b, o + j, none⟩ = some (.int .i64 (zs.getD j 0))) :
    Calls Tryz.prog 137 #[.slice A zs.length c, .func (.func 138) #[] #[]] w fun e w' => e = .returned (.bool q) ∧ w = w' := by
  have HA := Lib.hid hA
  have HQ := Lib.hid hq
  clear hA hq
  go_enter Tryz.func137, Tryz.ntmps137
  go_wp2_with (first | (go_at_call 144; (with_reducible refine (indexFunc A b o c zs _ hl HA.out).mono ?_); rintro e w' ⟨r, rfl, hr, rfl⟩; rw [HQ.out] at hr))
  go_ret
  exact ⟨rfl, rfl⟩
namespace Cs
def bestA (c : List Int) (k : Nat) : Int := match best c k with | some i => 2 ^ i | none => 0
def bestN (c : List Int) (k : Nat) : Int := match best c k with | some i => pre c (i + 1) | none => 0
theorem bestA_fit {c : List Int} {k : Nat} (h : fit c k = true) : bestA c (k + 1) = 2 ^ k ∧ bestN c (k + 1) = pre c (k + 1) := by
  unfold bestA bestN best; rw [if_pos h]; exact ⟨rfl, rfl⟩
theorem bestA_not {c : List Int} {k : Nat} (h : fit c k = false) : bestA c (k + 1) = bestA c k ∧ bestN c (k + 1) = bestN c k := by
  unfold bestA bestN
  rw [show best c (k + 1) = best c k by unfold best; rw [if_neg (by rw [h]; decide)]; cases k <;> rfl]
  exact ⟨rfl, rfl⟩
theorem choose_ok {c : List Int} (h : okC c = true) : chooseA c = bestA c 17 ∧ chooseN c = bestN c 17 ∧ chooseE c = 0 := by
  unfold chooseA chooseN chooseE bestA bestN
  rw [if_pos h, if_pos h, if_pos h]; exact ⟨rfl, rfl, rfl⟩
theorem choose_bad {c : List Int} (h : okC c = false) : chooseA c = 0 ∧ chooseN c = 0 ∧ chooseE c = 2 := by
  unfold chooseA chooseN chooseE
  rw [h]; exact ⟨rfl, rfl, rfl⟩
theorem okC_len {c : List Int} (h : c.length ≠ 17) : okC c = false := by unfold okC; simp [h]
theorem okC_any {c : List Int} (h : c.length = 17) : okC c = !c.any badC := by
  unfold okC
  rw [h]
  have : (c.all fun n => decide (0 ≤ n ∧ n ≤ 4294967296)) = !c.any badC := by
    rw [List.not_any_eq_all_not]
    congr 1
    funext n
    unfold badC
    simp
  rw [this]; rfl
theorem okC_in {c : List Int} (h : okC c = true) : ∀ x ∈ c, 0 ≤ x ∧ x ≤ 4294967296 := by
  intro x hx
  unfold okC at h
  rw [Bool.and_eq_true, List.all_eq_true] at h
  simpa using h.2 x hx
theorem pre_bound {c : List Int} (h : ∀ x ∈ c, 0 ≤ x ∧ x ≤ 4294967296) : ∀ k, k ≤ c.length → 0 ≤ pre c k ∧ pre c k ≤ k * 4294967296
  | 0, _ => by simp [pre]
  | k + 1, hk => by
    have := pre_bound h k (by omega)
    have hx : 0 ≤ c.getD k 0 ∧ c.getD k 0 ≤ 4294967296 := getD_in h (by omega)
    unfold pre
    push_cast
    omega
end Cs
set_option maxRecDepth 100000 in
set_option maxHeartbeats 1600000 in
theorem census_Choose_ok (A : Option Addr) (b o c : Nat) (zs : List Int) (w : World) (hok : Cs.okC zs = true) (h17 : zs.length = 17)
    (hA : 0 < zs.length → A = some ⟨b, o, none⟩ ∧ b < w.heap.size ∧ ∀ j, j < zs.length → w.cell? ⟨b, o + j, none⟩ = some (.int .i64 (zs.getD j 0))) :
    Calls Tryz.prog 125 #[.slice A zs.length c] w fun e w' => e = .returned (.tuple #[.int .i64 (Cs.bestA zs 17), .int .i64 (Cs.bestN zs 17), .int .i64 0]) ∧ w = w' := by
  have hb : zs.any badC = false := by have := Cs.okC_any h17; rw [hok] at this; simpa using this.symm
  have hin := Cs.okC_in hok
  have HP := Lib.hid (Cs.pre_bound hin)
  have HIN := Lib.hid hin
  have HB := Lib.hid hb
  have HA := Lib.hid hA
  have hne : ((zs.length : Int) != 17) = false := by rw [h17]; rfl
  have hl : zs.length ≤ 17592186044416 := by omega
  have H17 := Lib.hid h17
  clear hA hb hin hok h17
  go_enter Tryz.func125, Tryz.ntmps125
  go_wp2_with (first | (go_at_call 137; (with_reducible refine (containsFunc A b o c zs false HB.out _ hl HA.out).mono ?_); rintro e w' ⟨rfl, rfl⟩))
  go_loopw [5, 6, 7, 8, 9, 19] (fun a n s p q i wr => ∃ j : Nat, j ≤ 17 ∧ i = .int .i64 j ∧ a = .int .i64 (Cs.bestA zs j) ∧ n = .int .i64 (Cs.bestN zs j) ∧ s = .int .i64 (Cs.pre zs j) ∧ w = wr) (fun _ _ _ _ _ i _ => 17 - (intOf i).toNat)
  case atStart => exact ⟨0, Nat.zero_le _, rfl, rfl, rfl, rfl, rfl⟩
  case round =>
    obtain ⟨j, hj, rfl, rfl, rfl, rfl, rfl⟩ := hrel
    have h17 := H17.out
    by_cases hjl : j < 17
    · obtain ⟨rfl, hbl, hcell⟩ := HA.out (by omega)
      have cx := hcell j (by omega)
      clear hcell
      have hx : 0 ≤ zs.getD j 0 ∧ zs.getD j 0 ≤ 4294967296 := getD_in HIN.out (by omega)
      have hp := HP.out j (by omega)
      have HS : Hid (Cs.pre zs (j + 1) = Cs.pre zs j + zs.getD j 0) := Lib.hid rfl
      have HF : Hid (Cs.fit zs j = decide ((2 : Int) ^ j < 2 * Cs.pre zs (j + 1))) := Lib.hid rfl
      obtain ⟨a, ha⟩ : ∃ a, Cs.bestA zs j = a := ⟨_, rfl⟩
      obtain ⟨n, hn⟩ : ∃ n, Cs.bestN zs j = n := ⟨_, rfl⟩
      have HAa := Lib.hid ha; have HNn := Lib.hid hn
      rw [ha, hn]
      clear ha hn
      generalize zs.getD j 0 = x at cx hx HS
      generalize Cs.pre zs j = s at hp HS ⊢
      have dj : decide ((j : Int) < (zs.length : Int)) = true := by simp; omega
      have w1 : wrap64 (s + x) = s + x := by unfold wrap64; omega
      have w2 : wrap64 (2 * (s + x)) = 2 * (s + x) := by unfold wrap64; omega
      have w3 := Ws.pow_wrap j (by omega)
      have hjz : j < zs.length := by omega
      clear h17
      cases hq : Cs.fit zs j with
      | true =>
        have d1 : decide ((2 : Int) ^ j < 2 * (s + x)) = true := by rw [← HS.out, ← HF.out]; exact hq
        have HQ := Lib.hid hq
        clear hq
        go_wp2
        go_roundw
        case rel => exact ⟨j + 1, by omega, by go_num, by rw [(Cs.bestA_fit HQ.out).1, w3], by rw [(Cs.bestA_fit HQ.out).2, HS.out], by rw [HS.out], (by first | rfl | trivial)⟩
        case measure => simp [intOf]; omega
      | false =>
        have d1 : decide ((2 : Int) ^ j < 2 * (s + x)) = false := by rw [← HS.out, ← HF.out]; exact hq
        have HQ := Lib.hid hq
        clear hq
        go_wp2
        go_roundw
        case rel => exact ⟨j + 1, by omega, by go_num, by rw [(Cs.bestA_not HQ.out).1, HAa.out], by rw [(Cs.bestA_not HQ.out).2, HNn.out], by rw [HS.out], (by first | rfl | trivial)⟩
        case measure => simp [intOf]; omega
    · obtain rfl : j = 17 := by omega
      have dj : decide (((17 : Nat) : Int) < (zs.length : Int)) = false := by simp; omega
      have hjz : ¬ (17 < zs.length) := by omega
      clear h17
      go_wp2
      exact bodyPost_ret (v := .tuple #[.int .i64 (Cs.bestA zs 17), .int .i64 (Cs.bestN zs 17), .int .i64 0]) (by simp [results, Tryz.results125, go_sem, *]) rfl ⟨rfl, rfl⟩
theorem census_Choose_len (A : Option Addr) (b o c : Nat) (zs : List Int) (w : World) (hl : zs.length ≤ 17592186044416) (h17 : zs.length ≠ 17) :
    Calls Tryz.prog 125 #[.slice A zs.length c] w fun e w' => e = .returned (.tuple #[.int .i64 0, .int .i64 0, .int .i64 2]) ∧ w = w' := by
  have hne : ((zs.length : Int) != 17) = true := by simp; omega
  have hl63 : (zs.length : Int) ≤ 9223372036854775807 := by omega
  go_enter Tryz.func125, Tryz.ntmps125
  go_wp2
  exact bodyPost_ret (v := .tuple #[.int .i64 0, .int .i64 0, .int .i64 2]) (by simp [results, Tryz.results125, go_sem, *]) rfl ⟨rfl, rfl⟩
theorem census_Choose_bad (A : Option Addr) (b o c : Nat) (zs : List Int) (w : World) (hb : zs.any badC = true) (h17 : zs.length = 17)
    (hA : 0 < zs.length → A = some ⟨b, o, none⟩ ∧ b < w.heap.size ∧ ∀ j, j < zs.length → w.cell? ⟨b, o + j, none⟩ = some (.int .i64 (zs.getD j 0))) :
    Calls Tryz.prog 125 #[.slice A zs.length c] w fun e w' => e = .returned (.tuple #[.int .i64 0, .int .i64 0, .int .i64 2]) ∧ w = w' := by
  have HB := Lib.hid hb
  have HA := Lib.hid hA
  have hne : ((zs.length : Int) != 17) = false := by rw [h17]; rfl
  have hl : zs.length ≤ 17592186044416 := by omega
  have H17 := Lib.hid h17
  clear hA hb h17
  go_enter Tryz.func125, Tryz.ntmps125
  go_wp2_with (first | (go_at_call 137; (with_reducible refine (containsFunc A b o c zs true HB.out _ hl HA.out).mono ?_); rintro e w' ⟨rfl, rfl⟩))
  exact bodyPost_ret (v := .tuple #[.int .i64 0, .int .i64 0, .int .i64 2]) (by simp [results, Tryz.results125, go_sem, *]) rfl ⟨rfl, rfl⟩
theorem census_Choose (sv : Value) (zs : List Int) (w : World) (hl : zs.length ≤ 17592186044416) (h : IS w sv zs) :
    Calls Tryz.prog 125 #[sv] w fun e w' => e = .returned (.tuple #[.int .i64 (Cs.chooseA zs), .int .i64 (Cs.chooseN zs), .int .i64 (Cs.chooseE zs)]) ∧ w = w' := by
  obtain ⟨A, b, o, c, rfl, hc, hn, hf⟩ := h.form
  by_cases h17 : zs.length = 17
  · cases hb : zs.any badC with
    | false =>
      have hok : Cs.okC zs = true := by rw [Cs.okC_any h17, hb]; rfl
      obtain ⟨e1, e2, e3⟩ := Cs.choose_ok hok
      rw [e1, e2, e3]
      exact census_Choose_ok A b o c zs w hok h17 hf
    | true =>
      have hok : Cs.okC zs = false := by rw [Cs.okC_any h17, hb]; rfl
      obtain ⟨e1, e2, e3⟩ := Cs.choose_bad hok
      rw [e1, e2, e3]
      exact census_Choose_bad A b o c zs w hb h17 hf
  · obtain ⟨e1, e2, e3⟩ := Cs.choose_bad (Cs.okC_len h17)
    rw [e1, e2, e3]
    exact census_Choose_len A b o c zs w hl h17
end Go.Proofs.YteheolefemlcgaaGreat
/- slices.Values, slices.AppendSeq and slices.Collect at []int (lines of two worked proofs, turned to this dump). -/
namespace Go.Proofs.YteheolefemlcgaaGreat
open Go.RowKit Go.Shelf
set_option linter.unusedVariables false
set_option linter.unusedSimpArgs false

attribute [local go_sem] Oper.semAt_some

/-- What has come when k rounds are over. -/
def upto {α : Type} (f : Nat → α) (k : Nat) : List α := (List.range k).map f
theorem upto_succ {α : Type} (f : Nat → α) (k : Nat) : upto f (k + 1) = upto f k ++ [f k] := by simp [upto, List.range_succ]
theorem upto_length {α : Type} (f : Nat → α) (k : Nat) : (upto f k).length = k := by simp [upto]
theorem upto_all (zs : List Int) : upto (fun j => zs[j]?.getD 0) zs.length = zs := by
  apply List.ext_getElem
  · simp [upto]
  · intro i h1 h2
    simp [upto, h2]
theorem upto_take (zs : List Int) {k : Nat} (hk : k ≤ zs.length) : upto (fun j => zs[j]?.getD 0) k = zs.take k := by
  apply List.ext_getElem
  · simp [upto, hk]
  · intro i h1 h2
    have : i < zs.length := by simp [upto] at h1; omega
    simp [upto, this]
set_option maxRecDepth 100000 in
set_option maxHeartbeats 2000000 in
/-- The iterator, for every loop body that keeps what lay below n₀. -/
theorem values1_in (n : Nat) (hn : 1 ≤ n) (l Bs n₀ b off len cap : Nat) (zs : List Int) (hreach : len * 8 ≤ 140737488351232) (hb : b < n₀) (J Jx : List Int → World → Prop)
    (hY : ∀ pre x W, J pre W → pre.length < len → YieldAt Fence.wide (n - 1) Tryz.prog l #[.int .i64 x] W fun e W' =>
      (e = .returned (.bool true) ∧ J (pre ++ [x]) W' ∧ Below n₀ W W') ∨ (e = .returned (.bool false) ∧ Jx (pre ++ [x]) W'))
    (W : World) (hBs : W.cell? ⟨Bs, 0, none⟩ = some (.slice (some ⟨b, off, none⟩) len cap)) (hc : ∀ j, j < len → W.cell? ⟨b, off + j, none⟩ = some (.int .i64 (zs[j]?.getD 0))) (h0 : J [] W) :
    CallsIn Fence.wide n Tryz.prog 136 #[.func (.yield l) #[] #[], .pointer (some ⟨Bs, 0, none⟩)] W fun e W' => (∃ v, e = .returned v) ∧
      ((∃ ys, ys = upto (fun j => zs[j]?.getD 0) len ∧ J ys W') ∨ (∃ pre, (∃ k, k ≤ len ∧ pre = upto (fun j => zs[j]?.getD 0) k) ∧ Jx pre W')) := by
  refine callsIn_of_wp Tryz.func136 rfl trivial ?_ rfl
  simp only [Tryz.ntmps136, List.size_toArray, List.length_cons, List.length_nil, Nat.reduceAdd, Nat.reduceSub, Array.replicate_succ, Array.replicate_zero, List.push_toArray, List.append_toArray, List.nil_append, List.cons_append]
  gi_wp2
  gi_loopw [7] (fun i wr => ∃ k : Nat, k ≤ len ∧ i = .int .i64 k ∧ J (upto (fun j => zs[j]?.getD 0) k) wr ∧ Below n₀ W wr)
    (fun i _ => len - (intOf i).toNat)
  case atStart => exact ⟨0, Nat.zero_le _, rfl, h0, Below.refl _ _⟩
  case round =>
    obtain ⟨k, hk, rfl, hJs, hnx⟩ := hrel
    have hcx : k < len → wr.cell? ⟨b, off + k, none⟩ = some (.int .i64 (zs[k]?.getD 0)) := fun h => (hnx.cell (p := ⟨b, off + k, none⟩) hb).trans (hc k h)
    by_cases hlt : k < len
    · obtain ⟨fn, tmps, assign, body, hy, hR⟩ := hY _ (zs[k]?.getD 0) wr hJs (by rw [upto_length]; exact hlt)
      have hcx' := hcx hlt
      gi_wp2
      refine hR.mono ?_
      rintro e W3 (⟨rfl, hJ3, hk3⟩ | ⟨rfl, hJx3⟩)
      · gi_wp2
        go_roundw
        case rel => exact ⟨k + 1, by omega, by simp, by rw [upto_succ]; exact hJ3, hnx.trans hk3⟩
        case measure => simp [intOf]; omega
      · gi_wp2
        refine bodyPost_ret (results_none rfl _ _ _) rfl ?_
        exact ⟨⟨_, rfl⟩, .inr ⟨_, ⟨k + 1, by omega, (upto_succ _ _).symm⟩, hJx3⟩⟩
    · obtain rfl : k = len := by omega
      gi_wp2
      go_end0
      exact ⟨⟨_, rfl⟩, .inl ⟨_, rfl, hJs⟩⟩

/-- The slice's value holds these numbers, in a block below n₀; or it is nil and there are none. -/
def IntsIn (n₀ : Nat) (W : World) (sv : Value) (zs : List Int) : Prop :=
  (∃ A c, sv = .slice A 0 c ∧ zs = []) ∨ ∃ b off cap, sv = .slice (some ⟨b, off, none⟩) zs.length cap ∧ b < n₀ ∧ ∀ j, j < zs.length → W.cell? ⟨b, off + j, none⟩ = some (.int .i64 (zs[j]?.getD 0))
theorem IntsIn.below {n₀ : Nat} {A B : World} (h : Below n₀ A B) {sv : Value} {zs : List Int} : IntsIn n₀ A sv zs → IntsIn n₀ B sv zs
  | .inl e => .inl e
  | .inr ⟨b, off, cap, e, hb, hc⟩ => .inr ⟨b, off, cap, e, hb, fun j hj => (h.cell (p := ⟨b, off + j, none⟩) hb).trans (hc j hj)⟩

set_option maxRecDepth 100000 in
set_option maxHeartbeats 1000000 in
theorem values1_nil_in (n : Nat) (l Bs : Nat) (A : Option Addr) (c : Nat) (J : List Int → World → Prop) (W : World) (hBs : W.cell? ⟨Bs, 0, none⟩ = some (.slice A 0 c)) (h0 : J [] W) :
    CallsIn Fence.wide n Tryz.prog 136 #[.func (.yield l) #[] #[], .pointer (some ⟨Bs, 0, none⟩)] W fun e W' => (∃ v, e = .returned v) ∧ J [] W' := by
  refine callsIn_of_wp Tryz.func136 rfl trivial ?_ rfl
  simp only [Tryz.ntmps136, List.size_toArray, List.length_cons, List.length_nil, Nat.reduceAdd, Nat.reduceSub, Array.replicate_succ, Array.replicate_zero, List.push_toArray, List.append_toArray, List.nil_append, List.cons_append]
  gi_wp2
  gi_loopw [7] (fun i wr => i = .int .i64 0 ∧ J [] wr) (fun _ _ => 0)
  case atStart => exact ⟨rfl, h0⟩
  case round =>
    obtain ⟨rfl, hJs⟩ := hrel
    gi_wp2
    go_end0
    exact ⟨⟨_, rfl⟩, hJs⟩
theorem slices_Values (a : Option Addr) (len cap : Nat) (w : World) :
    Calls Tryz.prog 122 #[.slice a len cap] w fun e w' => e = .returned (.func (.func 136) #[] #[.pointer (some ⟨w.heap.size, 0, none⟩)]) ∧ w' = w.alloc (.cells #[.slice a len cap] 128) := by
  go_enter Tryz.func122, Tryz.ntmps122
  go_wp2
  go_ret
  exact ⟨rfl, rfl⟩
theorem values_stops (n : Nat) (hn : 1 ≤ n) (Bs n₀ : Nat) (sv : Value) (zs : List Int) (hreach : zs.length * 8 ≤ 140737488351232) (w : World) (hBs : Bs < w.heap.size) (hn₀ : n₀ ≤ w.heap.size)
    (hc : w.cell? ⟨Bs, 0, none⟩ = some sv) (hI : IntsIn n₀ w sv zs) :
    SeqStopsK Fence.wide n Tryz.prog 136 #[.pointer (some ⟨Bs, 0, none⟩)] (fun x : Int => #[Value.int .i64 x]) (Below n₀) (fun ys => ys = zs) (fun pre => pre <+: zs) zs.length w := fun l J Jx W hW _ _ hY h0 => by
  have hc' := (hW.cell (p := ⟨Bs, 0, none⟩) hBs).trans hc
  rcases hI.below (hW.mono hn₀) with ⟨A, c, rfl, rfl⟩ | ⟨b, off, cap, rfl, hb, hcs⟩
  · exact (values1_nil_in n l Bs A c J W hc' h0).mono fun e W' ⟨he, hj⟩ => ⟨he, .inl ⟨_, rfl, hj⟩⟩
  · refine (values1_in n hn l Bs n₀ b off zs.length cap zs hreach hb J Jx hY W hc' hcs h0).mono ?_
    rintro e W' ⟨he, ⟨ys, rfl, hj⟩ | ⟨pre, ⟨k, hk, rfl⟩, hj⟩⟩
    · exact ⟨he, .inl ⟨_, upto_all zs, hj⟩⟩
    · exact ⟨he, .inr ⟨_, by rw [upto_take zs hk]; exact List.take_prefix _ _, hj⟩⟩
set_option maxRecDepth 100000 in
set_option maxHeartbeats 2000000 in
/-- slices.AppendSeq(nil, slices.Values(s)): the same numbers in new memory. -/
theorem slices_AppendSeq (Bs : Nat) (sv : Value) (zs : List Int) (hreach : zs.length * 8 ≤ 140737488351232) (w : World) (hBs : Bs < w.heap.size) (hc : w.cell? ⟨Bs, 0, none⟩ = some sv) (hI : IntsIn w.heap.size w sv zs) :
    Calls Tryz.prog 142 #[.slice none 0 0, .func (.func 136) #[] #[.pointer (some ⟨Bs, 0, none⟩)]] w fun e W' => ∃ v, e = .returned v ∧ W'.ownsRow w.heap.size 3 1 v zs.length (zs.map (Value.int .i64)) ∧ (v = .slice none 0 0 ↔ zs = []) ∧ Below w.heap.size w W' := by
  refine (callsIn_wide (n := 4)).1 ?_
  have hro : Fence.wide.round = none := rfl
  obtain ⟨i0, hi, hz0, hz1, hz2⟩ := info_parts Tryz.infoInt
  refine callsIn_of_wp_marks Tryz.func142 rfl trivial ?_ hro
  simp only [Tryz.ntmps142, List.size_toArray, List.length_cons, List.length_nil, Nat.reduceAdd, Nat.reduceSub, Array.replicate_succ, Array.replicate_zero, List.push_toArray, List.append_toArray, List.nil_append, List.cons_append]
  gi_wp2
  have bO := Boxed.new w 128 (.slice none 0 0)
  have hB0 : Below w.heap.size w (w.alloc (.cells #[.slice none 0 0] 128)) := (Below.refl _ w).alloc (Nat.le_refl _) _
  have hc0 := (hB0.cell (p := ⟨Bs, 0, none⟩) hBs).trans hc
  refine wpIn_rangeFunc_ownG hro (by decide) (gf := 136) (lb := #[.pointer (some ⟨Bs, 0, none⟩)]) rfl trivial (enters_of Tryz.func136 (by kernel_rfl) rfl)
    (values_stops 3 (by decide) Bs w.heap.size sv zs hreach _ (by simp; omega) (by simp) hc0 (hI.below hB0)) belowK_t (belowK_b (by simp)) (Below.refl _ _) (fun _ => rfl)
    (fun pre W => (∃ v, Boxed W w.heap.size 128 v ∧ W.ownsRow w.heap.size 3 1 v pre.length (pre.map (Value.int .i64)) ∧ (v = .slice none 0 0 ↔ pre = [])) ∧ Below w.heap.size w W)
    (fun _ _ _ => False)
    (OwnFrom.and (Own.from (holdsRow_own w.heap.size w.heap.size 128 3 1 (fun pre => pre.length) (fun pre => pre.map (Value.int .i64)) (fun pre v => v = .slice none 0 0 ↔ pre = [])) _) (ownFrom_below (Nat.le_refl _) (by simp)))
    (fun _ _ _ _ _ hs _ _ => hs)
    ⟨⟨_, bO, World.ownsRow_nil _ _ _ _, by simp⟩, hB0⟩
    (fun x => { tmps := #[.slice none 0 0, .func (.func 136) #[] #[.pointer (some ⟨Bs, 0, none⟩)], .pointer (some ⟨w.heap.size, 0, none⟩), undef, .slice none 0 0, .int .i64 x, .func (.func 136) #[] #[.pointer (some ⟨Bs, 0, none⟩)], .int .i64 x, undef, undef, undef, undef, undef], defers := [] }) ?assign ?body ?done ?stop
  case assign =>
    intro l x W K hK
    gi_wp2
    exact hK
  case body =>
    rintro l pre x W ⟨⟨v, hv, hrow, hnil⟩, hB⟩ hlt
    have hc := hv.cell
    gi_wp2_with (gi_at_builtin; refine wpListIn_append_own _ rfl _ _ 128 rfl w.heap.size 3 i0 (.int .i64 0) 1 8 Tryz.underlying128 hi hz0 hz1 hz2 rfl (by decide) _ _ _ rfl (hrow.alloc _) ⟨W.heap.size, 0, none⟩ 1 1 [.int .i64 x] rfl rfl (cell_one_new _ _ _) (by simp [Value.oneCell']) (by unfold maxLen; omega) (by omega) (by have := hB.size; simp; omega) ?_; intro v' w1 hown' hgrow _; obtain ⟨g', cap', rfl⟩ := ownsRow_succ hown'; obtain ⟨hv1, hv2, hr2, hk2, hb2⟩ := hv.appended (by decide) hrow hB.size (Nat.le_refl _) hown' hgrow; have hc1 := hv1.cell; have hf1 := hv1.frozen)
    exact ⟨hk2.from _, hb2, ⟨_, hv2, by simpa using hr2, by simp⟩, hB.trans hb2⟩
  case done =>
    rintro D ys W hD rfl ⟨⟨v, hv, hrow, hnil⟩, hB⟩ hK
    have hc := hv.cell
    gi_wp2
    refine ⟨by simp, .inl ⟨_, _, rfl, run_takeDeferred hK, ?_⟩⟩
    exact ⟨_, results_tmp rfl _ _ _, v, rfl, ownsRow_putObj hrow _ hK rfl, hnil, hB.trans (belowK_b (w := w) (Nat.le_refl _) W D _ _ (by simp at hD; omega) hK rfl rfl)⟩
  case stop =>
    rintro D c pre W _ _ h _
    exact h.elim
theorem slices_Collect (Bs : Nat) (sv : Value) (zs : List Int) (hreach : zs.length * 8 ≤ 140737488351232) (w : World) (hBs : Bs < w.heap.size) (hc : w.cell? ⟨Bs, 0, none⟩ = some sv) (hI : IntsIn w.heap.size w sv zs) :
    Calls Tryz.prog 134 #[.func (.func 136) #[] #[.pointer (some ⟨Bs, 0, none⟩)]] w fun e W' => ∃ v, e = .returned v ∧ W'.ownsRow w.heap.size 3 1 v zs.length (zs.map (Value.int .i64)) ∧ (v = .slice none 0 0 ↔ zs = []) ∧ Below w.heap.size w W' := by
  go_enter Tryz.func134, Tryz.ntmps134
  go_wp2_with (first | (go_at_call 142; refine (slices_AppendSeq Bs sv zs hreach _ hBs hc hI).mono ?_; rintro e w' ⟨v, rfl, ho, hn, hb⟩))
  go_ret
  exact ⟨v, rfl, ho, hn, hb⟩
end Go.Proofs.YteheolefemlcgaaGreat
/- Contracts of the package census: Sizes. -/
namespace Go.Proofs.YteheolefemlcgaaGreat
open Go.RowKit Go.Sort Go.Maps
set_option linter.unusedVariables false
set_option linter.unusedSimpArgs false

def srt (zs : List Int) : List Int := zs.mergeSort fun x y => decide (x ≤ y)
theorem srt_perm (zs : List Int) : (srt zs).Perm zs := List.mergeSort_perm _ _
theorem srt_length (zs : List Int) : (srt zs).length = zs.length := (srt_perm zs).length_eq
theorem srt_sorted (zs : List Int) : (srt zs).Pairwise fun x y => x ≤ y := by
  have := List.pairwise_mergeSort (le := fun x y : Int => decide (x ≤ y)) (by intro a b c; simp; omega) (by intro a b; simp; omega) zs
  exact this.imp (by intro a b h; simpa using h)
theorem keeps_iff (s : List Int) (j : Nat) (h0 : 0 < j) (hj : j < s.length) : Lib.keeps s.toArray j = true ↔ s[j]'hj ≠ s[j - 1]'(by omega) := by
  unfold Lib.keeps
  rw [getElem!_pos s.toArray j (by simpa using hj), getElem!_pos s.toArray (j - 1) (by simp; omega)]
  simp
  omega
/-- What a sorted list is compacted to is shorter just where a number stands twice. -/
theorem compact_iff (zs : List Int) : (Lib.compact (srt zs)).length = zs.length ↔ zs.Nodup := by
  have hs := srt_sorted zs
  rw [List.pairwise_iff_getElem] at hs
  rw [← srt_length zs, ← (srt_perm zs).nodup_iff]
  generalize srt zs = s at hs ⊢
  constructor
  · intro h
    have h1 : ((List.range s.length).filter (Lib.keeps s.toArray)).length = (List.range s.length).length := by
      unfold Lib.compact Lib.compactUpTo at h
      rw [List.length_map] at h
      rw [h, List.length_range]
    rw [List.length_filter_eq_length_iff] at h1
    rw [List.nodup_iff_pairwise_ne, List.pairwise_iff_getElem]
    intro i j hi hj hij
    have hk := (keeps_iff s j (by omega) hj).1 (h1 j (List.mem_range.2 hj))
    have h2 := hs (j - 1) j (by omega) hj (by omega)
    by_cases e : i = j - 1
    · subst e; exact fun h => hk h.symm
    · have h3 := hs i (j - 1) hi (by omega) (by omega)
      intro h; omega
  · intro h
    rw [List.nodup_iff_pairwise_ne, List.pairwise_iff_getElem] at h
    rw [Lib.compact_all]
    intro j hj
    by_cases e : j = 0
    · subst e; exact Lib.keeps_lt_one _ _ (by omega)
    · rw [keeps_iff s j (by omega) hj]
      exact fun h2 => h (j - 1) j (by omega) hj (by omega) h2.symm
theorem compact_le (s : List Int) : (Lib.compact s).length ≤ s.length := by
  unfold Lib.compact Lib.compactUpTo
  rw [List.length_map]
  exact Nat.le_trans (List.length_filter_le _ _) (by simp)
theorem slices_Sorted (Bs : Nat) (sv : Value) (zs : List Int) (hreach : zs.length * 8 ≤ 140737488351232) (w : World) (hBs : Bs < w.heap.size) (hc : w.cell? ⟨Bs, 0, none⟩ = some sv) (hI : IntsIn w.heap.size w sv zs) :
    Calls Tryz.prog 121 #[.func (.func 136) #[] #[.pointer (some ⟨Bs, 0, none⟩)]] w fun e W' => ∃ v, e = .returned v ∧ W'.ownsRow w.heap.size 3 1 v zs.length ((srt zs).map (Value.int .i64)) ∧ (v = .slice none 0 0 ↔ zs = []) ∧ Below w.heap.size w W' := by
  have HI := Lib.hid hI
  have HC := Lib.hid hc
  clear hI hc
  go_enter Tryz.func121, Tryz.ntmps121
  go_wp2_with (first | (go_at_call 134; refine (slices_Collect Bs sv zs hreach _ hBs HC.out HI.out).mono ?_; rintro e W ⟨v, rfl, ho, hn, hb⟩))
  rcases ho.2 with ⟨rfl, hz⟩ | ⟨gb, cap, cur, rfl, hbase, hgb, r1, r2, r3, r4⟩
  · have hz0 : zs = [] := List.eq_nil_of_length_eq_zero hz
    subst hz0
    go_wp2_with (first | (go_at_call 135; refine (Tryz.slices_Sort_int_none none 0 W).mono ?_; rintro e w' ⟨rfl, rfl⟩))
    go_ret
    exact ⟨.slice none 0 0, rfl, by rw [show srt [] = [] by simp [srt]]; exact ho, by simp, hb⟩
  · have hH : Holds encZ W gb 0 zs.toArray := holds_of_block_i hgb (by simpa using r4)
    have hgl : gb < W.heap.size := (Array.getElem?_eq_some_iff.1 hgb).1
    have hsz : zs.length < 4611686018427387904 := by omega
    have cS := Tryz.slices_Sort_int gb 0 cap zs W hH hgl hsz
    have R1 := Lib.hid r1; have HG := Lib.hid hgb; have HO := Lib.hid ho; have HH := Lib.hid hH; have R4 := Lib.hid r4
    clear r1 hgb ho hH r4
    go_wp2_with (first | (go_at_call 135; refine cS.mono ?_; rintro e w' ⟨rfl, nn, os, rfl⟩))
    go_ret
    exact ⟨_, rfl, ownsRow_sorted_i (ss := zs) (ts := srt zs) (srt_length zs) hbase HG.out R1.out r2 r3, hn, hb.grown (grownBy_sorted_i _) hb.size (fun j hj => by cases hj; exact hbase)⟩
end Go.Proofs.YteheolefemlcgaaGreat
/- Contracts of the package census: Sizes, joined. -/
namespace Go.Proofs.YteheolefemlcgaaGreat
open Go.RowKit Go.Sort Go.Maps
set_option linter.unusedVariables false
set_option linter.unusedSimpArgs false

namespace Cs
theorem filter_lt_succ (k : Nat) : ∀ s : List Nat, (s.filter fun x => decide (x < k + 1)).length = (s.filter fun x => decide (x < k)).length + (s.filter (· == k)).length
  | [] => rfl
  | x :: s => by
    have ih := filter_lt_succ k s
    by_cases h1 : x < k
    · have h2 : x < k + 1 := by omega
      have h3 : ¬ (x = k) := by omega
      simp [h1, h2, h3, ih]; omega
    · by_cases h3 : x = k
      · simp [h3, ih]; omega
      · have h2 : ¬ (x < k + 1) := by omega
        simp [h1, h2, h3, ih]
theorem pre_countL (l : List Int) : ∀ k, k ≤ 17 → pre (countL l) k = (((slots l).filter fun x => decide (x < k)).length : Int)
  | 0, _ => by unfold pre; rw [List.filter_eq_nil_iff.2 (by simp)]; rfl
  | k + 1, h => by
    have ih := pre_countL l k (by omega)
    unfold pre
    rw [ih, countL_get l k (by omega), filter_lt_succ]
    unfold cnt
    push_cast; rfl
theorem pre_le (l : List Int) (k : Nat) (h : k ≤ 17) : 0 ≤ pre (countL l) k ∧ pre (countL l) k ≤ l.length := by
  rw [pre_countL l k h]
  have h1 : ((slots l).filter fun x => decide (x < k)).length ≤ (slots l).length := List.length_filter_le _ _
  have h2 := slots_le l
  omega
theorem best_lt (c : List Int) : ∀ k i, best c k = some i → i < k
  | 0, i, h => by unfold best at h; exact absurd h (by simp)
  | k + 1, i, h => by
    unfold best at h
    by_cases f : fit c k = true
    · rw [if_pos f] at h; have : k = i := by simpa using h
      omega
    · rw [if_neg f] at h; have := best_lt c k i h; omega
theorem okC_countL (l : List Int) (h : l.length ≤ 4294967296) : okC (countL l) = true := by
  unfold okC
  rw [countL_length, Bool.and_eq_true, List.all_eq_true]
  refine ⟨rfl, fun x hx => ?_⟩
  unfold countL at hx
  obtain ⟨i, -, rfl⟩ := List.mem_map.1 hx
  have h1 := cnt_nonneg l i
  have h2 := cnt_le l i
  simp
  omega
theorem chooseN_bound (l : List Int) (h : l.length ≤ 4294967296) : 0 ≤ chooseN (countL l) ∧ chooseN (countL l) ≤ l.length := by
  unfold chooseN
  rw [if_pos (okC_countL l h)]
  cases hb : best (countL l) 17 with
  | none => simp
  | some i => exact pre_le l (i + 1) (by have := best_lt _ _ _ hb; omega)
theorem ceil2_le (n : Int) (h0 : 0 ≤ n) (h1 : n ≤ 65536) : Ws.ceil2 n ≤ 65536 ∧ Ws.ceil2E n = 0 := by
  by_cases e : n = 0
  · subst e; decide
  · obtain ⟨k, hk, -, h2, h3, h4, h5, -⟩ := Ws.ceil2_k n (by omega) (by omega)
    refine ⟨?_, h3⟩
    rw [h2]
    have hk16 : k ≤ 16 := by
      apply Decidable.byContradiction
      intro hn
      have h6 : (2 : Int) ^ 17 ≤ 2 ^ k := by exact_mod_cast Nat.pow_le_pow_right (by decide) (show 17 ≤ k by omega)
      have h7 : (2 : Int) ^ k = 2 * (2 ^ (k - 1)) := by
        have : k = (k - 1) + 1 := by omega
        rw [this, Int.pow_succ]; simp; omega
      have h8 : ((2 : Int) ^ k).tdiv 2 = 2 ^ (k - 1) := by rw [h7, Int.mul_tdiv_cancel_left _ (by decide)]
      omega
    have : (2 : Int) ^ k ≤ 2 ^ 16 := by exact_mod_cast Nat.pow_le_pow_right (by decide) hk16
    omega
theorem ceil2_gt (n : Int) (h0 : 65536 < n) : Ws.ceil2E n ≠ 0 ∨ (Ws.ceil2E n = 0 ∧ 65536 < Ws.ceil2 n) := by
  by_cases e : n ≤ 1073741824
  · obtain ⟨k, hk, -, h2, h3, h4, -⟩ := Ws.ceil2_k n (by omega) e
    exact .inr ⟨h3, by rw [h2]; omega⟩
  · exact .inl (Ws.ceil2E_bad n (by omega))
theorem sizes_neg {l : List Int} {o : Int} (h : o < 0) : sizesE l o = 1 ∧ sizesA l o = 0 ∧ sizesH l o = 0 := by
  have e : sizesE l o = 1 := by unfold sizesE; rw [if_pos h]
  refine ⟨e, ?_, ?_⟩
  · unfold sizesA; rw [e]; rfl
  · unfold sizesH; rw [e]; rfl
theorem sizes_dup {l : List Int} {o : Int} (h : ¬ o < 0) (d : dup l = true) : sizesE l o = 2 ∧ sizesA l o = 0 ∧ sizesH l o = 0 := by
  have e : sizesE l o = 2 := by unfold sizesE; rw [if_neg h, if_pos d]
  refine ⟨e, ?_, ?_⟩
  · unfold sizesA; rw [e]; rfl
  · unfold sizesH; rw [e]; rfl
theorem sizes_big {l : List Int} {o : Int} (h : ¬ o < 0) (d : dup l = false) (b : 65536 < o ∨ 65536 < rest l o) : sizesE l o = 14 ∧ sizesA l o = 0 ∧ sizesH l o = 0 := by
  have e : sizesE l o = 14 := by unfold sizesE; rw [if_neg h, if_neg (by rw [d]; decide), if_pos b]
  refine ⟨e, ?_, ?_⟩
  · unfold sizesA; rw [e]; rfl
  · unfold sizesH; rw [e]; rfl
theorem sizes_ok {l : List Int} {o : Int} (h : ¬ o < 0) (d : dup l = false) (b : ¬ (65536 < o ∨ 65536 < rest l o)) : sizesE l o = 0 ∧ sizesA l o = chooseA (countL l) ∧ sizesH l o = Ws.ceil2 (rest l o) := by
  have e : sizesE l o = 0 := by unfold sizesE; rw [if_neg h, if_neg (by rw [d]; decide), if_neg b]
  refine ⟨e, ?_, ?_⟩
  · unfold sizesA; rw [if_pos e]
  · unfold sizesH; rw [if_pos e]
end Cs
theorem words_Ceil2_c (n : Int) (hn : In64 n) (c z : Int) (hc : Ws.ceil2 n = c) (he : Ws.ceil2E n = z) (w : World) : Calls Tryz.prog 88 #[.int .i64 n] w fun e w' => e = .returned (.tuple #[.int .i64 c, .int .i64 z]) ∧ w = w' := by
  rw [← hc, ← he]; exact words_Ceil2 n hn w
theorem row_slice {w : World} {base size n : Nat} {e : TypeId} {v : Value} {xs : List Value} (h : w.ownsRow base e size v n xs) : ∃ A c, v = .slice A n c := by
  rcases h.2 with ⟨rfl, h0⟩ | ⟨g, cap, cur, rfl, r⟩
  · exact ⟨none, 0, by rw [h0]⟩
  · exact ⟨_, _, rfl⟩
theorem IntsIn.more {n₀ n₁ : Nat} {W : World} {sv : Value} {zs : List Int} (hn : n₀ ≤ n₁) : IntsIn n₀ W sv zs → IntsIn n₁ W sv zs
  | .inl e => .inl e
  | .inr ⟨b, off, cap, e, hb, hc⟩ => .inr ⟨b, off, cap, e, Nat.lt_of_lt_of_le hb hn, hc⟩
theorem Choose_c (sv : Value) (zs : List Int) (w : World) (hl : zs.length ≤ 17592186044416) (h : IS w sv zs) (a n z : Int) (ha : Cs.chooseA zs = a) (hn : Cs.chooseN zs = n) (hz : Cs.chooseE zs = z) :
    Calls Tryz.prog 125 #[sv] w fun e w' => e = .returned (.tuple #[.int .i64 a, .int .i64 n, .int .i64 z]) ∧ w = w' := by
  rw [← ha, ← hn, ← hz]; exact census_Choose sv zs w hl h
theorem compact_of_row (w : World) (base : Nat) (v : Value) (zs : List Int) (hl : zs.length * 8 ≤ 140737488351232) (h : w.ownsRow base 3 1 v zs.length (zs.map (Value.int .i64))) (hb : base ≤ w.heap.size) :
    Calls Tryz.prog 123 #[v] w fun e w' => ∃ A c, e = .returned (.slice A (Lib.compact zs).length c) ∧ Below base w w' := by
  rcases h.2 with ⟨rfl, hz⟩ | ⟨g, cap, cur, rfl, hbase, hgb, r1, r2, r3, r4⟩
  · have hz0 : zs = [] := List.eq_nil_of_length_eq_zero hz
    subst hz0
    exact (Tryz.slices_Compact_int_empty none 0 w).mono fun e w' ⟨h1, h2⟩ => ⟨none, 0, h1, h2 ▸ Below.refl _ _⟩
  · have hH : Holds encZ w g 0 zs.toArray := holds_of_block_i hgb (by simpa using r4)
    refine (Tryz.slices_Compact_int g 0 cap zs w hH (by omega) r1).mono fun e w' ⟨h1, q, h2⟩ => ⟨_, _, h1, ?_⟩
    have hg : w.grownBy w' (some g) := by
      rw [h2]
      have := grownBy_sorted_i (w := w) (g := g) (n := q) (os := #[]) (Lib.compact zs ++ List.replicate (zs.length - (Lib.compact zs).length) 0).toArray
      rw [grow_empty] at this
      exact this
    exact (Below.refl base w).grown hg hb (fun j hj => by cases hj; exact hbase)
theorem clone_of_row (w : World) (base : Nat) (v : Value) (zs : List Int) (hl : zs.length * 8 ≤ 140737488351232) (h : w.ownsRow base 3 1 v zs.length (zs.map (Value.int .i64))) :
    Calls Tryz.prog 124 #[v] w fun e w' => ∃ v', e = .returned v' ∧ w'.ownsRow w.heap.size 3 1 v' zs.length (zs.map (Value.int .i64)) ∧ Below w.heap.size w w' := by
  rcases h.2 with ⟨rfl, hz⟩ | ⟨g, cap, cur, rfl, hbase, hgb, r1, r2, r3, r4⟩
  · have hz0 : zs = [] := List.eq_nil_of_length_eq_zero hz
    subst hz0
    exact (Tryz.slices_Clone_int_nil 0 0 w).mono fun e w' ⟨h1, h2⟩ => ⟨_, h1, World.ownsRow_nil _ _ _ _, by rw [h2]; exact Below.refl _ _⟩
  · refine (Tryz.slices_Clone_int g 0 zs.length cap zs w (Nat.le_refl _) (by omega) (fun j hj => ?_)).mono (by rintro e w' ⟨v', h1, h2, -, h3⟩; rw [List.take_length] at h2; exact ⟨v', h1, h2, h3⟩)
    rw [Nat.zero_add, h.cellAt j (by omega)]
    simp [hj]
set_option maxRecDepth 100000 in
set_option maxHeartbeats 1600000 in
theorem census_Sizes_dup (A : Option Addr) (c : Nat) (zs : List Int) (o : Int) (w : World) (hl : zs.length ≤ 4294967296) (hz : ∀ x ∈ zs, In64 x) (hon : ¬ o < 0) (hoi : In64 o) (h : IS w (.slice A zs.length c) zs) (hd : Cs.dup zs = true) :
    Calls Tryz.prog 113 #[.slice A zs.length c, .int .i64 o] w fun e w' => e = .returned (.tuple #[.int .i64 0, .int .i64 0, .int .i64 2]) ∧ Below w.heap.size w w' := by
  have d0 : decide (o < 0) = false := by simpa using hon
  have HI : Hid (IntsIn w.heap.size w (.slice A zs.length c) zs) := Lib.hid (by
    obtain ⟨A', b, o', c', e, hc, hn, hf⟩ := h.form
    cases e
    by_cases h0 : 0 < zs.length
    · obtain ⟨rfl, hb, hcell⟩ := hf h0
      exact .inr ⟨b, o', c, rfl, hb, fun j hj => by rw [hcell j hj, List.getD_eq_getElem?_getD]⟩
    · have : zs = [] := List.eq_nil_of_length_eq_zero (by omega)
      subst this
      exact .inl ⟨A, c, rfl, rfl⟩)
  have HS := Lib.hid h
  have HZ := Lib.hid hz
  have hl8 : zs.length * 8 ≤ 140737488351232 := by omega
  have hl63 : (zs.length : Int) ≤ 9223372036854775807 := by omega
  obtain ⟨m, hm⟩ : ∃ m, (Lib.compact (srt zs)).length = m := ⟨_, rfl⟩
  have HM := Lib.hid hm
  have hmle : m ≤ zs.length := by rw [← hm, ← srt_length zs]; exact compact_le _
  have hq : ((m : Int) != (zs.length : Int)) = Cs.dup zs := by
    have := compact_iff zs
    rw [hm] at this
    unfold Cs.dup
    by_cases hn : zs.Nodup
    · simp [hn, this.2 hn]
    · have h2 : ¬ (m = zs.length) := fun h => hn (this.1 h)
      simp [hn]; omega
  clear h hz hm
  rw [hd] at hq
  clear hd
  go_enter Tryz.func113, Tryz.ntmps113
  go_wp2_with (first
    | (go_at_call 122; (with_reducible refine (slices_Values A zs.length c _).mono ?_); rintro e w1 ⟨rfl, rfl⟩)
    | (go_at_call 121; (refine (slices_Sorted w.heap.size (.slice A zs.length c) zs hl8 _ (by simp) (by simp [go_sem]) ((HI.out.below ((Below.refl _ w).alloc (Nat.le_refl _) _)).more (by simp))).mono ?_); rintro e w2 ⟨v, rfl, ho2, -, hb2⟩; obtain ⟨A2, c2, rfl⟩ := row_slice ho2; have hB2 : Below w.heap.size w w2 := below_step ((Below.refl _ w).alloc (Nat.le_refl _) _) hb2; have HO2 := Lib.hid ho2; clear ho2 hb2)
    | (go_at_call 124; (refine (clone_of_row _ _ _ (srt zs) (by rw [srt_length]; exact hl8) (by rw [srt_length]; exact HO2.out)).mono ?_); rintro e w3 ⟨v3, rfl, ho3, hb3⟩; have hB3 : Below w.heap.size w w3 := below_step hB2 hb3; have HO3 := Lib.hid ho3; have hs3 := hb3.size; clear ho3 hb3)
    | (go_at_call 123; (refine (compact_of_row _ w2.heap.size _ (srt zs) (by rw [srt_length]; exact hl8) HO3.out hs3).mono ?_); rintro e w4 ⟨A4, c4, rfl, hb4⟩; rw [HM.out]; have hB4 : Below w.heap.size w w4 := hB3.trans (hb4.mono hB2.size); clear hb4))
  exact bodyPost_ret (v := .tuple #[.int .i64 0, .int .i64 0, .int .i64 2]) (by simp [results, Tryz.results113, go_sem, *]) rfl ⟨rfl, hB4⟩
set_option maxRecDepth 100000 in
set_option maxHeartbeats 1600000 in
theorem census_Sizes_one (A : Option Addr) (c : Nat) (zs : List Int) (o : Int) (w : World) (hl : zs.length ≤ 4294967296) (hz : ∀ x ∈ zs, In64 x) (hon : ¬ o < 0) (hoi : In64 o) (h : IS w (.slice A zs.length c) zs) (hd : Cs.dup zs = false) (r s z : Int) (hr : (Cs.sizesA zs o, Cs.sizesH zs o, Cs.sizesE zs o) = (r, s, z)) :
    Calls Tryz.prog 113 #[.slice A zs.length c, .int .i64 o] w fun e w' => e = .returned (.tuple #[.int .i64 r, .int .i64 s, .int .i64 z]) ∧ Below w.heap.size w w' := by
  have d0 : decide (o < 0) = false := by simpa using hon
  have HI : Hid (IntsIn w.heap.size w (.slice A zs.length c) zs) := Lib.hid (by
    obtain ⟨A', b, o', c', e, hc, hn, hf⟩ := h.form
    cases e
    by_cases h0 : 0 < zs.length
    · obtain ⟨rfl, hb, hcell⟩ := hf h0
      exact .inr ⟨b, o', c, rfl, hb, fun j hj => by rw [hcell j hj, List.getD_eq_getElem?_getD]⟩
    · have : zs = [] := List.eq_nil_of_length_eq_zero (by omega)
      subst this
      exact .inl ⟨A, c, rfl, rfl⟩)
  have HS := Lib.hid h
  have HZ := Lib.hid hz
  have hl8 : zs.length * 8 ≤ 140737488351232 := by omega
  have hl63 : (zs.length : Int) ≤ 9223372036854775807 := by omega
  obtain ⟨m, hm⟩ : ∃ m, (Lib.compact (srt zs)).length = m := ⟨_, rfl⟩
  have HM := Lib.hid hm
  have hmle : m ≤ zs.length := by rw [← hm, ← srt_length zs]; exact compact_le _
  have hq : ((m : Int) != (zs.length : Int)) = Cs.dup zs := by
    have := compact_iff zs
    rw [hm] at this
    unfold Cs.dup
    by_cases hn : zs.Nodup
    · simp [hn, this.2 hn]
    · have h2 : ¬ (m = zs.length) := fun h => hn (this.1 h)
      simp [hn]; omega
  clear h hz hm
  rw [hd] at hq
  have hoi' := hoi
  unfold In64 at hoi'
  have hcn := Cs.chooseN_bound zs hl
  obtain ⟨a, ha⟩ : ∃ a, Cs.chooseA (Cs.countL zs) = a := ⟨_, rfl⟩
  obtain ⟨n, hn⟩ : ∃ a, Cs.chooseN (Cs.countL zs) = a := ⟨_, rfl⟩
  have hE : Cs.chooseE (Cs.countL zs) = 0 := by unfold Cs.chooseE; rw [if_pos (Cs.okC_countL zs hl)]
  have hrest : Cs.rest zs o = zs.length - n + o := by unfold Cs.rest; rw [hn]
  rw [hn] at hcn
  have HAa := Lib.hid ha; have HNn := Lib.hid hn; have HEe := Lib.hid hE
  have SB := Lib.hid (fun b => Cs.sizes_big hon hd b); have SO := Lib.hid (fun b => Cs.sizes_ok hon hd b)
  rw [ha, hrest] at SO; rw [hrest] at SB
  have HR := Lib.hid hr
  clear hd ha hn hE hr hrest
  by_cases hbig : 65536 < o
  · have db : decide (65536 < o) = true := by simpa using hbig
    obtain ⟨e1, e2, e3⟩ := SB.out (.inl hbig)
    rw [e1, e2, e3] at HR
    obtain ⟨rfl, rfl, rfl⟩ : 0 = r ∧ 0 = s ∧ 14 = z := by simpa using HR.out
    clear HR SB SO e1 e2 e3
    go_enter Tryz.func113, Tryz.ntmps113
    go_wp2_with (first
    | (go_at_call 122; (with_reducible refine (slices_Values A zs.length c _).mono ?_); rintro e w1 ⟨rfl, rfl⟩)
    | (go_at_call 121; (refine (slices_Sorted w.heap.size (.slice A zs.length c) zs hl8 _ (by simp) (by simp [go_sem]) ((HI.out.below ((Below.refl _ w).alloc (Nat.le_refl _) _)).more (by simp))).mono ?_); rintro e w2 ⟨v, rfl, ho2, -, hb2⟩; obtain ⟨A2, c2, rfl⟩ := row_slice ho2; have hB2 : Below w.heap.size w w2 := below_step ((Below.refl _ w).alloc (Nat.le_refl _) _) hb2; have HO2 := Lib.hid ho2; clear ho2 hb2)
    | (go_at_call 124; (refine (clone_of_row _ _ _ (srt zs) (by rw [srt_length]; exact hl8) (by rw [srt_length]; exact HO2.out)).mono ?_); rintro e w3 ⟨v3, rfl, ho3, hb3⟩; have hB3 : Below w.heap.size w w3 := below_step hB2 hb3; have HO3 := Lib.hid ho3; have hs3 := hb3.size; clear ho3 hb3)
    | (go_at_call 123; (refine (compact_of_row _ w2.heap.size _ (srt zs) (by rw [srt_length]; exact hl8) HO3.out hs3).mono ?_); rintro e w4 ⟨A4, c4, rfl, hb4⟩; rw [HM.out]; have hB4 : Below w.heap.size w w4 := hB3.trans (hb4.mono hB2.size); clear hb4)
    | (go_at_call 126; (refine (census_Count (.slice A zs.length c) zs _ (by omega) HZ.out (HS.out.below hB4)).mono ?_); rintro e w5 ⟨v5, rfl, ho5, hb5⟩; have hB5 : Below w.heap.size w w5 := below_step hB4 hb5; have HO5 := Lib.hid ho5; clear ho5 hb5)
    | (go_at_call 125; (refine (Choose_c v5 (Cs.countL zs) _ (by rw [Cs.countL_length]; omega) (IS.of_row (by rw [Cs.countL_length]; exact HO5.out)) a n 0 HAa.out HNn.out HEe.out).mono ?_); rintro e w6 ⟨rfl, rfl⟩))
    exact bodyPost_ret (v := .tuple #[.int .i64 0, .int .i64 0, .int .i64 14]) (by simp [results, Tryz.results113, go_sem, *]) rfl ⟨rfl, hB5⟩
  · have db : decide (65536 < o) = false := by simpa using hbig
    have w1 : wrap64 (o + zs.length) = o + zs.length := by unfold wrap64; omega
    have w2 : wrap64 (o + zs.length - n) = o + zs.length - n := by unfold wrap64; omega
    have e9 : (zs.length : Int) - n + o = o + zs.length - n := by omega
    rw [e9] at SB SO
    have hti : In64 (o + zs.length - n) := by unfold In64; omega
    have ht0 : 0 ≤ o + zs.length - n := by omega
    obtain ⟨t, ht⟩ : ∃ t, o + zs.length - n = t := ⟨_, rfl⟩
    rw [ht] at SB SO w2 hti ht0
    obtain ⟨x, hx⟩ : ∃ x, Ws.ceil2 t = x := ⟨_, rfl⟩
    obtain ⟨y, hy⟩ : ∃ y, Ws.ceil2E t = y := ⟨_, rfl⟩
    have HX := Lib.hid hx; have HY := Lib.hid hy
    by_cases hb2 : 65536 < t
    · obtain ⟨e1, e2, e3⟩ := SB.out (.inr hb2)
      rw [e1, e2, e3] at HR
      obtain ⟨rfl, rfl, rfl⟩ : 0 = r ∧ 0 = s ∧ 14 = z := by simpa using HR.out
      have hg := Cs.ceil2_gt t hb2
      rw [hx, hy] at hg
      clear HR SB SO e1 e2 e3 hx hy
      rcases hg with hg | ⟨rfl, hg⟩
      · have dy : (y != 0) = true := by simpa using hg
        go_enter Tryz.func113, Tryz.ntmps113
        go_wp2_with (first
    | (go_at_call 122; (with_reducible refine (slices_Values A zs.length c _).mono ?_); rintro e w1 ⟨rfl, rfl⟩)
    | (go_at_call 121; (refine (slices_Sorted w.heap.size (.slice A zs.length c) zs hl8 _ (by simp) (by simp [go_sem]) ((HI.out.below ((Below.refl _ w).alloc (Nat.le_refl _) _)).more (by simp))).mono ?_); rintro e w2 ⟨v, rfl, ho2, -, hb2⟩; obtain ⟨A2, c2, rfl⟩ := row_slice ho2; have hB2 : Below w.heap.size w w2 := below_step ((Below.refl _ w).alloc (Nat.le_refl _) _) hb2; have HO2 := Lib.hid ho2; clear ho2 hb2)
    | (go_at_call 124; (refine (clone_of_row _ _ _ (srt zs) (by rw [srt_length]; exact hl8) (by rw [srt_length]; exact HO2.out)).mono ?_); rintro e w3 ⟨v3, rfl, ho3, hb3⟩; have hB3 : Below w.heap.size w w3 := below_step hB2 hb3; have HO3 := Lib.hid ho3; have hs3 := hb3.size; clear ho3 hb3)
    | (go_at_call 123; (refine (compact_of_row _ w2.heap.size _ (srt zs) (by rw [srt_length]; exact hl8) HO3.out hs3).mono ?_); rintro e w4 ⟨A4, c4, rfl, hb4⟩; rw [HM.out]; have hB4 : Below w.heap.size w w4 := hB3.trans (hb4.mono hB2.size); clear hb4)
    | (go_at_call 126; (refine (census_Count (.slice A zs.length c) zs _ (by omega) HZ.out (HS.out.below hB4)).mono ?_); rintro e w5 ⟨v5, rfl, ho5, hb5⟩; have hB5 : Below w.heap.size w w5 := below_step hB4 hb5; have HO5 := Lib.hid ho5; clear ho5 hb5)
    | (go_at_call 125; (refine (Choose_c v5 (Cs.countL zs) _ (by rw [Cs.countL_length]; omega) (IS.of_row (by rw [Cs.countL_length]; exact HO5.out)) a n 0 HAa.out HNn.out HEe.out).mono ?_); rintro e w6 ⟨rfl, rfl⟩)
    | (go_at_call 88; (with_reducible refine (words_Ceil2_c t hti x _ HX.out HY.out _).mono ?_); rintro e w7 ⟨rfl, rfl⟩))
        exact bodyPost_ret (v := .tuple #[.int .i64 0, .int .i64 0, .int .i64 14]) (by simp [results, Tryz.results113, go_sem, *]) rfl ⟨rfl, hB5⟩
      · have dy : decide (65536 < x) = true := by simpa using hg
        go_enter Tryz.func113, Tryz.ntmps113
        go_wp2_with (first
    | (go_at_call 122; (with_reducible refine (slices_Values A zs.length c _).mono ?_); rintro e w1 ⟨rfl, rfl⟩)
    | (go_at_call 121; (refine (slices_Sorted w.heap.size (.slice A zs.length c) zs hl8 _ (by simp) (by simp [go_sem]) ((HI.out.below ((Below.refl _ w).alloc (Nat.le_refl _) _)).more (by simp))).mono ?_); rintro e w2 ⟨v, rfl, ho2, -, hb2⟩; obtain ⟨A2, c2, rfl⟩ := row_slice ho2; have hB2 : Below w.heap.size w w2 := below_step ((Below.refl _ w).alloc (Nat.le_refl _) _) hb2; have HO2 := Lib.hid ho2; clear ho2 hb2)
    | (go_at_call 124; (refine (clone_of_row _ _ _ (srt zs) (by rw [srt_length]; exact hl8) (by rw [srt_length]; exact HO2.out)).mono ?_); rintro e w3 ⟨v3, rfl, ho3, hb3⟩; have hB3 : Below w.heap.size w w3 := below_step hB2 hb3; have HO3 := Lib.hid ho3; have hs3 := hb3.size; clear ho3 hb3)
    | (go_at_call 123; (refine (compact_of_row _ w2.heap.size _ (srt zs) (by rw [srt_length]; exact hl8) HO3.out hs3).mono ?_); rintro e w4 ⟨A4, c4, rfl, hb4⟩; rw [HM.out]; have hB4 : Below w.heap.size w w4 := hB3.trans (hb4.mono hB2.size); clear hb4)
    | (go_at_call 126; (refine (census_Count (.slice A zs.length c) zs _ (by omega) HZ.out (HS.out.below hB4)).mono ?_); rintro e w5 ⟨v5, rfl, ho5, hb5⟩; have hB5 : Below w.heap.size w w5 := below_step hB4 hb5; have HO5 := Lib.hid ho5; clear ho5 hb5)
    | (go_at_call 125; (refine (Choose_c v5 (Cs.countL zs) _ (by rw [Cs.countL_length]; omega) (IS.of_row (by rw [Cs.countL_length]; exact HO5.out)) a n 0 HAa.out HNn.out HEe.out).mono ?_); rintro e w6 ⟨rfl, rfl⟩)
    | (go_at_call 88; (with_reducible refine (words_Ceil2_c t hti x _ HX.out HY.out _).mono ?_); rintro e w7 ⟨rfl, rfl⟩))
        exact bodyPost_ret (v := .tuple #[.int .i64 0, .int .i64 0, .int .i64 14]) (by simp [results, Tryz.results113, go_sem, *]) rfl ⟨rfl, hB5⟩
    · obtain ⟨e1, e2, e3⟩ := SO.out (by omega)
      rw [e1, e2, e3, hx] at HR
      obtain ⟨rfl, rfl, rfl⟩ : a = r ∧ x = s ∧ 0 = z := by simpa using HR.out
      have hg := Cs.ceil2_le t ht0 (by omega)
      rw [hx, hy] at hg
      obtain ⟨hg, rfl⟩ := hg
      clear HR SB SO e1 e2 e3 hx hy
      have dy : decide (65536 < x) = false := by simp; omega
      go_enter Tryz.func113, Tryz.ntmps113
      go_wp2_with (first
    | (go_at_call 122; (with_reducible refine (slices_Values A zs.length c _).mono ?_); rintro e w1 ⟨rfl, rfl⟩)
    | (go_at_call 121; (refine (slices_Sorted w.heap.size (.slice A zs.length c) zs hl8 _ (by simp) (by simp [go_sem]) ((HI.out.below ((Below.refl _ w).alloc (Nat.le_refl _) _)).more (by simp))).mono ?_); rintro e w2 ⟨v, rfl, ho2, -, hb2⟩; obtain ⟨A2, c2, rfl⟩ := row_slice ho2; have hB2 : Below w.heap.size w w2 := below_step ((Below.refl _ w).alloc (Nat.le_refl _) _) hb2; have HO2 := Lib.hid ho2; clear ho2 hb2)
    | (go_at_call 124; (refine (clone_of_row _ _ _ (srt zs) (by rw [srt_length]; exact hl8) (by rw [srt_length]; exact HO2.out)).mono ?_); rintro e w3 ⟨v3, rfl, ho3, hb3⟩; have hB3 : Below w.heap.size w w3 := below_step hB2 hb3; have HO3 := Lib.hid ho3; have hs3 := hb3.size; clear ho3 hb3)
    | (go_at_call 123; (refine (compact_of_row _ w2.heap.size _ (srt zs) (by rw [srt_length]; exact hl8) HO3.out hs3).mono ?_); rintro e w4 ⟨A4, c4, rfl, hb4⟩; rw [HM.out]; have hB4 : Below w.heap.size w w4 := hB3.trans (hb4.mono hB2.size); clear hb4)
    | (go_at_call 126; (refine (census_Count (.slice A zs.length c) zs _ (by omega) HZ.out (HS.out.below hB4)).mono ?_); rintro e w5 ⟨v5, rfl, ho5, hb5⟩; have hB5 : Below w.heap.size w w5 := below_step hB4 hb5; have HO5 := Lib.hid ho5; clear ho5 hb5)
    | (go_at_call 125; (refine (Choose_c v5 (Cs.countL zs) _ (by rw [Cs.countL_length]; omega) (IS.of_row (by rw [Cs.countL_length]; exact HO5.out)) a n 0 HAa.out HNn.out HEe.out).mono ?_); rintro e w6 ⟨rfl, rfl⟩)
    | (go_at_call 88; (with_reducible refine (words_Ceil2_c t hti x _ HX.out HY.out _).mono ?_); rintro e w7 ⟨rfl, rfl⟩))
      exact bodyPost_ret (v := .tuple #[.int .i64 a, .int .i64 x, .int .i64 0]) (by simp [results, Tryz.results113, go_sem, *]) rfl ⟨rfl, hB5⟩
/-- Sizes of any list of at most 2^32 numbers. -/
theorem census_Sizes (sv : Value) (zs : List Int) (o : Int) (w : World) (hl : zs.length ≤ 4294967296) (hz : ∀ x ∈ zs, In64 x) (hoi : In64 o) (h : IS w sv zs) :
    Calls Tryz.prog 113 #[sv, .int .i64 o] w fun e w' => e = .returned (.tuple #[.int .i64 (Cs.sizesA zs o), .int .i64 (Cs.sizesH zs o), .int .i64 (Cs.sizesE zs o)]) ∧ Below w.heap.size w w' := by
  have h' := h
  obtain ⟨A, c, rfl, -⟩ := h
  by_cases hon : o < 0
  · obtain ⟨e1, e2, e3⟩ := Cs.sizes_neg (l := zs) hon
    rw [e1, e2, e3]
    have d0 : decide (o < 0) = true := by simpa using hon
    go_enter Tryz.func113, Tryz.ntmps113
    go_wp2
    exact bodyPost_ret (v := .tuple #[.int .i64 0, .int .i64 0, .int .i64 1]) (by simp [results, Tryz.results113, go_sem, *]) rfl ⟨rfl, Below.refl _ _⟩
  · cases hd : Cs.dup zs with
    | true =>
      obtain ⟨e1, e2, e3⟩ := Cs.sizes_dup (l := zs) hon hd
      rw [e1, e2, e3]
      exact census_Sizes_dup A c zs o w hl hz hon hoi h' hd
    | false => exact census_Sizes_one A c zs o w hl hz hon hoi h' hd _ _ _ rfl
end Go.Proofs.YteheolefemlcgaaGreat
/- The reference's answers for layer 5: Slice, Count, Choose. -/
namespace Go.Proofs.YteheolefemlcgaaGreat
open Go.RowKit
set_option linter.unusedVariables false
set_option linter.unusedSimpArgs false

set_option maxRecDepth 100000 in
theorem ref_Slice (n : Int) (hn : In64 n) (w : World) : Calls Tryz.prog 140 #[.int .i64 n] w fun e w' => e = .returned (.int .i64 (Ws.log2 n)) ∧ w = w' := by
  unfold In64 at hn
  by_cases h : n < 1
  · go_enter Tryz.func140, Tryz.ntmps140
    go_wp2
    go_ret
    exact ⟨ret_int (by unfold Ws.log2; rw [if_pos h]), rfl⟩
  · go_enter Tryz.func140, Tryz.ntmps140
    go_wp2
    go_loop [3, 4] (fun v p => ∃ k : Nat, k ≤ 62 ∧ v = .int .i64 k ∧ p = .int .i64 (2 ^ k) ∧ Hid (∀ j, j < k → (2 : Int) ^ j < n)) (fun v p => 62 - (intOf v).toNat)
    case atStart => exact ⟨0, by omega, rfl, rfl, fun j hj => by omega⟩
    case round =>
      obtain ⟨k, hk, rfl, rfl, hj⟩ := hrel
      have hp : (2 : Int) ^ (k + 1) = 2 ^ k * 2 := Int.pow_succ ..
      by_cases h7 : (2 : Int) ^ k < n
      · by_cases h6 : k < 62
        · have hw := Ws.pow_wrap (k + 1) (by omega)
          rw [hp] at hw
          have HP := Lib.hid hp
          have d1 : ((k : Int) + 1 == 63) = false := by simp; omega
          have w1 : wrap64 ((k : Int) + 1) = (k : Int) + 1 := by unfold wrap64; omega
          clear hp
          go_wp2
          go_round
          case rel => exact ⟨k + 1, by omega, by simp, by rw [HP.out, hw], fun j hj' => by
            by_cases e : j = k
            · rw [e]; exact h7
            · exact hj j (by omega)⟩
          case measure => simp [intOf]; omega
        · obtain rfl : k = 62 := by omega
          have HR := Lib.hid (Ws.log2_char n (by omega) hn.2 63 (fun j hj' => by
            by_cases e : j = 62
            · rw [e]; exact h7
            · exact hj j (by omega)) (Ws.le_pow63 hn.2))
          clear hp
          go_wp2
          go_ret
          exact ⟨ret_int HR.out.symm, rfl⟩
      · have HR := Lib.hid (Ws.log2_char n (by omega) hn.2 k hj (by omega))
        clear hp
        go_wp2
        go_ret
        exact ⟨ret_int HR.out.symm, rfl⟩
theorem ref_Slice_c (n k : Int) (hn : In64 n) (hk : Ws.log2 n = k) (w : World) : Calls Tryz.prog 140 #[.int .i64 n] w fun e w' => e = .returned (.int .i64 k) ∧ w = w' := by
  rw [← hk]; exact ref_Slice n hn w
set_option maxRecDepth 100000 in
set_option maxHeartbeats 1600000 in
theorem ref_Count_s (A : Option Addr) (b o c : Nat) (zs : List Int) (w : World) (hl : zs.length ≤ 17592186044416) (hz : ∀ x ∈ zs, In64 x)
    (hA : 0 < zs.length → A = some ⟨b, o, none⟩ ∧ b < w.heap.size ∧ ∀ j, j < zs.length → w.cell? ⟨b, o + j, none⟩ = some (.int .i64 (zs.getD j 0))) :
    Calls Tryz.prog 129 #[.slice A zs.length c] w fun e w' => ∃ v, e = .returned v ∧ w'.ownsRow w.heap.size 3 1 v 17 ((Cs.countL zs).map (Value.int .i64)) ∧ Below w.heap.size w w' := by
  obtain ⟨i0, hi, hz0, hz1, hz2⟩ := info_parts Tryz.infoInt
  have HA := Lib.hid hA
  have HZ := Lib.hid hz
  have hl63 : (zs.length : Int) ≤ 9223372036854775807 := by omega
  clear hA hz
  go_enter Tryz.func129, Tryz.ntmps129
  go_wp2_with (first | (refine wpList_make_full _ rfl _ _ 128 rfl w.heap.size 3 i0 (.int .i64 0) 1 Tryz.underlying128 hi hz0 hz1 .i64 .i64 17 17 17 rfl rfl rfl rfl (by omega) (by unfold maxLen; omega) (Nat.le_refl _) ?_; intro w1 hown1 hg1))
  have hB1 : Below w.heap.size w w1 := Below.grown (Below.refl _ _) hg1 (Nat.le_refl _) (fun q hq => by simp at hq)
  have hr1 : w1.ownsRow w.heap.size 3 1 (.slice (some ⟨w.heap.size, 0, none⟩) 17 17) 17 ((Cs.countL (zs.take 0)).map (Value.int .i64)) := by
    rw [List.take_zero, Cs.countL_nil]
    have e : (madeCells (Value.int IntKind.i64 0).cells (17 * 1)).toList = (List.replicate 17 (0 : Int)).map (Value.int .i64) := by kernel_rfl
    rw [e] at hown1; exact hown1
  clear hown1 hg1
  go_loopw [4] (fun i wr => ∃ j : Nat, j ≤ zs.length ∧ i = .int .i64 j ∧ wr.ownsRow w.heap.size 3 1 (.slice (some ⟨w.heap.size, 0, none⟩) 17 17) 17 ((Cs.countL (zs.take j)).map (Value.int .i64)) ∧ Below w.heap.size w wr) (fun i _ => zs.length - (intOf i).toNat)
  case atStart => exact ⟨0, Nat.zero_le _, rfl, hr1, hB1⟩
  case round =>
    clear hr1 hB1
    obtain ⟨j, hj, rfl, hown, hB⟩ := hrel
    by_cases hjl : j < zs.length
    · obtain ⟨rfl, hbl, hcell⟩ := HA.out (by omega)
      have cx := (hB.cell (p := ⟨b, o + j, none⟩) hbl).trans (hcell j hjl)
      clear hcell
      have hx : In64 (zs.getD j 0) := getD_in HZ.out hjl
      have HT := Lib.hid (take_succ_getD zs j hjl)
      generalize zs.getD j 0 = x at cx hx HT
      have dj : decide ((j : Int) < (zs.length : Int)) = true := by simp; omega
      by_cases hin : 1 ≤ x ∧ x ≤ 65536
      · obtain ⟨k, hk63, hk, -, -⟩ := Ws.log2_spec x hin.1 (by omega)
        have hk16 : k ≤ 16 := (Cs.log2_range x hin.1 (by omega) k hk).2 hin.2
        have d1 : decide (1 ≤ x) = true := by simpa using hin.1
        have d2 : decide (x ≤ 65536) = true := by simpa using hin.2
        have HK := Lib.hid hk
        have HI := Lib.hid hin
        clear hk hin
        obtain ⟨y, hy⟩ : ∃ y, (Cs.countL (zs.take j)).getD k 0 = y := ⟨_, rfl⟩
        have hyb : 0 ≤ y ∧ y ≤ zs.length := by
          rw [← hy, Cs.countL_get _ _ (by omega)]
          have h1 := Cs.cnt_nonneg (zs.take j) k
          have h2 := Cs.cnt_le (zs.take j) k
          have h3 : (zs.take j).length ≤ zs.length := by rw [List.length_take]; omega
          omega
        have cy : wr.cell? ⟨w.heap.size, k, none⟩ = some (.int .i64 y) := by
          rw [hown.cellAt k (by omega), List.getElem?_map]
          have : (Cs.countL (zs.take j))[k]? = some y := by
            rw [← hy, List.getD_eq_getElem?_getD, List.getElem?_eq_getElem (by rw [Cs.countL_length]; omega)]; rfl
          rw [this]; rfl
        have fy := hown.frozenAt k
        have HY := Lib.hid hy
        clear hy
        have hw : wrap64 (y + 1) = y + 1 := by unfold wrap64; omega
        have k17 : (k : Int) < 17 := by omega
        go_wp2_with (first | (go_at_call 140; (with_reducible refine (ref_Slice_c x k hx HK.out _).mono ?_); rintro e w' ⟨rfl, rfl⟩))
        obtain ⟨hst, hgr⟩ := hown.stored k (.int .i64 (y + 1))
        have hB2 := hB.grown hgr hB.size (fun q hq => by simp at hq; omega)
        rw [← List.map_set, ← HY.out, ← Cs.countL_in _ x HI.out k HK.out, ← HT.out] at hst
        go_roundw
        case rel => exact ⟨j + 1, by omega, by go_num, by rw [HY.out] at hst; exact hst, hB2⟩
        case measure => simp [intOf]; omega
      · have HI := Lib.hid hin
        have hT2 : Cs.countL (zs.take (j + 1)) = Cs.countL (zs.take j) := by rw [HT.out, Cs.countL_out _ x HI.out]
        have HT2 := Lib.hid hT2
        by_cases h1 : 1 ≤ x
        · have d1 : decide (1 ≤ x) = true := by simpa using h1
          have d2 : decide (x ≤ 65536) = false := by simp; omega
          clear hin hT2
          go_wp2
          go_roundw
          case rel => exact ⟨j + 1, by omega, by go_num, by rw [HT2.out]; exact hown, hB⟩
          case measure => simp [intOf]; omega
        · have d1 : decide (1 ≤ x) = false := by simpa using h1
          clear hin hT2
          go_wp2
          go_roundw
          case rel => exact ⟨j + 1, by omega, by go_num, by rw [HT2.out]; exact hown, hB⟩
          case measure => simp [intOf]; omega
    · obtain rfl : j = zs.length := by omega
      rw [List.take_length] at hown
      go_wp2
      go_ret
      exact ⟨_, rfl, hown, hB⟩
theorem ref_Count (sv : Value) (zs : List Int) (w : World) (hl : zs.length ≤ 17592186044416) (hz : ∀ x ∈ zs, In64 x) (h : IS w sv zs) :
    Calls Tryz.prog 129 #[sv] w fun e w' => ∃ v, e = .returned v ∧ w'.ownsRow w.heap.size 3 1 v 17 ((Cs.countL zs).map (Value.int .i64)) ∧ Below w.heap.size w w' := by
  obtain ⟨A, b, o, c, rfl, hc, hn, hf⟩ := h.form
  exact ref_Count_s A b o c zs w hl hz hf
end Go.Proofs.YteheolefemlcgaaGreat
/- The reference's answers for layer 5: Choose; SameInts; few; within. -/
namespace Go.Proofs.YteheolefemlcgaaGreat
open Go.RowKit
set_option linter.unusedVariables false
set_option linter.unusedSimpArgs false

namespace Cs
theorem best_skip {c : List Int} {k : Nat} (h : fit c k = false) : best c (k + 1) = best c k := by
  show (if fit c k = true then some k else best c k) = best c k
  rw [if_neg (by rw [h]; decide)]
theorem best_take {c : List Int} {k : Nat} (h : fit c k = true) : best c (k + 1) = some k := by
  show (if fit c k = true then some k else best c k) = some k
  rw [if_pos h]
theorem bestA_of {c : List Int} {k : Nat} (h : best c 17 = best c (k + 1)) (f : fit c k = true) : bestA c 17 = 2 ^ k ∧ bestN c 17 = pre c (k + 1) := by
  unfold bestA bestN
  rw [h, best_take f]; exact ⟨rfl, rfl⟩
theorem bestA_none {c : List Int} (h : best c 17 = best c 0) : bestA c 17 = 0 ∧ bestN c 17 = 0 := by
  unfold bestA bestN
  rw [h]; exact ⟨rfl, rfl⟩
theorem okC_bad {c : List Int} {x : Int} (hx : x ∈ c) (h : ¬ (0 ≤ x ∧ x ≤ 4294967296)) : okC c = false := by
  cases e : okC c with
  | false => rfl
  | true => exact absurd (okC_in e x hx) h
end Cs
def inC (n : Int) : Prop := 0 ≤ n ∧ n ≤ 4294967296
theorem getD_mem (l : List Int) {j : Nat} (hj : j < l.length) : l.getD j 0 ∈ l := by
  rw [List.getD_eq_getElem?_getD, List.getElem?_eq_getElem hj]; exact List.getElem_mem hj
set_option maxRecDepth 100000 in
set_option maxHeartbeats 3200000 in
theorem ref_Choose_17 (A : Option Addr) (b o c : Nat) (zs : List Int) (w : World) (hz : ∀ x ∈ zs, In64 x) (h17 : zs.length = 17) (p q r : Int) (hr : (Cs.chooseA zs, Cs.chooseN zs, Cs.chooseE zs) = (p, q, r))
    (hA : 0 < zs.length → A = some ⟨b, o, none⟩ ∧ b < w.heap.size ∧ ∀ j, j < zs.length → w.cell? ⟨b, o + j, none⟩ = some (.int .i64 (zs.getD j 0))) :
    Calls Tryz.prog 128 #[.slice A zs.length c] w fun e w' => e = .returned (.tuple #[.int .i64 p, .int .i64 q, .int .i64 r]) ∧ w = w' := by
  have HA := Lib.hid hA
  have HZ := Lib.hid hz
  have HR := Lib.hid hr
  have hne : ((zs.length : Int) != 17) = false := by rw [h17]; rfl
  have H17 := Lib.hid h17
  have hl63 : (zs.length : Int) ≤ 9223372036854775807 := by omega
  clear hA hz hr h17
  go_enter Tryz.func128, Tryz.ntmps128
  go_wp2
  go_loopw [5, 6] (fun s i wr => ∃ j : Nat, j ≤ 17 ∧ i = .int .i64 j ∧ s = .int .i64 (Cs.pre zs j) ∧ Hid (∀ k, k < j → inC (zs.getD k 0)) ∧ w = wr) (fun _ i _ => 17 - (intOf i).toNat)
  case atStart => exact ⟨0, by omega, rfl, rfl, fun k hk => by omega, rfl⟩
  case round =>
    obtain ⟨j, hj, rfl, rfl, HK, rfl⟩ := hrel
    have h17 := H17.out
    by_cases hjl : j < 17
    · obtain ⟨rfl, hbl, hcell⟩ := HA.out (by omega)
      have cx := hcell j (by omega)
      clear hcell
      have hx : In64 (zs.getD j 0) := getD_in HZ.out (by omega)
      have HM := Lib.hid (getD_mem zs (j := j) (by omega))
      have HS : Hid (Cs.pre zs (j + 1) = Cs.pre zs j + zs.getD j 0) := Lib.hid rfl
      obtain ⟨x, hxx⟩ : ∃ x, zs.getD j 0 = x := ⟨_, rfl⟩
      have HX := Lib.hid hxx
      rw [hxx] at cx hx HM HS
      have hp : 0 ≤ Cs.pre zs j ∧ Cs.pre zs j ≤ j * 4294967296 := by
        have hP : ∀ k, k ≤ j → 0 ≤ Cs.pre zs k ∧ Cs.pre zs k ≤ k * 4294967296 := by
          intro k
          induction k with
          | zero => intro _; simp [Cs.pre]
          | succ k ih =>
            intro hk
            have h1 := ih (by omega)
            have h2 := HK.out k (by omega)
            unfold inC at h2
            unfold Cs.pre
            push_cast
            omega
        exact hP j (Nat.le_refl _)
      generalize Cs.pre zs j = s at hp HS ⊢
      have hjz : j < zs.length := by omega
      have dj : decide ((j : Int) < 17) = true := by simp; omega
      clear h17 hxx
      by_cases h1 : x < 0
      · have d1 : decide (x < 0) = true := by simpa using h1
        have he := Cs.choose_bad (Cs.okC_bad HM.out (fun h => by omega))
        rw [he.1, he.2.1, he.2.2] at HR
        obtain ⟨rfl, rfl, rfl⟩ : 0 = p ∧ 0 = q ∧ 2 = r := by simpa using HR.out
        clear HR he
        go_wp2
        exact bodyPost_ret (v := .tuple #[.int .i64 0, .int .i64 0, .int .i64 2]) (by simp [results, Tryz.results128, go_sem, *]) rfl ⟨rfl, rfl⟩
      · have d1 : decide (x < 0) = false := by simpa using h1
        by_cases h2 : 4294967296 < x
        · have d2 : decide (4294967296 < x) = true := by simpa using h2
          have he := Cs.choose_bad (Cs.okC_bad HM.out (fun h => by omega))
          rw [he.1, he.2.1, he.2.2] at HR
          obtain ⟨rfl, rfl, rfl⟩ : 0 = p ∧ 0 = q ∧ 2 = r := by simpa using HR.out
          clear HR he
          go_wp2
          exact bodyPost_ret (v := .tuple #[.int .i64 0, .int .i64 0, .int .i64 2]) (by simp [results, Tryz.results128, go_sem, *]) rfl ⟨rfl, rfl⟩
        · have d2 : decide (4294967296 < x) = false := by simpa using h2
          have w1 : wrap64 (s + x) = s + x := by unfold wrap64; omega
          go_wp2
          go_roundw
          case rel => exact ⟨j + 1, by omega, by go_num, by rw [HS.out], Lib.hid (fun k hk => by
            by_cases e : k = j
            · subst e; rw [HX.out]; unfold inC; omega
            · exact HK.out k (by omega)), (by first | rfl | trivial)⟩
          case measure => simp [intOf]; omega
    · obtain rfl : j = 17 := by omega
      have hok : Cs.okC zs = true := by
        unfold Cs.okC
        rw [h17]
        simp only [decide_true, Bool.true_and, List.all_eq_true]
        intro x hx
        obtain ⟨k, hk, rfl⟩ := List.getElem_of_mem hx
        have := HK.out k (by omega)
        rw [List.getD_eq_getElem?_getD, List.getElem?_eq_getElem hk] at this
        unfold inC at this
        simpa using this
      obtain ⟨e1, e2, e3⟩ := Cs.choose_ok hok
      rw [e1, e2, e3] at HR
      obtain ⟨HR1, HR2, rfl⟩ : Hid (Cs.bestA zs 17 = p) ∧ Hid (Cs.bestN zs 17 = q) ∧ 0 = r := by
        have := HR.out
        simp only [Prod.mk.injEq] at this
        exact ⟨Lib.hid this.1, Lib.hid this.2.1, this.2.2⟩
      have HP := Lib.hid (Cs.pre_bound (Cs.okC_in hok))
      have HIN := Lib.hid (Cs.okC_in hok)
      clear hok e1 e2 e3 HR h17
      go_wp2
      go_loopw [5, 7] (fun s i wr => ∃ j : Nat, j ≤ 17 ∧ i = .int .i64 ((j : Int) - 1) ∧ s = .int .i64 (Cs.pre zs j) ∧ Hid (Cs.best zs 17 = Cs.best zs j) ∧ w = wr) (fun _ i _ => ((intOf i) + 1).toNat)
      case atStart => exact ⟨17, by omega, rfl, rfl, Lib.hid rfl, rfl⟩
      case round =>
        obtain ⟨j, hj2, rfl, rfl, HBB, rfl⟩ := hrel
        have h17 := H17.out
        cases j with
        | zero =>
          obtain ⟨f1, f2⟩ := Cs.bestA_none HBB.out
          obtain rfl : 0 = p := f1.symm.trans HR1.out
          obtain rfl : 0 = q := f2.symm.trans HR2.out
          clear f1 f2 h17 HR1 HR2
          go_wp2
          exact bodyPost_ret (v := .tuple #[.int .i64 0, .int .i64 0, .int .i64 0]) (by simp [results, Tryz.results128, go_sem, *]) rfl ⟨rfl, rfl⟩
        | succ j =>
          have ej : (((j + 1 : Nat) : Int)) - 1 = j := by push_cast; omega
          rw [ej]
          obtain ⟨rfl, hbl, hcell⟩ := HA.out (by omega)
          have cx := hcell j (by omega)
          clear hcell
          have hx : 0 ≤ zs.getD j 0 ∧ zs.getD j 0 ≤ 4294967296 := getD_in HIN.out (by omega)
          have hp := HP.out j (by omega)
          have HS : Hid (Cs.pre zs (j + 1) = Cs.pre zs j + zs.getD j 0) := Lib.hid rfl
          have HF : Hid (Cs.fit zs j = decide ((2 : Int) ^ j < 2 * Cs.pre zs (j + 1))) := Lib.hid rfl
          rw [HS.out] at HF ⊢
          have HN := Lib.hid (fun f => Cs.bestA_of (k := j) HBB.out f)
          rw [HS.out] at HN
          generalize zs.getD j 0 = x at cx hx HS HF HN ⊢
          obtain ⟨s, hs⟩ : ∃ s, Cs.pre zs j = s := ⟨_, rfl⟩
          have HSS := Lib.hid hs
          rw [hs] at hp HF HN ⊢
          have w2 : wrap64 (2 * (s + x)) = 2 * (s + x) := by unfold wrap64; omega
          have w3 := Ws.pow_wrap j (by omega)
          have w4 : wrap64 (s + x - x) = s := by unfold wrap64; omega
          have w5 : wrap64 ((j : Int) - 1) = (j : Int) - 1 := by unfold wrap64; omega
          have dj : decide ((0 : Int) ≤ (j : Int)) = true := by simp
          have hjz : j < zs.length := by omega
          clear h17 hs
          cases hq : Cs.fit zs j with
          | true =>
            have d1 : decide ((2 : Int) ^ j < 2 * (s + x)) = true := by rw [← HF.out]; exact hq
            obtain ⟨f1, f2⟩ := HN.out hq
            rw [f1] at HR1; rw [f2] at HR2
            obtain rfl := HR1.out
            obtain rfl := HR2.out
            clear hq f1 f2 HR1 HR2
            go_wp2
            exact bodyPost_ret (v := .tuple #[.int .i64 (2 ^ j), .int .i64 (s + x), .int .i64 0]) (by simp [results, Tryz.results128, go_sem, *]) rfl ⟨rfl, rfl⟩
          | false =>
            have d1 : decide ((2 : Int) ^ j < 2 * (s + x)) = false := by rw [← HF.out]; exact hq
            have HQ := Lib.hid hq
            clear hq
            go_wp2
            go_roundw
            case rel => exact ⟨j, by omega, (by first | rfl | (rw [w5])), by rw [HSS.out], Lib.hid (HBB.out.trans (Cs.best_skip HQ.out)), (by first | rfl | trivial)⟩
            case measure => simp [intOf] <;> omega
theorem ref_Choose_len (A : Option Addr) (c : Nat) (zs : List Int) (w : World) (hl : zs.length ≤ 17592186044416) (h17 : zs.length ≠ 17) :
    Calls Tryz.prog 128 #[.slice A zs.length c] w fun e w' => e = .returned (.tuple #[.int .i64 0, .int .i64 0, .int .i64 2]) ∧ w = w' := by
  have hne : ((zs.length : Int) != 17) = true := by simp; omega
  go_enter Tryz.func128, Tryz.ntmps128
  go_wp2
  exact bodyPost_ret (v := .tuple #[.int .i64 0, .int .i64 0, .int .i64 2]) (by simp [results, Tryz.results128, go_sem, *]) rfl ⟨rfl, rfl⟩
theorem ref_Choose (sv : Value) (zs : List Int) (w : World) (hl : zs.length ≤ 17592186044416) (hz : ∀ x ∈ zs, In64 x) (h : IS w sv zs) :
    Calls Tryz.prog 128 #[sv] w fun e w' => e = .returned (.tuple #[.int .i64 (Cs.chooseA zs), .int .i64 (Cs.chooseN zs), .int .i64 (Cs.chooseE zs)]) ∧ w = w' := by
  obtain ⟨A, b, o, c, rfl, hc, hn, hf⟩ := h.form
  by_cases h17 : zs.length = 17
  · exact ref_Choose_17 A b o c zs w hz h17 _ _ _ rfl hf
  · obtain ⟨e1, e2, e3⟩ := Cs.choose_bad (Cs.okC_len h17)
    rw [e1, e2, e3]
    exact ref_Choose_len A c zs w hl h17
end Go.Proofs.YteheolefemlcgaaGreat
/- SameInts; few; the fixed answers of layer 5. -/
namespace Go.Proofs.YteheolefemlcgaaGreat
open Go.RowKit
set_option linter.unusedVariables false
set_option linter.unusedSimpArgs false

theorem min2 (ats : Array TypeId) (ty : TypeId) (x y : Int) : Builtin.min_ ats ty #[.int .i64 x, .int .i64 y] = pure (.int .i64 (if y < x then y else x)) := by
  simp only [Builtin.min_, List.foldlM_cons, List.foldlM_nil, Builtin.min2]
  rfl
/-- Two cells that are read. -/
def TC (w0 : World) (p q : Addr) (x y : Int) (wr : World) : Prop := wr.cell? p = some (.int .i64 x) ∧ wr.cell? q = some (.int .i64 y) ∧ Below w0.heap.size w0 wr
theorem TC_drew {w0 : World} {p q : Addr} {x y : Int} {wr : World} (h : TC w0 p q x y wr) : TC w0 p q x y wr.drew := ⟨h.1, h.2.1, h.2.2.drew⟩
theorem Sizes_c (sv : Value) (zs : List Int) (o : Int) (w : World) (hl : zs.length ≤ 4294967296) (hz : ∀ x ∈ zs, In64 x) (hoi : In64 o) (h : IS w sv zs) (a b e : Int) (ha : Cs.sizesA zs o = a) (hb : Cs.sizesH zs o = b) (he : Cs.sizesE zs o = e) :
    Calls Tryz.prog 113 #[sv, .int .i64 o] w fun x w' => x = .returned (.tuple #[.int .i64 a, .int .i64 b, .int .i64 e]) ∧ Below w.heap.size w w' := by
  rw [← ha, ← hb, ← he]; exact census_Sizes sv zs o w hl hz hoi h
/-- A literal slice. -/
theorem IS_lit {w : World} (e : TypeId) (zs : List Int) : IS (w.alloc (.cells (zs.map (Value.int .i64)).toArray e)) (.slice (some ⟨w.heap.size, 0, none⟩) zs.length zs.length) zs := by
  refine ⟨_, _, rfl, Nat.le_refl _, fun h => by simp at h, fun h0 => ⟨_, rfl, fun j hj => ?_⟩⟩
  rw [addr_add]
  simp [go_sem, hj]
theorem fixed_a (w : World) : Calls Tryz.prog 113 #[.slice (some ⟨w.heap.size, 0, none⟩) 4 4, .int .i64 3] (w.alloc (.cells #[.int .i64 1, .int .i64 2, .int .i64 4, .int .i64 100] 3)) fun x w' => x = .returned (.tuple #[.int .i64 4, .int .i64 4, .int .i64 0]) ∧ Below (w.heap.size + 1) (w.alloc (.cells #[.int .i64 1, .int .i64 2, .int .i64 4, .int .i64 100] 3)) w' := by
  have h : IS (w.alloc (.cells #[.int .i64 1, .int .i64 2, .int .i64 4, .int .i64 100] 3)) (.slice (some ⟨w.heap.size, 0, none⟩) 4 4) [1, 2, 4, 100] := IS_lit (w := w) 3 [1, 2, 4, 100]
  have := Sizes_c _ [1, 2, 4, 100] 3 _ (by decide) (by intro x hx; simp at hx; unfold In64; omega) (by unfold In64; omega) h 4 4 0 (by kernel_rfl) (by kernel_rfl) (by kernel_rfl)
  rw [World.size_alloc] at this
  exact this
theorem fixed_b (w : World) : Calls Tryz.prog 113 #[.slice (some ⟨w.heap.size, 0, none⟩) 1 1, .int .i64 0] (w.alloc (.cells #[.int .i64 5] 3)) fun x w' => x = .returned (.tuple #[.int .i64 0, .int .i64 1, .int .i64 0]) ∧ Below (w.heap.size + 1) (w.alloc (.cells #[.int .i64 5] 3)) w' := by
  have h : IS (w.alloc (.cells #[.int .i64 5] 3)) (.slice (some ⟨w.heap.size, 0, none⟩) 1 1) [5] := IS_lit (w := w) 3 [5]
  have := Sizes_c _ [5] 0 _ (by decide) (by intro x hx; simp at hx; unfold In64; omega) (by unfold In64; omega) h 0 1 0 (by kernel_rfl) (by kernel_rfl) (by kernel_rfl)
  rw [World.size_alloc] at this
  exact this
end Go.Proofs.YteheolefemlcgaaGreat
