/- The reference's Format gives the decimal text: the printed contract, and the plain law of its two loops. -/
import Derived.Test.YtpppcoobibmlhaaDoorWords5
import Derived.Test.YtpppcoobibmlhaaDoorPWordsTextsx4
namespace Go.Proofs.YtpppcoobibmlhaaDoor
open Go.RowKit Go.Proofs.YtpppcoobibmlhaaDoor.PWordsTexts Go.Proofs.YtpppcoobibmlhaaDoorW.PrintWords Go.Proofs.YtpppcoobibmlhaaDoorW.PrintLast

theorem getD_set (l : List Int) (i j : Nat) (v : Int) (h : i < l.length) : (l.set i v).getD j 0 = if i = j then v else l.getD j 0 := by
  simp only [List.getD_eq_getElem?_getD, List.getElem?_set]
  by_cases e : i = j
  · rw [if_pos e, if_pos e, if_pos h]; rfl
  · rw [if_neg e, if_neg e]
/-- Half turned about. -/
def Turned (L X : List Int) (i : Nat) : Prop := X.length = L.length ∧ ∀ j, j < L.length → X.getD j 0 = if j < i ∨ L.length - i ≤ j then L.getD (L.length - 1 - j) 0 else L.getD j 0
theorem turned_step {L X : List Int} {i : Nat} (h : Turned L X i) (hi : 2 * i + 1 < L.length) : Turned L ((X.set i (X.getD (L.length - 1 - i) 0)).set (L.length - 1 - i) (X.getD i 0)) (i + 1) := by
  obtain ⟨h1, h2⟩ := h
  refine ⟨by simp [h1], fun j hj => ?_⟩
  rw [getD_set _ _ _ _ (by simp; omega), getD_set _ _ _ _ (by omega)]
  by_cases e1 : L.length - 1 - i = j
  · rw [if_pos e1, if_pos (by omega), h2 i (by omega), if_neg (by omega)]
    congr 1; omega
  · rw [if_neg e1]
    by_cases e2 : i = j
    · rw [if_pos e2, if_pos (by omega), h2 _ (by omega), if_neg (by omega)]
      congr 1; omega
    · rw [if_neg e2, h2 j hj]
      by_cases e3 : j < i ∨ L.length - i ≤ j
      · rw [if_pos e3, if_pos (by omega)]
      · rw [if_neg e3, if_neg (by omega)]
theorem turned_end {L X : List Int} {i : Nat} (h : Turned L X i) (hi : L.length ≤ 2 * i + 1) : X = L.reverse := by
  obtain ⟨h1, h2⟩ := h
  apply List.ext_getElem (by simp [h1])
  intro j hj hj'
  have hjL : j < L.length := by omega
  have e := h2 j hjL
  rw [List.getElem_reverse]
  have f1 : X.getD j 0 = X[j] := by simp [hj]
  have f2 : L.getD (L.length - 1 - j) 0 = L[L.length - 1 - j]'(by omega) := by simp [show L.length - 1 - j < L.length by omega]
  rw [← f1, ← f2, e]
  split
  · rfl
  · rw [show L.length - 1 - j = j by omega]
theorem format_turn (L : List Int) (hL : L.length ≤ 1000) (d : Nat) : ∀ (k : Nat) (X : List Int) (i : Nat), Turned L X i → L.length / 2 - i = d → i ≤ L.length / 2 → d < k → trestleref02_Format.l1 k X (i : Int) = some (strOfNums L.reverse) := by
  induction d with
  | zero =>
    intro k X i hT hd hi hk
    obtain ⟨k, rfl⟩ : ∃ m, k = m + 1 := ⟨k - 1, by omega⟩
    have hl := hT.1
    simp only [trestleref02_Format.l1]
    rw [if_neg (by unfold wrap64; omega), turned_end hT (by omega)]
  | succ d ih =>
    intro k X i hT hd hi hk
    obtain ⟨k, rfl⟩ : ∃ m, k = m + 1 := ⟨k - 1, by omega⟩
    have hl := hT.1
    have e1 : wrap64 (wrap64 ((X.length : Int) - 1) - (i : Int)) = ((L.length - 1 - i : Nat) : Int) := by unfold wrap64; omega
    have e2 : wrap64 ((i : Int) + 1) = ((i + 1 : Nat) : Int) := by unfold wrap64; omega
    simp only [trestleref02_Format.l1, e1, e2]
    rw [if_pos (by unfold wrap64; omega), if_pos (by omega), if_pos (by omega), if_pos (by omega), if_pos (by omega)]
    have := ih k _ (i + 1) (turned_step hT (by omega)) (by omega) (by omega) (by omega)
    rw [← this]
    simp [rd]
def revDig (u : Nat) : List Int := if h : u = 0 then [] else (48 + (u % 10 : Nat) : Int) :: revDig (u / 10)
theorem revDig_step (m : Int) (h : m ≠ 0) : revDig m.natAbs = (48 + ((m.natAbs % 10 : Nat) : Int)) :: revDig (m.tdiv 10).natAbs := by
  rw [revDig, dif_neg (by omega), Int.natAbs_tdiv]
  rfl
theorem tmod10 (m : Int) : (m.tmod 10 < 0 ∧ -(m.tmod 10) = ((m.natAbs % 10 : Nat) : Int)) ∨ (0 ≤ m.tmod 10 ∧ m.tmod 10 = ((m.natAbs % 10 : Nat) : Int)) := by
  rcases Int.le_total 0 m with h | h
  · right
    rw [Int.tmod_eq_emod_of_nonneg h]
    omega
  · obtain ⟨k, rfl⟩ : ∃ k, m = -k := ⟨-m, by omega⟩
    rw [Int.neg_tmod, Int.tmod_eq_emod_of_nonneg (by omega)]
    by_cases e : k % 10 = 0
    · right; omega
    · left; omega
theorem digit_pos (t : Nat) (h : t < 10) : wrap64 (48 + (t : Int)) % 256 = 48 + (t : Int) := by unfold wrap64; omega
theorem digit_neg (t : Nat) (h : t < 10) : wrap64 (48 + wrap64 (t : Int)) % 256 = 48 + (t : Int) := by unfold wrap64; omega
theorem format_zero (n : Int) (k : Nat) (X : List Int) (hX : X.length ≤ 100) (hk : 110 < k) :
    trestleref02_Format.l0 k n X 0 = some (strOfNums (X ++ if n < 0 then [45] else []).reverse) := by
  obtain ⟨k, rfl⟩ : ∃ m, k = m + 2 := ⟨k - 2, by omega⟩
  have hT : ∀ L : List Int, Turned L L 0 := fun L => ⟨rfl, fun j hj => by rw [if_neg (by omega)]⟩
  simp only [trestleref02_Format.l0, if_true]
  by_cases hn : n < 0
  · rw [if_pos hn, if_pos hn, if_pos (by omega)]
    simp only [trestleref02_Format.j1]
    exact format_turn _ (by simp; omega) _ k _ 0 (hT _) rfl (by omega) (by simp; omega)
  · rw [if_neg hn, if_neg hn]
    simp only [trestleref02_Format.j1]
    rw [List.append_nil]
    exact format_turn _ (by omega) _ k _ 0 (hT _) rfl (by omega) (by omega)
theorem format_digits (n : Int) (d : Nat) : ∀ (k : Nat) (X : List Int) (m : Int), m.natAbs < 10 ^ d → In64 m → X.length + d ≤ 100 → d + 111 < k →
    trestleref02_Format.l0 k n X m = some (strOfNums (X ++ revDig m.natAbs ++ if n < 0 then [45] else []).reverse) := by
  induction d with
  | zero =>
    intro k X m h1 h2 h3 hk
    obtain rfl : m = 0 := by simp at h1; omega
    rw [format_zero n k X (by omega) (by omega)]
    simp [revDig]
  | succ d ih =>
    intro k X m h1 h2 h3 hk
    by_cases h0 : m = 0
    · subst h0
      rw [format_zero n k X (by omega) (by omega)]
      simp [revDig]
    · obtain ⟨k, rfl⟩ : ∃ m, k = m + 1 := ⟨k - 1, by omega⟩
      have hq : In64 (m.tdiv 10) := Ws.tdiv_abs m 10 h2 (by omega)
      have hlt : (m.tdiv 10).natAbs < 10 ^ d := by
        rw [Int.natAbs_tdiv]
        show m.natAbs / 10 < _
        rw [Nat.div_lt_iff_lt_mul (by decide)]
        rwa [Nat.pow_succ] at h1
      rw [revDig_step m h0]
      simp only [trestleref02_Format.l0]
      rw [if_neg h0, wrap64_id hq]
      have hs : ∀ c : Int, X ++ (48 + ((m.natAbs % 10 : Nat) : Int)) :: revDig (m.tdiv 10).natAbs = (X ++ [48 + ((m.natAbs % 10 : Nat) : Int)]) ++ revDig (m.tdiv 10).natAbs := fun _ => by simp
      rw [hs 0]
      rcases tmod10 m with ⟨h4, h5⟩ | ⟨h4, h5⟩
      · rw [if_pos h4, if_pos (by omega)]
        have e : wrap64 (48 + wrap64 (-(m.tmod 10))) % 256 = 48 + ((m.natAbs % 10 : Nat) : Int) := by rw [h5]; exact digit_neg _ (Nat.mod_lt _ (by decide))
        rw [e]
        exact ih k _ _ hlt hq (by simp; omega) (by omega)
      · rw [if_neg (by omega), if_pos (by omega)]
        have e : wrap64 (48 + m.tmod 10) % 256 = 48 + ((m.natAbs % 10 : Nat) : Int) := by rw [h5]; exact digit_pos _ (Nat.mod_lt _ (by decide))
        rw [e]
        exact ih k _ _ hlt hq (by simp; omega) (by omega)
theorem revDig_dec (u : Nat) (h : u ≠ 0) : ((revDig u).reverse.map fun c => UInt8.ofNat c.toNat) = Lib.decDigits u := by
  induction u using Nat.strongRecOn with
  | _ u ih =>
    rw [revDig, dif_neg h, Lib.decDigits]
    by_cases h1 : u < 10
    · rw [dif_pos h1, show u / 10 = 0 by omega, revDig, dif_pos rfl, show u % 10 = u by omega]
      simp only [List.reverse_cons, List.reverse_nil, List.nil_append, List.map_cons, List.map_nil]
      rw [show (48 + (u : Int)).toNat = 48 + u by omega]
    · rw [dif_neg h1, ← ih (u / 10) (by omega) (by omega)]
      simp only [List.reverse_cons, List.map_append, List.map_cons, List.map_nil]
      rw [show (48 + ((u % 10 : Nat) : Int)).toNat = 48 + u % 10 by omega]
theorem format_itoa (n : Int) (hn : In64 n) : trestleref02_Format.f 200 n = some ⟨(Lib.itoa n).toArray⟩ := by
  unfold trestleref02_Format.f
  by_cases h0 : n = 0
  · subst h0
    rw [if_pos rfl]
    have : Lib.itoa 0 = [48] := by simp [Lib.itoa, Lib.decDigits]
    rw [this]
  · rw [if_neg h0, format_digits n 20 200 [] n (by unfold In64 at hn; omega) hn (by simp) (by omega)]
    congr 1
    unfold strOfNums
    congr 2
    have h := revDig_dec n.natAbs (by omega)
    unfold Lib.itoa
    by_cases hn : n < 0
    · rw [if_pos hn, if_pos hn, ← h]
      simp
    · rw [if_neg hn, if_neg hn, show n.toNat = n.natAbs by omega, ← h]
      simp
theorem ref_Format (n : Int) (hn : In64 n) (w : World) : Calls Tryd.prog 21 #[.int .i64 n] w fun e w' => e = .returned (.string ⟨(Lib.itoa n).toArray⟩) ∧ Below w.heap.size w w' :=
  trestleref02_Format.calls 200 n _ w (format_itoa n hn)
end Go.Proofs.YtpppcoobibmlhaaDoor
