/- CensusMemory: what is handed in stays, answers are new. -/
import Derived.Test.YtfhigeefclchiaaLaw05f
namespace Go.Proofs.Ytfhigeefclchiaa
open Go.RowKit
set_option linter.unusedVariables false
set_option linter.unusedSimpArgs false

theorem cell_own {w : World} {base : Nat} {e : TypeId} {g cap : Nat} {zs : List Int} {n : Nat} (h : w.ownsRow base e 1 (.slice (some ⟨g, 0, none⟩) n cap) n (zs.map (Value.int .i64))) (j : Nat) (hj : j < n) : w.cell? ⟨g, j, none⟩ = some (.int .i64 (zs.getD j 0)) := by
  have hl : zs.length = n := by have := h.1; simpa using this
  rw [h.cellAt j (by omega), List.getElem?_map, List.getElem?_eq_getElem (by omega), List.getD_eq_getElem?_getD, List.getElem?_eq_getElem (by omega)]
  rfl
theorem ownsRow_more {w : World} {base B size n : Nat} {e : TypeId} {v : Value} {xs : List Value} (h : w.ownsRow B e size v n xs) (hb : base ≤ B) : w.ownsRow base e size v n xs := by
  obtain ⟨h1, h2⟩ := h
  refine ⟨h1, ?_⟩
  rcases h2 with h2 | ⟨g, cap, cur, hv, hg, r⟩
  · exact .inl h2
  · exact .inr ⟨g, cap, cur, hv, Nat.le_trans hb hg, r⟩
theorem own_prefix {w : World} {base g cap N : Nat} {xs : List Int} {y : Int} (h : w.ownsRow base 3 1 (.slice (some ⟨g, 0, none⟩) (N + 1) cap) (N + 1) ((xs ++ [y]).map (Value.int .i64))) (hl : xs.length = N) :
    IS w (.slice (some ⟨g, 0, none⟩) N cap) xs ∧ w.cell? ⟨g, N, none⟩ = some (.int .i64 y) ∧ N + 1 ≤ cap ∧ base ≤ g ∧ g < w.heap.size := by
  have hc : N + 1 ≤ cap := by
    rcases h.2 with ⟨h2, -⟩ | ⟨g', cap', cur, e, -, -, hn, -⟩
    · simp at h2
    · simp at e; omega
  have hlt := h.lt g rfl
  refine ⟨?_, ?_, hc, hlt.1, hlt.2⟩
  · subst hl
    refine ⟨_, _, rfl, by omega, fun h => by simp at h, fun h0 => ⟨_, rfl, fun j hj => ?_⟩⟩
    rw [addr_add, Nat.zero_add, cell_own h j (by omega)]
    simp [List.getD_eq_getElem?_getD, List.getElem?_append_left hj]
  · rw [cell_own h N (by omega)]
    subst hl
    simp [List.getD_eq_getElem?_getD]
/-- The counts that are written over, and those that must stay. -/
def MS (B ga ca B2 : Nat) (b v : Value) (cz : List Int) (w wr : World) : Prop :=
  (∃ L : List Int, wr.ownsRow B 3 1 (.slice (some ⟨ga, 0, none⟩) 17 ca) 17 (L.map (Value.int .i64))) ∧ wr.ownsRow B2 3 1 b 17 (cz.map (Value.int .i64)) ∧ wr.ownsRow B2 3 1 v 17 (cz.map (Value.int .i64)) ∧ Below w.heap.size w wr
theorem MS.step {B ga ca B2 : Nat} {b v : Value} {cz : List Int} {w wr : World} (h : MS B ga ca B2 b v cz w wr) (hg : ga < B2) (hB : w.heap.size ≤ B) (j : Nat) (hj : j < 17) (x : Int) :
    (∃ y, wr.cell? ⟨ga, j, none⟩ = some (.int .i64 y)) ∧ wr.frozen? ⟨ga, j, none⟩ = false ∧ MS B ga ca B2 b v cz w (wr.setCell ⟨ga, j, none⟩ (.int .i64 x)) := by
  obtain ⟨⟨L, hL⟩, h2, h3, h4⟩ := h
  have ne : ∀ {u : Value}, wr.ownsRow B2 3 1 u 17 (cz.map (Value.int .i64)) → u.ownBlock ≠ some ga := fun hu e => by have := hu.lt _ e; omega
  have hlt := hL.lt ga rfl
  refine ⟨⟨_, cell_own hL j hj⟩, hL.frozenAt j, ⟨L.set j x, ?_⟩, ?_, ?_, ?_⟩
  · have := (hL.stored j (.int .i64 x)).1
    rw [← List.map_set] at this
    exact this
  · exact ownsRow_setCell_other h2 (ne h2) _
  · exact ownsRow_setCell_other h3 (ne h3) _
  · exact h4.setCell (by show w.heap.size ≤ ga; omega) _
set_option maxRecDepth 100000 in
set_option maxHeartbeats 3200000 in
theorem walk_CensusMemory (A : Option Addr) (M N c : Nat) (xs cz : List Int) (w : World) (hN : N ≤ 3000) (hxl : xs.length = N) (hi : ∀ x ∈ xs, In64 x) (hX : IS w (.slice A N c) xs) (hcz : Cs.countL xs = cz) (h17 : cz.length = 17)
    (hfew : ∀ W', Calls Try.prog 21 #[.slice A M c] W' fun e w' => e = .returned (.slice A N c) ∧ W' = w') (a b z : Int) (ha : Cs.sizesA xs 1 = a) (hb : Cs.sizesH xs 1 = b) (hz : Cs.sizesE xs 1 = z) (p q : Int) (hp : Cs.chooseA cz = p) (hq : Cs.chooseN cz = q) (he : Cs.chooseE cz = 0) :
    Calls Try.prog 7 #[.slice A M c] w fun e w' => e = .returned (.bool true) ∧ Below w.heap.size w w' := by
  obtain ⟨i0, hi0, hz0, hz1, hz2⟩ := info_parts Try.infoInt
  have HX := Lib.hid hX; have HXL := Lib.hid hxl; have HIN := Lib.hid hi; have HF := Lib.hid hfew; have HA := Lib.hid ha; have HB := Lib.hid hb; have HZ := Lib.hid hz
  have HP := Lib.hid hp; have HQ := Lib.hid hq; have HE := Lib.hid he; have HC := Lib.hid hcz; have H17 := Lib.hid h17
  have i1 : In64 1 := by unfold In64; omega
  have wN : wrap64 ((N : Int) + 1) = N + 1 := by unfold wrap64; omega
  have hN1 : (N : Int) + 1 = ((N + 1 : Nat) : Int) := by push_cast; rfl
  have HN1 := Lib.hid hN1
  clear hX hxl hi hfew ha hb hz hp hq he hcz h17 hN1
  go_enter Try.func7, Try.ntmps7
  go_wp2_with (first
    | (go_at_call 16; (with_reducible refine (law05_fixed _).mono ?_); rintro e w1 ⟨rfl, hb1⟩; have hB1 : Below w.heap.size w w1 := hb1; clear hb1)
    | (go_at_call 21; (with_reducible refine (HF.out _).mono ?_); rintro e w' ⟨rfl, rfl⟩)
    | (refine wpList_make_own _ rfl _ _ 22 rfl w1.heap.size 3 i0 (.int .i64 0) 1 Try.underlying22 hi0 hz0 hz1 .i64 .i64 _ (N + 1) rfl rfl HN1.out (by rw [hz2]; omega) (by unfold maxLen; omega) (Nat.le_refl _) ?_; intro w2 hown2 hg2; have hb12 : Below w1.heap.size w1 w2 := Below.grown (Below.refl _ _) hg2 (Nat.le_refl _) (fun q hq => by simp at hq); have hB2 : Below w.heap.size w w2 := below_step hB1 hb12; have HO2 := Lib.hid hown2; have hs12 := hb12.size; clear hown2 hg2)
    | (at_builtin; refine append_is (by rfl) (Operand.tmp 24) (Operand.tmp 25) rfl w1.heap.size (.slice (some ⟨w1.heap.size, 0, none⟩) 0 (N + 1)) 0 [] xs rfl HO2.out A N c rfl HXL.out (HX.out.below hB2) (by omega) hs12 ?_; intro v3 w3 hown3 hbw3; have HO3 : Hid (w3.ownsRow w1.heap.size 3 1 v3 N (xs.map (Value.int .i64))) := Lib.hid (by simpa using hown3); have hb13 : Below w1.heap.size w1 w3 := hb12.trans hbw3; have hB3 : Below w.heap.size w w3 := below_step hB1 hb13; have hs13 := hb13.size; clear hown3 hbw3)
    | (at_builtin; refine append_is (by rfl) (Operand.tmp 26) (Operand.tmp 27) rfl w1.heap.size v3 N xs [77] rfl (HO3.out.alloc _) (some ⟨w3.heap.size, 0, none⟩) 1 1 rfl rfl (IS_lit 3 [77]) (by omega) (by simp; omega) ?_; intro v4 w4 hown4 hbw4; have hb14 : Below w1.heap.size w1 w4 := (hb13.alloc hs13 _).trans hbw4; have hB4 : Below w.heap.size w w4 := below_step hB1 hb14; obtain ⟨g, cap, rfl, -, -⟩ := hown4.form (by omega); obtain ⟨hI4, c77, hcap, -, hgl⟩ := own_prefix hown4 HXL.out; have HI4 := Lib.hid hI4; have C77 := Lib.hid c77; clear hown4 hbw4 hI4 c77)
    | (go_at_call 20; (with_reducible refine (census_Count (.slice (some ⟨g, 0, none⟩) N cap) xs w4 (by rw [HXL.out]; omega) HIN.out HI4.out).mono ?_); rintro e w5 ⟨v5, rfl, ho5, hb5⟩; rw [HC.out] at ho5; have hB5 : Below w.heap.size w w5 := below_step hB4 hb5; have hb45 := hb5; obtain ⟨ga, ca, rfl, -, hga⟩ := ho5.form (by omega); have HO5 := Lib.hid ho5; clear ho5 hb5)
    | (go_at_call 20; (with_reducible refine (census_Count (.slice (some ⟨g, 0, none⟩) N cap) xs w5 (by rw [HXL.out]; omega) HIN.out (HI4.out.below hb45)).mono ?_); rintro e w6 ⟨v6, rfl, ho6, hb6⟩; rw [HC.out] at ho6; have hB6 : Below w.heap.size w w6 := below_step hB5 hb6; have hb56 := hb6; have hb46 := below_step hb45 hb6; have HO6 := Lib.hid ho6; clear ho6 hb6)
    | (go_at_call 25; (refine (Sizes_c _ xs 1 _ (by rw [HXL.out]; omega) HIN.out i1 (HI4.out.below hb46) a b z HA.out HB.out HZ.out).mono ?_); rintro e w7 ⟨rfl, hb7⟩; have hB7 : Below w.heap.size w w7 := below_step hB6 hb7; have hb47 := below_step hb46 hb7; have hb67 := hb7; clear hb7)
    | (go_at_call 26; (refine (RSizes_c _ xs 1 _ (by rw [HXL.out]; omega) HIN.out i1 (HX.out.below hB7) a b z HA.out HB.out HZ.out).mono ?_); rintro e w8 ⟨rfl, hb8⟩; have hB8 : Below w.heap.size w w8 := below_step hB7 hb8; have hb48 := below_step hb47 hb8; have hb68 := below_step hb67 hb8; have hb58 := below_step hb56 hb68; clear hb8)
    | (go_at_call 23; (refine (Choose_c _ cz _ (by rw [H17.out]; omega) (IS.of_row (by rw [H17.out]; exact ownsRow_below HO5.out hb58)) p q 0 HP.out HQ.out HE.out).mono ?_); rintro e w' ⟨rfl, rfl⟩)
    | (go_at_call 22; (refine (ref_Count (.slice A N c) xs _ (by rw [HXL.out]; omega) HIN.out (HX.out.below hB8)).mono ?_); rintro e w9 ⟨v9, rfl, ho9, hb9⟩; rw [HC.out] at ho9; have hB9 : Below w.heap.size w w9 := below_step hB8 hb9; have hb49 := below_step hb48 hb9; have hb69 := below_step hb68 hb9; have hb59 := below_step hb58 hb9; have HO9 := Lib.hid ho9; have hs58 := hb58.size; have J5 : Hid (IS w9 (.slice (some ⟨ga, 0, none⟩) 17 ca) cz) := Lib.hid (IS.of_row (by rw [H17.out]; exact ownsRow_below HO5.out hb59)); have J9 : Hid (IS w9 v9 cz) := Lib.hid (IS.of_row (by rw [H17.out]; exact HO9.out)); have L17 : Hid (cz.length ≤ 17592186044416) := Lib.hid (by rw [H17.out]; omega); have LX : Hid (xs.length ≤ 17592186044416) := Lib.hid (by rw [HXL.out]; omega); clear ho9 hb9)
    | (go_at_call 19; (with_reducible refine (SameInts (.slice (some ⟨ga, 0, none⟩) 17 ca) v9 cz cz true (by simp) w9 L17.out L17.out J5.out J9.out).mono ?_); rintro e w10 ⟨rfl, hb10⟩; have hB10 : Below w.heap.size w w10 := below_step hB9 hb10; have hb4a := below_step hb49 hb10; have hb6a := below_step hb69 hb10; have hb5a := below_step hb59 hb10; have HO9a := Lib.hid (ownsRow_below HO9.out hb10); have JG : Hid (IS w10 (.slice (some ⟨g, 0, none⟩) N cap) xs) := Lib.hid (HI4.out.below hb4a); have JK : Hid (IS w10 (.slice A N c) xs) := Lib.hid (HX.out.below hB10); clear hb10)
    | (go_at_call 19; (with_reducible refine (SameInts (.slice (some ⟨g, 0, none⟩) N cap) (.slice A N c) xs xs true (by simp) w10 LX.out LX.out JG.out JK.out).mono ?_); rintro e w11 ⟨rfl, hb11⟩; have hB11 : Below w.heap.size w w11 := below_step hB10 hb11; have hb4b := below_step hb4a hb11; have hb6b := below_step hb6a hb11; have hb5b := below_step hb5a hb11; have HO9b := Lib.hid (ownsRow_below HO9a.out hb11); have d77 := (hb4b.cell (p := ⟨g, N, none⟩) hgl).trans C77.out; clear hb11)
    | fail)
  have S0 : MS w4.heap.size ga ca w5.heap.size v6 v9 cz w w11 := ⟨⟨cz, ownsRow_below HO5.out hb5b⟩, ownsRow_below HO6.out hb6b, ownsRow_more HO9b.out hs58, hB11⟩
  go_loopw [16] (fun i wr => ∃ j : Nat, j ≤ 17 ∧ i = .int .i64 j ∧ MS w4.heap.size ga ca w5.heap.size v6 v9 cz w wr) (fun i _ => 17 - (intOf i).toNat)
  case atStart => exact ⟨0, by omega, rfl, S0⟩
  case round =>
    clear S0
    obtain ⟨j, hj, rfl, hS⟩ := hrel
    by_cases hjl : j < 17
    · have dj : decide ((j : Int) < 17) = true := by simp; omega
      have j17 : (j : Int) < 17 := by omega
      have wj : wrap64 (-5 - (j : Int)) = -5 - (j : Int) := by unfold wrap64; omega
      obtain ⟨⟨y, cy⟩, fy, hS2⟩ := hS.step hga hB4.size j hjl (-5 - (j : Int))
      have HS2 := Lib.hid hS2
      clear hS hS2
      go_wp2
      go_roundw
      case rel => exact ⟨j + 1, by omega, by go_num, HS2.out⟩
      case measure => simp [intOf]; omega
    · obtain rfl : j = 17 := by omega
      obtain ⟨-, h6, h9, hB12⟩ := hS
      have H6 := Lib.hid h6; have H9 := Lib.hid h9
      clear h6 h9
      go_wp2_with (first | (go_at_call 19; (refine (SameInts _ _ cz cz true (by simp) _ (by rw [H17.out]; omega) (by rw [H17.out]; omega) (IS.of_row (by rw [H17.out]; exact H6.out)) (IS.of_row (by rw [H17.out]; exact H9.out))).mono ?_); rintro e w13 ⟨rfl, hb13⟩; have hB13 : Below w.heap.size w w13 := below_step hB12 hb13; clear hb13))
      go_ret
      exact ⟨rfl, hB13⟩
theorem rowCensusMemory {v : Value} {W : World} (zs : List Int) (f : ISA W v zs) (w : World) : Calls Try.prog 7 #[v] W fun e w' => e = .returned (.bool true) ∧ Below W.heap.size W w' := by
  obtain ⟨A, M, c, rfl, h1, h2, h3, h4⟩ := few_key f
  exact walk_CensusMemory A M _ c _ _ W h1 rfl h2 h3 rfl (Cs.countL_length _) h4 _ _ _ rfl rfl rfl _ _ rfl rfl (by unfold Cs.chooseE; rw [if_pos (Cs.okC_countL _ (by omega))])
end Go.Proofs.Ytfhigeefclchiaa
