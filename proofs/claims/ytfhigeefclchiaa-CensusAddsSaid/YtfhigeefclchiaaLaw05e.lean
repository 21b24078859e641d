/- CensusAdds: counts of two lists. -/
import Derived.Test.YtfhigeefclchiaaApp
import Derived.Deep.RegionWith
import Derived.Deep.AppendLies
namespace Go.Proofs.Ytfhigeefclchiaa
open Go.RowKit
set_option linter.unusedVariables false
set_option linter.unusedSimpArgs false

namespace Cs
def sumTo (x y : List Int) (j : Nat) : List Int := (List.range 17).map fun i => if i < j then x.getD i 0 + y.getD i 0 else 0
theorem sumTo_zero (x y : List Int) : sumTo x y 0 = List.replicate 17 0 := by
  unfold sumTo
  simp only [Nat.not_lt_zero, if_false]
  rfl
theorem sumTo_length (x y : List Int) (j : Nat) : (sumTo x y j).length = 17 := by simp [sumTo]
theorem sumTo_at (x y : List Int) (j i : Nat) (h : i < 17) : (sumTo x y j).getD i 0 = if i < j then x.getD i 0 + y.getD i 0 else 0 := by
  rw [List.getD_eq_getElem?_getD, List.getElem?_eq_getElem (by rw [sumTo_length]; exact h)]
  simp [sumTo]
theorem sumTo_succ (x y : List Int) (j : Nat) (h : j < 17) : sumTo x y (j + 1) = (sumTo x y j).set j (x.getD j 0 + y.getD j 0) := by
  apply List.ext_getElem
  · simp [sumTo]
  · intro i h1 h2
    rw [List.getElem_set]
    by_cases e : j = i
    · subst e; rw [if_pos rfl]; simp [sumTo]
    · rw [if_neg e]
      simp only [sumTo, List.getElem_map, List.getElem_range]
      by_cases h3 : i < j
      · rw [if_pos h3, if_pos (by omega)]
      · rw [if_neg h3, if_neg (by omega)]
theorem sumTo_all (a b : List Int) : sumTo (countL a) (countL b) 17 = countL (a ++ b) := by
  apply List.ext_getElem
  · simp [sumTo, countL]
  · intro i h1 h2
    have hi : i < 17 := by simpa [sumTo] using h1
    simp only [sumTo, List.getElem_map, List.getElem_range]
    rw [if_pos hi, countL_get a i hi, countL_get b i hi]
    simp [countL, cnt_append]
theorem chosen_pre (c : List Int) (hok : okC c = true) (j : Nat) (hj : j ≤ 17) (h1 : ∀ k, k < j → (2 : Int) ^ k ≤ chooseA c) (h2 : j = 17 ∨ chooseA c < 2 ^ j) : pre c j = chooseN c := by
  unfold chooseA at h1 h2
  unfold chooseN
  rw [if_pos hok] at h1 h2 ⊢
  cases hb : best c 17 with
  | none =>
    rw [hb] at h1
    have : j = 0 := by
      apply Decidable.byContradiction
      intro h
      have := h1 0 (by omega)
      simp at this
    subst this; rfl
  | some i =>
    rw [hb] at h1 h2
    simp only at h1 h2
    have hi := best_lt _ _ _ hb
    have e : j = i + 1 := by
      have a1 : i < j := by
        rcases h2 with h | h
        · omega
        · apply Decidable.byContradiction
          intro hn
          have : (2 : Int) ^ j ≤ 2 ^ i := by exact_mod_cast Nat.pow_le_pow_right (by decide) (show j ≤ i by omega)
          omega
      apply Decidable.byContradiction
      intro hn
      have h3 := h1 (i + 1) (by omega)
      have h4 : (2 : Int) ^ (i + 1) = 2 ^ i * 2 := Int.pow_succ ..
      have h5 : (1 : Int) ≤ 2 ^ i := by exact_mod_cast Nat.one_le_two_pow
      omega
    rw [e]
end Cs
theorem cell_of_own {w : World} {base : Nat} {e : TypeId} {g cap : Nat} {zs : List Int} {n : Nat} (h : w.ownsRow base e 1 (.slice (some ⟨g, 0, none⟩) n cap) n (zs.map (Value.int .i64))) (j : Nat) (hj : j < n) : w.cell? ⟨g, j, none⟩ = some (.int .i64 (zs.getD j 0)) := by
  have hl : zs.length = n := by have := h.1; simpa using this
  rw [h.cellAt j (by omega), List.getElem?_map, List.getElem?_eq_getElem (by omega), List.getD_eq_getElem?_getD, List.getElem?_eq_getElem (by omega)]
  rfl
set_option maxRecDepth 100000 in
set_option maxHeartbeats 3200000 in
theorem walk_CensusAdds (A B : Option Addr) (M K c d N L : Nat) (xs ys : List Int) (w : World) (hN : N ≤ 3000) (hL : L ≤ 3000) (hxl : xs.length = N) (hyl : ys.length = L) (hxi : ∀ x ∈ xs, In64 x) (hyi : ∀ x ∈ ys, In64 x)
    (hx : IS w (.slice A N c) xs) (hy : IS w (.slice B L d) ys)
    (hfa : ∀ W, Calls Try.prog 21 #[.slice A M c] W fun e w' => e = .returned (.slice A N c) ∧ W = w') (hfb : ∀ W, Calls Try.prog 21 #[.slice B K d] W fun e w' => e = .returned (.slice B L d) ∧ W = w') :
    Calls Try.prog 9 #[.slice A M c, .slice B K d] w fun e w' => e = .returned (.bool true) ∧ Below w.heap.size w w' := by
  obtain ⟨i0, hi, hz0, hz1, hz2⟩ := info_parts Try.infoInt
  have HX := Lib.hid hx; have HY := Lib.hid hy; have HXL := Lib.hid hxl; have HYL := Lib.hid hyl; have HXI := Lib.hid hxi; have HYI := Lib.hid hyi; have HFA := Lib.hid hfa; have HFB := Lib.hid hfb
  clear hx hy hxl hyl hxi hyi hfa hfb
  go_enter Try.func9, Try.ntmps9
  go_wp2_with (first
    | (go_at_call 16; (with_reducible refine (law05_fixed _).mono ?_); rintro e w1 ⟨rfl, hb1⟩; have hB1 : Below w.heap.size w w1 := hb1; clear hb1)
    | (go_at_call 21; (with_reducible refine (HFA.out _).mono ?_); rintro e w' ⟨rfl, rfl⟩)
    | (go_at_call 21; (with_reducible refine (HFB.out _).mono ?_); rintro e w' ⟨rfl, rfl⟩)
    | (go_at_call 20; (with_reducible refine (census_Count (.slice A N c) xs _ (by rw [HXL.out]; omega) HXI.out (HX.out.below hB1)).mono ?_); rintro e w2 ⟨v2, rfl, ho2, hb2⟩; have hB2 : Below w.heap.size w w2 := below_step hB1 hb2; obtain ⟨g2, c2, rfl, -, hl2⟩ := ho2.form (by omega); have HO2 := Lib.hid ho2; clear ho2 hb2)
    | (go_at_call 20; (with_reducible refine (census_Count (.slice B L d) ys _ (by rw [HYL.out]; omega) HYI.out (HY.out.below hB2)).mono ?_); rintro e w3 ⟨v3, rfl, ho3, hb3⟩; have hB3 : Below w.heap.size w w3 := below_step hB2 hb3; obtain ⟨g3, c3, rfl, -, hl3⟩ := ho3.form (by omega); have HO3o := Lib.hid ho3; have HO3 := HO3o; replace HO2 := Lib.hid (ownsRow_below HO2.out hb3); have HO2o := HO2; replace hl2 := Nat.lt_of_lt_of_le hl2 hb3.size; have hl2o := hl2; have hl3o := hl3; clear ho3 hb3)
    | (at_builtin; refine append_is (by rfl) (Operand.tmp 28) (Operand.tmp 29) rfl w3.heap.size (.slice (some ⟨w3.heap.size, 0, none⟩) 0 0) 0 [] xs rfl (ownsRow_empty w3 3 w3.heap.size (Nat.le_refl _)) A N c rfl HXL.out (HX.out.below (hB3.alloc hB3.size _)) (by omega) (by simp) ?_; intro v4 w4 hown4 hbw4; have hb34 : Below w3.heap.size w3 w4 := ((Below.refl _ w3).alloc (Nat.le_refl _) _).trans hbw4; have HO4 : Hid (w4.ownsRow w3.heap.size 3 1 v4 N (xs.map (Value.int .i64))) := Lib.hid (by simpa using hown4); have hB4 : Below w.heap.size w w4 := below_step hB3 hb34; have hs34 := hb34.size; clear hown4 hbw4)
    | (at_builtin; refine append_is (by rfl) (Operand.tmp 30) (Operand.tmp 31) rfl w3.heap.size v4 N xs ys rfl HO4.out B L d rfl HYL.out (HY.out.below hB4) (by omega) hs34 ?_; intro v5 w5 hown5 hb45; have HI5 : Hid (IS w5 v5 (xs ++ ys)) := Lib.hid (IS.of_row (by rw [List.length_append, HXL.out, HYL.out]; exact hown5)); have hb35 : Below w3.heap.size w3 w5 := hb34.trans hb45; have hB5 : Below w.heap.size w w5 := below_step hB3 hb35; replace HO2 := Lib.hid (ownsRow_below HO2o.out hb35); replace HO3 := Lib.hid (ownsRow_below HO3o.out hb35); replace hl2 := Nat.lt_of_lt_of_le hl2o hb35.size; replace hl3 := Nat.lt_of_lt_of_le hl3o hb35.size; clear hown5 hb45 hb35)
    | (go_at_call 20; (with_reducible refine (census_Count v5 (xs ++ ys) _ (by rw [List.length_append, HXL.out, HYL.out]; omega) (fun x hx => (List.mem_append.1 hx).elim (HXI.out x) (HYI.out x)) HI5.out).mono ?_); rintro e w6 ⟨v6, rfl, ho6, hb6⟩; have hB6 : Below w.heap.size w w6 := below_step hB5 hb6; obtain ⟨g6, c6, rfl, -, hl6⟩ := ho6.form (by omega); have HO6 := Lib.hid ho6; replace HO2 := Lib.hid (ownsRow_below HO2.out hb6); replace HO3 := Lib.hid (ownsRow_below HO3.out hb6); replace hl2 := Nat.lt_of_lt_of_le hl2 hb6.size; replace hl3 := Nat.lt_of_lt_of_le hl3 hb6.size; clear ho6 hb6)
    | (refine wpList_make_full _ rfl _ _ 22 rfl w6.heap.size 3 i0 (.int .i64 0) 1 Try.underlying22 hi hz0 hz1 .i64 .i64 17 17 17 rfl rfl rfl rfl (by omega) (by unfold maxLen; omega) (Nat.le_refl _) ?_; intro w7 hown7 hg7))
  have hB67 : Below w6.heap.size w6 w7 := Below.grown (Below.refl _ _) hg7 (Nat.le_refl _) (fun q hq => by simp at hq)
  have hr7 : w7.ownsRow w6.heap.size 3 1 (.slice (some ⟨w6.heap.size, 0, none⟩) 17 17) 17 ((Cs.sumTo (Cs.countL xs) (Cs.countL ys) 0).map (Value.int .i64)) := by
    rw [Cs.sumTo_zero]
    have e : (madeCells (Value.int IntKind.i64 0).cells (17 * 1)).toList = (List.replicate 17 (0 : Int)).map (Value.int .i64) := by kernel_rfl
    rw [e] at hown7; exact hown7
  clear hown7 hg7
  go_loopw [9] (fun i wr => ∃ j : Nat, j ≤ 17 ∧ i = .int .i64 j ∧ wr.ownsRow w6.heap.size 3 1 (.slice (some ⟨w6.heap.size, 0, none⟩) 17 17) 17 ((Cs.sumTo (Cs.countL xs) (Cs.countL ys) j).map (Value.int .i64)) ∧ Below w6.heap.size w6 wr) (fun i _ => 17 - (intOf i).toNat)
  case atStart => exact ⟨0, Nat.zero_le _, rfl, hr7, hB67⟩
  case round =>
    clear hr7 hB67
    obtain ⟨j, hj, rfl, hown, hB⟩ := hrel
    by_cases hjl : j < 17
    · have cx := (hB.cell (p := ⟨g2, j, none⟩) hl2).trans (cell_of_own HO2.out j hjl)
      have cy := (hB.cell (p := ⟨g3, j, none⟩) hl3).trans (cell_of_own HO3.out j hjl)
      have cs := cell_of_own hown j hjl
      have fs := hown.frozenAt j
      have bx : 0 ≤ (Cs.countL xs).getD j 0 ∧ (Cs.countL xs).getD j 0 ≤ 3000 := by
        rw [Cs.countL_get _ _ hjl]
        have h1 := Cs.cnt_nonneg xs j; have h2 := Cs.cnt_le xs j; have h3 := HXL.out
        omega
      have bY : 0 ≤ (Cs.countL ys).getD j 0 ∧ (Cs.countL ys).getD j 0 ≤ 3000 := by
        rw [Cs.countL_get _ _ hjl]
        have h1 := Cs.cnt_nonneg ys j; have h2 := Cs.cnt_le ys j; have h3 := HYL.out
        omega
      have HS := Lib.hid (Cs.sumTo_succ (Cs.countL xs) (Cs.countL ys) j hjl)
      generalize (Cs.countL xs).getD j 0 = x at cx bx HS
      generalize (Cs.countL ys).getD j 0 = y at cy bY HS
      generalize (Cs.sumTo (Cs.countL xs) (Cs.countL ys) j).getD j 0 = z at cs
      have j17 : (j : Int) < 17 := by omega
      have dj : decide ((j : Int) < 17) = true := by simp; omega
      have w1' : wrap64 (x + y) = x + y := by unfold wrap64; omega
      obtain ⟨hst, hgr⟩ := (show wr.drew.ownsRow w6.heap.size 3 1 (.slice (some ⟨w6.heap.size, 0, none⟩) 17 17) 17 ((Cs.sumTo (Cs.countL xs) (Cs.countL ys) j).map (Value.int .i64)) from ownsRow_below hown (Below.refl _ wr).drew).stored j (.int .i64 (x + y))
      have hB2 := (hB.drew).grown hgr (by simp; exact hB.size) (fun q hq => by simp at hq; omega)
      rw [← List.map_set, ← HS.out] at hst
      have HST := Lib.hid hst; have HB2 := Lib.hid hB2
      clear hst hgr hB2
      go_wp2
      go_region_with (fail)
      all_goals go_wp2
      all_goals go_roundw
      all_goals first | exact ⟨j + 1, by omega, by go_num, HST.out, HB2.out⟩ | (simp [intOf]; omega)
    · obtain rfl : j = 17 := by omega
      rw [Cs.sumTo_all] at hown
      have hBr : Below w.heap.size w wr := below_step hB6 hB
      have hoz := ownsRow_below HO6.out hB
      have HOK := Lib.hid (Cs.okC_countL (xs ++ ys) (by rw [List.length_append, HXL.out, HYL.out]; omega))
      have HCZ := Lib.hid (Cs.countL_length (xs ++ ys))
      have HPB := Lib.hid (fun k hk => Cs.pre_le (xs ++ ys) k hk)
      have HLE : Hid ((xs ++ ys).length ≤ 6000) := Lib.hid (by rw [List.length_append, HXL.out, HYL.out]; omega)
      have HGB : Hid (∀ k, k < 17 → 0 ≤ (Cs.countL (xs ++ ys)).getD k 0 ∧ (Cs.countL (xs ++ ys)).getD k 0 ≤ 6000) := Lib.hid (fun k hk => by
        rw [Cs.countL_get _ _ hk]
        have h1 := Cs.cnt_nonneg (xs ++ ys) k; have h2 := Cs.cnt_le (xs ++ ys) k; have h3 := HLE.out
        omega)
      obtain ⟨cz, hcz⟩ : ∃ cz, Cs.countL (xs ++ ys) = cz := ⟨_, rfl⟩
      rw [hcz] at hown hoz HOK HCZ HPB HGB
      obtain ⟨a, ha⟩ : ∃ a, Cs.chooseA cz = a := ⟨_, rfl⟩
      obtain ⟨n, hn⟩ : ∃ a, Cs.chooseN cz = a := ⟨_, rfl⟩
      have hE : Cs.chooseE cz = 0 := by unfold Cs.chooseE; rw [if_pos HOK.out]
      have HA := Lib.hid ha; have HN := Lib.hid hn; have HE := Lib.hid hE
      have HIZ : Hid (IS wr (.slice (some ⟨g6, 0, none⟩) 17 c6) cz) := Lib.hid (IS.of_row (by rw [HCZ.out]; exact hoz))
      have HIS : Hid (IS wr (.slice (some ⟨w6.heap.size, 0, none⟩) 17 17) cz) := Lib.hid (IS.of_row (by rw [HCZ.out]; exact hown))
      have HOZ := Lib.hid hoz
      clear hown hoz hcz ha hn hE HO2 HO3 HO6 HO2o HO3o HO4 HI5
      go_wp2_with (first
        | (go_at_call 23; (with_reducible refine (Choose_c (.slice (some ⟨g6, 0, none⟩) 17 c6) cz _ (by rw [HCZ.out]; omega) HIZ.out a n 0 HA.out HN.out HE.out).mono ?_); rintro e w' ⟨rfl, rfl⟩)
        | (go_at_call 23; (with_reducible refine (Choose_c (.slice (some ⟨w6.heap.size, 0, none⟩) 17 17) cz _ (by rw [HCZ.out]; omega) HIS.out a n 0 HA.out HN.out HE.out).mono ?_); rintro e w' ⟨rfl, rfl⟩))
      go_loopw [16, 17] (fun c i wq => ∃ j : Nat, j ≤ 17 ∧ i = .int .i64 j ∧ c = .int .i64 (Cs.pre cz j) ∧ Hid (∀ k, k < j → (2 : Int) ^ k ≤ a) ∧ wr = wq) (fun _ i _ => 17 - (intOf i).toNat)
      case atStart => exact ⟨0, Nat.zero_le _, rfl, rfl, Lib.hid (fun k hk => by omega), rfl⟩
      case round =>
        obtain ⟨j, hj, rfl, rfl, HK, rfl⟩ := hrel
        by_cases hjl : j < 17
        · have dj : decide ((j : Int) < 17) = true := by simp; omega
          have w3' := Ws.pow_wrap j (by omega)
          by_cases h2 : (2 : Int) ^ j ≤ a
          · have d2 : decide ((2 : Int) ^ j ≤ a) = true := by simpa using h2
            have H2 := Lib.hid h2
            have cz' := cell_of_own HOZ.out j hjl
            have hb := HGB.out j hjl
            have hp := HPB.out j (by omega)
            have hle := HLE.out
            have HS : Hid (Cs.pre cz (j + 1) = Cs.pre cz j + cz.getD j 0) := Lib.hid rfl
            generalize cz.getD j 0 = x at cz' hb HS
            generalize Cs.pre cz j = s at hp HS ⊢
            have w4' : wrap64 (s + x) = s + x := by unfold wrap64; omega
            have j17 : (j : Int) < 17 := by omega
            clear hle hp hb h2
            go_wp2
            go_roundw
            case rel => exact ⟨j + 1, by omega, by go_num, by rw [HS.out, w4'], Lib.hid (fun k hk => by
              by_cases e : k = j
              · subst e; exact H2.out
              · exact HK.out k (by omega)), (by first | rfl | trivial)⟩
            case measure => simp [intOf]; omega
          · have d2 : decide ((2 : Int) ^ j ≤ a) = false := by simpa using h2
            have hc : Cs.pre cz j = n := (Cs.chosen_pre cz HOK.out j (by omega) (fun k hk => by rw [HA.out]; exact HK.out k hk) (by rw [HA.out]; exact .inr (by omega))).trans HN.out
            rw [hc]
            go_wp2_with (first | (go_at_call 19; (with_reducible refine (SameInts (.slice (some ⟨w6.heap.size, 0, none⟩) 17 17) (.slice (some ⟨g6, 0, none⟩) 17 c6) cz cz true (by simp) _ (by rw [HCZ.out]; omega) (by rw [HCZ.out]; omega) HIS.out HIZ.out).mono ?_); rintro e w9 ⟨rfl, hb9⟩; have hB9 : Below w.heap.size w w9 := below_step hBr hb9; clear hb9))
            go_ret
            exact ⟨rfl, hB9⟩
        · obtain rfl : j = 17 := by omega
          have hc : Cs.pre cz 17 = n := (Cs.chosen_pre cz HOK.out 17 (by omega) (fun k hk => by rw [HA.out]; exact HK.out k hk) (by rw [HA.out]; exact .inl rfl)).trans HN.out
          rw [hc]
          go_wp2_with (first | (go_at_call 19; (with_reducible refine (SameInts (.slice (some ⟨w6.heap.size, 0, none⟩) 17 17) (.slice (some ⟨g6, 0, none⟩) 17 c6) cz cz true (by simp) _ (by rw [HCZ.out]; omega) (by rw [HCZ.out]; omega) HIS.out HIZ.out).mono ?_); rintro e w9 ⟨rfl, hb9⟩; have hB9 : Below w.heap.size w w9 := below_step hBr hb9; clear hb9))
          go_ret
          exact ⟨rfl, hB9⟩
theorem rowCensusAdds {u v : Value} {W : World} (xs0 ys0 : List Int) (f : ISA W u xs0) (g : ISA W v ys0) (w : World) : Calls Try.prog 9 #[u, v] W fun e w' => e = .returned (.bool true) ∧ Below W.heap.size W w' := by
  have key : ∀ (z : Value) (zs : List Int), ISA W z zs → ∃ (A : Option Addr) (M c : Nat), z = .slice A M c ∧ (zs.take 3000).length ≤ 3000 ∧ (∀ x ∈ zs.take 3000, In64 x) ∧ IS W (.slice A (zs.take 3000).length c) (zs.take 3000) ∧
      ∀ W', Calls Try.prog 21 #[.slice A M c] W' fun e w' => e = .returned (.slice A (zs.take 3000).length c) ∧ W' = w' := by
    rintro z zs ⟨⟨A, c, rfl, hc, hn, hz⟩, hi, hl⟩
    refine ⟨A, zs.length, c, rfl, by rw [List.length_take]; omega, fun x hx => hi x (List.mem_of_mem_take hx), ?_, fun W' => few_s A c zs _ rfl W' (by omega) hc hn⟩
    refine ⟨A, c, rfl, by rw [List.length_take]; omega, hn, fun h0 => ?_⟩
    rw [List.length_take] at h0
    obtain ⟨ad, e, hj⟩ := hz (by omega)
    refine ⟨ad, e, fun j hjl => ?_⟩
    rw [List.length_take] at hjl
    rw [hj j (by omega), List.getD_eq_getElem?_getD, List.getD_eq_getElem?_getD, List.getElem?_take_of_lt (by omega)]
  obtain ⟨A, M, c, rfl, h1, h2, h3, h4⟩ := key u xs0 f
  obtain ⟨B, K, d, rfl, k1, k2, k3, k4⟩ := key v ys0 g
  exact walk_CensusAdds A B M K c d _ _ _ _ W h1 k1 rfl rfl h2 k2 h3 k3 h4 k4
end Go.Proofs.Ytfhigeefclchiaa
