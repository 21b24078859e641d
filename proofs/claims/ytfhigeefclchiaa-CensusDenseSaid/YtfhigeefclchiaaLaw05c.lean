/- CensusDense where there is no error. -/
import Derived.Test.YtfhigeefclchiaaLaw05b
namespace Go.Proofs.Ytfhigeefclchiaa
open Go.RowKit
set_option linter.unusedVariables false
set_option linter.unusedSimpArgs false

set_option maxRecDepth 100000 in
set_option maxHeartbeats 3200000 in
theorem walk_CensusDense_zz (A : Option Addr) (N c : Nat) (zs : List Int) (o a h : Int) (w : World) (hNl : N ≤ 3000) (hyl : zs.length = N) (hi : ∀ x ∈ zs, In64 x) (hoi : In64 o) (hIS : IS w (.slice A N c) zs)
    (M : Nat) (hfew : ∀ W, Calls Try.prog 21 #[.slice A M c] W fun e w' => e = .returned (.slice A N c) ∧ W = w')
    (ha : Cs.sizesA zs o = a) (hh : Cs.sizesH zs o = h) (hz : Cs.sizesE zs o = 0) (r t : Int) (hr : Cs.within zs a = r) (r0 : 0 ≤ r) (rN : r ≤ N) (da : (a != 0) = false) (hD : ∀ j : Nat, j ≤ 16 → a < 2 ^ j → 2 * Cs.within zs (2 ^ j) ≤ 2 ^ j)
    (o0 : 0 ≤ o) (o1 : o ≤ 65536) (ht : (N : Int) - r + o = t) (t0 : (t == 0) = true) (h0 : (h == 0) = true) :
    Calls Try.prog 6 #[.slice A M c, .int .i64 o] w fun e w' => e = .returned (.bool true) ∧ Below w.heap.size w w' := by
  have HIS := Lib.hid hIS; have HYY := Lib.hid hyl; have HIN := Lib.hid hi; have HF := Lib.hid hfew; have HA := Lib.hid ha; have HH := Lib.hid hh; have HZ := Lib.hid hz; have HR := Lib.hid hr; have HD := Lib.hid hD
  have w1 : wrap64 (2 * r) = 2 * r := by unfold wrap64; omega
  have w2 : wrap64 ((N : Int) - r) = (N : Int) - r := by unfold wrap64; omega
  have w3 : wrap64 ((N : Int) - r + o) = t := by rw [ht]; unfold wrap64; omega
  have hl63 : (N : Int) ≤ 9223372036854775807 := by omega
  clear hIS hyl hi hfew ha hh hz hr hD
  go_enter Try.func6, Try.ntmps6
  go_wp2_with (first
    | (go_at_call 16; (with_reducible refine (law05_fixed _).mono ?_); rintro e w1 ⟨rfl, hb1⟩; have hB1 : Below w.heap.size w w1 := hb1; clear hb1)
    | (go_at_call 21; (with_reducible refine (HF.out _).mono ?_); rintro e w' ⟨rfl, rfl⟩)
    | (go_at_call 25; (refine (Sizes_c _ zs o _ (by rw [HYY.out]; omega) HIN.out hoi (HIS.out.below hB1) a h 0 HA.out HH.out HZ.out).mono ?_); rintro e w2 ⟨rfl, hb2⟩; have hB2 : Below w.heap.size w w2 := below_step hB1 hb2; clear hb2)
    | (go_at_call 27; (with_reducible refine (within_c _ zs a r HR.out _ (by rw [HYY.out]; omega) (HIS.out.below hB2)).mono ?_); rintro e w' ⟨rfl, rfl⟩))
  go_loopw [8] (fun p wr => ∃ j : Nat, j ≤ 17 ∧ p = .int .i64 (2 ^ j) ∧ w2 = wr) (fun p _ => 131072 - (intOf p).toNat)
  case atStart => exact ⟨0, by omega, rfl, rfl⟩
  case round =>
    obtain ⟨j, hj, rfl, rfl⟩ := hrel
    by_cases hjl : j ≤ 16
    · have hp : (2 : Int) ^ (j + 1) = 2 ^ j * 2 := Int.pow_succ ..
      have h16 : (2 : Int) ^ j ≤ 2 ^ 16 := by exact_mod_cast Nat.pow_le_pow_right (by decide) hjl
      have h00 : (1 : Int) ≤ 2 ^ j := by exact_mod_cast Nat.one_le_two_pow
      have dj : decide ((2 : Int) ^ j ≤ 65536) = true := by simp; omega
      have w5 : wrap64 ((2 : Int) ^ j * 2) = (2 : Int) ^ j * 2 := by unfold wrap64; omega
      have HP := Lib.hid hp
      have HJ : Hid (a < 2 ^ j → 2 * Cs.within zs (2 ^ j) ≤ 2 ^ j) := Lib.hid (HD.out j hjl)
      have HW : Hid (0 ≤ Cs.within zs (2 ^ j) ∧ Cs.within zs (2 ^ j) ≤ N) := Lib.hid (by have := Cs.within_le zs (2 ^ j); rw [HYY.out] at this; exact this)
      clear hp
      obtain ⟨p, hpp⟩ : ∃ p, (2 : Int) ^ j = p := ⟨_, rfl⟩
      have HPP := Lib.hid hpp
      rw [hpp] at h16 h00 dj w5 HP HJ HW ⊢
      clear hpp
      by_cases hap : a < p
      · have d1 : decide (a < p) = true := by simpa using hap
        obtain ⟨u, hu⟩ : ∃ u, Cs.within zs p = u := ⟨_, rfl⟩
        have HU := Lib.hid hu
        have h2 := HJ.out hap
        have h3 := HW.out
        rw [hu] at h2 h3
        have d2 : decide (p < 2 * u) = false := by simp; omega
        have w4 : wrap64 (2 * u) = 2 * u := by unfold wrap64; omega
        clear hu h2 h3
        go_wp2_with (first | (go_at_call 27; (with_reducible refine (within_c _ zs p u HU.out _ (by rw [HYY.out]; omega) (HIS.out.below hB2)).mono ?_); rintro e w' ⟨rfl, rfl⟩))
        go_roundw
        case rel => exact ⟨j + 1, by omega, by simp only [HP.out, w5], (by first | rfl | trivial)⟩
        case measure => simp [intOf]; omega
      · have d1 : decide (a < p) = false := by simpa using hap
        go_wp2
        go_roundw
        case rel => exact ⟨j + 1, by omega, by simp only [HP.out, w5], (by first | rfl | trivial)⟩
        case measure => simp [intOf]; omega
    · obtain rfl : j = 17 := by omega
      go_wp2_with (first | (go_at_call 27; (with_reducible refine (within_c _ zs a r HR.out _ (by rw [HYY.out]; omega) (HIS.out.below hB2)).mono ?_); rintro e w' ⟨rfl, rfl⟩))
      all_goals go_ret
      all_goals first | exact ⟨rfl, hB2⟩ | exact ⟨by simp_all, hB2⟩
set_option maxRecDepth 100000 in
set_option maxHeartbeats 3200000 in
theorem walk_CensusDense_zn (A : Option Addr) (N c : Nat) (zs : List Int) (o a h : Int) (w : World) (hNl : N ≤ 3000) (hyl : zs.length = N) (hi : ∀ x ∈ zs, In64 x) (hoi : In64 o) (hIS : IS w (.slice A N c) zs)
    (M : Nat) (hfew : ∀ W, Calls Try.prog 21 #[.slice A M c] W fun e w' => e = .returned (.slice A N c) ∧ W = w')
    (ha : Cs.sizesA zs o = a) (hh : Cs.sizesH zs o = h) (hz : Cs.sizesE zs o = 0) (r t : Int) (hr : Cs.within zs a = r) (r0 : 0 ≤ r) (rN : r ≤ N) (da : (a != 0) = false) (hD : ∀ j : Nat, j ≤ 16 → a < 2 ^ j → 2 * Cs.within zs (2 ^ j) ≤ 2 ^ j)
    (o0 : 0 ≤ o) (o1 : o ≤ 65536) (ht : (N : Int) - r + o = t) (t0 : (t == 0) = false) (t1 : decide (0 < t) = true) (t2 : decide (t ≤ h) = true) (q : Bool) (h1 : (h == 1) = q) (t3 : decide (h.tdiv 2 < t) = true) (t4 : wrap64 (h.tdiv 2) = h.tdiv 2) :
    Calls Try.prog 6 #[.slice A M c, .int .i64 o] w fun e w' => e = .returned (.bool true) ∧ Below w.heap.size w w' := by
  have HIS := Lib.hid hIS; have HYY := Lib.hid hyl; have HIN := Lib.hid hi; have HF := Lib.hid hfew; have HA := Lib.hid ha; have HH := Lib.hid hh; have HZ := Lib.hid hz; have HR := Lib.hid hr; have HD := Lib.hid hD
  have w1 : wrap64 (2 * r) = 2 * r := by unfold wrap64; omega
  have w2 : wrap64 ((N : Int) - r) = (N : Int) - r := by unfold wrap64; omega
  have w3 : wrap64 ((N : Int) - r + o) = t := by rw [ht]; unfold wrap64; omega
  have hl63 : (N : Int) ≤ 9223372036854775807 := by omega
  clear hIS hyl hi hfew ha hh hz hr hD
  go_enter Try.func6, Try.ntmps6
  go_wp2_with (first
    | (go_at_call 16; (with_reducible refine (law05_fixed _).mono ?_); rintro e w1 ⟨rfl, hb1⟩; have hB1 : Below w.heap.size w w1 := hb1; clear hb1)
    | (go_at_call 21; (with_reducible refine (HF.out _).mono ?_); rintro e w' ⟨rfl, rfl⟩)
    | (go_at_call 25; (refine (Sizes_c _ zs o _ (by rw [HYY.out]; omega) HIN.out hoi (HIS.out.below hB1) a h 0 HA.out HH.out HZ.out).mono ?_); rintro e w2 ⟨rfl, hb2⟩; have hB2 : Below w.heap.size w w2 := below_step hB1 hb2; clear hb2)
    | (go_at_call 27; (with_reducible refine (within_c _ zs a r HR.out _ (by rw [HYY.out]; omega) (HIS.out.below hB2)).mono ?_); rintro e w' ⟨rfl, rfl⟩))
  go_loopw [8] (fun p wr => ∃ j : Nat, j ≤ 17 ∧ p = .int .i64 (2 ^ j) ∧ w2 = wr) (fun p _ => 131072 - (intOf p).toNat)
  case atStart => exact ⟨0, by omega, rfl, rfl⟩
  case round =>
    obtain ⟨j, hj, rfl, rfl⟩ := hrel
    by_cases hjl : j ≤ 16
    · have hp : (2 : Int) ^ (j + 1) = 2 ^ j * 2 := Int.pow_succ ..
      have h16 : (2 : Int) ^ j ≤ 2 ^ 16 := by exact_mod_cast Nat.pow_le_pow_right (by decide) hjl
      have h00 : (1 : Int) ≤ 2 ^ j := by exact_mod_cast Nat.one_le_two_pow
      have dj : decide ((2 : Int) ^ j ≤ 65536) = true := by simp; omega
      have w5 : wrap64 ((2 : Int) ^ j * 2) = (2 : Int) ^ j * 2 := by unfold wrap64; omega
      have HP := Lib.hid hp
      have HJ : Hid (a < 2 ^ j → 2 * Cs.within zs (2 ^ j) ≤ 2 ^ j) := Lib.hid (HD.out j hjl)
      have HW : Hid (0 ≤ Cs.within zs (2 ^ j) ∧ Cs.within zs (2 ^ j) ≤ N) := Lib.hid (by have := Cs.within_le zs (2 ^ j); rw [HYY.out] at this; exact this)
      clear hp
      obtain ⟨p, hpp⟩ : ∃ p, (2 : Int) ^ j = p := ⟨_, rfl⟩
      have HPP := Lib.hid hpp
      rw [hpp] at h16 h00 dj w5 HP HJ HW ⊢
      clear hpp
      by_cases hap : a < p
      · have d1 : decide (a < p) = true := by simpa using hap
        obtain ⟨u, hu⟩ : ∃ u, Cs.within zs p = u := ⟨_, rfl⟩
        have HU := Lib.hid hu
        have h2 := HJ.out hap
        have h3 := HW.out
        rw [hu] at h2 h3
        have d2 : decide (p < 2 * u) = false := by simp; omega
        have w4 : wrap64 (2 * u) = 2 * u := by unfold wrap64; omega
        clear hu h2 h3
        go_wp2_with (first | (go_at_call 27; (with_reducible refine (within_c _ zs p u HU.out _ (by rw [HYY.out]; omega) (HIS.out.below hB2)).mono ?_); rintro e w' ⟨rfl, rfl⟩))
        go_roundw
        case rel => exact ⟨j + 1, by omega, by simp only [HP.out, w5], (by first | rfl | trivial)⟩
        case measure => simp [intOf]; omega
      · have d1 : decide (a < p) = false := by simpa using hap
        go_wp2
        go_roundw
        case rel => exact ⟨j + 1, by omega, by simp only [HP.out, w5], (by first | rfl | trivial)⟩
        case measure => simp [intOf]; omega
    · obtain rfl : j = 17 := by omega
      go_wp2_with (first | (go_at_call 27; (with_reducible refine (within_c _ zs a r HR.out _ (by rw [HYY.out]; omega) (HIS.out.below hB2)).mono ?_); rintro e w' ⟨rfl, rfl⟩))
      all_goals go_ret
      all_goals first | exact ⟨rfl, hB2⟩ | exact ⟨by simp_all, hB2⟩
set_option maxRecDepth 100000 in
set_option maxHeartbeats 3200000 in
theorem walk_CensusDense_nz (A : Option Addr) (N c : Nat) (zs : List Int) (o a h : Int) (w : World) (hNl : N ≤ 3000) (hyl : zs.length = N) (hi : ∀ x ∈ zs, In64 x) (hoi : In64 o) (hIS : IS w (.slice A N c) zs)
    (M : Nat) (hfew : ∀ W, Calls Try.prog 21 #[.slice A M c] W fun e w' => e = .returned (.slice A N c) ∧ W = w')
    (ha : Cs.sizesA zs o = a) (hh : Cs.sizesH zs o = h) (hz : Cs.sizesE zs o = 0) (r t : Int) (hr : Cs.within zs a = r) (r0 : 0 ≤ r) (rN : r ≤ N) (da : (a != 0) = true) (dd : decide (2 * r ≤ a) = false) (hD : ∀ j : Nat, j ≤ 16 → a < 2 ^ j → 2 * Cs.within zs (2 ^ j) ≤ 2 ^ j)
    (o0 : 0 ≤ o) (o1 : o ≤ 65536) (ht : (N : Int) - r + o = t) (t0 : (t == 0) = true) (h0 : (h == 0) = true) :
    Calls Try.prog 6 #[.slice A M c, .int .i64 o] w fun e w' => e = .returned (.bool true) ∧ Below w.heap.size w w' := by
  have HIS := Lib.hid hIS; have HYY := Lib.hid hyl; have HIN := Lib.hid hi; have HF := Lib.hid hfew; have HA := Lib.hid ha; have HH := Lib.hid hh; have HZ := Lib.hid hz; have HR := Lib.hid hr; have HD := Lib.hid hD
  have w1 : wrap64 (2 * r) = 2 * r := by unfold wrap64; omega
  have w2 : wrap64 ((N : Int) - r) = (N : Int) - r := by unfold wrap64; omega
  have w3 : wrap64 ((N : Int) - r + o) = t := by rw [ht]; unfold wrap64; omega
  have hl63 : (N : Int) ≤ 9223372036854775807 := by omega
  clear hIS hyl hi hfew ha hh hz hr hD
  go_enter Try.func6, Try.ntmps6
  go_wp2_with (first
    | (go_at_call 16; (with_reducible refine (law05_fixed _).mono ?_); rintro e w1 ⟨rfl, hb1⟩; have hB1 : Below w.heap.size w w1 := hb1; clear hb1)
    | (go_at_call 21; (with_reducible refine (HF.out _).mono ?_); rintro e w' ⟨rfl, rfl⟩)
    | (go_at_call 25; (refine (Sizes_c _ zs o _ (by rw [HYY.out]; omega) HIN.out hoi (HIS.out.below hB1) a h 0 HA.out HH.out HZ.out).mono ?_); rintro e w2 ⟨rfl, hb2⟩; have hB2 : Below w.heap.size w w2 := below_step hB1 hb2; clear hb2)
    | (go_at_call 27; (with_reducible refine (within_c _ zs a r HR.out _ (by rw [HYY.out]; omega) (HIS.out.below hB2)).mono ?_); rintro e w' ⟨rfl, rfl⟩))
  go_loopw [8] (fun p wr => ∃ j : Nat, j ≤ 17 ∧ p = .int .i64 (2 ^ j) ∧ w2 = wr) (fun p _ => 131072 - (intOf p).toNat)
  case atStart => exact ⟨0, by omega, rfl, rfl⟩
  case round =>
    obtain ⟨j, hj, rfl, rfl⟩ := hrel
    by_cases hjl : j ≤ 16
    · have hp : (2 : Int) ^ (j + 1) = 2 ^ j * 2 := Int.pow_succ ..
      have h16 : (2 : Int) ^ j ≤ 2 ^ 16 := by exact_mod_cast Nat.pow_le_pow_right (by decide) hjl
      have h00 : (1 : Int) ≤ 2 ^ j := by exact_mod_cast Nat.one_le_two_pow
      have dj : decide ((2 : Int) ^ j ≤ 65536) = true := by simp; omega
      have w5 : wrap64 ((2 : Int) ^ j * 2) = (2 : Int) ^ j * 2 := by unfold wrap64; omega
      have HP := Lib.hid hp
      have HJ : Hid (a < 2 ^ j → 2 * Cs.within zs (2 ^ j) ≤ 2 ^ j) := Lib.hid (HD.out j hjl)
      have HW : Hid (0 ≤ Cs.within zs (2 ^ j) ∧ Cs.within zs (2 ^ j) ≤ N) := Lib.hid (by have := Cs.within_le zs (2 ^ j); rw [HYY.out] at this; exact this)
      clear hp
      obtain ⟨p, hpp⟩ : ∃ p, (2 : Int) ^ j = p := ⟨_, rfl⟩
      have HPP := Lib.hid hpp
      rw [hpp] at h16 h00 dj w5 HP HJ HW ⊢
      clear hpp
      by_cases hap : a < p
      · have d1 : decide (a < p) = true := by simpa using hap
        obtain ⟨u, hu⟩ : ∃ u, Cs.within zs p = u := ⟨_, rfl⟩
        have HU := Lib.hid hu
        have h2 := HJ.out hap
        have h3 := HW.out
        rw [hu] at h2 h3
        have d2 : decide (p < 2 * u) = false := by simp; omega
        have w4 : wrap64 (2 * u) = 2 * u := by unfold wrap64; omega
        clear hu h2 h3
        go_wp2_with (first | (go_at_call 27; (with_reducible refine (within_c _ zs p u HU.out _ (by rw [HYY.out]; omega) (HIS.out.below hB2)).mono ?_); rintro e w' ⟨rfl, rfl⟩))
        go_roundw
        case rel => exact ⟨j + 1, by omega, by simp only [HP.out, w5], (by first | rfl | trivial)⟩
        case measure => simp [intOf]; omega
      · have d1 : decide (a < p) = false := by simpa using hap
        go_wp2
        go_roundw
        case rel => exact ⟨j + 1, by omega, by simp only [HP.out, w5], (by first | rfl | trivial)⟩
        case measure => simp [intOf]; omega
    · obtain rfl : j = 17 := by omega
      go_wp2_with (first | (go_at_call 27; (with_reducible refine (within_c _ zs a r HR.out _ (by rw [HYY.out]; omega) (HIS.out.below hB2)).mono ?_); rintro e w' ⟨rfl, rfl⟩))
      all_goals go_ret
      all_goals first | exact ⟨rfl, hB2⟩ | exact ⟨by simp_all, hB2⟩
set_option maxRecDepth 100000 in
set_option maxHeartbeats 3200000 in
theorem walk_CensusDense_nn (A : Option Addr) (N c : Nat) (zs : List Int) (o a h : Int) (w : World) (hNl : N ≤ 3000) (hyl : zs.length = N) (hi : ∀ x ∈ zs, In64 x) (hoi : In64 o) (hIS : IS w (.slice A N c) zs)
    (M : Nat) (hfew : ∀ W, Calls Try.prog 21 #[.slice A M c] W fun e w' => e = .returned (.slice A N c) ∧ W = w')
    (ha : Cs.sizesA zs o = a) (hh : Cs.sizesH zs o = h) (hz : Cs.sizesE zs o = 0) (r t : Int) (hr : Cs.within zs a = r) (r0 : 0 ≤ r) (rN : r ≤ N) (da : (a != 0) = true) (dd : decide (2 * r ≤ a) = false) (hD : ∀ j : Nat, j ≤ 16 → a < 2 ^ j → 2 * Cs.within zs (2 ^ j) ≤ 2 ^ j)
    (o0 : 0 ≤ o) (o1 : o ≤ 65536) (ht : (N : Int) - r + o = t) (t0 : (t == 0) = false) (t1 : decide (0 < t) = true) (t2 : decide (t ≤ h) = true) (q : Bool) (h1 : (h == 1) = q) (t3 : decide (h.tdiv 2 < t) = true) (t4 : wrap64 (h.tdiv 2) = h.tdiv 2) :
    Calls Try.prog 6 #[.slice A M c, .int .i64 o] w fun e w' => e = .returned (.bool true) ∧ Below w.heap.size w w' := by
  have HIS := Lib.hid hIS; have HYY := Lib.hid hyl; have HIN := Lib.hid hi; have HF := Lib.hid hfew; have HA := Lib.hid ha; have HH := Lib.hid hh; have HZ := Lib.hid hz; have HR := Lib.hid hr; have HD := Lib.hid hD
  have w1 : wrap64 (2 * r) = 2 * r := by unfold wrap64; omega
  have w2 : wrap64 ((N : Int) - r) = (N : Int) - r := by unfold wrap64; omega
  have w3 : wrap64 ((N : Int) - r + o) = t := by rw [ht]; unfold wrap64; omega
  have hl63 : (N : Int) ≤ 9223372036854775807 := by omega
  clear hIS hyl hi hfew ha hh hz hr hD
  go_enter Try.func6, Try.ntmps6
  go_wp2_with (first
    | (go_at_call 16; (with_reducible refine (law05_fixed _).mono ?_); rintro e w1 ⟨rfl, hb1⟩; have hB1 : Below w.heap.size w w1 := hb1; clear hb1)
    | (go_at_call 21; (with_reducible refine (HF.out _).mono ?_); rintro e w' ⟨rfl, rfl⟩)
    | (go_at_call 25; (refine (Sizes_c _ zs o _ (by rw [HYY.out]; omega) HIN.out hoi (HIS.out.below hB1) a h 0 HA.out HH.out HZ.out).mono ?_); rintro e w2 ⟨rfl, hb2⟩; have hB2 : Below w.heap.size w w2 := below_step hB1 hb2; clear hb2)
    | (go_at_call 27; (with_reducible refine (within_c _ zs a r HR.out _ (by rw [HYY.out]; omega) (HIS.out.below hB2)).mono ?_); rintro e w' ⟨rfl, rfl⟩))
  go_loopw [8] (fun p wr => ∃ j : Nat, j ≤ 17 ∧ p = .int .i64 (2 ^ j) ∧ w2 = wr) (fun p _ => 131072 - (intOf p).toNat)
  case atStart => exact ⟨0, by omega, rfl, rfl⟩
  case round =>
    obtain ⟨j, hj, rfl, rfl⟩ := hrel
    by_cases hjl : j ≤ 16
    · have hp : (2 : Int) ^ (j + 1) = 2 ^ j * 2 := Int.pow_succ ..
      have h16 : (2 : Int) ^ j ≤ 2 ^ 16 := by exact_mod_cast Nat.pow_le_pow_right (by decide) hjl
      have h00 : (1 : Int) ≤ 2 ^ j := by exact_mod_cast Nat.one_le_two_pow
      have dj : decide ((2 : Int) ^ j ≤ 65536) = true := by simp; omega
      have w5 : wrap64 ((2 : Int) ^ j * 2) = (2 : Int) ^ j * 2 := by unfold wrap64; omega
      have HP := Lib.hid hp
      have HJ : Hid (a < 2 ^ j → 2 * Cs.within zs (2 ^ j) ≤ 2 ^ j) := Lib.hid (HD.out j hjl)
      have HW : Hid (0 ≤ Cs.within zs (2 ^ j) ∧ Cs.within zs (2 ^ j) ≤ N) := Lib.hid (by have := Cs.within_le zs (2 ^ j); rw [HYY.out] at this; exact this)
      clear hp
      obtain ⟨p, hpp⟩ : ∃ p, (2 : Int) ^ j = p := ⟨_, rfl⟩
      have HPP := Lib.hid hpp
      rw [hpp] at h16 h00 dj w5 HP HJ HW ⊢
      clear hpp
      by_cases hap : a < p
      · have d1 : decide (a < p) = true := by simpa using hap
        obtain ⟨u, hu⟩ : ∃ u, Cs.within zs p = u := ⟨_, rfl⟩
        have HU := Lib.hid hu
        have h2 := HJ.out hap
        have h3 := HW.out
        rw [hu] at h2 h3
        have d2 : decide (p < 2 * u) = false := by simp; omega
        have w4 : wrap64 (2 * u) = 2 * u := by unfold wrap64; omega
        clear hu h2 h3
        go_wp2_with (first | (go_at_call 27; (with_reducible refine (within_c _ zs p u HU.out _ (by rw [HYY.out]; omega) (HIS.out.below hB2)).mono ?_); rintro e w' ⟨rfl, rfl⟩))
        go_roundw
        case rel => exact ⟨j + 1, by omega, by simp only [HP.out, w5], (by first | rfl | trivial)⟩
        case measure => simp [intOf]; omega
      · have d1 : decide (a < p) = false := by simpa using hap
        go_wp2
        go_roundw
        case rel => exact ⟨j + 1, by omega, by simp only [HP.out, w5], (by first | rfl | trivial)⟩
        case measure => simp [intOf]; omega
    · obtain rfl : j = 17 := by omega
      go_wp2_with (first | (go_at_call 27; (with_reducible refine (within_c _ zs a r HR.out _ (by rw [HYY.out]; omega) (HIS.out.below hB2)).mono ?_); rintro e w' ⟨rfl, rfl⟩))
      all_goals go_ret
      all_goals first | exact ⟨rfl, hB2⟩ | exact ⟨by simp_all, hB2⟩
theorem rowCensusDense {v : Value} {W : World} (zs0 : List Int) (o : Int) (f : ISA W v zs0) (hoi : In64 o) (w : World) : Calls Try.prog 6 #[v, .int .i64 o] W fun e w' => e = .returned (.bool true) ∧ Below W.heap.size W w' := by
  obtain ⟨hIS0, hi0, hl0⟩ := f
  have hfew1 := fun w' (h : IS w' v zs0) => few v zs0 w' (by omega) h
  obtain ⟨A, c, rfl, hc, hn, hz⟩ := hIS0
  have hN : (zs0.take 3000).length ≤ 3000 := by rw [List.length_take]; omega
  have hIS : IS W (.slice A (zs0.take 3000).length c) (zs0.take 3000) := by
    refine ⟨A, c, rfl, by rw [List.length_take]; omega, hn, fun h0 => ?_⟩
    rw [List.length_take] at h0
    obtain ⟨ad, e, hj⟩ := hz (by omega)
    refine ⟨ad, e, fun j hjl => ?_⟩
    rw [List.length_take] at hjl
    rw [hj j (by omega), List.getD_eq_getElem?_getD, List.getD_eq_getElem?_getD, List.getElem?_take_of_lt (by omega)]
  have hfew := fun W => few_s A c zs0 _ rfl W (by omega) hc hn
  have hi : ∀ x ∈ zs0.take 3000, In64 x := fun x hx => hi0 x (List.mem_of_mem_take hx)
  generalize zs0.length = M at hfew
  generalize zs0.take 3000 = zs at hN hIS hfew hi
  by_cases hon : o < 0
  · obtain ⟨e1, e2, e3⟩ := Cs.sizes_neg (l := zs) hon
    exact walk_CensusDense_e A _ c zs o 1 W hN rfl hi hoi hIS M hfew e2 e3 e1 rfl (by simp; omega)
  · cases hd : Cs.dup zs with
    | true =>
      obtain ⟨e1, e2, e3⟩ := Cs.sizes_dup (l := zs) hon hd
      exact walk_CensusDense_e A _ c zs o 2 W hN rfl hi hoi hIS M hfew e2 e3 e1 rfl (by simp; omega)
    | false =>
      by_cases hb : 65536 < o ∨ 65536 < Cs.rest zs o
      · obtain ⟨e1, e2, e3⟩ := Cs.sizes_big hon hd hb
        exact walk_CensusDense_e A _ c zs o 14 W hN rfl hi hoi hIS M hfew e2 e3 e1 rfl (by simp; omega)
      · obtain ⟨e1, e2, e3⟩ := Cs.sizes_ok hon hd hb
        have hcd := Cs.choose_dense zs (by omega)
        have hcw := Cs.chooseN_within zs (by omega)
        have hwl := Cs.within_le zs (Cs.chooseA (Cs.countL zs))
        have hre : Cs.rest zs o = zs.length - Cs.within zs (Cs.chooseA (Cs.countL zs)) + o := by unfold Cs.rest; rw [hcw]
        obtain ⟨t, ht⟩ : ∃ t, Cs.rest zs o = t := ⟨_, rfl⟩
        rw [ht] at e3 hb hre
        have hD : ∀ j : Nat, j ≤ 16 → Cs.chooseA (Cs.countL zs) < 2 ^ j → 2 * Cs.within zs (2 ^ j) ≤ 2 ^ j := by
          intro j hj hlt
          rcases hcd with ⟨-, -, h⟩ | ⟨i, hi, ea, -, -, h⟩
          · exact h j hj
          · rw [ea] at hlt
            refine h j ?_ hj
            apply Decidable.byContradiction
            intro hn
            have : (2 : Int) ^ j ≤ 2 ^ i := by exact_mod_cast Nat.pow_le_pow_right (by decide) (show j ≤ i by omega)
            omega
        have hda : (Cs.chooseA (Cs.countL zs) != 0) = false ∨ ((Cs.chooseA (Cs.countL zs) != 0) = true ∧ decide (2 * Cs.within zs (Cs.chooseA (Cs.countL zs)) ≤ Cs.chooseA (Cs.countL zs)) = false) := by
          rcases hcd with ⟨ea, -, -⟩ | ⟨i, hi, ea, -, h, -⟩
          · exact .inl (by rw [ea]; rfl)
          · have h1 : (1 : Int) ≤ 2 ^ i := by exact_mod_cast Nat.one_le_two_pow
            refine .inr ⟨by rw [ea]; simp; omega, ?_⟩
            rw [ea]; simp; omega
        by_cases t0 : t = 0
        · have h0 : (Ws.ceil2 t == 0) = true := by rw [t0]; decide
          have t0' : (t == 0) = true := by rw [t0]; rfl
          rcases hda with da | ⟨da, dd⟩
          · exact walk_CensusDense_zz A _ c zs o _ _ W hN rfl hi hoi hIS M hfew e2 e3 e1 _ t rfl hwl.1 hwl.2 da hD (by omega) (by omega) hre.symm t0' h0
          · exact walk_CensusDense_nz A _ c zs o _ _ W hN rfl hi hoi hIS M hfew e2 e3 e1 _ t rfl hwl.1 hwl.2 da dd hD (by omega) (by omega) hre.symm t0' h0
        · obtain ⟨k, hk, -, h2, -, h4, h5, h6⟩ := Ws.ceil2_k t (by omega) (by omega)
          have q1 : (t == 0) = false := by simpa using t0
          have q2 : decide (0 < t) = true := by simp; omega
          have q3 : decide (t ≤ Ws.ceil2 t) = true := by rw [h2]; simpa using h4
          have q4 : decide ((Ws.ceil2 t).tdiv 2 < t) = true := by rw [h2]; simpa using h5
          have hcn : 0 ≤ Ws.ceil2 t := by rw [h2]; exact Int.le_of_lt (by exact_mod_cast Nat.two_pow_pos k)
          have hcm : Ws.ceil2 t ≤ 1073741824 := by rw [h2]; exact h6
          have q5 : wrap64 ((Ws.ceil2 t).tdiv 2) = (Ws.ceil2 t).tdiv 2 := by
            rw [Int.tdiv_eq_ediv_of_nonneg hcn]
            unfold wrap64; omega
          rcases hda with da | ⟨da, dd⟩
          · exact walk_CensusDense_zn A _ c zs o _ _ W hN rfl hi hoi hIS M hfew e2 e3 e1 _ t rfl hwl.1 hwl.2 da hD (by omega) (by omega) hre.symm q1 q2 q3 _ rfl q4 q5
          · exact walk_CensusDense_nn A _ c zs o _ _ W hN rfl hi hoi hIS M hfew e2 e3 e1 _ t rfl hwl.1 hwl.2 da dd hD (by omega) (by omega) hre.symm q1 q2 q3 _ rfl q4 q5
end Go.Proofs.Ytfhigeefclchiaa
