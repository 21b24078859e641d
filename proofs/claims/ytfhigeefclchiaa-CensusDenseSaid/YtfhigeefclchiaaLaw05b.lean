/- The statements of layer 5, walked: what is dense. -/
import Derived.Test.YtfhigeefclchiaaApp
import Derived.Test.YtfhigeefclchiaaCens2
namespace Go.Proofs.Ytfhigeefclchiaa
open Go.RowKit
set_option linter.unusedVariables false
set_option linter.unusedSimpArgs false

namespace Cs
theorem within_take (l : List Int) (a : Int) (j : Nat) (x : Int) (h : l.take (j + 1) = l.take j ++ [x]) : within (l.take (j + 1)) a = within (l.take j) a + if 1 ≤ x ∧ x ≤ a then 1 else 0 := by
  unfold within
  rw [h, List.filter_append, List.length_append]
  by_cases hx : 1 ≤ x ∧ x ≤ a
  · simp [hx]
  · rw [if_neg hx]; simp [hx]
end Cs
set_option maxRecDepth 100000 in
set_option maxHeartbeats 1600000 in
theorem within_s (A : Option Addr) (b o c : Nat) (zs : List Int) (a r : Int) (hr : Cs.within zs a = r) (w : World) (hl : zs.length ≤ 17592186044416)
    (hA : 0 < zs.length → A = some ⟨b, o, none⟩ ∧ b < w.heap.size ∧ ∀ j, j < zs.length → w.cell? ⟨b, o + j, none⟩ = some (.int .i64 (zs.getD j 0))) :
    Calls Try.prog 27 #[.slice A zs.length c, .int .i64 a] w fun e w' => e = .returned (.int .i64 r) ∧ w = w' := by
  have HA := Lib.hid hA
  have HR := Lib.hid hr
  have hl63 : (zs.length : Int) ≤ 9223372036854775807 := by omega
  clear hA hr
  go_enter Try.func27, Try.ntmps27
  go_wp2
  go_loopw [5, 6] (fun n i wr => ∃ j : Nat, j ≤ zs.length ∧ i = .int .i64 j ∧ n = .int .i64 (Cs.within (zs.take j) a) ∧ w = wr) (fun _ i _ => zs.length - (intOf i).toNat)
  case atStart => exact ⟨0, Nat.zero_le _, rfl, rfl, rfl⟩
  case round =>
    obtain ⟨j, hj, rfl, rfl, rfl⟩ := hrel
    by_cases hjl : j < zs.length
    · obtain ⟨rfl, hbl, hcell⟩ := HA.out (by omega)
      have cx := hcell j hjl
      clear hcell
      have HT := Lib.hid (take_succ_getD zs j hjl)
      generalize zs.getD j 0 = x at cx HT
      have HS := Lib.hid (Cs.within_take zs a j x HT.out)
      have hb := Cs.within_le (zs.take j) a
      have htl : (zs.take j).length ≤ zs.length := by rw [List.length_take]; omega
      obtain ⟨n, hn⟩ : ∃ n, Cs.within (zs.take j) a = n := ⟨_, rfl⟩
      rw [hn] at HS hb ⊢
      have HN := Lib.hid hn
      have dj : decide ((j : Int) < (zs.length : Int)) = true := by simp; omega
      have w1 : wrap64 (n + 1) = n + 1 := by unfold wrap64; omega
      clear hn htl
      by_cases h1 : 1 ≤ x
      · have d1 : decide (1 ≤ x) = true := by simpa using h1
        by_cases h2 : x ≤ a
        · have d2 : decide (x ≤ a) = true := by simpa using h2
          rw [if_pos ⟨h1, h2⟩] at HS
          go_wp2
          go_roundw
          case rel => exact ⟨j + 1, by omega, by go_num, by rw [HS.out]; first | rfl | rw [w1], (by first | rfl | trivial)⟩
          case measure => simp [intOf]; omega
        · have d2 : decide (x ≤ a) = false := by simpa using h2
          rw [if_neg (fun h => h2 h.2)] at HS
          go_wp2
          go_roundw
          case rel => exact ⟨j + 1, by omega, by go_num, by rw [HS.out, Int.add_zero], (by first | rfl | trivial)⟩
          case measure => simp [intOf]; omega
      · have d1 : decide (1 ≤ x) = false := by simpa using h1
        rw [if_neg (fun h => h1 h.1)] at HS
        go_wp2
        go_roundw
        case rel => exact ⟨j + 1, by omega, by go_num, by rw [HS.out, Int.add_zero], (by first | rfl | trivial)⟩
        case measure => simp [intOf]; omega
    · obtain rfl : j = zs.length := by omega
      rw [List.take_length, HR.out]
      go_wp2
      go_ret
      exact ⟨rfl, rfl⟩
theorem within_c (sv : Value) (zs : List Int) (a r : Int) (hr : Cs.within zs a = r) (w : World) (hl : zs.length ≤ 17592186044416) (h : IS w sv zs) :
    Calls Try.prog 27 #[sv, .int .i64 a] w fun e w' => e = .returned (.int .i64 r) ∧ w = w' := by
  obtain ⟨A, b, o, c, rfl, hc, hn, hf⟩ := h.form
  exact within_s A b o c zs a r hr w hl hf
set_option maxRecDepth 100000 in
set_option maxHeartbeats 3200000 in
/-- An error: nothing more is asked. -/
theorem walk_CensusDense_e (A : Option Addr) (N c : Nat) (zs : List Int) (o z : Int) (w : World) (hNl : N ≤ 3000) (hyl : zs.length = N) (hi : ∀ x ∈ zs, In64 x) (hoi : In64 o) (hIS : IS w (.slice A N c) zs)
    (M : Nat) (hfew : ∀ W, Calls Try.prog 21 #[.slice A M c] W fun e w' => e = .returned (.slice A N c) ∧ W = w')
    (ha : Cs.sizesA zs o = 0) (hh : Cs.sizesH zs o = 0) (hz : Cs.sizesE zs o = z) (dz : (z != 0) = true) (d1 : (z == 1) = decide (o < 0)) :
    Calls Try.prog 6 #[.slice A M c, .int .i64 o] w fun e w' => e = .returned (.bool true) ∧ Below w.heap.size w w' := by
  have HIS := Lib.hid hIS; have HYY := Lib.hid hyl; have HIN := Lib.hid hi; have HF := Lib.hid hfew; have HA := Lib.hid ha; have HH := Lib.hid hh; have HZ := Lib.hid hz
  clear hIS hyl hi hfew ha hh hz
  obtain ⟨q, hq⟩ : ∃ q, decide (o < 0) = q := ⟨_, rfl⟩
  rw [hq] at d1
  go_enter Try.func6, Try.ntmps6
  go_wp2_with (first
    | (go_at_call 16; (with_reducible refine (law05_fixed _).mono ?_); rintro e w1 ⟨rfl, hb1⟩; have hB1 : Below w.heap.size w w1 := hb1; clear hb1)
    | (go_at_call 21; (with_reducible refine (HF.out _).mono ?_); rintro e w' ⟨rfl, rfl⟩)
    | (go_at_call 25; (refine (Sizes_c _ zs o _ (by rw [HYY.out]; omega) HIN.out hoi (HIS.out.below hB1) 0 0 z HA.out HH.out HZ.out).mono ?_); rintro e w2 ⟨rfl, hb2⟩; have hB2 : Below w.heap.size w w2 := below_step hB1 hb2; clear hb2))
  go_ret
  exact ⟨rfl, hB2⟩
end Go.Proofs.Ytfhigeefclchiaa
