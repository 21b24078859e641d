/- The reference's answers for layer 5: Slice, Count, Choose. -/
import Derived.Test.YtfhigeefclchiaaCensus4
namespace Go.Proofs.Ytfhigeefclchiaa
open Go.RowKit
set_option linter.unusedVariables false
set_option linter.unusedSimpArgs false

set_option maxRecDepth 100000 in
theorem ref_Slice (n : Int) (hn : In64 n) (w : World) : Calls Try.prog 18 #[.int .i64 n] w fun e w' => e = .returned (.int .i64 (Ws.log2 n)) ∧ w = w' := by
  unfold In64 at hn
  by_cases h : n < 1
  · go_enter Try.func18, Try.ntmps18
    go_wp2
    go_ret
    exact ⟨ret_int (by unfold Ws.log2; rw [if_pos h]), rfl⟩
  · go_enter Try.func18, Try.ntmps18
    go_wp2
    go_loop [3, 4] (fun v p => ∃ k : Nat, k ≤ 62 ∧ v = .int .i64 k ∧ p = .int .i64 (2 ^ k) ∧ Hid (∀ j, j < k → (2 : Int) ^ j < n)) (fun v p => 62 - (intOf v).toNat)
    case atStart => exact ⟨0, by omega, rfl, rfl, fun j hj => by omega⟩
    case round =>
      obtain ⟨k, hk, rfl, rfl, hj⟩ := hrel
      have hp : (2 : Int) ^ (k + 1) = 2 ^ k * 2 := Int.pow_succ ..
      by_cases h7 : (2 : Int) ^ k < n
      · by_cases h6 : k < 62
        · have hw := Ws.pow_wrap (k + 1) (by omega)
          rw [hp] at hw
          have HP := Lib.hid hp
          have d1 : ((k : Int) + 1 == 63) = false := by simp; omega
          have w1 : wrap64 ((k : Int) + 1) = (k : Int) + 1 := by unfold wrap64; omega
          clear hp
          go_wp2
          go_round
          case rel => exact ⟨k + 1, by omega, by simp, by rw [HP.out, hw], fun j hj' => by
            by_cases e : j = k
            · rw [e]; exact h7
            · exact hj j (by omega)⟩
          case measure => simp [intOf]; omega
        · obtain rfl : k = 62 := by omega
          have HR := Lib.hid (Ws.log2_char n (by omega) hn.2 63 (fun j hj' => by
            by_cases e : j = 62
            · rw [e]; exact h7
            · exact hj j (by omega)) (Ws.le_pow63 hn.2))
          clear hp
          go_wp2
          go_ret
          exact ⟨ret_int HR.out.symm, rfl⟩
      · have HR := Lib.hid (Ws.log2_char n (by omega) hn.2 k hj (by omega))
        clear hp
        go_wp2
        go_ret
        exact ⟨ret_int HR.out.symm, rfl⟩
theorem ref_Slice_c (n k : Int) (hn : In64 n) (hk : Ws.log2 n = k) (w : World) : Calls Try.prog 18 #[.int .i64 n] w fun e w' => e = .returned (.int .i64 k) ∧ w = w' := by
  rw [← hk]; exact ref_Slice n hn w
set_option maxRecDepth 100000 in
set_option maxHeartbeats 1600000 in
theorem ref_Count_s (A : Option Addr) (b o c : Nat) (zs : List Int) (w : World) (hl : zs.length ≤ 17592186044416) (hz : ∀ x ∈ zs, In64 x)
    (hA : 0 < zs.length → A = some ⟨b, o, none⟩ ∧ b < w.heap.size ∧ ∀ j, j < zs.length → w.cell? ⟨b, o + j, none⟩ = some (.int .i64 (zs.getD j 0))) :
    Calls Try.prog 22 #[.slice A zs.length c] w fun e w' => ∃ v, e = .returned v ∧ w'.ownsRow w.heap.size 3 1 v 17 ((Cs.countL zs).map (Value.int .i64)) ∧ Below w.heap.size w w' := by
  obtain ⟨i0, hi, hz0, hz1, hz2⟩ := info_parts Try.infoInt
  have HA := Lib.hid hA
  have HZ := Lib.hid hz
  have hl63 : (zs.length : Int) ≤ 9223372036854775807 := by omega
  clear hA hz
  go_enter Try.func22, Try.ntmps22
  go_wp2_with (first | (refine wpList_make_full _ rfl _ _ 22 rfl w.heap.size 3 i0 (.int .i64 0) 1 Try.underlying22 hi hz0 hz1 .i64 .i64 17 17 17 rfl rfl rfl rfl (by omega) (by unfold maxLen; omega) (Nat.le_refl _) ?_; intro w1 hown1 hg1))
  have hB1 : Below w.heap.size w w1 := Below.grown (Below.refl _ _) hg1 (Nat.le_refl _) (fun q hq => by simp at hq)
  have hr1 : w1.ownsRow w.heap.size 3 1 (.slice (some ⟨w.heap.size, 0, none⟩) 17 17) 17 ((Cs.countL (zs.take 0)).map (Value.int .i64)) := by
    rw [List.take_zero, Cs.countL_nil]
    have e : (madeCells (Value.int IntKind.i64 0).cells (17 * 1)).toList = (List.replicate 17 (0 : Int)).map (Value.int .i64) := by kernel_rfl
    rw [e] at hown1; exact hown1
  clear hown1 hg1
  go_loopw [4] (fun i wr => ∃ j : Nat, j ≤ zs.length ∧ i = .int .i64 j ∧ wr.ownsRow w.heap.size 3 1 (.slice (some ⟨w.heap.size, 0, none⟩) 17 17) 17 ((Cs.countL (zs.take j)).map (Value.int .i64)) ∧ Below w.heap.size w wr) (fun i _ => zs.length - (intOf i).toNat)
  case atStart => exact ⟨0, Nat.zero_le _, rfl, hr1, hB1⟩
  case round =>
    clear hr1 hB1
    obtain ⟨j, hj, rfl, hown, hB⟩ := hrel
    by_cases hjl : j < zs.length
    · obtain ⟨rfl, hbl, hcell⟩ := HA.out (by omega)
      have cx := (hB.cell (p := ⟨b, o + j, none⟩) hbl).trans (hcell j hjl)
      clear hcell
      have hx : In64 (zs.getD j 0) := getD_in HZ.out hjl
      have HT := Lib.hid (take_succ_getD zs j hjl)
      generalize zs.getD j 0 = x at cx hx HT
      have dj : decide ((j : Int) < (zs.length : Int)) = true := by simp; omega
      by_cases hin : 1 ≤ x ∧ x ≤ 65536
      · obtain ⟨k, hk63, hk, -, -⟩ := Ws.log2_spec x hin.1 (by omega)
        have hk16 : k ≤ 16 := (Cs.log2_range x hin.1 (by omega) k hk).2 hin.2
        have d1 : decide (1 ≤ x) = true := by simpa using hin.1
        have d2 : decide (x ≤ 65536) = true := by simpa using hin.2
        have HK := Lib.hid hk
        have HI := Lib.hid hin
        clear hk hin
        obtain ⟨y, hy⟩ : ∃ y, (Cs.countL (zs.take j)).getD k 0 = y := ⟨_, rfl⟩
        have hyb : 0 ≤ y ∧ y ≤ zs.length := by
          rw [← hy, Cs.countL_get _ _ (by omega)]
          have h1 := Cs.cnt_nonneg (zs.take j) k
          have h2 := Cs.cnt_le (zs.take j) k
          have h3 : (zs.take j).length ≤ zs.length := by rw [List.length_take]; omega
          omega
        have cy : wr.cell? ⟨w.heap.size, k, none⟩ = some (.int .i64 y) := by
          rw [hown.cellAt k (by omega), List.getElem?_map]
          have : (Cs.countL (zs.take j))[k]? = some y := by
            rw [← hy, List.getD_eq_getElem?_getD, List.getElem?_eq_getElem (by rw [Cs.countL_length]; omega)]; rfl
          rw [this]; rfl
        have fy := hown.frozenAt k
        have HY := Lib.hid hy
        clear hy
        have hw : wrap64 (y + 1) = y + 1 := by unfold wrap64; omega
        have k17 : (k : Int) < 17 := by omega
        go_wp2_with (first | (go_at_call 18; (with_reducible refine (ref_Slice_c x k hx HK.out _).mono ?_); rintro e w' ⟨rfl, rfl⟩))
        obtain ⟨hst, hgr⟩ := hown.stored k (.int .i64 (y + 1))
        have hB2 := hB.grown hgr hB.size (fun q hq => by simp at hq; omega)
        rw [← List.map_set, ← HY.out, ← Cs.countL_in _ x HI.out k HK.out, ← HT.out] at hst
        go_roundw
        case rel => exact ⟨j + 1, by omega, by go_num, by rw [HY.out] at hst; exact hst, hB2⟩
        case measure => simp [intOf]; omega
      · have HI := Lib.hid hin
        have hT2 : Cs.countL (zs.take (j + 1)) = Cs.countL (zs.take j) := by rw [HT.out, Cs.countL_out _ x HI.out]
        have HT2 := Lib.hid hT2
        by_cases h1 : 1 ≤ x
        · have d1 : decide (1 ≤ x) = true := by simpa using h1
          have d2 : decide (x ≤ 65536) = false := by simp; omega
          clear hin hT2
          go_wp2
          go_roundw
          case rel => exact ⟨j + 1, by omega, by go_num, by rw [HT2.out]; exact hown, hB⟩
          case measure => simp [intOf]; omega
        · have d1 : decide (1 ≤ x) = false := by simpa using h1
          clear hin hT2
          go_wp2
          go_roundw
          case rel => exact ⟨j + 1, by omega, by go_num, by rw [HT2.out]; exact hown, hB⟩
          case measure => simp [intOf]; omega
    · obtain rfl : j = zs.length := by omega
      rw [List.take_length] at hown
      go_wp2
      go_ret
      exact ⟨_, rfl, hown, hB⟩
theorem ref_Count (sv : Value) (zs : List Int) (w : World) (hl : zs.length ≤ 17592186044416) (hz : ∀ x ∈ zs, In64 x) (h : IS w sv zs) :
    Calls Try.prog 22 #[sv] w fun e w' => ∃ v, e = .returned v ∧ w'.ownsRow w.heap.size 3 1 v 17 ((Cs.countL zs).map (Value.int .i64)) ∧ Below w.heap.size w w' := by
  obtain ⟨A, b, o, c, rfl, hc, hn, hf⟩ := h.form
  exact ref_Count_s A b o c zs w hl hz hf
end Go.Proofs.Ytfhigeefclchiaa
