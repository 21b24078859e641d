/- Contracts of the package words: Log2, Ceil2. -/
import Derived.Test.YteheolefemlcgaaGreatWords2
namespace Go.Proofs.YteheolefemlcgaaGreat
open Go.RowKit
set_option linter.unusedVariables false
set_option linter.unusedSimpArgs false

theorem words_Log2 (n : Int) (hn : In64 n) (w : World) : Calls Tryz.prog 108 #[.int .i64 n] w fun e w' => e = .returned (.int .i64 (Ws.log2 n)) ∧ w = w' := by
  unfold In64 at hn
  by_cases h : n < 1
  · go_enter Tryz.func108, Tryz.ntmps108
    go_wp2
    go_ret
    exact ⟨ret_int (by unfold Ws.log2; rw [if_pos h]), rfl⟩
  · have h2 : IntKind.u64.wrap (n - 1) = n - 1 := by rw [IntKind.wrap_u64]; omega
    go_enter Tryz.func108, Tryz.ntmps108
    go_wp2_with (go_at_call 117; refine (Tryz.bits_Len _ _ (by omega) (by omega)).mono ?_; rintro e w' ⟨rfl, rfl⟩)
    go_ret
    exact ⟨ret_int (by unfold Ws.log2; rw [if_neg (by omega)]; congr 2; omega), rfl⟩
theorem ref_Log2 (n : Int) (hn : In64 n) (w : World) : Calls Tryz.prog 110 #[.int .i64 n] w fun e w' => e = .returned (.int .i64 (Ws.log2 n)) ∧ w = w' := by
  unfold In64 at hn
  by_cases h : n < 1
  · go_enter Tryz.func110, Tryz.ntmps110
    go_wp2
    go_ret
    exact ⟨ret_int (by unfold Ws.log2; rw [if_pos h]), rfl⟩
  · go_enter Tryz.func110, Tryz.ntmps110
    go_wp2
    go_loop [3] (fun v => ∃ k : Nat, k ≤ 62 ∧ v = .int .i64 k ∧ Hid (∀ j, j < k → (2 : Int) ^ j < n)) (fun v => 62 - (intOf v).toNat)
    case atStart => exact ⟨0, by omega, rfl, fun j hj => by omega⟩
    case round =>
      obtain ⟨k, hk, rfl, hj⟩ := hrel
      have hw := Ws.pow_wrap k hk
      by_cases h6 : k < 62
      · by_cases h7 : (2 : Int) ^ k < n
        · go_wp2
          go_round
          case rel => exact ⟨k + 1, by omega, by go_num, fun j hj' => by
            by_cases e : j = k
            · rw [e]; exact h7
            · exact hj j (by omega)⟩
          case measure => simp [intOf]; omega
        · have HR := Lib.hid (Ws.log2_char n (by omega) hn.2 k hj (by omega))
          go_wp2
          go_ret
          exact ⟨ret_int HR.out.symm, rfl⟩
      · obtain rfl : k = 62 := by omega
        by_cases h7 : (2 : Int) ^ 62 < n
        · have HR := Lib.hid (Ws.log2_char n (by omega) hn.2 63 (fun j hj' => by
            by_cases e : j = 62
            · rw [e]; exact h7
            · exact hj j (by omega)) (Ws.le_pow63 hn.2))
          go_wp2
          go_ret
          exact ⟨ret_int HR.out.symm, rfl⟩
        · have HR := Lib.hid (Ws.log2_char n (by omega) hn.2 62 hj (by omega))
          go_wp2
          go_ret
          exact ⟨ret_int HR.out.symm, rfl⟩
theorem words_Log2_k (n : Int) (hn : In64 n) (k : Nat) (hk : Ws.log2 n = k) (w : World) : Calls Tryz.prog 108 #[.int .i64 n] w fun e w' => e = .returned (.int .i64 k) ∧ w = w' := by
  rw [← hk]; exact words_Log2 n hn w
theorem words_Ceil2 (n : Int) (hn : In64 n) (w : World) : Calls Tryz.prog 88 #[.int .i64 n] w fun e w' => e = .returned (.tuple #[.int .i64 (Ws.ceil2 n), .int .i64 (Ws.ceil2E n)]) ∧ w = w' := by
  have hn' := hn
  unfold In64 at hn'
  by_cases h1 : n < 0
  · go_enter Tryz.func88, Tryz.ntmps88
    go_wp2
    go_ret2
    exact ⟨ret_ints (by unfold Ws.ceil2; rw [if_pos (by omega)]) (by unfold Ws.ceil2E; rw [if_pos h1]), rfl⟩
  · by_cases h2 : 1073741824 < n
    · go_enter Tryz.func88, Tryz.ntmps88
      go_wp2
      go_ret2
      exact ⟨ret_ints (by unfold Ws.ceil2; rw [if_neg (by omega), if_pos (by omega)]) (by unfold Ws.ceil2E; rw [if_neg (by omega), if_pos (by omega)]), rfl⟩
    · by_cases h3 : n = 0
      · subst h3
        go_enter Tryz.func88, Tryz.ntmps88
        go_wp2
        go_ret2
        exact ⟨ret_ints (by decide) (by decide), rfl⟩
      · have h4 : (n == 0) = false := by simpa using h3
        obtain ⟨k, hk, hk2, hk3, hk4⟩ := Ws.log2_spec n (by omega) hn'.2
        have hk5 : k ≤ 62 := by
          apply Decidable.byContradiction
          intro h
          have := hk3 62 (by omega)
          have e : (2 : Int) ^ 62 = 4611686018427387904 := by decide
          omega
        have HK := Lib.hid hk2
        have hw := Ws.pow_wrap k hk5
        have HC := Lib.hid (show 2 ^ k = Ws.ceil2 n by unfold Ws.ceil2; rw [if_neg (by omega), if_neg h2, hk2]; rfl)
        have HE := Lib.hid (show 0 = Ws.ceil2E n by unfold Ws.ceil2E; rw [if_neg h1, if_neg h2])
        clear hk2 hk3 hk4
        go_enter Tryz.func88, Tryz.ntmps88
        go_wp2_with (go_at_call 108; refine (words_Log2_k n hn k HK.out _).mono ?_; rintro e w' ⟨rfl, rfl⟩)
        go_ret2
        exact ⟨ret_ints (hw.trans HC.out) HE.out, rfl⟩
theorem ref_Log2_k (n : Int) (hn : In64 n) (k : Nat) (hk : Ws.log2 n = k) (w : World) : Calls Tryz.prog 110 #[.int .i64 n] w fun e w' => e = .returned (.int .i64 k) ∧ w = w' := by
  rw [← hk]; exact ref_Log2 n hn w
theorem ref_Ceil2 (n : Int) (hn : In64 n) (w : World) : Calls Tryz.prog 91 #[.int .i64 n] w fun e w' => e = .returned (.tuple #[.int .i64 (Ws.ceil2 n), .int .i64 (Ws.ceil2E n)]) ∧ w = w' := by
  have hn' := hn
  unfold In64 at hn'
  by_cases h1 : n < 0
  · go_enter Tryz.func91, Tryz.ntmps91
    go_wp2
    go_ret2
    exact ⟨ret_ints (by unfold Ws.ceil2; rw [if_pos (by omega)]) (by unfold Ws.ceil2E; rw [if_pos h1]), rfl⟩
  · by_cases h2 : 1073741824 < n
    · go_enter Tryz.func91, Tryz.ntmps91
      go_wp2
      go_ret2
      exact ⟨ret_ints (by unfold Ws.ceil2; rw [if_neg (by omega), if_pos (by omega)]) (by unfold Ws.ceil2E; rw [if_neg (by omega), if_pos (by omega)]), rfl⟩
    · by_cases h3 : n = 0
      · subst h3
        go_enter Tryz.func91, Tryz.ntmps91
        go_wp2
        go_ret2
        exact ⟨ret_ints (by decide) (by decide), rfl⟩
      · have h4 : (n == 0) = false := by simpa using h3
        obtain ⟨k, hk, hk2, hk3, hk4⟩ := Ws.log2_spec n (by omega) hn'.2
        have hk5 : k ≤ 62 := by
          apply Decidable.byContradiction
          intro h
          have := hk3 62 (by omega)
          have e : (2 : Int) ^ 62 = 4611686018427387904 := by decide
          omega
        have HK := Lib.hid hk2
        have hw := Ws.pow_wrap k hk5
        have HC := Lib.hid (show 2 ^ k = Ws.ceil2 n by unfold Ws.ceil2; rw [if_neg (by omega), if_neg h2, hk2]; rfl)
        have HE := Lib.hid (show 0 = Ws.ceil2E n by unfold Ws.ceil2E; rw [if_neg h1, if_neg h2])
        clear hk2 hk3 hk4
        go_enter Tryz.func91, Tryz.ntmps91
        go_wp2_with (go_at_call 110; refine (ref_Log2_k n hn k HK.out _).mono ?_; rintro e w' ⟨rfl, rfl⟩)
        go_ret2
        exact ⟨ret_ints (hw.trans HC.out) HE.out, rfl⟩
end Go.Proofs.YteheolefemlcgaaGreat
