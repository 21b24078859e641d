/- Contracts of the package words: Log2, Ceil2. -/
import Derived.Test.YtfhigeefclchiaaWords2
namespace Go.Proofs.Ytfhigeefclchiaa
open Go.RowKit
set_option linter.unusedVariables false
set_option linter.unusedSimpArgs false

theorem words_Log2 (n : Int) (hn : In64 n) (w : World) : Calls Try.prog 47 #[.int .i64 n] w fun e w' => e = .returned (.int .i64 (Ws.log2 n)) ∧ w = w' := by
  unfold In64 at hn
  by_cases h : n < 1
  · go_enter Try.func47, Try.ntmps47
    go_wp2
    go_ret
    exact ⟨ret_int (by unfold Ws.log2; rw [if_pos h]), rfl⟩
  · have h2 : IntKind.u64.wrap (n - 1) = n - 1 := by rw [IntKind.wrap_u64]; omega
    go_enter Try.func47, Try.ntmps47
    go_wp2_with (go_at_call 60; refine (Try.bits_Len _ _ (by omega) (by omega)).mono ?_; rintro e w' ⟨rfl, rfl⟩)
    go_ret
    exact ⟨ret_int (by unfold Ws.log2; rw [if_neg (by omega)]; congr 2; omega), rfl⟩
theorem words_Log2_k (n : Int) (hn : In64 n) (k : Nat) (hk : Ws.log2 n = k) (w : World) : Calls Try.prog 47 #[.int .i64 n] w fun e w' => e = .returned (.int .i64 k) ∧ w = w' := by
  rw [← hk]; exact words_Log2 n hn w
theorem words_Ceil2 (n : Int) (hn : In64 n) (w : World) : Calls Try.prog 54 #[.int .i64 n] w fun e w' => e = .returned (.tuple #[.int .i64 (Ws.ceil2 n), .int .i64 (Ws.ceil2E n)]) ∧ w = w' := by
  have hn' := hn
  unfold In64 at hn'
  by_cases h1 : n < 0
  · go_enter Try.func54, Try.ntmps54
    go_wp2
    go_ret2
    exact ⟨ret_ints (by unfold Ws.ceil2; rw [if_pos (by omega)]) (by unfold Ws.ceil2E; rw [if_pos h1]), rfl⟩
  · by_cases h2 : 1073741824 < n
    · go_enter Try.func54, Try.ntmps54
      go_wp2
      go_ret2
      exact ⟨ret_ints (by unfold Ws.ceil2; rw [if_neg (by omega), if_pos (by omega)]) (by unfold Ws.ceil2E; rw [if_neg (by omega), if_pos (by omega)]), rfl⟩
    · by_cases h3 : n = 0
      · subst h3
        go_enter Try.func54, Try.ntmps54
        go_wp2
        go_ret2
        exact ⟨ret_ints (by decide) (by decide), rfl⟩
      · have h4 : (n == 0) = false := by simpa using h3
        obtain ⟨k, hk, hk2, hk3, hk4⟩ := Ws.log2_spec n (by omega) hn'.2
        have hk5 : k ≤ 62 := by
          apply Decidable.byContradiction
          intro h
          have := hk3 62 (by omega)
          have e : (2 : Int) ^ 62 = 4611686018427387904 := by decide
          omega
        have HK := Lib.hid hk2
        have hw := Ws.pow_wrap k hk5
        have HC := Lib.hid (show 2 ^ k = Ws.ceil2 n by unfold Ws.ceil2; rw [if_neg (by omega), if_neg h2, hk2]; rfl)
        have HE := Lib.hid (show 0 = Ws.ceil2E n by unfold Ws.ceil2E; rw [if_neg h1, if_neg h2])
        clear hk2 hk3 hk4
        go_enter Try.func54, Try.ntmps54
        go_wp2_with (go_at_call 47; refine (words_Log2_k n hn k HK.out _).mono ?_; rintro e w' ⟨rfl, rfl⟩)
        go_ret2
        exact ⟨ret_ints (hw.trans HC.out) HE.out, rfl⟩
end Go.Proofs.Ytfhigeefclchiaa
