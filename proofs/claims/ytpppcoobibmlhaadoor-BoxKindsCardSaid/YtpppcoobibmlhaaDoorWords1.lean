/- Contracts of the package words: its sums, and what the reference says of the same. -/
import Derived.Test.YtpppcoobibmlhaaDoorBase
import Derived.Test.YtpppcoobibmlhaaDoorPlain
namespace Go.Proofs.YtpppcoobibmlhaaDoor
open Go.RowKit
set_option linter.unusedVariables false
set_option linter.unusedSimpArgs false

theorem words_Add (a b : Int) (w : World) : Calls Tryd.prog 25 #[.int .i64 a, .int .i64 b] w fun e w' => e = .returned (.int .i64 (wrap64 (a + b))) ∧ w = w' := by
  go_enter Tryd.func25, Tryd.ntmps25
  go_wp2
  go_ret
  exact ⟨rfl, rfl⟩
theorem words_Sub (a b : Int) (w : World) : Calls Tryd.prog 34 #[.int .i64 a, .int .i64 b] w fun e w' => e = .returned (.int .i64 (wrap64 (a - b))) ∧ w = w' := by
  go_enter Tryd.func34, Tryd.ntmps34
  go_wp2
  go_ret
  exact ⟨rfl, rfl⟩
theorem words_Mul (a b : Int) (w : World) : Calls Tryd.prog 35 #[.int .i64 a, .int .i64 b] w fun e w' => e = .returned (.int .i64 (wrap64 (a * b))) ∧ w = w' := by
  go_enter Tryd.func35, Tryd.ntmps35
  go_wp2
  go_ret
  exact ⟨rfl, rfl⟩
theorem words_Neg (a : Int) (w : World) : Calls Tryd.prog 24 #[.int .i64 a] w fun e w' => e = .returned (.int .i64 (wrap64 (-a))) ∧ w = w' := by
  go_enter Tryd.func24, Tryd.ntmps24
  go_wp2
  go_ret
  exact ⟨rfl, rfl⟩
theorem words_Div (a b : Int) (w : World) : Calls Tryd.prog 32 #[.int .i64 a, .int .i64 b] w fun e w' => e = .returned (.tuple #[.int .i64 (Ws.divQ a b), .int .i64 (Ws.divE b)]) ∧ w = w' := by
  by_cases h0 : b = 0
  · subst h0
    go_enter Tryd.func32, Tryd.ntmps32
    go_wp2
    go_ret2
    exact ⟨rfl, rfl⟩
  · by_cases h1 : b = -1
    · subst h1
      go_enter Tryd.func32, Tryd.ntmps32
      go_wp2
      go_ret2
      exact ⟨by simp [Ws.divQ, Ws.divE, Int.fdiv_neg, Int.fdiv_one], rfl⟩
    · have hq := Ws.divQ_of a b h0
      go_enter Tryd.func32, Tryd.ntmps32
      go_wp2
      all_goals go_ret2
      · exact ⟨ret_ints (by rw [hq, if_neg (by simp_all)]) (by simp [Ws.divE, h0]), rfl⟩
      · exact ⟨ret_ints (by rw [hq, if_pos (by simp_all)]) (by simp [Ws.divE, h0]), rfl⟩
      · exact ⟨ret_ints (by rw [hq, if_neg (by simp_all)]) (by simp [Ws.divE, h0]), rfl⟩
theorem ref_Div (a b : Int) (ha : In64 a) (w : World) : Calls Tryd.prog 33 #[.int .i64 a, .int .i64 b] w fun e w' => e = .returned (.tuple #[.int .i64 (Ws.divQ a b), .int .i64 (Ws.divE b)]) ∧ w = w' := by
  by_cases h0 : b = 0
  · subst h0
    go_enter Tryd.func33, Tryd.ntmps33
    go_wp2
    go_ret2
    exact ⟨rfl, rfl⟩
  · obtain ⟨ta, h2⟩ : ∃ t, (a == -9223372036854775808) = t := ⟨_, rfl⟩
    obtain ⟨tb, h3⟩ : ∃ t, (b == -1) = t := ⟨_, rfl⟩
    obtain ⟨tc, h5⟩ : ∃ t, (wrap64 (wrap64 (a.tdiv b) * b) != a) = t := ⟨_, rfl⟩
    have h4 : (b == 0) = false := by simp [h0]
    have HE := Lib.hid (show 0 = Ws.divE b by simp [Ws.divE, h0])
    have H2 := Lib.hid h2; have H3 := Lib.hid h3; have H5 := Lib.hid h5; have HA := Lib.hid ha
    have HM : ta = true → tb = true → Ws.divQ a b = -9223372036854775808 := by
      rw [← h2, ← h3]; intro e1 e2; simp at e1 e2; rw [e1, e2]; exact Ws.divQ_min
    have HN : ¬ (ta = true ∧ tb = true) → Ws.divQ a b = if tc = true ∧ (!decide (a < 0) == decide (b < 0)) = true then wrap64 (wrap64 (a.tdiv b) - 1) else wrap64 (a.tdiv b) := by
      rw [← h2, ← h3, ← h5]
      intro h
      have h := Ws.tdiv_mul a b h0 ha (by simpa using h)
      rw [Ws.divQ_of a b h0, h]
      have e : (a - a.tmod b != a) = true ↔ a.tmod b ≠ 0 := by simp; omega
      simp only [e]
      by_cases h1 : a < 0 <;> by_cases h2 : b < 0 <;> simp [h1, h2]
    replace HM := Lib.hid HM; replace HN := Lib.hid HN
    go_enter Tryd.func33, Tryd.ntmps33
    go_wp2
    all_goals first | (exact absurd ‹b = 0› h0) | skip
    all_goals go_ret2
    all_goals first
      | exact ⟨ret_ints (HM.out ‹_› ‹_›).symm HE.out, rfl⟩
      | (refine ⟨ret_ints ?_ HE.out, rfl⟩
         clear h2 h3 h5 H2 H3 H5 h4 HA HM
         rw [HN.out (by simp_all)]
         clear HN
         split <;> simp_all)
theorem words_Mod (a b : Int) (ha : In64 a) (hb : In64 b) (w : World) : Calls Tryd.prog 37 #[.int .i64 a, .int .i64 b] w fun e w' => e = .returned (.tuple #[.int .i64 (Ws.modR a b), .int .i64 (Ws.divE b)]) ∧ w = w' := by
  by_cases h0 : b = 0
  · subst h0
    have hE : Ws.divE 0 = 7 := rfl
    go_enter Tryd.func37, Tryd.ntmps37
    go_wp2_with (go_at_call 32; refine (words_Div _ _ _).mono ?_; rintro e w' ⟨rfl, rfl⟩)
    go_ret2
    exact ⟨ret_ints (by simp [Ws.modR]) (by simp [Ws.divE]), rfl⟩
  · have hE : Ws.divE b = 0 := by simp [Ws.divE, h0]
    go_enter Tryd.func37, Tryd.ntmps37
    go_wp2_with (go_at_call 32; refine (words_Div _ _ _).mono ?_; rintro e w' ⟨rfl, rfl⟩)
    go_ret2
    exact ⟨ret_ints (Ws.modR_of a b h0 ha hb) hE.symm, rfl⟩
theorem ref_Mod (a b : Int) (ha : In64 a) (hb : In64 b) (w : World) : Calls Tryd.prog 38 #[.int .i64 a, .int .i64 b] w fun e w' => e = .returned (.tuple #[.int .i64 (Ws.modR a b), .int .i64 (Ws.divE b)]) ∧ w = w' := by
  by_cases h0 : b = 0
  · subst h0
    go_enter Tryd.func38, Tryd.ntmps38
    go_wp2
    go_ret2
    exact ⟨ret_ints (by simp [Ws.modR]) (by simp [Ws.divE]), rfl⟩
  · by_cases h1 : b = -1
    · have h3 : (b == -1) = true := by simpa using h1
      have h4 : (b == 0) = false := by simp [h0]
      have HE := Lib.hid (show 0 = Ws.divE b by simp [Ws.divE, h0])
      have HR := Lib.hid (show 0 = Ws.modR a b by rw [h1]; unfold Ws.modR; rw [if_neg (by decide)]; have := Int.fmod_neg_one a; omega)
      clear h1 h0
      go_enter Tryd.func38, Tryd.ntmps38
      go_wp2
      go_ret2
      exact ⟨ret_ints HR.out HE.out, rfl⟩
    · have HE := Lib.hid (show 0 = Ws.divE b by simp [Ws.divE, h0])
      have HR := Lib.hid (Ws.modR_eq a b h0 ha hb)
      have h3 : (b == -1) = false := by simpa using h1
      go_enter Tryd.func38, Tryd.ntmps38
      go_wp2
      all_goals first | (exact absurd ‹b = 0› h0) | skip
      all_goals go_ret2
      all_goals first
        | (refine ⟨ret_ints ?_ HE.out, rfl⟩
           rw [HR.out]
           clear HR HE h3
           split <;> first | rfl | omega)
end Go.Proofs.YtpppcoobibmlhaaDoor
