/- Contracts of the package words: powers, turns; the reference's product. -/
import Derived.Test.YtpppcoobibmlhaaDoorWords1
namespace Go.Proofs.YtpppcoobibmlhaaDoor
open Go.RowKit
set_option linter.unusedVariables false
set_option linter.unusedSimpArgs false

theorem ref_Mul (a b : Int) (w : World) : Calls Tryd.prog 36 #[.int .i64 a, .int .i64 b] w fun e w' => e = .returned (.int .i64 (wrap64 (a * b))) ∧ w = w' := by
  go_enter Tryd.func36, Tryd.ntmps36
  go_wp2
  go_ret
  exact ⟨ret_int (Ws.mul_halves a b), rfl⟩
theorem ret_turns {a b e f : Int} {c d : Bool} (h : a = b) (h2 : c = d) (h3 : e = f) : Ending.returned (.tuple #[.int .u64 a, .bool c, .int .i64 e]) = .returned (.tuple #[.int .u64 b, .bool d, .int .i64 f]) := by rw [h, h2, h3]
theorem words_Turns (a b s : Int) (ha : In64 a) (hb : In64 b) (hs : In64 s) (w : World) : Calls Tryd.prog 43 #[.int .i64 a, .int .i64 b, .int .i64 s] w fun e w' =>
    e = .returned (.tuple #[.int .u64 (Ws.turnsN a b s), .bool (Ws.turnsOk a b s), .int .i64 (Ws.turnsE s)]) ∧ w = w' := by
  by_cases h : s = 0
  · subst h
    go_enter Tryd.func43, Tryd.ntmps43
    go_wp2
    go_ret3
    exact ⟨ret_turns (by simp [Ws.turnsN, Ws.turnsOk]) (by simp [Ws.turnsOk]) (by simp [Ws.turnsE]), rfl⟩
  · have h0 : (s == 0) = false := by simpa using h
    unfold In64 at ha hb hs
    by_cases h1 : 0 < s
    · have d1 : decide (0 < s) = true := by simpa using h1
      have d2 : decide (s < 0) = false := by simp; omega
      by_cases h3 : b < a
      · have d3 : decide (b < a) = true := by simpa using h3
        go_enter Tryd.func43, Tryd.ntmps43
        go_wp2
        all_goals first | (exfalso; simp only [IntKind.wrap_u64, wrap64] at *; omega) | skip
        all_goals go_ret3
        refine ⟨ret_turns ?_ ?_ ?_, rfl⟩
        all_goals first
          | (clear d1 d2 d3 h0; simp [Ws.turnsE, h]; done)
          | (clear d1 d2 d3 h0; unfold Ws.turnsOk; (first | (rw [decide_eq_true (by omega)]) | rw [decide_eq_false (by omega)]); done)
          | (clear d1 d2 d3 h0; unfold Ws.turnsN Ws.turnsOk; rw [decide_eq_false (by omega)]; rfl)
          | (clear d1 d2 d3 h0; unfold Ws.turnsN Ws.turnsOk; rw [decide_eq_true (by omega), if_pos rfl]; first | rw [if_pos (by omega)] | rw [if_neg (by omega)]
             refine Ws.div_form ?_ ?_ ?_ ?_ ?_ <;> (try simp only [IntKind.wrap_u64, wrap64]) <;> omega)
      · have d3 : decide (b < a) = false := by simpa using h3
        go_enter Tryd.func43, Tryd.ntmps43
        go_wp2
        all_goals first | (exfalso; simp only [IntKind.wrap_u64, wrap64] at *; omega) | skip
        all_goals go_ret3
        refine ⟨ret_turns ?_ ?_ ?_, rfl⟩
        all_goals first
          | (clear d1 d2 d3 h0; simp [Ws.turnsE, h]; done)
          | (clear d1 d2 d3 h0; unfold Ws.turnsOk; (first | (rw [decide_eq_true (by omega)]) | rw [decide_eq_false (by omega)]); done)
          | (clear d1 d2 d3 h0; unfold Ws.turnsN Ws.turnsOk; rw [decide_eq_false (by omega)]; rfl)
          | (clear d1 d2 d3 h0; unfold Ws.turnsN Ws.turnsOk; rw [decide_eq_true (by omega), if_pos rfl]; first | rw [if_pos (by omega)] | rw [if_neg (by omega)]
             refine Ws.div_form ?_ ?_ ?_ ?_ ?_ <;> (try simp only [IntKind.wrap_u64, wrap64]) <;> omega)
    · have d1 : decide (0 < s) = false := by simpa using h1
      have d2 : decide (s < 0) = true := by simp; omega
      by_cases h3 : a < b
      · have d3 : decide (a < b) = true := by simpa using h3
        go_enter Tryd.func43, Tryd.ntmps43
        go_wp2
        all_goals first | (exfalso; simp only [IntKind.wrap_u64, wrap64] at *; omega) | skip
        all_goals go_ret3
        refine ⟨ret_turns ?_ ?_ ?_, rfl⟩
        all_goals first
          | (clear d1 d2 d3 h0; simp [Ws.turnsE, h]; done)
          | (clear d1 d2 d3 h0; unfold Ws.turnsOk; (first | (rw [decide_eq_true (by omega)]) | rw [decide_eq_false (by omega)]); done)
          | (clear d1 d2 d3 h0; unfold Ws.turnsN Ws.turnsOk; rw [decide_eq_false (by omega)]; rfl)
          | (clear d1 d2 d3 h0; unfold Ws.turnsN Ws.turnsOk; rw [decide_eq_true (by omega), if_pos rfl]; first | rw [if_pos (by omega)] | rw [if_neg (by omega)]
             refine Ws.div_form ?_ ?_ ?_ ?_ ?_ <;> (try simp only [IntKind.wrap_u64, wrap64]) <;> omega)
      · have d3 : decide (a < b) = false := by simpa using h3
        go_enter Tryd.func43, Tryd.ntmps43
        go_wp2
        all_goals first | (exfalso; simp only [IntKind.wrap_u64, wrap64] at *; omega) | skip
        all_goals go_ret3
        refine ⟨ret_turns ?_ ?_ ?_, rfl⟩
        all_goals first
          | (clear d1 d2 d3 h0; simp [Ws.turnsE, h]; done)
          | (clear d1 d2 d3 h0; unfold Ws.turnsOk; (first | (rw [decide_eq_true (by omega)]) | rw [decide_eq_false (by omega)]); done)
          | (clear d1 d2 d3 h0; unfold Ws.turnsN Ws.turnsOk; rw [decide_eq_false (by omega)]; rfl)
          | (clear d1 d2 d3 h0; unfold Ws.turnsN Ws.turnsOk; rw [decide_eq_true (by omega), if_pos rfl]; first | rw [if_pos (by omega)] | rw [if_neg (by omega)]
             refine Ws.div_form ?_ ?_ ?_ ?_ ?_ <;> (try simp only [IntKind.wrap_u64, wrap64]) <;> omega)
theorem ref_Turns (a b s : Int) (ha : In64 a) (hb : In64 b) (hs : In64 s) (w : World) : Calls Tryd.prog 44 #[.int .i64 a, .int .i64 b, .int .i64 s] w fun e w' =>
    e = .returned (.tuple #[.int .u64 (Ws.turnsN a b s), .bool (Ws.turnsOk a b s), .int .i64 (Ws.turnsE s)]) ∧ w = w' := by
  by_cases h : s = 0
  · subst h
    go_enter Tryd.func44, Tryd.ntmps44
    go_wp2
    go_ret3
    exact ⟨ret_turns (by simp [Ws.turnsN, Ws.turnsOk]) (by simp [Ws.turnsOk]) (by simp [Ws.turnsE]), rfl⟩
  · have h0 : (s == 0) = false := by simpa using h
    unfold In64 at ha hb hs
    by_cases h1 : 0 < s
    · have d1 : decide (0 < s) = true := by simpa using h1
      have d2 : decide (s < 0) = false := by simp; omega
      by_cases h3 : b < a
      · have d3 : decide (b < a) = true := by simpa using h3
        go_enter Tryd.func44, Tryd.ntmps44
        go_wp2
        all_goals first | (exfalso; simp only [IntKind.wrap_u64, wrap64] at *; omega) | skip
        all_goals go_ret3
        refine ⟨ret_turns ?_ ?_ ?_, rfl⟩
        all_goals first
          | (clear d1 d2 d3 h0; simp [Ws.turnsE, h]; done)
          | (clear d1 d2 d3 h0; unfold Ws.turnsOk; (first | (rw [decide_eq_true (by omega)]) | rw [decide_eq_false (by omega)]); done)
          | (clear d1 d2 d3 h0; unfold Ws.turnsN Ws.turnsOk; rw [decide_eq_false (by omega)]; rfl)
          | (clear d1 d2 d3 h0; unfold Ws.turnsN Ws.turnsOk; rw [decide_eq_true (by omega), if_pos rfl]; first | rw [if_pos (by omega)] | rw [if_neg (by omega)]
             refine Ws.div_form ?_ ?_ ?_ ?_ ?_ <;> (try simp only [IntKind.wrap_u64, wrap64]) <;> omega)
      · have d3 : decide (b < a) = false := by simpa using h3
        go_enter Tryd.func44, Tryd.ntmps44
        go_wp2
        all_goals first | (exfalso; simp only [IntKind.wrap_u64, wrap64] at *; omega) | skip
        all_goals go_ret3
        refine ⟨ret_turns ?_ ?_ ?_, rfl⟩
        all_goals first
          | (clear d1 d2 d3 h0; simp [Ws.turnsE, h]; done)
          | (clear d1 d2 d3 h0; unfold Ws.turnsOk; (first | (rw [decide_eq_true (by omega)]) | rw [decide_eq_false (by omega)]); done)
          | (clear d1 d2 d3 h0; unfold Ws.turnsN Ws.turnsOk; rw [decide_eq_false (by omega)]; rfl)
          | (clear d1 d2 d3 h0; unfold Ws.turnsN Ws.turnsOk; rw [decide_eq_true (by omega), if_pos rfl]; first | rw [if_pos (by omega)] | rw [if_neg (by omega)]
             refine Ws.div_form ?_ ?_ ?_ ?_ ?_ <;> (try simp only [IntKind.wrap_u64, wrap64]) <;> omega)
    · have d1 : decide (0 < s) = false := by simpa using h1
      have d2 : decide (s < 0) = true := by simp; omega
      by_cases h3 : a < b
      · have d3 : decide (a < b) = true := by simpa using h3
        go_enter Tryd.func44, Tryd.ntmps44
        go_wp2
        all_goals first | (exfalso; simp only [IntKind.wrap_u64, wrap64] at *; omega) | skip
        all_goals go_ret3
        refine ⟨ret_turns ?_ ?_ ?_, rfl⟩
        all_goals first
          | (clear d1 d2 d3 h0; simp [Ws.turnsE, h]; done)
          | (clear d1 d2 d3 h0; unfold Ws.turnsOk; (first | (rw [decide_eq_true (by omega)]) | rw [decide_eq_false (by omega)]); done)
          | (clear d1 d2 d3 h0; unfold Ws.turnsN Ws.turnsOk; rw [decide_eq_false (by omega)]; rfl)
          | (clear d1 d2 d3 h0; unfold Ws.turnsN Ws.turnsOk; rw [decide_eq_true (by omega), if_pos rfl]; first | rw [if_pos (by omega)] | rw [if_neg (by omega)]
             refine Ws.div_form ?_ ?_ ?_ ?_ ?_ <;> (try simp only [IntKind.wrap_u64, wrap64]) <;> omega)
      · have d3 : decide (a < b) = false := by simpa using h3
        go_enter Tryd.func44, Tryd.ntmps44
        go_wp2
        all_goals first | (exfalso; simp only [IntKind.wrap_u64, wrap64] at *; omega) | skip
        all_goals go_ret3
        refine ⟨ret_turns ?_ ?_ ?_, rfl⟩
        all_goals first
          | (clear d1 d2 d3 h0; simp [Ws.turnsE, h]; done)
          | (clear d1 d2 d3 h0; unfold Ws.turnsOk; (first | (rw [decide_eq_true (by omega)]) | rw [decide_eq_false (by omega)]); done)
          | (clear d1 d2 d3 h0; unfold Ws.turnsN Ws.turnsOk; rw [decide_eq_false (by omega)]; rfl)
          | (clear d1 d2 d3 h0; unfold Ws.turnsN Ws.turnsOk; rw [decide_eq_true (by omega), if_pos rfl]; first | rw [if_pos (by omega)] | rw [if_neg (by omega)]
             refine Ws.div_form ?_ ?_ ?_ ?_ ?_ <;> (try simp only [IntKind.wrap_u64, wrap64]) <;> omega)
end Go.Proofs.YtpppcoobibmlhaaDoor
