/- Check of the reference, and a table's Dump. -/
import Derived.Test.YteheolefemlcgaaGreatTabV
namespace Go.Proofs.YteheolefemlcgaaGreat
open Go.RowKit
set_option linter.unusedVariables false
set_option linter.unusedSimpArgs false
theorem ef_true {v : V} (h : okV v = true) : 0 = errForm (okV v) := by rw [h]; rfl
theorem ef_false {v : V} (h : okV v = false) : 2 = errForm (okV v) := by rw [h]; rfl
theorem okV_0 (n : Int) (s : ByteArray) : okV ⟨0, n, s⟩ = (n == 0 && s.toList.isEmpty) := rfl
theorem okV_1 (n : Int) (s : ByteArray) : okV ⟨1, n, s⟩ = ((n == 0 || n == 1) && s.toList.isEmpty) := rfl
theorem okV_2 (n : Int) (s : ByteArray) : okV ⟨2, n, s⟩ = s.toList.isEmpty := rfl
theorem okV_3 (n : Int) (s : ByteArray) : okV ⟨3, n, s⟩ = (n == 0 && decide ((s.size : Int) ≤ 10000)) := rfl
theorem okV_4 (n : Int) (s : ByteArray) : okV ⟨4, n, s⟩ = (decide (1 ≤ n) && s.toList.isEmpty) := rfl
theorem okV_5 (n : Int) (s : ByteArray) : okV ⟨5, n, s⟩ = (decide (1 ≤ n) && s.toList.isEmpty) := rfl
theorem okV_6 (n : Int) (s : ByteArray) : okV ⟨6, n, s⟩ = (decide (1 ≤ n) && s.toList.isEmpty) := rfl
set_option maxRecDepth 100000 in
theorem ref_Check_0 (n : Int) (s : ByteArray) (w : World) : Calls Tryz.prog 32 #[.agg #[.int .i64 0, .int .i64 n, .string s]] w fun e w' => e = .returned (.int .i64 (errForm (okV ⟨0, n, s⟩))) ∧ Below w.heap.size w w' := by
  have hu := Tryz.underlying35
  go_enter Tryz.func32, Tryz.ntmps32
  go_wp2
  all_goals go_ret
  all_goals refine ⟨ret_int ?_, (by repeat (first | exact Below.refl _ _ | assumption | refine below_drewN ?_ _ | refine Below.drew ?_ | refine Below.alloc ?_ (by first | exact Nat.le_refl _ | (simp; omega) | omega | simp) _ | refine Below.setCell ?_ (by first | exact Nat.le_refl _ | (simp; omega) | simp | omega) _))⟩
  all_goals clear hu
  all_goals obtain ⟨u, hu⟩ : ∃ u, s.toList.isEmpty = u := ⟨_, rfl⟩
  all_goals first | (refine ef_true ?_; rw [okV_0]) | (refine ef_false ?_; rw [okV_0])
  all_goals simp_all
  all_goals (first | omega | (intros; omega))
set_option maxRecDepth 100000 in
theorem ref_Check_1 (n : Int) (s : ByteArray) (w : World) : Calls Tryz.prog 32 #[.agg #[.int .i64 1, .int .i64 n, .string s]] w fun e w' => e = .returned (.int .i64 (errForm (okV ⟨1, n, s⟩))) ∧ Below w.heap.size w w' := by
  have hu := Tryz.underlying35
  go_enter Tryz.func32, Tryz.ntmps32
  go_wp2
  all_goals go_ret
  all_goals refine ⟨ret_int ?_, (by repeat (first | exact Below.refl _ _ | assumption | refine below_drewN ?_ _ | refine Below.drew ?_ | refine Below.alloc ?_ (by first | exact Nat.le_refl _ | (simp; omega) | omega | simp) _ | refine Below.setCell ?_ (by first | exact Nat.le_refl _ | (simp; omega) | simp | omega) _))⟩
  all_goals clear hu
  all_goals obtain ⟨u, hu⟩ : ∃ u, s.toList.isEmpty = u := ⟨_, rfl⟩
  all_goals first | (refine ef_true ?_; rw [okV_1]) | (refine ef_false ?_; rw [okV_1])
  all_goals simp_all
  all_goals (first | omega | (intros; omega))
set_option maxRecDepth 100000 in
theorem ref_Check_2 (n : Int) (s : ByteArray) (w : World) : Calls Tryz.prog 32 #[.agg #[.int .i64 2, .int .i64 n, .string s]] w fun e w' => e = .returned (.int .i64 (errForm (okV ⟨2, n, s⟩))) ∧ Below w.heap.size w w' := by
  have hu := Tryz.underlying35
  go_enter Tryz.func32, Tryz.ntmps32
  go_wp2
  all_goals go_ret
  all_goals refine ⟨ret_int ?_, (by repeat (first | exact Below.refl _ _ | assumption | refine below_drewN ?_ _ | refine Below.drew ?_ | refine Below.alloc ?_ (by first | exact Nat.le_refl _ | (simp; omega) | omega | simp) _ | refine Below.setCell ?_ (by first | exact Nat.le_refl _ | (simp; omega) | simp | omega) _))⟩
  all_goals clear hu
  all_goals obtain ⟨u, hu⟩ : ∃ u, s.toList.isEmpty = u := ⟨_, rfl⟩
  all_goals first | (refine ef_true ?_; rw [okV_2]) | (refine ef_false ?_; rw [okV_2])
  all_goals simp_all
  all_goals (first | omega | (intros; omega))
set_option maxRecDepth 100000 in
theorem ref_Check_3 (n : Int) (s : ByteArray) (w : World) : Calls Tryz.prog 32 #[.agg #[.int .i64 3, .int .i64 n, .string s]] w fun e w' => e = .returned (.int .i64 (errForm (okV ⟨3, n, s⟩))) ∧ Below w.heap.size w w' := by
  have hu := Tryz.underlying35
  go_enter Tryz.func32, Tryz.ntmps32
  go_wp2
  all_goals go_ret
  all_goals refine ⟨ret_int ?_, (by repeat (first | exact Below.refl _ _ | assumption | refine below_drewN ?_ _ | refine Below.drew ?_ | refine Below.alloc ?_ (by first | exact Nat.le_refl _ | (simp; omega) | omega | simp) _ | refine Below.setCell ?_ (by first | exact Nat.le_refl _ | (simp; omega) | simp | omega) _))⟩
  all_goals clear hu
  all_goals obtain ⟨u, hu⟩ : ∃ u, s.toList.isEmpty = u := ⟨_, rfl⟩
  all_goals first | (refine ef_true ?_; rw [okV_3]) | (refine ef_false ?_; rw [okV_3])
  all_goals simp_all
  all_goals (first | omega | (intros; omega))
set_option maxRecDepth 100000 in
theorem ref_Check_4 (n : Int) (s : ByteArray) (w : World) : Calls Tryz.prog 32 #[.agg #[.int .i64 4, .int .i64 n, .string s]] w fun e w' => e = .returned (.int .i64 (errForm (okV ⟨4, n, s⟩))) ∧ Below w.heap.size w w' := by
  have hu := Tryz.underlying35
  go_enter Tryz.func32, Tryz.ntmps32
  go_wp2
  all_goals go_ret
  all_goals refine ⟨ret_int ?_, (by repeat (first | exact Below.refl _ _ | assumption | refine below_drewN ?_ _ | refine Below.drew ?_ | refine Below.alloc ?_ (by first | exact Nat.le_refl _ | (simp; omega) | omega | simp) _ | refine Below.setCell ?_ (by first | exact Nat.le_refl _ | (simp; omega) | simp | omega) _))⟩
  all_goals clear hu
  all_goals obtain ⟨u, hu⟩ : ∃ u, s.toList.isEmpty = u := ⟨_, rfl⟩
  all_goals first | (refine ef_true ?_; rw [okV_4]) | (refine ef_false ?_; rw [okV_4])
  all_goals simp_all
  all_goals (first | omega | (intros; omega))
set_option maxRecDepth 100000 in
theorem ref_Check_5 (n : Int) (s : ByteArray) (w : World) : Calls Tryz.prog 32 #[.agg #[.int .i64 5, .int .i64 n, .string s]] w fun e w' => e = .returned (.int .i64 (errForm (okV ⟨5, n, s⟩))) ∧ Below w.heap.size w w' := by
  have hu := Tryz.underlying35
  go_enter Tryz.func32, Tryz.ntmps32
  go_wp2
  all_goals go_ret
  all_goals refine ⟨ret_int ?_, (by repeat (first | exact Below.refl _ _ | assumption | refine below_drewN ?_ _ | refine Below.drew ?_ | refine Below.alloc ?_ (by first | exact Nat.le_refl _ | (simp; omega) | omega | simp) _ | refine Below.setCell ?_ (by first | exact Nat.le_refl _ | (simp; omega) | simp | omega) _))⟩
  all_goals clear hu
  all_goals obtain ⟨u, hu⟩ : ∃ u, s.toList.isEmpty = u := ⟨_, rfl⟩
  all_goals first | (refine ef_true ?_; rw [okV_5]) | (refine ef_false ?_; rw [okV_5])
  all_goals simp_all
  all_goals (first | omega | (intros; omega))
set_option maxRecDepth 100000 in
theorem ref_Check_6 (n : Int) (s : ByteArray) (w : World) : Calls Tryz.prog 32 #[.agg #[.int .i64 6, .int .i64 n, .string s]] w fun e w' => e = .returned (.int .i64 (errForm (okV ⟨6, n, s⟩))) ∧ Below w.heap.size w w' := by
  have hu := Tryz.underlying35
  go_enter Tryz.func32, Tryz.ntmps32
  go_wp2
  all_goals go_ret
  all_goals refine ⟨ret_int ?_, (by repeat (first | exact Below.refl _ _ | assumption | refine below_drewN ?_ _ | refine Below.drew ?_ | refine Below.alloc ?_ (by first | exact Nat.le_refl _ | (simp; omega) | omega | simp) _ | refine Below.setCell ?_ (by first | exact Nat.le_refl _ | (simp; omega) | simp | omega) _))⟩
  all_goals clear hu
  all_goals obtain ⟨u, hu⟩ : ∃ u, s.toList.isEmpty = u := ⟨_, rfl⟩
  all_goals first | (refine ef_true ?_; rw [okV_6]) | (refine ef_false ?_; rw [okV_6])
  all_goals simp_all
  all_goals (first | omega | (intros; omega))
set_option maxRecDepth 100000 in
theorem ref_Check_else (k n : Int) (s : ByteArray) (w : World) (e0 : k ≠ 0) (e1 : k ≠ 1) (e2 : k ≠ 2) (e3 : k ≠ 3) (e4 : k ≠ 4) (e5 : k ≠ 5) (e6 : k ≠ 6) :
    Calls Tryz.prog 32 #[.agg #[.int .i64 k, .int .i64 n, .string s]] w fun e w' => e = .returned (.int .i64 2) ∧ Below w.heap.size w w' := by
  have hu := Tryz.underlying35
  have f0 : (k == 0) = false := by simpa using e0
  have f1 : (k == 1) = false := by simpa using e1
  have f2 : (k == 2) = false := by simpa using e2
  have f3 : (k == 3) = false := by simpa using e3
  have f4 : (k == 4) = false := by simpa using e4
  have f5 : (k == 5) = false := by simpa using e5
  have f6 : (k == 6) = false := by simpa using e6
  clear e0 e1 e2 e3 e4 e5 e6
  go_enter Tryz.func32, Tryz.ntmps32
  go_wp2
  go_ret
  exact ⟨rfl, (by repeat (first | exact Below.refl _ _ | assumption | refine below_drewN ?_ _ | refine Below.drew ?_ | refine Below.alloc ?_ (by first | exact Nat.le_refl _ | (simp; omega) | omega | simp) _ | refine Below.setCell ?_ (by first | exact Nat.le_refl _ | (simp; omega) | simp | omega) _))⟩
theorem ref_Check (v : V) (w : World) : Calls Tryz.prog 32 #[vv v] w fun e w' => e = .returned (.int .i64 (errForm (okV v))) ∧ Below w.heap.size w w' := by
  obtain ⟨k, n, s⟩ := v
  unfold vv
  simp only
  by_cases h0 : k = 0
  · subst h0; exact ref_Check_0 n s w
  by_cases h1 : k = 1
  · subst h1; exact ref_Check_1 n s w
  by_cases h2 : k = 2
  · subst h2; exact ref_Check_2 n s w
  by_cases h3 : k = 3
  · subst h3; exact ref_Check_3 n s w
  by_cases h4 : k = 4
  · subst h4; exact ref_Check_4 n s w
  by_cases h5 : k = 5
  · subst h5; exact ref_Check_5 n s w
  by_cases h6 : k = 6
  · subst h6; exact ref_Check_6 n s w
  have : okV ⟨k, n, s⟩ = false := by
    unfold okV
    simp only
    rw [if_neg h0, if_neg h1, if_neg h2, if_neg h3, if_neg (by omega)]
  rw [this]
  exact ref_Check_else k n s w h0 h1 h2 h3 h4 h5 h6
theorem ref_Check_c (v : V) (b : Bool) (h : okV v = b) (w : World) : Calls Tryz.prog 32 #[vv v] w fun e w' => e = .returned (.int .i64 (errForm b)) ∧ Below w.heap.size w w' := by
  rw [← h]; exact ref_Check v w
theorem ref_Check_f (k n : Int) (s : ByteArray) (z : Int) (h : errForm (okV ⟨k, n, s⟩) = z) (w : World) : Calls Tryz.prog 32 #[.agg #[.int .i64 k, .int .i64 n, .string s]] w fun e w' => e = .returned (.int .i64 z) ∧ Below w.heap.size w w' := by
  rw [← h]; exact ref_Check ⟨k, n, s⟩ w
end Go.Proofs.YteheolefemlcgaaGreat
