/- The statements of layer 3, walked: a value is of just one kind. -/
import Derived.Test.YtpppcoobibmlhaaDoorLaw03W
import Derived.Test.YtpppcoobibmlhaaDoorKinds
import Derived.Deep.RegionHeld3
namespace Go.Proofs.YtpppcoobibmlhaaDoor
open Go.RowKit
set_option linter.unusedVariables false
set_option linter.unusedSimpArgs false

theorem As_yes_c (v : V) (k : Int) (h : okV v = true) (hk : k = v.k) (w : World) : Calls Tryd.prog 46 #[.agg #[.int .i64 v.k, .int .i64 v.n, .string v.s], .int .i64 k] w fun e w' => e = .returned (.tuple #[.agg #[.int .i64 v.k, .int .i64 v.n, .string v.s], .bool true, .int .i64 0]) ∧ Below w.heap.size w w' := box_As_yes v k h hk w
theorem As_no_c (v : V) (k : Int) (h : okV v = true) (h0 : 0 ≤ k) (h6 : k ≤ 6) (hk : k ≠ v.k) (w : World) : Calls Tryd.prog 46 #[.agg #[.int .i64 v.k, .int .i64 v.n, .string v.s], .int .i64 k] w fun e w' => e = .returned (.tuple #[.agg #[.int .i64 0, .int .i64 0, .string ⟨#[]⟩], .bool false, .int .i64 0]) ∧ Below w.heap.size w w' := box_As_no v k h h0 h6 hk w
theorem As_bad_c (v : V) (k : Int) (h : okV v = false) (w : World) : Calls Tryd.prog 46 #[.agg #[.int .i64 v.k, .int .i64 v.n, .string v.s], .int .i64 k] w fun e w' => e = .returned (.tuple #[.agg #[.int .i64 0, .int .i64 0, .string ⟨#[]⟩], .bool false, .int .i64 2]) ∧ Below w.heap.size w w' := box_As_bad v k h w
theorem Must_yes_c (v : V) (k : Int) (h : okV v = true) (hk : k = v.k) (w : World) : Calls Tryd.prog 49 #[.agg #[.int .i64 v.k, .int .i64 v.n, .string v.s], .int .i64 k] w fun e w' => e = .returned (.agg #[.int .i64 v.k, .int .i64 v.n, .string v.s]) ∧ Below w.heap.size w w' := box_Must_yes v k h hk w
/-- The value's cells, and another one's. -/
def OS (w0 : World) (z y : Nat) (k n : Int) (s : ByteArray) (wr : World) : Prop :=
  wr.cell? ⟨z, 0, none⟩ = some (.int .i64 k) ∧ wr.cell? ⟨z, 1, none⟩ = some (.int .i64 n) ∧ wr.cell? ⟨z, 2, none⟩ = some (.string s) ∧
  wr.cell? ⟨y, 0, none⟩ = some (.int .i64 k) ∧ wr.cell? ⟨y, 1, none⟩ = some (.int .i64 n) ∧ wr.cell? ⟨y, 2, none⟩ = some (.string s) ∧ Below w0.heap.size w0 wr ∧ z < wr.heap.size ∧ y < wr.heap.size
theorem OS_drew {w0 : World} {z y : Nat} {k n : Int} {s : ByteArray} {wr : World} (h : OS w0 z y k n s wr) : OS w0 z y k n s wr.drew := by
  obtain ⟨a, b, c, a', b', c', d, e, f⟩ := h
  exact ⟨a, b, c, a', b', c', d.drew, e, f⟩
theorem OS_step {w0 : World} {z y : Nat} {k n : Int} {s : ByteArray} {wr w2 : World} (h : OS w0 z y k n s wr) (hb : Below wr.heap.size wr w2) : OS w0 z y k n s w2 := by
  obtain ⟨a, b, c, a', b', c', d, e, f⟩ := h
  exact ⟨by rw [hb.cell e]; exact a, by rw [hb.cell e]; exact b, by rw [hb.cell e]; exact c, by rw [hb.cell f]; exact a', by rw [hb.cell f]; exact b', by rw [hb.cell f]; exact c', below_step d hb, Nat.lt_of_lt_of_le e hb.size, Nat.lt_of_lt_of_le f hb.size⟩
set_option maxRecDepth 100000 in
set_option maxHeartbeats 1600000 in
theorem walk_BoxOne_bad (ak an : Int) (az : ByteArray) (na : In64 an) (o : okV ⟨ak, an, az⟩ = false) (w : World) (hE : Env w) :
    Calls Tryd.prog 14 #[.agg #[.int .i64 ak, .int .i64 an, .string az]] w fun e w' => e = .returned (.bool true) ∧ Below w.heap.size w w' := by
  have hu := Tryd.underlying33
  have EA : Hid (errForm (okV ⟨ak, an, az⟩) = 2) := Lib.hid (by rw [o]; rfl)
  have OA := Lib.hid o
  clear o
  go_enter Tryd.func14, Tryd.ntmps14
  go_wp2_with (first | (go_at_call 26; (with_reducible refine (law03_fixed _ (hE.of_below (Go.Joins.below_alloc1 w _))).mono ?_); rintro e w1 ⟨rfl, hb1⟩; have hB1 : Below w.heap.size w w1 := below_step (by first | assumption | exact Below.refl _ _ | (repeat (first | exact Below.refl _ _ | assumption | refine below_drewN ?_ _ | refine Below.drew ?_ | refine Below.alloc ?_ (by first | exact Nat.le_refl _ | exact Below.size (by assumption) | (simp; done) | (simp; omega) | omega) _))) hb1; have ca0 : w1.cell? ⟨w.heap.size, 0, none⟩ = some (.int .i64 ak) := (hb1.cell (p := ⟨w.heap.size, 0, none⟩) (by first | (simp; done) | (simp; omega))).trans (by simp [go_sem]); have ca1 : w1.cell? ⟨w.heap.size, 1, none⟩ = some (.int .i64 an) := (hb1.cell (p := ⟨w.heap.size, 1, none⟩) (by first | (simp; done) | (simp; omega))).trans (by simp [go_sem]); have ca2 : w1.cell? ⟨w.heap.size, 2, none⟩ = some (.string az) := (hb1.cell (p := ⟨w.heap.size, 2, none⟩) (by first | (simp; done) | (simp; omega))).trans (by simp [go_sem]); have cal : w.heap.size < w1.heap.size := Nat.lt_of_lt_of_le (by first | (simp; done) | (simp; omega)) hb1.size; have can := Nat.ne_of_lt cal; clear hb1))
  go_loopw [3, 4, 5, 6, 7] (fun n k p q r wr => ∃ j : Nat, j ≤ 7 ∧ k = .int .i64 j ∧ n = .int .i64 0 ∧ wr.cell? ⟨w.heap.size, 0, none⟩ = some (.int .i64 ak) ∧ wr.cell? ⟨w.heap.size, 1, none⟩ = some (.int .i64 an) ∧ wr.cell? ⟨w.heap.size, 2, none⟩ = some (.string az) ∧ w.heap.size < wr.heap.size ∧ Below w.heap.size w wr) (fun _ k _ _ _ _ => 7 - (intOf k).toNat)
  case atStart => exact ⟨0, by omega, rfl, rfl, ca0, ca1, ca2, cal, hB1⟩
  case round =>
    clear ca0 ca1 ca2 cal can
    obtain ⟨j, hj, rfl, rfl, ca0, ca1, ca2, cal, hBr⟩ := hrel
    have can := Nat.ne_of_lt cal
    by_cases hj7 : j < 7
    · have dj : decide ((j : Int) ≤ 6) = true := by simp; omega
      go_wp2_with (first | (go_at_call 46; (with_reducible refine (As_bad_c ⟨ak, an, az⟩ j OA.out _).mono ?_); rintro e w2 ⟨rfl, hb2⟩; have hB2 : Below w.heap.size w w2 := below_step (by first | assumption | exact Below.refl _ _ | (repeat (first | exact Below.refl _ _ | assumption | refine below_drewN ?_ _ | refine Below.drew ?_ | refine Below.alloc ?_ (by first | exact Nat.le_refl _ | exact Below.size (by assumption) | (simp; done) | (simp; omega) | omega) _))) hb2; replace ca0 := (hb2.cell (p := ⟨w.heap.size, 0, none⟩) (by first | exact cal | (simp only [sz_alloc]; omega))).trans (by first | exact ca0 | exact ((below_one _ _).cell (p := ⟨w.heap.size, 0, none⟩) cal).trans ca0); replace ca1 := (hb2.cell (p := ⟨w.heap.size, 1, none⟩) (by first | exact cal | (simp only [sz_alloc]; omega))).trans (by first | exact ca1 | exact ((below_one _ _).cell (p := ⟨w.heap.size, 1, none⟩) cal).trans ca1); replace ca2 := (hb2.cell (p := ⟨w.heap.size, 2, none⟩) (by first | exact cal | (simp only [sz_alloc]; omega))).trans (by first | exact ca2 | exact ((below_one _ _).cell (p := ⟨w.heap.size, 2, none⟩) cal).trans ca2); replace cal : w.heap.size < w2.heap.size := Nat.lt_of_lt_of_le (by first | exact cal | (simp only [sz_alloc]; omega)) hb2.size; replace can := Nat.ne_of_lt cal; clear hb2) | (go_at_call 54; (with_reducible refine (Check_a ⟨ak, an, az⟩ 2 EA.out _).mono ?_); rintro e w3 ⟨rfl, hb3⟩; have hB3 : Below w.heap.size w w3 := below_step (by first | assumption | exact Below.refl _ _ | (repeat (first | exact Below.refl _ _ | assumption | refine below_drewN ?_ _ | refine Below.drew ?_ | refine Below.alloc ?_ (by first | exact Nat.le_refl _ | exact Below.size (by assumption) | (simp; done) | (simp; omega) | omega) _))) hb3; replace ca0 := (hb3.cell (p := ⟨w.heap.size, 0, none⟩) (by first | exact cal | (simp only [sz_alloc]; omega))).trans (by first | exact ca0 | exact ((below_one _ _).cell (p := ⟨w.heap.size, 0, none⟩) cal).trans ca0); replace ca1 := (hb3.cell (p := ⟨w.heap.size, 1, none⟩) (by first | exact cal | (simp only [sz_alloc]; omega))).trans (by first | exact ca1 | exact ((below_one _ _).cell (p := ⟨w.heap.size, 1, none⟩) cal).trans ca1); replace ca2 := (hb3.cell (p := ⟨w.heap.size, 2, none⟩) (by first | exact cal | (simp only [sz_alloc]; omega))).trans (by first | exact ca2 | exact ((below_one _ _).cell (p := ⟨w.heap.size, 2, none⟩) cal).trans ca2); replace cal : w.heap.size < w3.heap.size := Nat.lt_of_lt_of_le (by first | exact cal | (simp only [sz_alloc]; omega)) hb3.size; replace can := Nat.ne_of_lt cal; clear hb3))
      go_roundw
      case rel => exact ⟨j + 1, by omega, by go_num, rfl, ca0, ca1, ca2, cal, hB3⟩
      case measure => simp [intOf]; omega
    · have dj : decide ((j : Int) ≤ 6) = false := by simp; omega
      go_wp2_with (first | (go_at_call 54; (with_reducible refine (Check_a ⟨ak, an, az⟩ 2 EA.out _).mono ?_); rintro e w3 ⟨rfl, hb3⟩; have hB3 : Below w.heap.size w w3 := below_step (by first | assumption | exact Below.refl _ _ | (repeat (first | exact Below.refl _ _ | assumption | refine below_drewN ?_ _ | refine Below.drew ?_ | refine Below.alloc ?_ (by first | exact Nat.le_refl _ | exact Below.size (by assumption) | (simp; done) | (simp; omega) | omega) _))) hb3; replace ca0 := (hb3.cell (p := ⟨w.heap.size, 0, none⟩) (by first | exact cal | (simp only [sz_alloc]; omega))).trans (by first | exact ca0 | exact ((below_one _ _).cell (p := ⟨w.heap.size, 0, none⟩) cal).trans ca0); replace ca1 := (hb3.cell (p := ⟨w.heap.size, 1, none⟩) (by first | exact cal | (simp only [sz_alloc]; omega))).trans (by first | exact ca1 | exact ((below_one _ _).cell (p := ⟨w.heap.size, 1, none⟩) cal).trans ca1); replace ca2 := (hb3.cell (p := ⟨w.heap.size, 2, none⟩) (by first | exact cal | (simp only [sz_alloc]; omega))).trans (by first | exact ca2 | exact ((below_one _ _).cell (p := ⟨w.heap.size, 2, none⟩) cal).trans ca2); replace cal : w.heap.size < w3.heap.size := Nat.lt_of_lt_of_le (by first | exact cal | (simp only [sz_alloc]; omega)) hb3.size; replace can := Nat.ne_of_lt cal; clear hb3))
      go_ret
      exact ⟨rfl, hB3⟩
set_option maxRecDepth 100000 in
set_option maxHeartbeats 1600000 in
theorem walk_BoxOne_ok (ak an : Int) (az : ByteArray) (na : In64 an) (o : okV ⟨ak, an, az⟩ = true) (k0 : 0 ≤ ak) (k6 : ak ≤ 6) (w : World) (hE : Env w) :
    Calls Tryd.prog 14 #[.agg #[.int .i64 ak, .int .i64 an, .string az]] w fun e w' => e = .returned (.bool true) ∧ Below w.heap.size w w' := by
  have hu := Tryd.underlying33
  have EA : Hid (errForm (okV ⟨ak, an, az⟩) = 0) := Lib.hid (by rw [o]; rfl)
  have OA := Lib.hid o
  clear o
  go_enter Tryd.func14, Tryd.ntmps14
  go_wp2_with (first | (go_at_call 26; (with_reducible refine (law03_fixed _ (hE.of_below (Go.Joins.below_alloc1 w _))).mono ?_); rintro e w1 ⟨rfl, hb1⟩; have hB1 : Below w.heap.size w w1 := below_step (by first | assumption | exact Below.refl _ _ | (repeat (first | exact Below.refl _ _ | assumption | refine below_drewN ?_ _ | refine Below.drew ?_ | refine Below.alloc ?_ (by first | exact Nat.le_refl _ | exact Below.size (by assumption) | (simp; done) | (simp; omega) | omega) _))) hb1; have ca0 : w1.cell? ⟨w.heap.size, 0, none⟩ = some (.int .i64 ak) := (hb1.cell (p := ⟨w.heap.size, 0, none⟩) (by first | (simp; done) | (simp; omega))).trans (by simp [go_sem]); have ca1 : w1.cell? ⟨w.heap.size, 1, none⟩ = some (.int .i64 an) := (hb1.cell (p := ⟨w.heap.size, 1, none⟩) (by first | (simp; done) | (simp; omega))).trans (by simp [go_sem]); have ca2 : w1.cell? ⟨w.heap.size, 2, none⟩ = some (.string az) := (hb1.cell (p := ⟨w.heap.size, 2, none⟩) (by first | (simp; done) | (simp; omega))).trans (by simp [go_sem]); have cal : w.heap.size < w1.heap.size := Nat.lt_of_lt_of_le (by first | (simp; done) | (simp; omega)) hb1.size; have can := Nat.ne_of_lt cal; clear hb1))
  go_loopw [3, 4, 5, 6, 7] (fun n k p q r wr => ∃ (j : Nat) (m : Int), j ≤ 7 ∧ k = .int .i64 j ∧ m = (if ak < j then 1 else 0) ∧ n = .int .i64 m ∧ wr.cell? ⟨w.heap.size, 0, none⟩ = some (.int .i64 ak) ∧ wr.cell? ⟨w.heap.size, 1, none⟩ = some (.int .i64 an) ∧ wr.cell? ⟨w.heap.size, 2, none⟩ = some (.string az) ∧ w.heap.size < wr.heap.size ∧ Below w.heap.size w wr) (fun _ k _ _ _ _ => 7 - (intOf k).toNat)
  case atStart => exact ⟨0, 0, by omega, rfl, by rw [if_neg (by simp; omega)], rfl, ca0, ca1, ca2, cal, hB1⟩
  case round =>
    clear ca0 ca1 ca2 cal can
    obtain ⟨j, m, hj, rfl, hm, rfl, ca0, ca1, ca2, cal, hBr⟩ := hrel
    have can := Nat.ne_of_lt cal
    by_cases hj7 : j < 7
    · have dj : decide ((j : Int) ≤ 6) = true := by simp; omega
      by_cases e : (j : Int) = ak
      · subst e
        rw [if_neg (by omega)] at hm
        subst hm
        go_wp2_with (first | (go_at_call 46; (with_reducible refine (As_yes_c ⟨(j : Int), an, az⟩ j OA.out rfl _).mono ?_); rintro e w2 ⟨rfl, hb2⟩; have hB2 : Below w.heap.size w w2 := below_step (by first | assumption | exact Below.refl _ _ | (repeat (first | exact Below.refl _ _ | assumption | refine below_drewN ?_ _ | refine Below.drew ?_ | refine Below.alloc ?_ (by first | exact Nat.le_refl _ | exact Below.size (by assumption) | (simp; done) | (simp; omega) | omega) _))) hb2; replace ca0 := (hb2.cell (p := ⟨w.heap.size, 0, none⟩) (by first | exact cal | (simp only [sz_alloc]; omega))).trans (by first | exact ca0 | exact ((below_one _ _).cell (p := ⟨w.heap.size, 0, none⟩) cal).trans ca0); replace ca1 := (hb2.cell (p := ⟨w.heap.size, 1, none⟩) (by first | exact cal | (simp only [sz_alloc]; omega))).trans (by first | exact ca1 | exact ((below_one _ _).cell (p := ⟨w.heap.size, 1, none⟩) cal).trans ca1); replace ca2 := (hb2.cell (p := ⟨w.heap.size, 2, none⟩) (by first | exact cal | (simp only [sz_alloc]; omega))).trans (by first | exact ca2 | exact ((below_one _ _).cell (p := ⟨w.heap.size, 2, none⟩) cal).trans ca2); replace cal : w.heap.size < w2.heap.size := Nat.lt_of_lt_of_le (by first | exact cal | (simp only [sz_alloc]; omega)) hb2.size; replace can := Nat.ne_of_lt cal; clear hb2))
        have S0 : OS w w.heap.size w2.heap.size (j : Int) an az (w2.alloc (Obj.cells #[.int .i64 (j : Int), .int .i64 an, .string az] 33)) := by
          have hx := below_one w2 (Obj.cells #[.int .i64 (j : Int), .int .i64 an, .string az] 33)
          exact ⟨(hx.cell (p := ⟨w.heap.size, 0, none⟩) cal).trans ca0, (hx.cell (p := ⟨w.heap.size, 1, none⟩) cal).trans ca1, (hx.cell (p := ⟨w.heap.size, 2, none⟩) cal).trans ca2, by simp [go_sem], by simp [go_sem], by simp [go_sem], hB2.alloc hB2.size _, by simp; omega, by simp⟩
        clear ca0 ca1 ca2 cal can hB2 hBr
        generalize w2.heap.size = y at S0 ⊢
        generalize w2.alloc (Obj.cells #[.int .i64 (j : Int), .int .i64 an, .string az] 33) = W at S0 ⊢
        go_region_held3 (fun wr => wr.cell? ⟨w.heap.size, 0, none⟩ = some (.int .i64 (j : Int)) ∧ wr.cell? ⟨w.heap.size, 1, none⟩ = some (.int .i64 an) ∧ wr.cell? ⟨w.heap.size, 2, none⟩ = some (.string az) ∧
            wr.cell? ⟨y, 0, none⟩ = some (.int .i64 (j : Int)) ∧ wr.cell? ⟨y, 1, none⟩ = some (.int .i64 an) ∧ wr.cell? ⟨y, 2, none⟩ = some (.string az) ∧ Below w.heap.size w wr ∧ w.heap.size < wr.heap.size ∧ y < wr.heap.size)
          (first | exact OS_drew S0 | assumption | (refine OS_step (wr := _) ?_ (by assumption); first | assumption | (go_split_ands; refine ⟨?_, ?_, ?_, ?_, ?_, ?_, ?_, ?_, ?_⟩ <;> assumption)))
          (first | (go_at_call 49; (with_reducible refine (Must_yes_c ⟨(j : Int), an, az⟩ j OA.out rfl _).mono ?_); rintro e w4 ⟨rfl, hb4⟩))
        rename_i hH
        obtain ⟨ca0, ca1, ca2, -, -, -, hBm, cal, -⟩ := hH
        have can := Nat.ne_of_lt cal
        go_wp2_with (first | (go_at_call 54; (with_reducible refine (Check_a ⟨(j : Int), an, az⟩ 0 EA.out _).mono ?_); rintro e w3 ⟨rfl, hb3⟩; have hB3 : Below w.heap.size w w3 := below_step (by first | assumption | exact Below.refl _ _ | (repeat (first | exact Below.refl _ _ | assumption | refine below_drewN ?_ _ | refine Below.drew ?_ | refine Below.alloc ?_ (by first | exact Nat.le_refl _ | exact Below.size (by assumption) | (simp; done) | (simp; omega) | omega) _))) hb3; replace ca0 := (hb3.cell (p := ⟨w.heap.size, 0, none⟩) (by first | exact cal | (simp only [sz_alloc]; omega))).trans (by first | exact ca0 | exact ((below_one _ _).cell (p := ⟨w.heap.size, 0, none⟩) cal).trans ca0); replace ca1 := (hb3.cell (p := ⟨w.heap.size, 1, none⟩) (by first | exact cal | (simp only [sz_alloc]; omega))).trans (by first | exact ca1 | exact ((below_one _ _).cell (p := ⟨w.heap.size, 1, none⟩) cal).trans ca1); replace ca2 := (hb3.cell (p := ⟨w.heap.size, 2, none⟩) (by first | exact cal | (simp only [sz_alloc]; omega))).trans (by first | exact ca2 | exact ((below_one _ _).cell (p := ⟨w.heap.size, 2, none⟩) cal).trans ca2); replace cal : w.heap.size < w3.heap.size := Nat.lt_of_lt_of_le (by first | exact cal | (simp only [sz_alloc]; omega)) hb3.size; replace can := Nat.ne_of_lt cal; clear hb3))
        go_roundw
        case rel => exact ⟨j + 1, 1, by omega, by go_num, by rw [if_pos (by omega)], by go_num, ca0, ca1, ca2, cal, hB3⟩
        case measure => simp [intOf]; omega
      · have hm2 : m = if ak < ((j + 1 : Nat) : Int) then 1 else 0 := by rw [hm]; split <;> split <;> omega
        have HM := Lib.hid hm2
        clear hm hm2
        have E := Lib.hid e
        clear e
        go_wp2_with (first | (go_at_call 46; (with_reducible refine (As_no_c ⟨ak, an, az⟩ j OA.out (by omega) (by omega) E.out _).mono ?_); rintro e w2 ⟨rfl, hb2⟩; have hB2 : Below w.heap.size w w2 := below_step (by first | assumption | exact Below.refl _ _ | (repeat (first | exact Below.refl _ _ | assumption | refine below_drewN ?_ _ | refine Below.drew ?_ | refine Below.alloc ?_ (by first | exact Nat.le_refl _ | exact Below.size (by assumption) | (simp; done) | (simp; omega) | omega) _))) hb2; replace ca0 := (hb2.cell (p := ⟨w.heap.size, 0, none⟩) (by first | exact cal | (simp only [sz_alloc]; omega))).trans (by first | exact ca0 | exact ((below_one _ _).cell (p := ⟨w.heap.size, 0, none⟩) cal).trans ca0); replace ca1 := (hb2.cell (p := ⟨w.heap.size, 1, none⟩) (by first | exact cal | (simp only [sz_alloc]; omega))).trans (by first | exact ca1 | exact ((below_one _ _).cell (p := ⟨w.heap.size, 1, none⟩) cal).trans ca1); replace ca2 := (hb2.cell (p := ⟨w.heap.size, 2, none⟩) (by first | exact cal | (simp only [sz_alloc]; omega))).trans (by first | exact ca2 | exact ((below_one _ _).cell (p := ⟨w.heap.size, 2, none⟩) cal).trans ca2); replace cal : w.heap.size < w2.heap.size := Nat.lt_of_lt_of_le (by first | exact cal | (simp only [sz_alloc]; omega)) hb2.size; replace can := Nat.ne_of_lt cal; clear hb2) | (go_at_call 54; (with_reducible refine (Check_a ⟨ak, an, az⟩ 0 EA.out _).mono ?_); rintro e w3 ⟨rfl, hb3⟩; have hB3 : Below w.heap.size w w3 := below_step (by first | assumption | exact Below.refl _ _ | (repeat (first | exact Below.refl _ _ | assumption | refine below_drewN ?_ _ | refine Below.drew ?_ | refine Below.alloc ?_ (by first | exact Nat.le_refl _ | exact Below.size (by assumption) | (simp; done) | (simp; omega) | omega) _))) hb3; replace ca0 := (hb3.cell (p := ⟨w.heap.size, 0, none⟩) (by first | exact cal | (simp only [sz_alloc]; omega))).trans (by first | exact ca0 | exact ((below_one _ _).cell (p := ⟨w.heap.size, 0, none⟩) cal).trans ca0); replace ca1 := (hb3.cell (p := ⟨w.heap.size, 1, none⟩) (by first | exact cal | (simp only [sz_alloc]; omega))).trans (by first | exact ca1 | exact ((below_one _ _).cell (p := ⟨w.heap.size, 1, none⟩) cal).trans ca1); replace ca2 := (hb3.cell (p := ⟨w.heap.size, 2, none⟩) (by first | exact cal | (simp only [sz_alloc]; omega))).trans (by first | exact ca2 | exact ((below_one _ _).cell (p := ⟨w.heap.size, 2, none⟩) cal).trans ca2); replace cal : w.heap.size < w3.heap.size := Nat.lt_of_lt_of_le (by first | exact cal | (simp only [sz_alloc]; omega)) hb3.size; replace can := Nat.ne_of_lt cal; clear hb3))
        go_roundw
        case rel => exact ⟨j + 1, m, by omega, by go_num, HM.out, rfl, ca0, ca1, ca2, cal, hB3⟩
        case measure => simp [intOf]; omega
    · have dj : decide ((j : Int) ≤ 6) = false := by simp; omega
      rw [if_pos (by omega)] at hm
      subst hm
      go_wp2_with (first | (go_at_call 54; (with_reducible refine (Check_a ⟨ak, an, az⟩ 0 EA.out _).mono ?_); rintro e w3 ⟨rfl, hb3⟩; have hB3 : Below w.heap.size w w3 := below_step (by first | assumption | exact Below.refl _ _ | (repeat (first | exact Below.refl _ _ | assumption | refine below_drewN ?_ _ | refine Below.drew ?_ | refine Below.alloc ?_ (by first | exact Nat.le_refl _ | exact Below.size (by assumption) | (simp; done) | (simp; omega) | omega) _))) hb3; replace ca0 := (hb3.cell (p := ⟨w.heap.size, 0, none⟩) (by first | exact cal | (simp only [sz_alloc]; omega))).trans (by first | exact ca0 | exact ((below_one _ _).cell (p := ⟨w.heap.size, 0, none⟩) cal).trans ca0); replace ca1 := (hb3.cell (p := ⟨w.heap.size, 1, none⟩) (by first | exact cal | (simp only [sz_alloc]; omega))).trans (by first | exact ca1 | exact ((below_one _ _).cell (p := ⟨w.heap.size, 1, none⟩) cal).trans ca1); replace ca2 := (hb3.cell (p := ⟨w.heap.size, 2, none⟩) (by first | exact cal | (simp only [sz_alloc]; omega))).trans (by first | exact ca2 | exact ((below_one _ _).cell (p := ⟨w.heap.size, 2, none⟩) cal).trans ca2); replace cal : w.heap.size < w3.heap.size := Nat.lt_of_lt_of_le (by first | exact cal | (simp only [sz_alloc]; omega)) hb3.size; replace can := Nat.ne_of_lt cal; clear hb3))
      go_ret
      exact ⟨rfl, hB3⟩
theorem rowBoxOne (v : Value) (hv : IsVal v) (w : World) (hE : Env w) : Calls Tryd.prog 14 #[v] w fun e w' => e = .returned (.bool true) ∧ Below w.heap.size w w' := by
  obtain ⟨ak, an, az, rfl, -, na, -⟩ := hv
  cases o : okV ⟨ak, an, az⟩ with
  | true => exact walk_BoxOne_ok _ _ _ na o (okV_kind6 o).1 (okV_kind6 o).2 w hE
  | false => exact walk_BoxOne_bad _ _ _ na o w hE
end Go.Proofs.YtpppcoobibmlhaaDoor
