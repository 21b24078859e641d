/- TableRow: consecutive whole numbers far from nought. -/
import Derived.Test.YteheolefemlcgaaRowW
namespace Go.Proofs.Yteheolefemlcgaa
open Go.RowKit Go.Maps
set_option linter.unusedVariables false
set_option linter.unusedSimpArgs false

set_option maxRecDepth 100000 in
set_option maxHeartbeats 1600000 in
theorem walk_TableRow (b m : Int) (hb : In64 b) (w : World) : Calls Try.prog 5 #[.int .i64 b, .int .i64 m] w fun e w' => e = .returned (.bool true) ∧ Below w.heap.size w w' := by
  obtain ⟨M, hM⟩ : ∃ M : Nat, min (max m 0) 700 = (M : Int) := ⟨(min (max m 0) 700).toNat, by omega⟩
  have hM7 : M ≤ 700 := by omega
  have m1 : wrap64 (2 * (M : Int)) = 2 * (M : Int) := wrap64_id (by unfold In64; omega)
  have key : ∃ B : Nat, (2 * M ≤ B ∧ B < 4611686018427387904) ∧ ((decide (4611686018427387904 ≤ b) = true ∧ 2 * (M : Int) + 5 = B) ∨ (decide (4611686018427387904 ≤ b) = false ∧ decide (b < 2 * (M : Int)) = true ∧ 2 * (M : Int) + 5 = B) ∨ (decide (4611686018427387904 ≤ b) = false ∧ decide (b < 2 * (M : Int)) = false ∧ b = B)) := by
    have m2 : 2 * (M : Int) + 5 = ((2 * M + 5 : Nat) : Int) := by omega
    by_cases h1 : 4611686018427387904 ≤ b
    · exact ⟨2 * M + 5, by omega, .inl ⟨by simpa using h1, m2⟩⟩
    · by_cases h2 : b < 2 * (M : Int)
      · exact ⟨2 * M + 5, by omega, .inr (.inl ⟨by simpa using h1, by simpa using h2, m2⟩)⟩
      · exact ⟨b.toNat, by omega, .inr (.inr ⟨by simpa using h1, by simpa using h2, by omega⟩)⟩
  have HM7 := Lib.hid hM7
  clear hb hM7
  obtain ⟨B, hBB, hk⟩ := key
  rcases hk with ⟨hc, h5⟩ | ⟨hc, hd, h5⟩ | ⟨hc, hd, rfl⟩
  all_goals
    have HBB := Lib.hid hBB
    have HNEW : Hid (∀ W hp, TT w (fun _ => False) hp none none (HS.new 400000) W → Calls Try.prog 20 #[.pointer (some ⟨hp, 0, none⟩), .int .i64 0, .int .i64 0] W fun e w' => ∃ a, e = .returned (.tuple #[.pointer (some ⟨a, 0, none⟩), .int .i64 0]) ∧ RS8 w B hp a 0 w' (newT (HS.new 400000) 0 0) h4) := Lib.hid (fun W hp H => by
      refine (New_t H (by simp [HS.new]) 0 0 0 h4_is.1).mono ?_
      rintro e w' ⟨A, he, hA, hT, -⟩
      rcases hA with ⟨-, h⟩ | ⟨a, rfl, -⟩
      · exact absurd h4_is.1 h
      · have h2 := (Acc.new 400000 (by decide) (by decide)).made (by decide) 0 0 (.inr ⟨a, rfl, h4_is.1⟩)
        exact ⟨a, he, hT, h2, h4_is.2, row_start B HBB.out.2 (h2.a _ rfl).1, by show In64 0; unfold In64; omega⟩)
    try have H5 := Lib.hid h5
    try clear h5
    clear hBB
    go_enter Try.func5, Try.ntmps5
    go_wp2_with fail
    (with_reducible refine (law08_fixed _).mono ?_)
    rintro e w1 ⟨rfl, hb⟩
    have HB1 := Lib.hid hb
    clear hb
    go_wp2_with fail
    (with_reducible refine (New_h w 400000 (by decide) (by decide) _ (fun _ => False) (fun _ h => h.elim) HB1.out).mono ?_)
    rintro e w2 ⟨hp, rfl, hT, -⟩
    have HT := Lib.hid hT
    clear hT
    go_wp2_with fail
    (with_reducible refine (HNEW.out _ _ HT.out).mono ?_)
    rintro e w3 ⟨a, rfl, hx⟩
    have HX := Lib.hid hx
    clear hx HNEW HT
    go_wp2_with fail
    try rw [H5.out]
    clear hc hM
    try clear hd
    go_loopw [9] (fun i wr => ∃ (j : Nat) (t : Tbl) (hs : HS), j ≤ M ∧ i = .int .i64 ((j : Int) + 1) ∧ Hid (RS8 w B hp a j wr t hs)) (fun i _ => M + 1 - (intOf i).toNat)
    case atStart => exact ⟨0, _, _, Nat.zero_le _, rfl, HX⟩
    case round =>
      clear HX
      obtain ⟨j, t, hs, hj, rfl, HX⟩ := hrel
      by_cases h1 : j < M
      · have d1 : decide ((j : Int) + 1 ≤ (M : Int)) = true := by simp; omega
        have j7 : (j : Int) < 700 := by have := HM7.out; omega
        have HY : Hid (wrap64 ((B : Int) + ((j : Int) + 1)) = ((B + (j + 1) : Nat) : Int)) := Lib.hid (by rw [wrap64_id (by have := HBB.out; have := HM7.out; unfold In64; omega)]; omega)
        go_wp2_with fail
        (with_reducible refine (ref3_I _ _).mono ?_)
        rintro e w4 ⟨rfl, hb⟩
        have HX4 := Lib.hid (HX.out.below hb)
        clear hb
        go_wp2_with fail
        (with_reducible refine (ref3_I _ _).mono ?_)
        rintro e w5 ⟨rfl, hb⟩
        have HX5 := Lib.hid (HX4.out.below hb)
        clear hb
        go_wp2_with fail
        (with_reducible refine (HX5.out.set (by have := HBB.out; omega) (by have := HM7.out; omega) HBB.out.2 _ HY.out _ (by omega)).mono ?_)
        rintro e w6 ⟨rfl, t', hs', hx⟩
        have HX6 := Lib.hid hx
        clear hx
        go_wp2_with fail
        go_roundw
        case rel => exact ⟨j + 1, t', hs', by omega, by go_num, HX6⟩
        case measure => simp [intOf]; omega
      · obtain rfl : M = j := by omega
        have d1 : decide ((M : Int) + 1 ≤ (M : Int)) = false := by simp; omega
        obtain ⟨was, hwas⟩ : ∃ was, t.pr = was := ⟨_, rfl⟩
        have HG := Lib.hid HX.out.gets
        have HWAS := Lib.hid hwas
        rw [hwas] at HG
        go_wp2_with fail
        (with_reducible refine (HG.out.probes was HWAS.out).mono ?_)
        rintro e w4 ⟨rfl, rfl⟩
        clear HX HWAS hwas d1
        go_wp2_with fail
        go_loopw [11] (fun i wr => ∃ (j : Nat) (t : Tbl), j ≤ M ∧ i = .int .i64 ((j : Int) + 1) ∧ Hid (RG8 w B hp a M wr t hs was j)) (fun i _ => M + 1 - (intOf i).toNat)
        case atStart => exact ⟨0, _, Nat.zero_le _, rfl, HG⟩
        case round =>
          clear HG
          obtain ⟨j, t, hj, rfl, HG⟩ := hrel
          by_cases h1 : j < M
          · have d1 : decide ((j : Int) + 1 ≤ (M : Int)) = true := by simp; omega
            have j7 : (j : Int) < 700 := by have := HM7.out; omega
            have HY : Hid (wrap64 ((B : Int) + ((j : Int) + 1)) = ((B + (j + 1) : Nat) : Int)) := Lib.hid (by rw [wrap64_id (by have := HBB.out; have := HM7.out; unfold In64; omega)]; omega)
            go_wp2_with fail
            (with_reducible refine (ref3_I _ _).mono ?_)
            rintro e w4 ⟨rfl, hb⟩
            have HG4 := Lib.hid (HG.out.below hb)
            clear hb
            go_wp2_with fail
            (with_reducible refine (HG4.out.get h1 _ HY.out).mono ?_)
            rintro e w5 ⟨rfl, t', hx⟩
            have HG5 := Lib.hid hx
            clear hx
            go_wp2_with fail
            (with_reducible refine (ref3_I _ _).mono ?_)
            rintro e w6 ⟨rfl, hb⟩
            have HG6 := Lib.hid (HG5.out.below hb)
            clear hb
            go_wp2_with fail
            go_roundw
            case rel => exact ⟨j + 1, t', by omega, by go_num, HG6⟩
            case measure => simp [intOf]; omega
          · obtain rfl : M = j := by omega
            have d1 : decide ((M : Int) + 1 ≤ (M : Int)) = false := by simp; omega
            have HL := Lib.hid (HG.out.last HM7.out)
            obtain ⟨now, hnow⟩ : ∃ now, t.pr = now := ⟨_, rfl⟩
            have HN := Lib.hid hnow
            rw [hnow] at HL
            have d2 : decide (wrap64 (now - was) ≤ (M : Int) + 1) = true := by simpa using HL.out
            have m7 : (M : Int) ≤ 700 := by have := HM7.out; omega
            go_wp2_with fail
            (with_reducible refine (HG.out.probes now HN.out).mono ?_)
            rintro e w4 ⟨rfl, rfl⟩
            clear HN hnow
            go_wp2_with fail
            (with_reducible refine (HG.out.stats).mono ?_)
            rintro e w5 ⟨⟨x, y, z, rfl⟩, hx⟩
            have HG5 := Lib.hid hx
            have hf0 : ∀ (a b c d : Int) (W : World), (Instr.field 51 (.agg #[.int .i64 a, .int .i64 b, .int .i64 c, .int .i64 d]) 0).run Try.prog W = .ok (.int .i64 a) W := fun a b c d W => by rfl
            clear hx
            go_wp2
            go_ret
            exact ⟨rfl, HG5.out.tt.bel⟩
theorem rowTableRow {W : World} (b m : Int) (hb : In64 b) (hm : In64 m) (w : World) : Calls Try.prog 5 #[.int .i64 b, .int .i64 m] W fun e w' => e = .returned (.bool true) ∧ Below W.heap.size W w' :=
  walk_TableRow b m hb W
end Go.Proofs.Yteheolefemlcgaa
