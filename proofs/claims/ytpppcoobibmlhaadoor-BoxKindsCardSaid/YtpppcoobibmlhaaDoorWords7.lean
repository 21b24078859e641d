/- The reference's Parse and Read; the answers that the document fixes. -/
import Derived.Test.YtpppcoobibmlhaaDoorWords6
namespace Go.Proofs.YtpppcoobibmlhaaDoor
open Go.RowKit
set_option linter.unusedVariables false
set_option linter.unusedSimpArgs false

theorem ref_Parse (s : ByteArray) (hs : s.size ≤ 9223372036854775807) (w : World) : Calls Tryd.prog 18 #[.string s] w fun e w' =>
    e = .returned (.tuple #[.int .i64 (Num.readN s.data.toList false), .int .i64 (Num.readE s.data.toList false)]) ∧ Below w.heap.size w w' := by
  go_enter Tryd.func18, Tryd.ntmps18
  go_wp2_with (go_at_call 62; refine (ref_read _ _ _ hs).mono ?_; rintro e w' ⟨rfl, hb⟩)
  go_ret2
  exact ⟨rfl, hb⟩
theorem ref_Read (s : ByteArray) (hs : s.size ≤ 9223372036854775807) (w : World) : Calls Tryd.prog 23 #[.string s] w fun e w' =>
    e = .returned (.tuple #[.int .i64 (Num.readN (Num.unsign s.data.toList) (Num.signed s.data.toList)), .int .i64 (Num.readE (Num.unsign s.data.toList) (Num.signed s.data.toList))]) ∧ Below w.heap.size w w' := by
  by_cases h0 : s.size = 0
  · have h1 := Num.signed_empty s h0
    have HS := Lib.hid h1.1; have HU := Lib.hid h1.2
    clear h1
    go_enter Tryd.func23, Tryd.ntmps23
    go_wp2_with (go_at_call 62; refine (ref_read _ _ _ hs).mono ?_; rintro e w' ⟨rfl, hb⟩)
    go_ret2
    exact ⟨ret_ints (by rw [HS.out, HU.out]) (by rw [HS.out, HU.out]), hb⟩
  · have hp : 0 < s.size := by omega
    by_cases hc : (s[0].toNat : Int) = 45
    · have h1 := Num.signed_yes s hp hc
      have HS := Lib.hid h1.1; have HU := Lib.hid h1.2
      have hc' : ((s[0].toNat : Int) == 45) = true := by simp; omega
      clear h1 hc
      go_enter Tryd.func23, Tryd.ntmps23
      go_wp2_with (go_at_call 62; refine (ref_read _ _ _ (by simp; omega)).mono ?_; rintro e w' ⟨rfl, hb⟩)
      go_ret2
      exact ⟨ret_ints (by rw [HS.out, HU.out]) (by rw [HS.out, HU.out]), hb⟩
    · have h1 := Num.signed_no s hp hc
      have HS := Lib.hid h1.1; have HU := Lib.hid h1.2
      have hc' : ((s[0].toNat : Int) == 45) = false := by simp; omega
      clear h1 hc
      go_enter Tryd.func23, Tryd.ntmps23
      go_wp2_with (go_at_call 62; refine (ref_read _ _ _ hs).mono ?_; rintro e w' ⟨rfl, hb⟩)
      go_ret2
      exact ⟨ret_ints (by rw [HS.out, HU.out]) (by rw [HS.out, HU.out]), hb⟩

/-! The fixed answers. -/
theorem fx_Div (w : World) : Calls Tryd.prog 32 #[.int .i64 (-7), .int .i64 2] w fun e w' => e = .returned (.tuple #[.int .i64 (-4), .int .i64 0]) ∧ w = w' := by
  refine (words_Div (-7) 2 w).mono ?_
  rintro e w' ⟨rfl, rfl⟩
  exact ⟨ret_ints (by decide +kernel) (by decide +kernel), rfl⟩
theorem fx_Parse (w : World) : Calls Tryd.prog 17 #[.string ⟨#[48, 120, 102, 102, 102, 102, 102, 102, 102, 102, 102, 102, 102, 102, 102, 102, 102, 102]⟩] w fun e w' => e = .returned (.tuple #[.int .i64 (-1), .int .i64 0]) ∧ Below w.heap.size w w' := by
  refine (words_Parse _ w).mono ?_
  rintro e w' ⟨rfl, hb⟩
  refine ⟨ret_ints ?_ ?_, hb⟩
  · decide +kernel
  · decide +kernel
theorem fx_Add (w : World) : Calls Tryd.prog 25 #[.int .i64 9223372036854775807, .int .i64 1] w fun e w' => e = .returned (.int .i64 (-9223372036854775808)) ∧ w = w' := by
  refine (words_Add _ _ w).mono ?_
  rintro e w' ⟨rfl, rfl⟩
  exact ⟨ret_int (by decide +kernel), rfl⟩
theorem fx_Format (w : World) (hE : Env w) : Calls Tryd.prog 20 #[.int .i64 (-12)] w fun e w' => e = .returned (.string ⟨#[45, 49, 50]⟩) ∧ Below w.heap.size w w' := by
  refine (words_Format (-12) (by unfold In64; omega) w hE).mono ?_
  rintro e w' ⟨rfl, hb⟩
  refine ⟨ret_str ?_, hb⟩
  have : Lib.itoa (-12) = [45, 49, 50] := by simp [Lib.itoa, Lib.decDigits]
  rw [this]
theorem fx_Log2 (w : World) : Calls Tryd.prog 41 #[.int .i64 3] w fun e w' => e = .returned (.int .i64 2) ∧ w = w' := by
  refine (words_Log2 3 (by unfold In64; omega) w).mono ?_
  rintro e w' ⟨rfl, rfl⟩
  exact ⟨ret_int (by decide +kernel), rfl⟩
theorem law02_fixed (w : World) (hE : Env w) : Calls Tryd.prog 19 #[] w fun e w' => e = .returned (.bool true) ∧ Below w.heap.size w w' := by
  have h1 : ((-9223372036854775808 : Int) == -9223372036854775808) = true := by decide
  go_enter Tryd.func19, Tryd.ntmps19
  go_wp2_with (first | (go_at_call 32; refine (fx_Div _).mono ?_; rintro e w' ⟨rfl, rfl⟩) | (go_at_call 17; refine (fx_Parse _).mono ?_; rintro e w1 ⟨rfl, hb1⟩; have hE1 := hE.of_below hb1) | (go_at_call 25; refine (fx_Add _).mono ?_; rintro e w' ⟨rfl, rfl⟩) | (go_at_call 20; refine (fx_Format _ hE1).mono ?_; rintro e w2 ⟨rfl, hb2⟩) | (go_at_call 41; refine (fx_Log2 _).mono ?_; rintro e w' ⟨rfl, rfl⟩))
  go_ret
  exact ⟨rfl, hb1.trans (hb2.mono hb1.size)⟩
end Go.Proofs.YtpppcoobibmlhaaDoor
