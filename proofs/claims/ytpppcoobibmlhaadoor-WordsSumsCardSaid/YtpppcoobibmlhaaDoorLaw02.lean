/- The statements of layer 2, walked. -/
import Derived.Test.YtpppcoobibmlhaaDoorWords7
namespace Go.Proofs.YtpppcoobibmlhaaDoor
open Go.RowKit
set_option linter.unusedVariables false
set_option linter.unusedSimpArgs false

theorem walk_WordsSums (a b : Int) (ha : In64 a) (hb : In64 b) (w : World) (hE : Env w) : Calls Tryd.prog 7 #[.int .i64 a, .int .i64 b] w fun e w' => e = .returned (.bool true) ∧ Below w.heap.size w w' := by
  go_enter Tryd.func7, Tryd.ntmps7
  go_wp2_with (first | (go_at_call 32; refine (words_Div _ _ _).mono ?_; rintro e w' ⟨rfl, rfl⟩) | (go_at_call 33; refine (ref_Div _ _ ha _).mono ?_; rintro e w' ⟨rfl, rfl⟩) | (go_at_call 19; refine (law02_fixed _ hE).mono ?_; rintro e w1 ⟨rfl, hb1⟩) | (go_at_call 25; refine (words_Add _ _ _).mono ?_; rintro e w' ⟨rfl, rfl⟩) | (go_at_call 34; refine (words_Sub _ _ _).mono ?_; rintro e w' ⟨rfl, rfl⟩) | (go_at_call 35; refine (words_Mul _ _ _).mono ?_; rintro e w' ⟨rfl, rfl⟩) | (go_at_call 36; refine (ref_Mul _ _ _).mono ?_; rintro e w' ⟨rfl, rfl⟩) | (go_at_call 24; refine (words_Neg _ _).mono ?_; rintro e w' ⟨rfl, rfl⟩) | (go_at_call 37; refine (words_Mod _ _ ha hb _).mono ?_; rintro e w' ⟨rfl, rfl⟩) | (go_at_call 38; refine (ref_Mod _ _ ha hb _).mono ?_; rintro e w' ⟨rfl, rfl⟩))
  go_ret
  exact ⟨rfl, hb1⟩
end Go.Proofs.YtpppcoobibmlhaaDoor
