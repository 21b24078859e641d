/- WordsTexts, walked. -/
import Derived.Test.YtpppcoobibmlhaaDoorLaw02b
import Derived.Test.YtpppcoobibmlhaaDoorFmt
namespace Go.Proofs.YtpppcoobibmlhaaDoor
open Go.RowKit
set_option linter.unusedVariables false
set_option linter.unusedSimpArgs false

theorem ref_Format_t (n : Int) (t : ByteArray) (hn : In64 n) (ht : ⟨(Lib.itoa n).toArray⟩ = t) (w : World) : Calls Tryd.prog 21 #[.int .i64 n] w fun e w' => e = .returned (.string t) ∧ Below w.heap.size w w' := by
  rw [← ht]; exact ref_Format n hn w
theorem walk_WordsTexts (s : ByteArray) (n : Int) (hs : s.size ≤ 140737488351232) (hn : In64 n) (w : World) (hE : Env w) : Calls Tryd.prog 3 #[.string s, .int .i64 n] w fun e w' => e = .returned (.bool true) ∧ Below w.heap.size w w' := by
  have hB := Below.refl w.heap.size w
  have hs' : s.size ≤ 9223372036854775807 := by omega
  obtain ⟨t, ht⟩ : ∃ t : ByteArray, ⟨(Lib.itoa n).toArray⟩ = t := ⟨_, rfl⟩
  have HT := Lib.hid ht
  clear ht
  go_enter Tryd.func3, Tryd.ntmps3
  go_wp2_with (first | (go_at_call 19; refine (law02_fixed _ hE).mono ?_; rintro e w' ⟨rfl, hb⟩; replace hE := hE.of_below hb; replace hB := below_step hB hb) | (go_at_call 17; refine (words_Parse _ _).mono ?_; rintro e w' ⟨rfl, hb⟩; replace hE := hE.of_below hb; replace hB := below_step hB hb) | (go_at_call 18; refine (ref_Parse _ hs' _).mono ?_; rintro e w' ⟨rfl, hb⟩; replace hE := hE.of_below hb; replace hB := below_step hB hb) | (go_at_call 20; refine (words_Format_t n t hn HT.out _ hE).mono ?_; rintro e w' ⟨rfl, hb⟩; replace hE := hE.of_below hb; replace hB := below_step hB hb) | (go_at_call 21; refine (ref_Format_t n t hn HT.out _).mono ?_; rintro e w' ⟨rfl, hb⟩; replace hE := hE.of_below hb; replace hB := below_step hB hb) | (go_at_call 22; (with_reducible refine (words_Read s _).mono ?_); rintro e w' ⟨rfl, hb⟩; replace hE := hE.of_below hb; replace hB := below_step hB hb) | (go_at_call 23; refine (ref_Read _ hs' _).mono ?_; rintro e w' ⟨rfl, hb⟩; replace hE := hE.of_below hb; replace hB := below_step hB hb) | (go_at_call 22; (with_reducible refine (words_Read_t n t hn HT.out _).mono ?_); rintro e w' ⟨rfl, hb⟩; replace hE := hE.of_below hb; replace hB := below_step hB hb))
  go_ret
  exact ⟨rfl, hB⟩
end Go.Proofs.YtpppcoobibmlhaaDoor
