/- CensusSizes: the program's Sizes and the reference's. -/
import Derived.Test.YtfhigeefclchiaaRSizes
namespace Go.Proofs.Ytfhigeefclchiaa
open Go.RowKit
set_option linter.unusedVariables false
set_option linter.unusedSimpArgs false

theorem few_key {W : World} {z : Value} {zs : List Int} (h : ISA W z zs) : ∃ (A : Option Addr) (M c : Nat), z = .slice A M c ∧ (zs.take 3000).length ≤ 3000 ∧ (∀ x ∈ zs.take 3000, In64 x) ∧ IS W (.slice A (zs.take 3000).length c) (zs.take 3000) ∧
    ∀ W', Calls Try.prog 21 #[.slice A M c] W' fun e w' => e = .returned (.slice A (zs.take 3000).length c) ∧ W' = w' := by
  obtain ⟨⟨A, c, rfl, hc, hn, hz⟩, hi, hl⟩ := h
  refine ⟨A, zs.length, c, rfl, by rw [List.length_take]; omega, fun x hx => hi x (List.mem_of_mem_take hx), ?_, fun W' => few_s A c zs _ rfl W' (by omega) hc hn⟩
  refine ⟨A, c, rfl, by rw [List.length_take]; omega, hn, fun h0 => ?_⟩
  rw [List.length_take] at h0
  obtain ⟨ad, e, hj⟩ := hz (by omega)
  refine ⟨ad, e, fun j hjl => ?_⟩
  rw [List.length_take] at hjl
  rw [hj j (by omega), List.getD_eq_getElem?_getD, List.getD_eq_getElem?_getD, List.getElem?_take_of_lt (by omega)]
set_option maxRecDepth 100000 in
set_option maxHeartbeats 1600000 in
theorem walk_CensusSizes (A : Option Addr) (M N c : Nat) (xs : List Int) (o : Int) (w : World) (hN : N ≤ 3000) (hxl : xs.length = N) (hi : ∀ x ∈ xs, In64 x) (hoi : In64 o) (hX : IS w (.slice A N c) xs)
    (hfew : ∀ W', Calls Try.prog 21 #[.slice A M c] W' fun e w' => e = .returned (.slice A N c) ∧ W' = w') (a b z : Int) (ha : Cs.sizesA xs o = a) (hb : Cs.sizesH xs o = b) (hz : Cs.sizesE xs o = z) :
    Calls Try.prog 5 #[.slice A M c, .int .i64 o] w fun e w' => e = .returned (.bool true) ∧ Below w.heap.size w w' := by
  have HX := Lib.hid hX; have HXL := Lib.hid hxl; have HIN := Lib.hid hi; have HF := Lib.hid hfew; have HA := Lib.hid ha; have HB := Lib.hid hb; have HZ := Lib.hid hz
  clear hX hxl hi hfew ha hb hz
  go_enter Try.func5, Try.ntmps5
  go_wp2_with (first
    | (go_at_call 21; (with_reducible refine (HF.out _).mono ?_); rintro e w' ⟨rfl, rfl⟩)
    | (at_builtin; refine append_is (by rfl) (Operand.tmp 12) (Operand.tmp 14) rfl w.heap.size (.slice (some ⟨w.heap.size, 0, none⟩) 0 0) 0 [] xs rfl (ownsRow_empty w 3 w.heap.size (Nat.le_refl _)) A N c rfl HXL.out (HX.out.below ((Below.refl _ w).alloc (Nat.le_refl _) _)) (by omega) (by simp) ?_; intro v4 w4 hown4 hbw4; have hI4 : Hid (IS w4 v4 xs) := Lib.hid (IS.of_row (by rw [HXL.out]; simpa using hown4)); have hB4 : Below w.heap.size w w4 := ((Below.refl _ w).alloc (Nat.le_refl _) _).trans hbw4; clear hown4 hbw4)
    | (go_at_call 25; (refine (Sizes_c _ xs o _ (by rw [HXL.out]; omega) HIN.out hoi hI4.out a b z HA.out HB.out HZ.out).mono ?_); rintro e w5 ⟨rfl, hb5⟩; have hB5 : Below w.heap.size w w5 := below_step hB4 hb5; clear hb5)
    | (go_at_call 26; (refine (RSizes_c _ xs o _ (by rw [HXL.out]; omega) HIN.out hoi (HX.out.below hB5) a b z HA.out HB.out HZ.out).mono ?_); rintro e w6 ⟨rfl, hb6⟩; have hB6 : Below w.heap.size w w6 := below_step hB5 hb6; clear hb6)
    | (go_at_call 16; (with_reducible refine (law05_fixed _).mono ?_); rintro e w7 ⟨rfl, hb7⟩; have hB7 : Below w.heap.size w w7 := below_step hB6 hb7; clear hb7))
  go_ret
  exact ⟨rfl, hB7⟩
theorem rowCensusSizes {v : Value} {W : World} (zs : List Int) (o : Int) (f : ISA W v zs) (hoi : In64 o) (w : World) : Calls Try.prog 5 #[v, .int .i64 o] W fun e w' => e = .returned (.bool true) ∧ Below W.heap.size W w' := by
  obtain ⟨A, M, c, rfl, h1, h2, h3, h4⟩ := few_key f
  exact walk_CensusSizes A M _ c _ o W h1 rfl h2 hoi h3 h4 _ _ _ rfl rfl rfl
end Go.Proofs.Ytfhigeefclchiaa
