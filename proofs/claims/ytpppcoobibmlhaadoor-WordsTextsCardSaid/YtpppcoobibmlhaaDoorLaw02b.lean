/- The statements of layer 2 on texts, walked. -/
import Derived.Test.YtpppcoobibmlhaaDoorLaw02
import Derived.Test.YtpppcoobibmlhaaDoorNum2
namespace Go.Proofs.YtpppcoobibmlhaaDoor
open Go.RowKit
set_option linter.unusedVariables false
set_option linter.unusedSimpArgs false

theorem words_Log2_c (n : Int) (hn : In64 n) (k : Int) (hk : Ws.log2 n = k) (w : World) : Calls Tryd.prog 41 #[.int .i64 n] w fun e w' => e = .returned (.int .i64 k) ∧ w = w' := by
  rw [← hk]; exact words_Log2 n hn w
theorem walk_WordsDoubles (n : Int) (hn : In64 n) (w : World) (hE : Env w) : Calls Tryd.prog 11 #[.int .i64 n] w fun e w' => e = .returned (.bool true) ∧ Below w.heap.size w w' := by
  have hB := Below.refl w.heap.size w
  obtain ⟨m, hm⟩ : ∃ m, wrap64 (1 + wrap64 ((IntKind.u64.wrap n).tmod 536870912)) = m := ⟨_, rfl⟩
  have hm1 : 1 ≤ m ∧ m ≤ 536870912 := by
    rw [← hm, IntKind.wrap_u64, Int.tmod_eq_emod_of_nonneg (by omega)]; unfold wrap64; omega
  obtain ⟨hm1, hm2⟩ := hm1
  obtain ⟨k, c, hk, hc1, hc2, e1, e2, e3, e4, e5, e6, e7, e8, e9⟩ := Ws.doubles m hm1 hm2
  have i1 : In64 m := by unfold In64; omega
  have i2 : In64 (2 * m) := by unfold In64; omega
  have i3 : In64 c := by unfold In64; omega
  have E1 := Lib.hid e1; have E2 := Lib.hid e2; have E3 := Lib.hid e3; have E4 := Lib.hid e4; have E5 := Lib.hid e5; have E6 := Lib.hid e6; have E7 := Lib.hid e7; have E8 := Lib.hid e8; have E9 := Lib.hid e9
  clear e1 e2 e3 e4 e5 e6 e7 e8 e9
  go_enter Tryd.func11, Tryd.ntmps11
  go_wp2_with (first | (go_at_call 19; refine (law02_fixed _ hE).mono ?_; rintro e w' ⟨rfl, hb⟩; replace hE := hE.of_below hb; replace hB := below_step hB hb) | (go_at_call 39; (with_reducible refine (words_Ceil2_c m i1 _ _ E1.out E2.out _).mono ?_); rintro e w' ⟨rfl, rfl⟩) | (go_at_call 39; (with_reducible refine (words_Ceil2_c (2 * m) i2 _ _ E3.out E4.out _).mono ?_); rintro e w' ⟨rfl, rfl⟩) | (go_at_call 39; (with_reducible refine (words_Ceil2_c c i3 _ _ E5.out E6.out _).mono ?_); rintro e w' ⟨rfl, rfl⟩) | (go_at_call 41; (with_reducible refine (words_Log2_c m i1 _ E7.out _).mono ?_); rintro e w' ⟨rfl, rfl⟩) | (go_at_call 41; (with_reducible refine (words_Log2_c (2 * m) i2 _ E8.out _).mono ?_); rintro e w' ⟨rfl, rfl⟩) | (go_at_call 41; (with_reducible refine (words_Log2_c c i3 _ E9.out _).mono ?_); rintro e w' ⟨rfl, rfl⟩))
  go_ret
  exact ⟨rfl, hB⟩
theorem words_Read_itoa (n : Int) (hn : In64 n) (w : World) : Calls Tryd.prog 22 #[.string ⟨(Lib.itoa n).toArray⟩] w fun e w' => e = .returned (.tuple #[.int .i64 n, .int .i64 0]) ∧ Below w.heap.size w w' := by
  refine (words_Read _ w).mono ?_
  rintro e w' ⟨rfl, hb⟩
  have h := Num.read_itoa n hn
  exact ⟨ret_ints h.1 h.2, hb⟩
theorem words_Format_t (n : Int) (t : ByteArray) (hn : In64 n) (ht : ⟨(Lib.itoa n).toArray⟩ = t) (w : World) (hE : Env w) : Calls Tryd.prog 20 #[.int .i64 n] w fun e w' => e = .returned (.string t) ∧ Below w.heap.size w w' := by
  rw [← ht]; exact words_Format n hn w hE
theorem words_Read_t (n : Int) (t : ByteArray) (hn : In64 n) (ht : ⟨(Lib.itoa n).toArray⟩ = t) (w : World) : Calls Tryd.prog 22 #[.string t] w fun e w' => e = .returned (.tuple #[.int .i64 n, .int .i64 0]) ∧ Below w.heap.size w w' := by
  rw [← ht]; exact words_Read_itoa n hn w
theorem words_Parse_c (s : ByteArray) (x y : Int) (hx : Num.readN s.data.toList false = x) (hy : Num.readE s.data.toList false = y) (w : World) : Calls Tryd.prog 17 #[.string s] w fun e w' => e = .returned (.tuple #[.int .i64 x, .int .i64 y]) ∧ Below w.heap.size w w' := by
  rw [← hx, ← hy]; exact words_Parse s w
theorem words_Read_c (s : ByteArray) (x y : Int) (hx : Num.readN (Num.unsign s.data.toList) (Num.signed s.data.toList) = x) (hy : Num.readE (Num.unsign s.data.toList) (Num.signed s.data.toList) = y) (w : World) : Calls Tryd.prog 22 #[.string s] w fun e w' => e = .returned (.tuple #[.int .i64 x, .int .i64 y]) ∧ Below w.heap.size w w' := by
  rw [← hx, ← hy]; exact words_Read s w
theorem walk_WordsDigits (n d : Int) (hn : In64 n) (hd : In64 d) (w : World) (hE : Env w) : Calls Tryd.prog 4 #[.int .i64 n, .int .i64 d] w fun e w' => e = .returned (.bool true) ∧ Below w.heap.size w w' := by
  have hB := Below.refl w.heap.size w
  obtain ⟨D, hdd⟩ : ∃ m, wrap64 ((IntKind.u64.wrap d).tmod 10) = m := ⟨_, rfl⟩
  have hD1 : 0 ≤ D ∧ D ≤ 9 := by
    rw [← hdd, IntKind.wrap_u64, Int.tmod_eq_emod_of_nonneg (by omega)]; unfold wrap64; omega
  obtain ⟨hD1, hD2⟩ := hD1
  have hD : In64 D := by unfold In64; omega
  have hn' := hn
  unfold In64 at hn'
  obtain ⟨hn1, hn2⟩ := hn'
  obtain ⟨N, hNN⟩ : ∃ N, (if n < 0 then -(n + 1) else n) = N := ⟨_, rfl⟩
  have hN1 : 0 ≤ N ∧ N ≤ 9223372036854775807 := by rw [← hNN]; split <;> omega
  obtain ⟨hN1, hN2⟩ := hN1
  have hN : In64 N := by unfold In64; omega
  obtain ⟨t, ht⟩ : ∃ t : ByteArray, ⟨(Lib.itoa N).toArray⟩ = t := ⟨_, rfl⟩
  obtain ⟨u, hu⟩ : ∃ t : ByteArray, ⟨(Lib.itoa D).toArray⟩ = t := ⟨_, rfl⟩
  have ht1 := Num.itoa_size N hN t ht; have hu1 := Num.itoa_size D hD u hu
  have H0 := Lib.hid (Num.digits_000 N hN1 hN t ht); have HM := Lib.hid (Num.digits_minus N hN1 hN t ht); have HJ := Num.digits_more N D hN1 hN hD1 hD2 t u ht hu
  have HT := Lib.hid ht; have HU := Lib.hid hu
  obtain ⟨q, hq⟩ : ∃ q, (9223372036854775807 - D).tdiv 10 = q := ⟨_, rfl⟩
  have hq1 : q < N ↔ 9223372036854775807 < N * 10 + D := by rw [← hq, Int.tdiv_eq_ediv_of_nonneg (by omega)]; omega
  have hq2 : wrap64 q = q := by
    apply wrap64_id; unfold In64; rw [← hq, Int.tdiv_eq_ediv_of_nonneg (by omega)]; omega
  clear ht hu
  by_cases h0 : n < 0
  · have HX := Lib.hid (show wrap64 (-wrap64 (n + 1)) = N by rw [← hNN, if_pos h0]; unfold wrap64; omega)
    clear hNN
    by_cases hbig : 9223372036854775807 < N * 10 + D
    · have d1 : decide (q < N) = true := by simpa using hq1.2 hbig
      rw [if_pos hbig, if_pos hbig] at HJ
      have HJ1 := Lib.hid HJ.1; have HJ2 := Lib.hid HJ.2
      clear hq1 HJ hbig
      go_enter Tryd.func4, Tryd.ntmps4
      go_wp2_with (first | (go_at_call 19; refine (law02_fixed _ hE).mono ?_; rintro e w' ⟨rfl, hb⟩; replace hE := hE.of_below hb; replace hB := below_step hB hb) | (go_at_call 25; refine (words_Add _ _ _).mono ?_; rintro e w' ⟨rfl, rfl⟩) | (go_at_call 20; (with_reducible refine (words_Format_t N t hN HT.out _ hE).mono ?_); rintro e w' ⟨rfl, hb⟩; replace hE := hE.of_below hb; replace hB := below_step hB hb) | (go_at_call 20; (with_reducible refine (words_Format_t D u hD HU.out _ hE).mono ?_); rintro e w' ⟨rfl, hb⟩; replace hE := hE.of_below hb; replace hB := below_step hB hb) | (go_at_call 17; (with_reducible refine (words_Parse_c (⟨#[48, 48, 48]⟩ ++ t) _ _ H0.out.1 H0.out.2 _).mono ?_); rintro e w' ⟨rfl, hb⟩; replace hE := hE.of_below hb; replace hB := below_step hB hb) | (go_at_call 22; (with_reducible refine (words_Read_c (⟨#[45]⟩ ++ t) _ _ HM.out.1 HM.out.2 _).mono ?_); rintro e w' ⟨rfl, hb⟩; replace hE := hE.of_below hb; replace hB := below_step hB hb) | (go_at_call 17; (with_reducible refine (words_Parse_c (t ++ u) _ _ HJ1.out HJ2.out _).mono ?_); rintro e w' ⟨rfl, hb⟩; replace hE := hE.of_below hb; replace hB := below_step hB hb) | (go_at_call 24; (with_reducible refine (words_Neg N _).mono ?_); rintro e w' ⟨rfl, rfl⟩) | (go_at_call 24; refine (words_Neg _ _).mono ?_; rintro e w' ⟨rfl, rfl⟩; rw [HX.out]))
      go_ret
      exact ⟨rfl, hB⟩
    · have d1 : decide (q < N) = false := by simp; omega
      rw [if_neg hbig, if_neg hbig] at HJ
      have HJ1 := Lib.hid (HJ.1.trans (show N * 10 + D = 10 * N + D by omega)); have HJ2 := Lib.hid HJ.2
      have hb1 : 10 * N + D ≤ 9223372036854775807 := by omega
      clear hq1 HJ hbig
      go_enter Tryd.func4, Tryd.ntmps4
      go_wp2_with (first | (go_at_call 19; refine (law02_fixed _ hE).mono ?_; rintro e w' ⟨rfl, hb⟩; replace hE := hE.of_below hb; replace hB := below_step hB hb) | (go_at_call 25; refine (words_Add _ _ _).mono ?_; rintro e w' ⟨rfl, rfl⟩) | (go_at_call 20; (with_reducible refine (words_Format_t N t hN HT.out _ hE).mono ?_); rintro e w' ⟨rfl, hb⟩; replace hE := hE.of_below hb; replace hB := below_step hB hb) | (go_at_call 20; (with_reducible refine (words_Format_t D u hD HU.out _ hE).mono ?_); rintro e w' ⟨rfl, hb⟩; replace hE := hE.of_below hb; replace hB := below_step hB hb) | (go_at_call 17; (with_reducible refine (words_Parse_c (⟨#[48, 48, 48]⟩ ++ t) _ _ H0.out.1 H0.out.2 _).mono ?_); rintro e w' ⟨rfl, hb⟩; replace hE := hE.of_below hb; replace hB := below_step hB hb) | (go_at_call 22; (with_reducible refine (words_Read_c (⟨#[45]⟩ ++ t) _ _ HM.out.1 HM.out.2 _).mono ?_); rintro e w' ⟨rfl, hb⟩; replace hE := hE.of_below hb; replace hB := below_step hB hb) | (go_at_call 17; (with_reducible refine (words_Parse_c (t ++ u) _ _ HJ1.out HJ2.out _).mono ?_); rintro e w' ⟨rfl, hb⟩; replace hE := hE.of_below hb; replace hB := below_step hB hb) | (go_at_call 24; (with_reducible refine (words_Neg N _).mono ?_); rintro e w' ⟨rfl, rfl⟩) | (go_at_call 24; refine (words_Neg _ _).mono ?_; rintro e w' ⟨rfl, rfl⟩; rw [HX.out]))
      go_ret
      exact ⟨rfl, hB⟩
  · have hx : N = n := by rw [← hNN, if_neg h0]
    clear hNN
    subst hx
    by_cases hbig : 9223372036854775807 < N * 10 + D
    · have d1 : decide (q < N) = true := by simpa using hq1.2 hbig
      rw [if_pos hbig, if_pos hbig] at HJ
      have HJ1 := Lib.hid HJ.1; have HJ2 := Lib.hid HJ.2
      clear hq1 HJ hbig
      go_enter Tryd.func4, Tryd.ntmps4
      go_wp2_with (first | (go_at_call 19; refine (law02_fixed _ hE).mono ?_; rintro e w' ⟨rfl, hb⟩; replace hE := hE.of_below hb; replace hB := below_step hB hb) | (go_at_call 20; (with_reducible refine (words_Format_t N t hN HT.out _ hE).mono ?_); rintro e w' ⟨rfl, hb⟩; replace hE := hE.of_below hb; replace hB := below_step hB hb) | (go_at_call 20; (with_reducible refine (words_Format_t D u hD HU.out _ hE).mono ?_); rintro e w' ⟨rfl, hb⟩; replace hE := hE.of_below hb; replace hB := below_step hB hb) | (go_at_call 17; (with_reducible refine (words_Parse_c (⟨#[48, 48, 48]⟩ ++ t) _ _ H0.out.1 H0.out.2 _).mono ?_); rintro e w' ⟨rfl, hb⟩; replace hE := hE.of_below hb; replace hB := below_step hB hb) | (go_at_call 22; (with_reducible refine (words_Read_c (⟨#[45]⟩ ++ t) _ _ HM.out.1 HM.out.2 _).mono ?_); rintro e w' ⟨rfl, hb⟩; replace hE := hE.of_below hb; replace hB := below_step hB hb) | (go_at_call 17; (with_reducible refine (words_Parse_c (t ++ u) _ _ HJ1.out HJ2.out _).mono ?_); rintro e w' ⟨rfl, hb⟩; replace hE := hE.of_below hb; replace hB := below_step hB hb) | (go_at_call 24; (with_reducible refine (words_Neg N _).mono ?_); rintro e w' ⟨rfl, rfl⟩))
      go_ret
      exact ⟨rfl, hB⟩
    · have d1 : decide (q < N) = false := by simp; omega
      rw [if_neg hbig, if_neg hbig] at HJ
      have HJ1 := Lib.hid (HJ.1.trans (show N * 10 + D = 10 * N + D by omega)); have HJ2 := Lib.hid HJ.2
      have hb1 : 10 * N + D ≤ 9223372036854775807 := by omega
      clear hq1 HJ hbig
      go_enter Tryd.func4, Tryd.ntmps4
      go_wp2_with (first | (go_at_call 19; refine (law02_fixed _ hE).mono ?_; rintro e w' ⟨rfl, hb⟩; replace hE := hE.of_below hb; replace hB := below_step hB hb) | (go_at_call 20; (with_reducible refine (words_Format_t N t hN HT.out _ hE).mono ?_); rintro e w' ⟨rfl, hb⟩; replace hE := hE.of_below hb; replace hB := below_step hB hb) | (go_at_call 20; (with_reducible refine (words_Format_t D u hD HU.out _ hE).mono ?_); rintro e w' ⟨rfl, hb⟩; replace hE := hE.of_below hb; replace hB := below_step hB hb) | (go_at_call 17; (with_reducible refine (words_Parse_c (⟨#[48, 48, 48]⟩ ++ t) _ _ H0.out.1 H0.out.2 _).mono ?_); rintro e w' ⟨rfl, hb⟩; replace hE := hE.of_below hb; replace hB := below_step hB hb) | (go_at_call 22; (with_reducible refine (words_Read_c (⟨#[45]⟩ ++ t) _ _ HM.out.1 HM.out.2 _).mono ?_); rintro e w' ⟨rfl, hb⟩; replace hE := hE.of_below hb; replace hB := below_step hB hb) | (go_at_call 17; (with_reducible refine (words_Parse_c (t ++ u) _ _ HJ1.out HJ2.out _).mono ?_); rintro e w' ⟨rfl, hb⟩; replace hE := hE.of_below hb; replace hB := below_step hB hb) | (go_at_call 24; (with_reducible refine (words_Neg N _).mono ?_); rintro e w' ⟨rfl, rfl⟩))
      go_ret
      exact ⟨rfl, hB⟩
end Go.Proofs.YtpppcoobibmlhaaDoor
