/- The statements of layer 2, walked. -/
import Derived.Test.YtpppcoobibmlhaaDoorWords7
namespace Go.Proofs.YtpppcoobibmlhaaDoor
open Go.RowKit
set_option linter.unusedVariables false
set_option linter.unusedSimpArgs false

theorem walk_WordsSums (a b : Int) (ha : In64 a) (hb : In64 b) (w : World) (hE : Env w) : Calls Tryd.prog 7 #[.int .i64 a, .int .i64 b] w fun e w' => e = .returned (.bool true) ∧ Below w.heap.size w w' := by
  go_enter Tryd.func7, Tryd.ntmps7
  go_wp2_with (first | (go_at_call 32; refine (words_Div _ _ _).mono ?_; rintro e w' ⟨rfl, rfl⟩) | (go_at_call 33; refine (ref_Div _ _ ha _).mono ?_; rintro e w' ⟨rfl, rfl⟩) | (go_at_call 19; refine (law02_fixed _ hE).mono ?_; rintro e w1 ⟨rfl, hb1⟩) | (go_at_call 25; refine (words_Add _ _ _).mono ?_; rintro e w' ⟨rfl, rfl⟩) | (go_at_call 34; refine (words_Sub _ _ _).mono ?_; rintro e w' ⟨rfl, rfl⟩) | (go_at_call 35; refine (words_Mul _ _ _).mono ?_; rintro e w' ⟨rfl, rfl⟩) | (go_at_call 36; refine (ref_Mul _ _ _).mono ?_; rintro e w' ⟨rfl, rfl⟩) | (go_at_call 24; refine (words_Neg _ _).mono ?_; rintro e w' ⟨rfl, rfl⟩) | (go_at_call 37; refine (words_Mod _ _ ha hb _).mono ?_; rintro e w' ⟨rfl, rfl⟩) | (go_at_call 38; refine (ref_Mod _ _ ha hb _).mono ?_; rintro e w' ⟨rfl, rfl⟩))
  go_ret
  exact ⟨rfl, hb1⟩
theorem words_Div_c (a b q z : Int) (hq : Ws.divQ a b = q) (hz : Ws.divE b = z) (w : World) : Calls Tryd.prog 32 #[.int .i64 a, .int .i64 b] w fun e w' => e = .returned (.tuple #[.int .i64 q, .int .i64 z]) ∧ w = w' := by
  rw [← hq, ← hz]; exact words_Div a b w
theorem words_Mod_c (a b : Int) (ha : In64 a) (hb : In64 b) (q z : Int) (hq : Ws.modR a b = q) (hz : Ws.divE b = z) (w : World) : Calls Tryd.prog 37 #[.int .i64 a, .int .i64 b] w fun e w' => e = .returned (.tuple #[.int .i64 q, .int .i64 z]) ∧ w = w' := by
  rw [← hq, ← hz]; exact words_Mod a b ha hb w
theorem words_Ceil2_c (n : Int) (hn : In64 n) (c z : Int) (hc : Ws.ceil2 n = c) (he : Ws.ceil2E n = z) (w : World) : Calls Tryd.prog 39 #[.int .i64 n] w fun e w' => e = .returned (.tuple #[.int .i64 c, .int .i64 z]) ∧ w = w' := by
  rw [← hc, ← he]; exact words_Ceil2 n hn w
theorem ref_Ceil2_c (n : Int) (hn : In64 n) (c z : Int) (hc : Ws.ceil2 n = c) (he : Ws.ceil2E n = z) (w : World) : Calls Tryd.prog 40 #[.int .i64 n] w fun e w' => e = .returned (.tuple #[.int .i64 c, .int .i64 z]) ∧ w = w' := by
  rw [← hc, ← he]; exact ref_Ceil2 n hn w
theorem walk_WordsPowers (n : Int) (hn : In64 n) (w : World) (hE : Env w) : Calls Tryd.prog 9 #[.int .i64 n] w fun e w' => e = .returned (.bool true) ∧ Below w.heap.size w w' := by
  by_cases h0 : n < 0 ∨ 1073741824 < n
  · have h1 := Ws.ceil2E_bad n h0
    obtain ⟨c, hc⟩ : ∃ c, Ws.ceil2 n = c := ⟨_, rfl⟩
    obtain ⟨z, hz⟩ : ∃ c, Ws.ceil2E n = c := ⟨_, rfl⟩
    rw [hz] at h1
    have HC := Lib.hid hc; have HE := Lib.hid hz
    have h2 : (z != 0) = true := by simpa using h1
    clear h0 hc hz h1
    go_enter Tryd.func9, Tryd.ntmps9
    go_wp2_with (first | (go_at_call 19; refine (law02_fixed _ hE).mono ?_; rintro e w1 ⟨rfl, hb1⟩; have hE1 := hE.of_below hb1) | (go_at_call 39; refine (words_Ceil2_c n hn c z HC.out HE.out _).mono ?_; rintro e w' ⟨rfl, rfl⟩) | (go_at_call 40; refine (ref_Ceil2_c n hn c z HC.out HE.out _).mono ?_; rintro e w' ⟨rfl, rfl⟩) | (go_at_call 41; refine (words_Log2 n hn _).mono ?_; rintro e w' ⟨rfl, rfl⟩) | (go_at_call 42; refine (ref_Log2 n hn _).mono ?_; rintro e w' ⟨rfl, rfl⟩))
    go_ret
    exact ⟨rfl, hb1⟩
  · by_cases h1 : n = 0
    · have h2 : (n == 0) = true := by simpa using h1
      have HC := Lib.hid (show Ws.ceil2 n = 0 by rw [h1]; rfl); have HE := Lib.hid (show Ws.ceil2E n = 0 by rw [h1]; rfl)
      clear h1 h0
      go_enter Tryd.func9, Tryd.ntmps9
      go_wp2_with (first | (go_at_call 19; refine (law02_fixed _ hE).mono ?_; rintro e w1 ⟨rfl, hb1⟩; have hE1 := hE.of_below hb1) | (go_at_call 39; refine (words_Ceil2_c n hn _ _ HC.out HE.out _).mono ?_; rintro e w' ⟨rfl, rfl⟩) | (go_at_call 40; refine (ref_Ceil2_c n hn _ _ HC.out HE.out _).mono ?_; rintro e w' ⟨rfl, rfl⟩) | (go_at_call 41; refine (words_Log2 n hn _).mono ?_; rintro e w' ⟨rfl, rfl⟩) | (go_at_call 42; refine (ref_Log2 n hn _).mono ?_; rintro e w' ⟨rfl, rfl⟩))
      go_ret
      exact ⟨rfl, hb1⟩
    · have h2 : (n == 0) = false := by simpa using h1
      obtain ⟨k, hk, e1, e2, e3, e4, e5, e6⟩ := Ws.ceil2_k n (by omega) (by omega)
      have HK := Lib.hid e1; have HC := Lib.hid e2; have HE := Lib.hid e3
      have hw := Ws.pow_wrap k (by omega)
      have e7 : decide (n ≤ 2 ^ k) = true := by simpa using e4
      have e8 : decide (((2 : Int) ^ k).tdiv 2 < n) = true := by simpa using e5
      have e9 : wrap64 (((2 : Int) ^ k).tdiv 2) = ((2 : Int) ^ k).tdiv 2 := by
        rw [Int.tdiv_eq_ediv_of_nonneg (Int.le_of_lt (Ws.pow_pos' k))]
        apply wrap64_id; unfold In64; have := Ws.pow_pos' k; omega
      clear h0 h1 e1 e2 e3 e4 e5
      go_enter Tryd.func9, Tryd.ntmps9
      go_wp2_with (first | (go_at_call 19; refine (law02_fixed _ hE).mono ?_; rintro e w1 ⟨rfl, hb1⟩; have hE1 := hE.of_below hb1) | (go_at_call 39; refine (words_Ceil2_c n hn _ _ HC.out HE.out _).mono ?_; rintro e w' ⟨rfl, rfl⟩) | (go_at_call 40; refine (ref_Ceil2_c n hn _ _ HC.out HE.out _).mono ?_; rintro e w' ⟨rfl, rfl⟩) | (go_at_call 41; refine (words_Log2_k n hn k HK.out _).mono ?_; rintro e w' ⟨rfl, rfl⟩) | (go_at_call 42; refine (ref_Log2_k n hn k HK.out _).mono ?_; rintro e w' ⟨rfl, rfl⟩))
      go_ret
      exact ⟨rfl, hb1⟩
theorem walk_WordsRing (a b c : Int) (ha : In64 a) (hb : In64 b) (hc : In64 c) (w : World) (hE : Env w) : Calls Tryd.prog 8 #[.int .i64 a, .int .i64 b, .int .i64 c] w fun e w' => e = .returned (.bool true) ∧ Below w.heap.size w w' := by
  have f1 : (wrap64 (wrap64 (a + b) - b) != a) = false := by rw [Ws.ring1 a b ha]; simp
  have f2 : (wrap64 (a + wrap64 (-a)) != 0) = false := by rw [Ws.ring2]; rfl
  have f3 : (wrap64 (a * wrap64 (b + c)) != wrap64 (wrap64 (a * b) + wrap64 (a * c))) = false := by rw [Ws.ring3]; simp
  by_cases h0 : b = 0
  · have h1 : (b == 0) = true := by simpa using h0
    have HQ := Lib.hid (show Ws.divQ a b = 0 by simp [Ws.divQ, h0]); have HR := Lib.hid (show Ws.modR a b = 0 by simp [Ws.modR, h0]); have HZ := Lib.hid (show Ws.divE b = 7 by simp [Ws.divE, h0])
    clear h0
    go_enter Tryd.func8, Tryd.ntmps8
    go_wp2_with (first | (go_at_call 19; refine (law02_fixed _ hE).mono ?_; rintro e w1 ⟨rfl, hb1⟩; have hE1 := hE.of_below hb1) | (go_at_call 32; refine (words_Div_c a b _ _ HQ.out HZ.out _).mono ?_; rintro e w' ⟨rfl, rfl⟩) | (go_at_call 37; refine (words_Mod_c a b ha hb _ _ HR.out HZ.out _).mono ?_; rintro e w' ⟨rfl, rfl⟩) | (go_at_call 25; refine (words_Add _ _ _).mono ?_; rintro e w' ⟨rfl, rfl⟩) | (go_at_call 34; refine (words_Sub _ _ _).mono ?_; rintro e w' ⟨rfl, rfl⟩) | (go_at_call 35; refine (words_Mul _ _ _).mono ?_; rintro e w' ⟨rfl, rfl⟩) | (go_at_call 24; refine (words_Neg _ _).mono ?_; rintro e w' ⟨rfl, rfl⟩))
    go_ret
    exact ⟨rfl, hb1⟩
  · have h1 : (b == 0) = false := by simpa using h0
    obtain ⟨q, hq⟩ : ∃ q, Ws.divQ a b = q := ⟨_, rfl⟩
    obtain ⟨m, hm⟩ : ∃ q, Ws.modR a b = q := ⟨_, rfl⟩
    have f4 : (wrap64 (wrap64 (q * b) + m) != a) = false := by rw [← hq, ← hm, Ws.ring4 a b h0 ha]; simp
    have hs := Ws.modR_sign a b h0
    rw [hm] at hs
    have HQ := Lib.hid hq; have HR := Lib.hid hm; have HZ := Lib.hid (show Ws.divE b = 0 by simp [Ws.divE, h0])
    clear h0 hq hm
    rcases hs with hs | ⟨s1, s2, s3⟩ | ⟨s1, s2, s3⟩
    · have h2 : (m == 0) = true := by simpa using hs
      clear hs
      go_enter Tryd.func8, Tryd.ntmps8
      go_wp2_with (first | (go_at_call 19; refine (law02_fixed _ hE).mono ?_; rintro e w1 ⟨rfl, hb1⟩; have hE1 := hE.of_below hb1) | (go_at_call 32; refine (words_Div_c a b _ _ HQ.out HZ.out _).mono ?_; rintro e w' ⟨rfl, rfl⟩) | (go_at_call 37; refine (words_Mod_c a b ha hb _ _ HR.out HZ.out _).mono ?_; rintro e w' ⟨rfl, rfl⟩) | (go_at_call 25; refine (words_Add _ _ _).mono ?_; rintro e w' ⟨rfl, rfl⟩) | (go_at_call 34; refine (words_Sub _ _ _).mono ?_; rintro e w' ⟨rfl, rfl⟩) | (go_at_call 35; refine (words_Mul _ _ _).mono ?_; rintro e w' ⟨rfl, rfl⟩) | (go_at_call 24; refine (words_Neg _ _).mono ?_; rintro e w' ⟨rfl, rfl⟩))
      go_ret
      exact ⟨rfl, hb1⟩
    · have h2 : (m == 0) = false := by simp; omega
      have h3 : decide (0 < b) = true := by simpa using s1
      have h4 : decide (0 < m) = true := by simpa using s2
      have h5 : decide (m < b) = true := by simpa using s3
      go_enter Tryd.func8, Tryd.ntmps8
      go_wp2_with (first | (go_at_call 19; refine (law02_fixed _ hE).mono ?_; rintro e w1 ⟨rfl, hb1⟩; have hE1 := hE.of_below hb1) | (go_at_call 32; refine (words_Div_c a b _ _ HQ.out HZ.out _).mono ?_; rintro e w' ⟨rfl, rfl⟩) | (go_at_call 37; refine (words_Mod_c a b ha hb _ _ HR.out HZ.out _).mono ?_; rintro e w' ⟨rfl, rfl⟩) | (go_at_call 25; refine (words_Add _ _ _).mono ?_; rintro e w' ⟨rfl, rfl⟩) | (go_at_call 34; refine (words_Sub _ _ _).mono ?_; rintro e w' ⟨rfl, rfl⟩) | (go_at_call 35; refine (words_Mul _ _ _).mono ?_; rintro e w' ⟨rfl, rfl⟩) | (go_at_call 24; refine (words_Neg _ _).mono ?_; rintro e w' ⟨rfl, rfl⟩))
      go_ret
      exact ⟨rfl, hb1⟩
    · have h2 : (m == 0) = false := by simp; omega
      have h3 : decide (0 < b) = false := by simp; omega
      have h4 : decide (b < 0) = true := by simpa using s1
      have h5 : decide (m < 0) = true := by simpa using s2
      have h6 : decide (b < m) = true := by simpa using s3
      go_enter Tryd.func8, Tryd.ntmps8
      go_wp2_with (first | (go_at_call 19; refine (law02_fixed _ hE).mono ?_; rintro e w1 ⟨rfl, hb1⟩; have hE1 := hE.of_below hb1) | (go_at_call 32; refine (words_Div_c a b _ _ HQ.out HZ.out _).mono ?_; rintro e w' ⟨rfl, rfl⟩) | (go_at_call 37; refine (words_Mod_c a b ha hb _ _ HR.out HZ.out _).mono ?_; rintro e w' ⟨rfl, rfl⟩) | (go_at_call 25; refine (words_Add _ _ _).mono ?_; rintro e w' ⟨rfl, rfl⟩) | (go_at_call 34; refine (words_Sub _ _ _).mono ?_; rintro e w' ⟨rfl, rfl⟩) | (go_at_call 35; refine (words_Mul _ _ _).mono ?_; rintro e w' ⟨rfl, rfl⟩) | (go_at_call 24; refine (words_Neg _ _).mono ?_; rintro e w' ⟨rfl, rfl⟩))
      go_ret
      exact ⟨rfl, hb1⟩
theorem words_Turns_c (a b s : Int) (ha : In64 a) (hb : In64 b) (hs : In64 s) (n z : Int) (ok : Bool) (hn : Ws.turnsN a b s = n) (hok : Ws.turnsOk a b s = ok) (hz : Ws.turnsE s = z) (w : World) : Calls Tryd.prog 43 #[.int .i64 a, .int .i64 b, .int .i64 s] w fun e w' =>
    e = .returned (.tuple #[.int .u64 n, .bool ok, .int .i64 z]) ∧ w = w' := by
  rw [← hn, ← hok, ← hz]; exact words_Turns a b s ha hb hs w
theorem ref_Turns_c (a b s : Int) (ha : In64 a) (hb : In64 b) (hs : In64 s) (n z : Int) (ok : Bool) (hn : Ws.turnsN a b s = n) (hok : Ws.turnsOk a b s = ok) (hz : Ws.turnsE s = z) (w : World) : Calls Tryd.prog 44 #[.int .i64 a, .int .i64 b, .int .i64 s] w fun e w' =>
    e = .returned (.tuple #[.int .u64 n, .bool ok, .int .i64 z]) ∧ w = w' := by
  rw [← hn, ← hok, ← hz]; exact ref_Turns a b s ha hb hs w
theorem walk_WordsTurns (a b s : Int) (ha : In64 a) (hb : In64 b) (hs : In64 s) (w : World) (hE : Env w) : Calls Tryd.prog 10 #[.int .i64 a, .int .i64 b, .int .i64 s] w fun e w' => e = .returned (.bool true) ∧ Below w.heap.size w w' := by
  obtain ⟨n, hn⟩ : ∃ n, Ws.turnsN a b s = n := ⟨_, rfl⟩
  obtain ⟨z, hz⟩ : ∃ n, Ws.turnsE s = n := ⟨_, rfl⟩
  obtain ⟨ok, hok⟩ : ∃ n, Ws.turnsOk a b s = n := ⟨_, rfl⟩
  have HN := Lib.hid hn; have HZ := Lib.hid hz; have HO := Lib.hid hok
  by_cases h1 : z = 0 ∧ ok = true ∧ n ≤ 500
  · obtain ⟨rfl, rfl, h3⟩ := h1
    have hs0 : s ≠ 0 := by rintro rfl; simp [Ws.turnsE] at hz
    clear hn hz hok
    by_cases h0 : 0 < s
    · have hab := Ws.turnsN_up h0 HO.out HN.out
      obtain ⟨hab, HD⟩ := hab
      have HD := Lib.hid HD
      have d1 : decide (0 < s) = true := by simpa using h0
      have hn0 : 0 ≤ n := by rw [← HD.out]; exact Int.ediv_nonneg (by omega) (by omega)
      go_enter Tryd.func10, Tryd.ntmps10
      go_wp2_with (first | (go_at_call 19; refine (law02_fixed _ hE).mono ?_; rintro e w1 ⟨rfl, hb1⟩; have hE1 := hE.of_below hb1) | (go_at_call 43; refine (words_Turns_c a b s ha hb hs n _ _ HN.out HO.out HZ.out _).mono ?_; rintro e w' ⟨rfl, rfl⟩) | (go_at_call 44; refine (ref_Turns_c a b s ha hb hs n _ _ HN.out HO.out HZ.out _).mono ?_; rintro e w' ⟨rfl, rfl⟩))
      go_loop [13, 14, 15] (fun v k x => ∃ i : Nat, (i : Int) ≤ n ∧ k = .int .u64 i ∧ v = .int .i64 (a + i * s)) (fun _ k _ => n.toNat - (intOf k).toNat)
      case atStart => exact ⟨0, by omega, rfl, by simp⟩
      case round =>
        obtain ⟨i, hi, rfl, rfl⟩ := hrel
        have HT := Lib.hid (Ws.turns_up a b s n ha hb hs h0 hab HD.out i hi)
        obtain ⟨v, hv⟩ : ∃ v, a + (i : Int) * s = v := ⟨_, rfl⟩
        rw [hv] at HT
        rw [hv]
        by_cases hlt : (i : Int) < n
        · have HT2 := Lib.hid (HT.out.2.1 hlt)
          obtain ⟨x, hx⟩ : ∃ x, a + ((i + 1 : Nat) : Int) * s = x := ⟨_, rfl⟩
          rw [hx] at HT2
          have d3 : decide (x ≤ v) = false := by have := HT2.out; simp; omega
          have d4 : decide (b < x) = false := by have := HT2.out; simp; omega
          have HV := Lib.hid hv; have HX := Lib.hid hx
          clear hv hx
          go_wp2_with (go_at_call 25; refine (words_Add _ _ _).mono ?_; rintro e w' ⟨rfl, rfl⟩; rw [HT2.out.1])
          go_round
          case rel => exact ⟨i + 1, by omega, by go_num, by rw [HX.out]⟩
          case measure => simp [intOf]; omega
        · have HT3 := Lib.hid (HT.out.2.2 (by omega))
          obtain ⟨x, hx⟩ : ∃ x, wrap64 (v + s) = x := ⟨_, rfl⟩
          rw [hx] at HT3
          have HV := Lib.hid hv; have HX := Lib.hid hx
          clear hv hx
          rcases HT3.out with h9 | h9
          · have d3 : decide (x < v) = true := by simpa using h9
            go_wp2_with (go_at_call 25; refine (words_Add _ _ _).mono ?_; rintro e w' ⟨rfl, rfl⟩; rw [HX.out])
            go_ret
            exact ⟨rfl, hb1⟩
          · have d4 : decide (b < x) = true := by simpa using h9
            go_wp2_with (go_at_call 25; refine (words_Add _ _ _).mono ?_; rintro e w' ⟨rfl, rfl⟩; rw [HX.out])
            all_goals go_ret
            all_goals exact ⟨rfl, hb1⟩
    · have hneg : s < 0 := by omega
      have hab := Ws.turnsN_down hneg HO.out HN.out
      obtain ⟨hab, HD⟩ := hab
      have HD := Lib.hid HD
      have d1 : decide (0 < s) = false := by simp; omega
      have d2 : decide (s < 0) = true := by simpa using hneg
      have hn0 : 0 ≤ n := by rw [← HD.out]; exact Int.ediv_nonneg (by omega) (by omega)
      go_enter Tryd.func10, Tryd.ntmps10
      go_wp2_with (first | (go_at_call 19; refine (law02_fixed _ hE).mono ?_; rintro e w1 ⟨rfl, hb1⟩; have hE1 := hE.of_below hb1) | (go_at_call 43; refine (words_Turns_c a b s ha hb hs n _ _ HN.out HO.out HZ.out _).mono ?_; rintro e w' ⟨rfl, rfl⟩) | (go_at_call 44; refine (ref_Turns_c a b s ha hb hs n _ _ HN.out HO.out HZ.out _).mono ?_; rintro e w' ⟨rfl, rfl⟩))
      go_loop [13, 14, 15] (fun v k x => ∃ i : Nat, (i : Int) ≤ n ∧ k = .int .u64 i ∧ v = .int .i64 (a + i * s)) (fun _ k _ => n.toNat - (intOf k).toNat)
      case atStart => exact ⟨0, by omega, rfl, by simp⟩
      case round =>
        obtain ⟨i, hi, rfl, rfl⟩ := hrel
        have HT := Lib.hid (Ws.turns_down a b s n ha hb hs hneg hab HD.out i hi)
        obtain ⟨v, hv⟩ : ∃ v, a + (i : Int) * s = v := ⟨_, rfl⟩
        rw [hv] at HT
        rw [hv]
        by_cases hlt : (i : Int) < n
        · have HT2 := Lib.hid (HT.out.2.1 hlt)
          obtain ⟨x, hx⟩ : ∃ x, a + ((i + 1 : Nat) : Int) * s = x := ⟨_, rfl⟩
          rw [hx] at HT2
          have d3 : decide (v ≤ x) = false := by have := HT2.out; simp; omega
          have d4 : decide (x < b) = false := by have := HT2.out; simp; omega
          have HV := Lib.hid hv; have HX := Lib.hid hx
          clear hv hx
          go_wp2_with (go_at_call 25; refine (words_Add _ _ _).mono ?_; rintro e w' ⟨rfl, rfl⟩; rw [HT2.out.1])
          go_round
          case rel => exact ⟨i + 1, by omega, by go_num, by rw [HX.out]⟩
          case measure => simp [intOf]; omega
        · have HT3 := Lib.hid (HT.out.2.2 (by omega))
          obtain ⟨x, hx⟩ : ∃ x, wrap64 (v + s) = x := ⟨_, rfl⟩
          rw [hx] at HT3
          have HV := Lib.hid hv; have HX := Lib.hid hx
          clear hv hx
          rcases HT3.out with h9 | h9
          · have d3 : decide (v < x) = true := by simpa using h9
            go_wp2_with (go_at_call 25; refine (words_Add _ _ _).mono ?_; rintro e w' ⟨rfl, rfl⟩; rw [HX.out])
            go_ret
            exact ⟨rfl, hb1⟩
          · have d4 : decide (x < b) = true := by simpa using h9
            go_wp2_with (go_at_call 25; refine (words_Add _ _ _).mono ?_; rintro e w' ⟨rfl, rfl⟩; rw [HX.out])
            all_goals go_ret
            all_goals exact ⟨rfl, hb1⟩
  · by_cases h2 : z = 0
    · subst h2
      cases ok with
      | true =>
        have h3 : decide (500 < n) = true := by
          simp only [decide_eq_true_eq]
          apply Int.not_le.mp
          intro h; exact h1 ⟨rfl, rfl, h⟩
        clear h1 hn hz hok
        go_enter Tryd.func10, Tryd.ntmps10
        go_wp2_with (first | (go_at_call 19; refine (law02_fixed _ hE).mono ?_; rintro e w1 ⟨rfl, hb1⟩; have hE1 := hE.of_below hb1) | (go_at_call 43; refine (words_Turns_c a b s ha hb hs n _ _ HN.out HO.out HZ.out _).mono ?_; rintro e w' ⟨rfl, rfl⟩) | (go_at_call 44; refine (ref_Turns_c a b s ha hb hs n _ _ HN.out HO.out HZ.out _).mono ?_; rintro e w' ⟨rfl, rfl⟩))
        go_ret
        exact ⟨rfl, hb1⟩
      | false =>
        clear h1 hn hz hok
        go_enter Tryd.func10, Tryd.ntmps10
        go_wp2_with (first | (go_at_call 19; refine (law02_fixed _ hE).mono ?_; rintro e w1 ⟨rfl, hb1⟩; have hE1 := hE.of_below hb1) | (go_at_call 43; refine (words_Turns_c a b s ha hb hs n _ _ HN.out HO.out HZ.out _).mono ?_; rintro e w' ⟨rfl, rfl⟩) | (go_at_call 44; refine (ref_Turns_c a b s ha hb hs n _ _ HN.out HO.out HZ.out _).mono ?_; rintro e w' ⟨rfl, rfl⟩))
        go_ret
        exact ⟨rfl, hb1⟩
    · have h3 : (z != 0) = true := by simpa using h2
      clear h1 h2 hn hz hok
      go_enter Tryd.func10, Tryd.ntmps10
      go_wp2_with (first | (go_at_call 19; refine (law02_fixed _ hE).mono ?_; rintro e w1 ⟨rfl, hb1⟩; have hE1 := hE.of_below hb1) | (go_at_call 43; refine (words_Turns_c a b s ha hb hs n _ _ HN.out HO.out HZ.out _).mono ?_; rintro e w' ⟨rfl, rfl⟩) | (go_at_call 44; refine (ref_Turns_c a b s ha hb hs n _ _ HN.out HO.out HZ.out _).mono ?_; rintro e w' ⟨rfl, rfl⟩))
      go_ret
      exact ⟨rfl, hb1⟩
end Go.Proofs.YtpppcoobibmlhaaDoor
