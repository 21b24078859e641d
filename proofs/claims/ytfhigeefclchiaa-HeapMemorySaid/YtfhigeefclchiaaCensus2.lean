/- Contracts of the package census: Choose. -/
import Derived.Test.YtfhigeefclchiaaCensus1
namespace Go.Proofs.Ytfhigeefclchiaa
open Go.RowKit
set_option linter.unusedVariables false
set_option linter.unusedSimpArgs false

def badC (n : Int) : Bool := !decide (0 ≤ n ∧ n ≤ 4294967296)
theorem choose1 (n : Int) (b : Bool) (hb : badC n = b) (w : World) : Calls Try.prog 49 #[.int .i64 n] w fun e w' => e = .returned (.bool b) ∧ w = w' := by
  subst hb
  unfold badC
  by_cases h1 : n < 0
  · have e : decide (0 ≤ n ∧ n ≤ 4294967296) = false := by simp; omega
    rw [e]
    have d1 : decide (n < 0) = true := by simpa using h1
    go_enter Try.func49, Try.ntmps49
    go_wp2
    go_ret
    exact ⟨rfl, rfl⟩
  · have d1 : decide (n < 0) = false := by simpa using h1
    by_cases h2 : 4294967296 < n
    · have e : decide (0 ≤ n ∧ n ≤ 4294967296) = false := by simp; omega
      rw [e]
      have d2 : decide (4294967296 < n) = true := by simpa using h2
      go_enter Try.func49, Try.ntmps49
      go_wp2
      go_ret
      exact ⟨rfl, rfl⟩
    · have e : decide (0 ≤ n ∧ n ≤ 4294967296) = true := by simp; omega
      rw [e]
      have d2 : decide (4294967296 < n) = false := by simpa using h2
      go_enter Try.func49, Try.ntmps49
      go_wp2
      go_ret
      exact ⟨rfl, rfl⟩
set_option maxRecDepth 100000 in
theorem indexFunc (A : Option Addr) (b o c : Nat) (zs : List Int) (w : World) (hl : zs.length ≤ 17592186044416)
    (hA : 0 < zs.length → A = some ⟨b, o, none⟩ ∧ b < w.heap.size ∧ ∀ j, j < zs.length → w.cell? ⟨b, o + j, none⟩ = some (.int .i64 (zs.getD j 0))) :
    Calls Try.prog 61 #[.slice A zs.length c, .func (.func 49) #[] #[]] w fun e w' => ∃ r, e = .returned (.int .i64 r) ∧ decide (0 ≤ r) = zs.any badC ∧ w = w' := by
  have HA := Lib.hid hA
  have hl63 : (zs.length : Int) ≤ 9223372036854775807 := by omega
  clear hA
  go_enter Try.func61, Try.ntmps61
  go_wp2
  go_loopw [5, 8] (fun p i wr => ∃ j : Nat, j ≤ zs.length ∧ i = .int .i64 j ∧ (zs.take j).any badC = false ∧ w = wr) (fun _ i _ => zs.length - (intOf i).toNat)
  case atStart => exact ⟨0, Nat.zero_le _, rfl, rfl, rfl⟩
  case round =>
    obtain ⟨j, hj, rfl, hf, rfl⟩ := hrel
    by_cases hjl : j < zs.length
    · obtain ⟨rfl, hbl, hcell⟩ := HA.out (by omega)
      have cx := hcell j hjl
      clear hcell
      have HT := Lib.hid (take_succ_getD zs j hjl)
      have HM : Hid (zs.getD j 0 ∈ zs) := Lib.hid (by rw [List.getD_eq_getElem?_getD, List.getElem?_eq_getElem hjl]; exact List.getElem_mem hjl)
      generalize zs.getD j 0 = x at cx HT HM
      have dj : decide ((j : Int) < (zs.length : Int)) = true := by simp; omega
      have HF := Lib.hid hf
      clear hf
      cases hb : badC x with
      | true =>
        have HB := Lib.hid hb
        clear hb
        go_wp2_with (first | (go_at_call 49; (with_reducible refine (choose1 x true HB.out _).mono ?_); rintro e w' ⟨rfl, rfl⟩))
        go_ret
        refine ⟨_, rfl, ?_, rfl⟩
        have : zs.any badC = true := List.any_eq_true.2 ⟨x, HM.out, HB.out⟩
        rw [this]; simp
      | false =>
        have HB := Lib.hid hb
        clear hb
        go_wp2_with (first | (go_at_call 49; (with_reducible refine (choose1 x false HB.out _).mono ?_); rintro e w' ⟨rfl, rfl⟩))
        go_roundw
        case rel => exact ⟨j + 1, by omega, by go_num, by rw [HT.out, List.any_append, HF.out]; simp [HB.out], (by first | rfl | trivial)⟩
        case measure => simp [intOf]; omega
    · obtain rfl : j = zs.length := by omega
      rw [List.take_length] at hf
      have HF := Lib.hid hf
      clear hf
      go_wp2
      go_ret
      exact ⟨_, rfl, by rw [HF.out]; rfl, rfl⟩
theorem containsFunc (A : Option Addr) (b o c : Nat) (zs : List Int) (q : Bool) (hq : zs.any badC = q) (w : World) (hl : zs.length ≤ 17592186044416)
    (hA : 0 < zs.length → A = some ⟨b, o, none⟩ ∧ b < w.heap.size ∧ ∀ j, j < zs.length → w.cell? ⟨b, o + j, none⟩ = some (.int .i64 (zs.getD j 0))) :
    Calls Try.prog 48 #[.slice A zs.length c, .func (.func 49) #[] #[]] w fun e w' => e = .returned (.bool q) ∧ w = w' := by
  have HA := Lib.hid hA
  have HQ := Lib.hid hq
  clear hA hq
  go_enter Try.func48, Try.ntmps48
  go_wp2_with (first | (go_at_call 61; (with_reducible refine (indexFunc A b o c zs _ hl HA.out).mono ?_); rintro e w' ⟨r, rfl, hr, rfl⟩; rw [HQ.out] at hr))
  go_ret
  exact ⟨rfl, rfl⟩
namespace Cs
def bestA (c : List Int) (k : Nat) : Int := match best c k with | some i => 2 ^ i | none => 0
def bestN (c : List Int) (k : Nat) : Int := match best c k with | some i => pre c (i + 1) | none => 0
theorem bestA_fit {c : List Int} {k : Nat} (h : fit c k = true) : bestA c (k + 1) = 2 ^ k ∧ bestN c (k + 1) = pre c (k + 1) := by
  unfold bestA bestN best; rw [if_pos h]; exact ⟨rfl, rfl⟩
theorem bestA_not {c : List Int} {k : Nat} (h : fit c k = false) : bestA c (k + 1) = bestA c k ∧ bestN c (k + 1) = bestN c k := by
  unfold bestA bestN
  rw [show best c (k + 1) = best c k by unfold best; rw [if_neg (by rw [h]; decide)]; cases k <;> rfl]
  exact ⟨rfl, rfl⟩
theorem choose_ok {c : List Int} (h : okC c = true) : chooseA c = bestA c 17 ∧ chooseN c = bestN c 17 ∧ chooseE c = 0 := by
  unfold chooseA chooseN chooseE bestA bestN
  rw [if_pos h, if_pos h, if_pos h]; exact ⟨rfl, rfl, rfl⟩
theorem choose_bad {c : List Int} (h : okC c = false) : chooseA c = 0 ∧ chooseN c = 0 ∧ chooseE c = 2 := by
  unfold chooseA chooseN chooseE
  rw [h]; exact ⟨rfl, rfl, rfl⟩
theorem okC_len {c : List Int} (h : c.length ≠ 17) : okC c = false := by unfold okC; simp [h]
theorem okC_any {c : List Int} (h : c.length = 17) : okC c = !c.any badC := by
  unfold okC
  rw [h]
  have : (c.all fun n => decide (0 ≤ n ∧ n ≤ 4294967296)) = !c.any badC := by
    rw [List.not_any_eq_all_not]
    congr 1
    funext n
    unfold badC
    simp
  rw [this]; rfl
theorem okC_in {c : List Int} (h : okC c = true) : ∀ x ∈ c, 0 ≤ x ∧ x ≤ 4294967296 := by
  intro x hx
  unfold okC at h
  rw [Bool.and_eq_true, List.all_eq_true] at h
  simpa using h.2 x hx
theorem pre_bound {c : List Int} (h : ∀ x ∈ c, 0 ≤ x ∧ x ≤ 4294967296) : ∀ k, k ≤ c.length → 0 ≤ pre c k ∧ pre c k ≤ k * 4294967296
  | 0, _ => by simp [pre]
  | k + 1, hk => by
    have := pre_bound h k (by omega)
    have hx : 0 ≤ c.getD k 0 ∧ c.getD k 0 ≤ 4294967296 := getD_in h (by omega)
    unfold pre
    push_cast
    omega
end Cs
set_option maxRecDepth 100000 in
set_option maxHeartbeats 1600000 in
theorem census_Choose_ok (A : Option Addr) (b o c : Nat) (zs : List Int) (w : World) (hok : Cs.okC zs = true) (h17 : zs.length = 17)
    (hA : 0 < zs.length → A = some ⟨b, o, none⟩ ∧ b < w.heap.size ∧ ∀ j, j < zs.length → w.cell? ⟨b, o + j, none⟩ = some (.int .i64 (zs.getD j 0))) :
    Calls Try.prog 23 #[.slice A zs.length c] w fun e w' => e = .returned (.tuple #[.int .i64 (Cs.bestA zs 17), .int .i64 (Cs.bestN zs 17), .int .i64 0]) ∧ w = w' := by
  have hb : zs.any badC = false := by have := Cs.okC_any h17; rw [hok] at this; simpa using this.symm
  have hin := Cs.okC_in hok
  have HP := Lib.hid (Cs.pre_bound hin)
  have HIN := Lib.hid hin
  have HB := Lib.hid hb
  have HA := Lib.hid hA
  have hne : ((zs.length : Int) != 17) = false := by rw [h17]; rfl
  have hl : zs.length ≤ 17592186044416 := by omega
  have H17 := Lib.hid h17
  clear hA hb hin hok h17
  go_enter Try.func23, Try.ntmps23
  go_wp2_with (first | (go_at_call 48; (with_reducible refine (containsFunc A b o c zs false HB.out _ hl HA.out).mono ?_); rintro e w' ⟨rfl, rfl⟩))
  go_loopw [5, 6, 7, 8, 9, 19] (fun a n s p q i wr => ∃ j : Nat, j ≤ 17 ∧ i = .int .i64 j ∧ a = .int .i64 (Cs.bestA zs j) ∧ n = .int .i64 (Cs.bestN zs j) ∧ s = .int .i64 (Cs.pre zs j) ∧ w = wr) (fun _ _ _ _ _ i _ => 17 - (intOf i).toNat)
  case atStart => exact ⟨0, Nat.zero_le _, rfl, rfl, rfl, rfl, rfl⟩
  case round =>
    obtain ⟨j, hj, rfl, rfl, rfl, rfl, rfl⟩ := hrel
    have h17 := H17.out
    by_cases hjl : j < 17
    · obtain ⟨rfl, hbl, hcell⟩ := HA.out (by omega)
      have cx := hcell j (by omega)
      clear hcell
      have hx : 0 ≤ zs.getD j 0 ∧ zs.getD j 0 ≤ 4294967296 := getD_in HIN.out (by omega)
      have hp := HP.out j (by omega)
      have HS : Hid (Cs.pre zs (j + 1) = Cs.pre zs j + zs.getD j 0) := Lib.hid rfl
      have HF : Hid (Cs.fit zs j = decide ((2 : Int) ^ j < 2 * Cs.pre zs (j + 1))) := Lib.hid rfl
      obtain ⟨a, ha⟩ : ∃ a, Cs.bestA zs j = a := ⟨_, rfl⟩
      obtain ⟨n, hn⟩ : ∃ n, Cs.bestN zs j = n := ⟨_, rfl⟩
      have HAa := Lib.hid ha; have HNn := Lib.hid hn
      rw [ha, hn]
      clear ha hn
      generalize zs.getD j 0 = x at cx hx HS
      generalize Cs.pre zs j = s at hp HS ⊢
      have dj : decide ((j : Int) < (zs.length : Int)) = true := by simp; omega
      have w1 : wrap64 (s + x) = s + x := by unfold wrap64; omega
      have w2 : wrap64 (2 * (s + x)) = 2 * (s + x) := by unfold wrap64; omega
      have w3 := Ws.pow_wrap j (by omega)
      have hjz : j < zs.length := by omega
      clear h17
      cases hq : Cs.fit zs j with
      | true =>
        have d1 : decide ((2 : Int) ^ j < 2 * (s + x)) = true := by rw [← HS.out, ← HF.out]; exact hq
        have HQ := Lib.hid hq
        clear hq
        go_wp2
        go_roundw
        case rel => exact ⟨j + 1, by omega, by go_num, by rw [(Cs.bestA_fit HQ.out).1, w3], by rw [(Cs.bestA_fit HQ.out).2, HS.out], by rw [HS.out], (by first | rfl | trivial)⟩
        case measure => simp [intOf]; omega
      | false =>
        have d1 : decide ((2 : Int) ^ j < 2 * (s + x)) = false := by rw [← HS.out, ← HF.out]; exact hq
        have HQ := Lib.hid hq
        clear hq
        go_wp2
        go_roundw
        case rel => exact ⟨j + 1, by omega, by go_num, by rw [(Cs.bestA_not HQ.out).1, HAa.out], by rw [(Cs.bestA_not HQ.out).2, HNn.out], by rw [HS.out], (by first | rfl | trivial)⟩
        case measure => simp [intOf]; omega
    · obtain rfl : j = 17 := by omega
      have dj : decide (((17 : Nat) : Int) < (zs.length : Int)) = false := by simp; omega
      have hjz : ¬ (17 < zs.length) := by omega
      clear h17
      go_wp2
      exact bodyPost_ret (v := .tuple #[.int .i64 (Cs.bestA zs 17), .int .i64 (Cs.bestN zs 17), .int .i64 0]) (by simp [results, Try.results23, go_sem, *]) rfl ⟨rfl, rfl⟩
theorem census_Choose_len (A : Option Addr) (b o c : Nat) (zs : List Int) (w : World) (hl : zs.length ≤ 17592186044416) (h17 : zs.length ≠ 17) :
    Calls Try.prog 23 #[.slice A zs.length c] w fun e w' => e = .returned (.tuple #[.int .i64 0, .int .i64 0, .int .i64 2]) ∧ w = w' := by
  have hne : ((zs.length : Int) != 17) = true := by simp; omega
  have hl63 : (zs.length : Int) ≤ 9223372036854775807 := by omega
  go_enter Try.func23, Try.ntmps23
  go_wp2
  exact bodyPost_ret (v := .tuple #[.int .i64 0, .int .i64 0, .int .i64 2]) (by simp [results, Try.results23, go_sem, *]) rfl ⟨rfl, rfl⟩
theorem census_Choose_bad (A : Option Addr) (b o c : Nat) (zs : List Int) (w : World) (hb : zs.any badC = true) (h17 : zs.length = 17)
    (hA : 0 < zs.length → A = some ⟨b, o, none⟩ ∧ b < w.heap.size ∧ ∀ j, j < zs.length → w.cell? ⟨b, o + j, none⟩ = some (.int .i64 (zs.getD j 0))) :
    Calls Try.prog 23 #[.slice A zs.length c] w fun e w' => e = .returned (.tuple #[.int .i64 0, .int .i64 0, .int .i64 2]) ∧ w = w' := by
  have HB := Lib.hid hb
  have HA := Lib.hid hA
  have hne : ((zs.length : Int) != 17) = false := by rw [h17]; rfl
  have hl : zs.length ≤ 17592186044416 := by omega
  have H17 := Lib.hid h17
  clear hA hb h17
  go_enter Try.func23, Try.ntmps23
  go_wp2_with (first | (go_at_call 48; (with_reducible refine (containsFunc A b o c zs true HB.out _ hl HA.out).mono ?_); rintro e w' ⟨rfl, rfl⟩))
  exact bodyPost_ret (v := .tuple #[.int .i64 0, .int .i64 0, .int .i64 2]) (by simp [results, Try.results23, go_sem, *]) rfl ⟨rfl, rfl⟩
theorem census_Choose (sv : Value) (zs : List Int) (w : World) (hl : zs.length ≤ 17592186044416) (h : IS w sv zs) :
    Calls Try.prog 23 #[sv] w fun e w' => e = .returned (.tuple #[.int .i64 (Cs.chooseA zs), .int .i64 (Cs.chooseN zs), .int .i64 (Cs.chooseE zs)]) ∧ w = w' := by
  obtain ⟨A, b, o, c, rfl, hc, hn, hf⟩ := h.form
  by_cases h17 : zs.length = 17
  · cases hb : zs.any badC with
    | false =>
      have hok : Cs.okC zs = true := by rw [Cs.okC_any h17, hb]; rfl
      obtain ⟨e1, e2, e3⟩ := Cs.choose_ok hok
      rw [e1, e2, e3]
      exact census_Choose_ok A b o c zs w hok h17 hf
    | true =>
      have hok : Cs.okC zs = false := by rw [Cs.okC_any h17, hb]; rfl
      obtain ⟨e1, e2, e3⟩ := Cs.choose_bad hok
      rw [e1, e2, e3]
      exact census_Choose_bad A b o c zs w hb h17 hf
  · obtain ⟨e1, e2, e3⟩ := Cs.choose_bad (Cs.okC_len h17)
    rw [e1, e2, e3]
    exact census_Choose_len A b o c zs w hl h17
end Go.Proofs.Ytfhigeefclchiaa
