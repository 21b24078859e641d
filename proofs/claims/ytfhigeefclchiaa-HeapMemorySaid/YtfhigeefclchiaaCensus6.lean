/- The reference's answers for layer 5: Choose; SameInts; few; within. -/
import Derived.Test.YtfhigeefclchiaaCensus5
namespace Go.Proofs.Ytfhigeefclchiaa
open Go.RowKit
set_option linter.unusedVariables false
set_option linter.unusedSimpArgs false

namespace Cs
theorem best_skip {c : List Int} {k : Nat} (h : fit c k = false) : best c (k + 1) = best c k := by
  show (if fit c k = true then some k else best c k) = best c k
  rw [if_neg (by rw [h]; decide)]
theorem best_take {c : List Int} {k : Nat} (h : fit c k = true) : best c (k + 1) = some k := by
  show (if fit c k = true then some k else best c k) = some k
  rw [if_pos h]
theorem bestA_of {c : List Int} {k : Nat} (h : best c 17 = best c (k + 1)) (f : fit c k = true) : bestA c 17 = 2 ^ k ∧ bestN c 17 = pre c (k + 1) := by
  unfold bestA bestN
  rw [h, best_take f]; exact ⟨rfl, rfl⟩
theorem bestA_none {c : List Int} (h : best c 17 = best c 0) : bestA c 17 = 0 ∧ bestN c 17 = 0 := by
  unfold bestA bestN
  rw [h]; exact ⟨rfl, rfl⟩
theorem okC_bad {c : List Int} {x : Int} (hx : x ∈ c) (h : ¬ (0 ≤ x ∧ x ≤ 4294967296)) : okC c = false := by
  cases e : okC c with
  | false => rfl
  | true => exact absurd (okC_in e x hx) h
end Cs
def inC (n : Int) : Prop := 0 ≤ n ∧ n ≤ 4294967296
theorem getD_mem (l : List Int) {j : Nat} (hj : j < l.length) : l.getD j 0 ∈ l := by
  rw [List.getD_eq_getElem?_getD, List.getElem?_eq_getElem hj]; exact List.getElem_mem hj
set_option maxRecDepth 100000 in
set_option maxHeartbeats 3200000 in
theorem ref_Choose_17 (A : Option Addr) (b o c : Nat) (zs : List Int) (w : World) (hz : ∀ x ∈ zs, In64 x) (h17 : zs.length = 17) (p q r : Int) (hr : (Cs.chooseA zs, Cs.chooseN zs, Cs.chooseE zs) = (p, q, r))
    (hA : 0 < zs.length → A = some ⟨b, o, none⟩ ∧ b < w.heap.size ∧ ∀ j, j < zs.length → w.cell? ⟨b, o + j, none⟩ = some (.int .i64 (zs.getD j 0))) :
    Calls Try.prog 24 #[.slice A zs.length c] w fun e w' => e = .returned (.tuple #[.int .i64 p, .int .i64 q, .int .i64 r]) ∧ w = w' := by
  have HA := Lib.hid hA
  have HZ := Lib.hid hz
  have HR := Lib.hid hr
  have hne : ((zs.length : Int) != 17) = false := by rw [h17]; rfl
  have H17 := Lib.hid h17
  have hl63 : (zs.length : Int) ≤ 9223372036854775807 := by omega
  clear hA hz hr h17
  go_enter Try.func24, Try.ntmps24
  go_wp2
  go_loopw [5, 6] (fun s i wr => ∃ j : Nat, j ≤ 17 ∧ i = .int .i64 j ∧ s = .int .i64 (Cs.pre zs j) ∧ Hid (∀ k, k < j → inC (zs.getD k 0)) ∧ w = wr) (fun _ i _ => 17 - (intOf i).toNat)
  case atStart => exact ⟨0, by omega, rfl, rfl, fun k hk => by omega, rfl⟩
  case round =>
    obtain ⟨j, hj, rfl, rfl, HK, rfl⟩ := hrel
    have h17 := H17.out
    by_cases hjl : j < 17
    · obtain ⟨rfl, hbl, hcell⟩ := HA.out (by omega)
      have cx := hcell j (by omega)
      clear hcell
      have hx : In64 (zs.getD j 0) := getD_in HZ.out (by omega)
      have HM := Lib.hid (getD_mem zs (j := j) (by omega))
      have HS : Hid (Cs.pre zs (j + 1) = Cs.pre zs j + zs.getD j 0) := Lib.hid rfl
      obtain ⟨x, hxx⟩ : ∃ x, zs.getD j 0 = x := ⟨_, rfl⟩
      have HX := Lib.hid hxx
      rw [hxx] at cx hx HM HS
      have hp : 0 ≤ Cs.pre zs j ∧ Cs.pre zs j ≤ j * 4294967296 := by
        have hP : ∀ k, k ≤ j → 0 ≤ Cs.pre zs k ∧ Cs.pre zs k ≤ k * 4294967296 := by
          intro k
          induction k with
          | zero => intro _; simp [Cs.pre]
          | succ k ih =>
            intro hk
            have h1 := ih (by omega)
            have h2 := HK.out k (by omega)
            unfold inC at h2
            unfold Cs.pre
            push_cast
            omega
        exact hP j (Nat.le_refl _)
      generalize Cs.pre zs j = s at hp HS ⊢
      have hjz : j < zs.length := by omega
      have dj : decide ((j : Int) < 17) = true := by simp; omega
      clear h17 hxx
      by_cases h1 : x < 0
      · have d1 : decide (x < 0) = true := by simpa using h1
        have he := Cs.choose_bad (Cs.okC_bad HM.out (fun h => by omega))
        rw [he.1, he.2.1, he.2.2] at HR
        obtain ⟨rfl, rfl, rfl⟩ : 0 = p ∧ 0 = q ∧ 2 = r := by simpa using HR.out
        clear HR he
        go_wp2
        exact bodyPost_ret (v := .tuple #[.int .i64 0, .int .i64 0, .int .i64 2]) (by simp [results, Try.results24, go_sem, *]) rfl ⟨rfl, rfl⟩
      · have d1 : decide (x < 0) = false := by simpa using h1
        by_cases h2 : 4294967296 < x
        · have d2 : decide (4294967296 < x) = true := by simpa using h2
          have he := Cs.choose_bad (Cs.okC_bad HM.out (fun h => by omega))
          rw [he.1, he.2.1, he.2.2] at HR
          obtain ⟨rfl, rfl, rfl⟩ : 0 = p ∧ 0 = q ∧ 2 = r := by simpa using HR.out
          clear HR he
          go_wp2
          exact bodyPost_ret (v := .tuple #[.int .i64 0, .int .i64 0, .int .i64 2]) (by simp [results, Try.results24, go_sem, *]) rfl ⟨rfl, rfl⟩
        · have d2 : decide (4294967296 < x) = false := by simpa using h2
          have w1 : wrap64 (s + x) = s + x := by unfold wrap64; omega
          go_wp2
          go_roundw
          case rel => exact ⟨j + 1, by omega, by go_num, by rw [HS.out], Lib.hid (fun k hk => by
            by_cases e : k = j
            · subst e; rw [HX.out]; unfold inC; omega
            · exact HK.out k (by omega)), (by first | rfl | trivial)⟩
          case measure => simp [intOf]; omega
    · obtain rfl : j = 17 := by omega
      have hok : Cs.okC zs = true := by
        unfold Cs.okC
        rw [h17]
        simp only [decide_true, Bool.true_and, List.all_eq_true]
        intro x hx
        obtain ⟨k, hk, rfl⟩ := List.getElem_of_mem hx
        have := HK.out k (by omega)
        rw [List.getD_eq_getElem?_getD, List.getElem?_eq_getElem hk] at this
        unfold inC at this
        simpa using this
      obtain ⟨e1, e2, e3⟩ := Cs.choose_ok hok
      rw [e1, e2, e3] at HR
      obtain ⟨HR1, HR2, rfl⟩ : Hid (Cs.bestA zs 17 = p) ∧ Hid (Cs.bestN zs 17 = q) ∧ 0 = r := by
        have := HR.out
        simp only [Prod.mk.injEq] at this
        exact ⟨Lib.hid this.1, Lib.hid this.2.1, this.2.2⟩
      have HP := Lib.hid (Cs.pre_bound (Cs.okC_in hok))
      have HIN := Lib.hid (Cs.okC_in hok)
      clear hok e1 e2 e3 HR h17
      go_wp2
      go_loopw [5, 7] (fun s i wr => ∃ j : Nat, j ≤ 17 ∧ i = .int .i64 ((j : Int) - 1) ∧ s = .int .i64 (Cs.pre zs j) ∧ Hid (Cs.best zs 17 = Cs.best zs j) ∧ w = wr) (fun _ i _ => ((intOf i) + 1).toNat)
      case atStart => exact ⟨17, by omega, rfl, rfl, Lib.hid rfl, rfl⟩
      case round =>
        obtain ⟨j, hj2, rfl, rfl, HBB, rfl⟩ := hrel
        have h17 := H17.out
        cases j with
        | zero =>
          obtain ⟨f1, f2⟩ := Cs.bestA_none HBB.out
          obtain rfl : 0 = p := f1.symm.trans HR1.out
          obtain rfl : 0 = q := f2.symm.trans HR2.out
          clear f1 f2 h17 HR1 HR2
          go_wp2
          exact bodyPost_ret (v := .tuple #[.int .i64 0, .int .i64 0, .int .i64 0]) (by simp [results, Try.results24, go_sem, *]) rfl ⟨rfl, rfl⟩
        | succ j =>
          have ej : (((j + 1 : Nat) : Int)) - 1 = j := by push_cast; omega
          rw [ej]
          obtain ⟨rfl, hbl, hcell⟩ := HA.out (by omega)
          have cx := hcell j (by omega)
          clear hcell
          have hx : 0 ≤ zs.getD j 0 ∧ zs.getD j 0 ≤ 4294967296 := getD_in HIN.out (by omega)
          have hp := HP.out j (by omega)
          have HS : Hid (Cs.pre zs (j + 1) = Cs.pre zs j + zs.getD j 0) := Lib.hid rfl
          have HF : Hid (Cs.fit zs j = decide ((2 : Int) ^ j < 2 * Cs.pre zs (j + 1))) := Lib.hid rfl
          rw [HS.out] at HF ⊢
          have HN := Lib.hid (fun f => Cs.bestA_of (k := j) HBB.out f)
          rw [HS.out] at HN
          generalize zs.getD j 0 = x at cx hx HS HF HN ⊢
          obtain ⟨s, hs⟩ : ∃ s, Cs.pre zs j = s := ⟨_, rfl⟩
          have HSS := Lib.hid hs
          rw [hs] at hp HF HN ⊢
          have w2 : wrap64 (2 * (s + x)) = 2 * (s + x) := by unfold wrap64; omega
          have w3 := Ws.pow_wrap j (by omega)
          have w4 : wrap64 (s + x - x) = s := by unfold wrap64; omega
          have w5 : wrap64 ((j : Int) - 1) = (j : Int) - 1 := by unfold wrap64; omega
          have dj : decide ((0 : Int) ≤ (j : Int)) = true := by simp
          have hjz : j < zs.length := by omega
          clear h17 hs
          cases hq : Cs.fit zs j with
          | true =>
            have d1 : decide ((2 : Int) ^ j < 2 * (s + x)) = true := by rw [← HF.out]; exact hq
            obtain ⟨f1, f2⟩ := HN.out hq
            rw [f1] at HR1; rw [f2] at HR2
            obtain rfl := HR1.out
            obtain rfl := HR2.out
            clear hq f1 f2 HR1 HR2
            go_wp2
            exact bodyPost_ret (v := .tuple #[.int .i64 (2 ^ j), .int .i64 (s + x), .int .i64 0]) (by simp [results, Try.results24, go_sem, *]) rfl ⟨rfl, rfl⟩
          | false =>
            have d1 : decide ((2 : Int) ^ j < 2 * (s + x)) = false := by rw [← HF.out]; exact hq
            have HQ := Lib.hid hq
            clear hq
            go_wp2
            go_roundw
            case rel => exact ⟨j, by omega, (by first | rfl | (rw [w5])), by rw [HSS.out], Lib.hid (HBB.out.trans (Cs.best_skip HQ.out)), (by first | rfl | trivial)⟩
            case measure => simp [intOf] <;> omega
theorem ref_Choose_len (A : Option Addr) (c : Nat) (zs : List Int) (w : World) (hl : zs.length ≤ 17592186044416) (h17 : zs.length ≠ 17) :
    Calls Try.prog 24 #[.slice A zs.length c] w fun e w' => e = .returned (.tuple #[.int .i64 0, .int .i64 0, .int .i64 2]) ∧ w = w' := by
  have hne : ((zs.length : Int) != 17) = true := by simp; omega
  go_enter Try.func24, Try.ntmps24
  go_wp2
  exact bodyPost_ret (v := .tuple #[.int .i64 0, .int .i64 0, .int .i64 2]) (by simp [results, Try.results24, go_sem, *]) rfl ⟨rfl, rfl⟩
theorem ref_Choose (sv : Value) (zs : List Int) (w : World) (hl : zs.length ≤ 17592186044416) (hz : ∀ x ∈ zs, In64 x) (h : IS w sv zs) :
    Calls Try.prog 24 #[sv] w fun e w' => e = .returned (.tuple #[.int .i64 (Cs.chooseA zs), .int .i64 (Cs.chooseN zs), .int .i64 (Cs.chooseE zs)]) ∧ w = w' := by
  obtain ⟨A, b, o, c, rfl, hc, hn, hf⟩ := h.form
  by_cases h17 : zs.length = 17
  · exact ref_Choose_17 A b o c zs w hz h17 _ _ _ rfl hf
  · obtain ⟨e1, e2, e3⟩ := Cs.choose_bad (Cs.okC_len h17)
    rw [e1, e2, e3]
    exact ref_Choose_len A c zs w hl h17
end Go.Proofs.Ytfhigeefclchiaa
