/- border: Hint, Len, Is. -/
import Derived.Test.YteheolefemlcgaaGreatBordD
namespace Go.Proofs.YteheolefemlcgaaGreat
open Go.RowKit
set_option linter.unusedVariables false
set_option linter.unusedSimpArgs false

theorem bord_slot2 (a s b g hp tb : Nat) (t : Tbl) (hz : t.p.sn ≤ 65536) (w1 : World) (HT : TabIn w1 a s b g hp t) (hc : w1.cell? ⟨tb, 0, none⟩ = some (.pointer (some ⟨a, 0, none⟩))) (hl : tb < w1.heap.size) (m : Int) (m1 : 1 ≤ m) (m2 : m ≤ t.p.sn) (w : World) (hb : Below w1.heap.size w1 w) :
    Calls Tryz.prog 78 #[.int .i64 m, .pointer (some ⟨tb, 0, none⟩)] w fun e w' => e = .returned (.bool (slotT t m)) ∧ Below w1.heap.size w1 w' := by
  obtain ⟨i, rfl⟩ : ∃ i : Nat, m = (i : Int) + 1 := ⟨(m - 1).toNat, by omega⟩
  exact bord_slot a s b g hp tb t hz w1 HT hc hl i (by omega) w hb
/-- The hint is set. -/
def Tbl.hinted (t : Tbl) (n : Int) : Tbl := if 0 ≤ n ∧ n ≤ t.p.sn then { t with hint := n } else t
set_option maxRecDepth 100000 in
theorem tab_Hint (a s b g hp : Nat) (t : Tbl) (n : Int) (w : World) (H : TabIn w a s b g hp t) : Calls Tryz.prog 42 #[.pointer (some ⟨a, 0, none⟩), .int .i64 n] w fun e w' => e = .returned (.tuple #[]) ∧ TabIn w' a s b g hp (t.hinted n) ∧ Kp (fun q => q = a) w w' := by
  have HI := Lib.hid H
  have c0 := H.pt.c0; have c5 := H.c5; have fa := H.pt.fa 5
  obtain ⟨N, hN⟩ : ∃ N, t.p.sn = N := ⟨_, rfl⟩
  have HN := Lib.hid hN
  rw [hN] at c0
  clear H hN
  by_cases h0 : 0 ≤ n
  · have d0 : decide (0 ≤ n) = true := by simpa using h0
    by_cases h1 : n ≤ (N : Int)
    · have d1 : decide (n ≤ (N : Int)) = true := by simpa using h1
      have HX : Hid (t.hinted n = { t with hint := n }) := Lib.hid (by unfold Tbl.hinted; rw [HN.out, if_pos ⟨h0, h1⟩])
      go_enter Tryz.func42, Tryz.ntmps42
      go_wp2
      exact bodyPost_end (v := .tuple #[]) (by simp [results, Tryz.results42, go_sem]) rfl (by rw [HX.out]; exact ⟨rfl, HI.out.hinted n, (Kp.refl (fun q => q = a) w).set ⟨a, 5, none⟩ (.inl rfl) _⟩)
    · have d1 : decide (n ≤ (N : Int)) = false := by simpa using h1
      have HX : Hid (t.hinted n = t) := Lib.hid (by unfold Tbl.hinted; rw [HN.out, if_neg (fun h => h1 h.2)])
      go_enter Tryz.func42, Tryz.ntmps42
      go_wp2
      exact bodyPost_end (v := .tuple #[]) (by simp [results, Tryz.results42, go_sem]) rfl (by rw [HX.out]; exact ⟨rfl, HI.out, Kp.refl _ w⟩)
  · have d0 : decide (0 ≤ n) = false := by simpa using h0
    have HX : Hid (t.hinted n = t) := Lib.hid (by unfold Tbl.hinted; rw [if_neg (fun h => h0 h.1)])
    go_enter Tryz.func42, Tryz.ntmps42
    go_wp2
    exact bodyPost_end (v := .tuple #[]) (by simp [results, Tryz.results42, go_sem]) rfl (by rw [HX.out]; exact ⟨rfl, HI.out, Kp.refl _ w⟩)
/-- Len, in plain terms. -/
def lenA (t : Tbl) : Int :=
  if ¬ (t.hint = 0 ∨ slotT t t.hint = true) then Bd.halve (slotT t) t.hint.toNat 0 t.hint
  else if t.hint < t.p.sn ∧ slotT t (t.hint + 1) = true then Bd.halve (slotT t) ((t.p.sn : Int) - t.hint).toNat t.hint t.p.sn
  else t.hint
def farT (t : Tbl) : Prop := t.p.sn = 0 ∨ slotT t t.p.sn = true
instance (t : Tbl) : Decidable (farT t) := inferInstanceAs (Decidable (_ ∨ _))
def lenP (t : Tbl) : Int := if farT t then Bd.beyond (hasT t) t.p.sn else lenA t
/-- The table behind a Len. -/
def Tbl.lenT (t : Tbl) (pr : Int) : Tbl := if farT t then { t with pr := pr } else { t with hint := lenP t }
structure BL (w : World) (a s b g hp : Nat) (t : Tbl) (w' : World) : Prop where
  ex : ∃ pr, TabIn w' a s b g hp (t.lenT pr)
  kp : Kp (fun q => q = a) w w'
theorem BL.far {w w' : World} {a s b g hp : Nat} {t : Tbl} (hf : farT t) (H : BJ w a s b g hp t w') : BL w a s b g hp t w' := by
  obtain ⟨⟨pr, h⟩, hk⟩ := H
  exact ⟨⟨pr, by unfold Tbl.lenT; rw [if_pos hf]; exact h⟩, hk⟩
set_option maxRecDepth 100000 in
set_option maxHeartbeats 800000 in
theorem bord_Len (a s b g hp : Nat) (t : Tbl) (hok : t.p.ok) (hh0 : 0 ≤ t.hint) (hh1 : t.hint ≤ t.p.sn) (w : World) (H : TabIn w a s b g hp t) :
    Calls Tryz.prog 37 #[.pointer (some ⟨a, 0, none⟩)] w fun e w' => e = .returned (.int .i64 (lenP t)) ∧ BL w a s b g hp t w' := by
  obtain ⟨wa, hwa⟩ : ∃ wa, w.alloc (.cells #[.pointer (some ⟨a, 0, none⟩)] 27) = wa := ⟨_, rfl⟩
  have hb := (Below.refl w.heap.size w).alloc (Nat.le_refl _) (.cells #[.pointer (some ⟨a, 0, none⟩)] 27)
  rw [hwa] at hb
  have HB := Lib.hid hb
  have hI := H.below hb
  have HI := Lib.hid hI
  have HO := Lib.hid hok
  have hc0 : wa.cell? ⟨w.heap.size, 0, none⟩ = some (.pointer (some ⟨a, 0, none⟩)) := by rw [← hwa]; simp [go_sem]
  have hl0 : w.heap.size < wa.heap.size := by rw [← hwa]; simp [go_sem]
  have HC := Lib.hid (fun W (h : Below wa.heap.size wa W) => (h.cell (p := ⟨w.heap.size, 0, none⟩) hl0).trans hc0)
  have HSL := Lib.hid (fun (m : Int) (m1 : 1 ≤ m) (m2 : m ≤ t.p.sn) W (h : Below wa.heap.size wa W) => bord_slot2 a s b g hp w.heap.size t hok.sz W (hI.below h) ((h.cell (p := ⟨w.heap.size, 0, none⟩) hl0).trans hc0) (Nat.lt_of_lt_of_le hl0 h.size) m m1 m2 W (Below.refl _ _))
  have HFAR : Hid (∀ W, farT t → Below wa.heap.size wa W → Calls Tryz.prog 79 #[.pointer (some ⟨a, 0, none⟩), .int .i64 t.p.sn] W fun e w' => e = .returned (.int .i64 (lenP t)) ∧ BL w a s b g hp t w') := Lib.hid (fun W hf h => by
    refine (bord_beyond a s b g hp t hok t.p.sn (by omega) (by have := hok.sz; omega) W (hI.below h)).mono ?_
    rintro e w' ⟨he, hj⟩
    exact ⟨by rw [he]; unfold lenP; rw [if_pos hf], BL.far hf (hj.since (below_step hb h))⟩)
  have HHALF := Lib.hid (fun (low high : Int) (h0 : 0 ≤ low) (h1 : low < high) (h2 : high ≤ t.p.sn) W (h : Below wa.heap.size wa W) => halve_S w.heap.size (slotT t) (fun W' => Below W.heap.size W W') low high (high - low).toNat h0 h1 (by have := hok.sz; omega) (by omega) (fun W' m hW a1 a2 => bord_slot2 a s b g hp w.heap.size t hok.sz W (hI.below h) ((h.cell (p := ⟨w.heap.size, 0, none⟩) hl0).trans hc0) (Nat.lt_of_lt_of_le hl0 h.size) m (by omega) (by omega) W' hW) W (Below.refl _ _))
  have HHINT : Hid (∀ (n : Int) W, 0 ≤ n → n ≤ t.p.sn → ¬ farT t → lenP t = n → Below wa.heap.size wa W → Calls Tryz.prog 42 #[.pointer (some ⟨a, 0, none⟩), .int .i64 n] W fun e w' => e = .returned (.tuple #[]) ∧ BL w a s b g hp t w') := Lib.hid (fun n W h0 h1 hf hn h => by
    refine (tab_Hint a s b g hp t n W (hI.below h)).mono ?_
    rintro e w' ⟨he, hT, hk⟩
    refine ⟨he, ⟨0, ?_⟩, ((Kp.refl (fun q => q = a) w).below (below_step hb h)).trans hk (fun q hq => .inl hq)⟩
    unfold Tbl.lenT
    rw [if_neg hf, hn]
    unfold Tbl.hinted at hT
    rw [if_pos ⟨h0, h1⟩] at hT
    exact hT)
  obtain ⟨N, hN⟩ : ∃ N : Int, (t.p.sn : Int) = N := ⟨_, rfl⟩
  obtain ⟨m, hm⟩ : ∃ n : Int, (t.p.h.n : Int) = n := ⟨_, rfl⟩
  obtain ⟨f, hf⟩ : ∃ n : Int, (t.p.h.free : Int) = n := ⟨_, rfl⟩
  obtain ⟨n, hn⟩ : ∃ n : Int, t.hint = n := ⟨_, rfl⟩
  have HST := Lib.hid (fun W (h : Below wa.heap.size wa W) => (tab_Stats a s b g hp t N m f n hN hm hf hn W (hI.below h)).mono (fun e w' (x : _ ∧ _) => And.intro x.1 (below_step h x.2)))
  rw [hN] at HSL HFAR HHALF HHINT hh1
  rw [hn] at hh0 hh1
  have HR := Lib.hid (And.intro hh0 hh1)
  have HEQ : Hid (lenP t = if farT t then Bd.beyond (hasT t) N else if ¬ (n = 0 ∨ slotT t n = true) then Bd.halve (slotT t) n.toNat 0 n else if n < N ∧ slotT t (n + 1) = true then Bd.halve (slotT t) (N - n).toNat n N else n) := Lib.hid (by unfold lenP lenA; rw [hn, hN])
  have HFT : Hid (farT t ↔ (N = 0 ∨ slotT t N = true)) := Lib.hid (by unfold farT; rw [hN]; exact or_congr (by omega) Iff.rfl)
  have HN64 : Hid (0 ≤ N ∧ N ≤ 65536) := Lib.hid (by have := hok.sz; omega)
  have hf0 : ∀ (a b c d : Int) (W : World), (Instr.field 56 (.agg #[.int .i64 a, .int .i64 b, .int .i64 c, .int .i64 d]) 0).run Tryz.prog W = .ok (.int .i64 a) W := fun a b c d W => by rfl
  have hf3 : ∀ (a b c d : Int) (W : World), (Instr.field 56 (.agg #[.int .i64 a, .int .i64 b, .int .i64 c, .int .i64 d]) 3).run Tryz.prog W = .ok (.int .i64 d) W := fun a b c d W => by rfl
  have HWA := Lib.hid hwa
  have c0 := hc0
  rw [← hwa] at c0
  clear H hok hh0 hh1 hb hI hc0 hl0 hwa hN hm hf hn
  go_enter Tryz.func37, Tryz.ntmps37
  go_wp2_with fail
  rw [HWA.out]
  (with_reducible refine (HST.out _ (Below.refl _ _)).mono ?_)
  rintro e w2 ⟨rfl, hb⟩
  have HB2 := Lib.hid hb
  clear hb c0
  have hb3 := HB2.out.alloc HB2.out.size (.cells #[.int .i64 N, .int .i64 m, .int .i64 f, .int .i64 n] 56)
  have HB3 := Lib.hid hb3
  have HS3 := Lib.hid (C4.new w2 (.int .i64 N) (.int .i64 m) (.int .i64 f) (.int .i64 n) 56)
  have c0 := HC.out _ hb3
  have HNEW := Lib.hid (show w2.heap.size = w2.heap.size from rfl)
  clear hb3
  by_cases hN0 : N = 0
  · subst hN0
    go_wp2_with fail
    (with_reducible refine (HFAR.out _ (HFT.out.2 (.inl (by first | rfl | trivial))) HB3.out).mono ?_)
    rintro e w4 ⟨rfl, hj⟩
    have HJ := Lib.hid hj
    clear hj
    go_wp2
    go_ret
    exact ⟨rfl, HJ.out⟩
  · have d1 : (N == 0) = false := by simpa using hN0
    have HNP : Hid (1 ≤ N) := Lib.hid (by have := HN64.out; omega)
    clear hN0
    go_wp2_with fail
    (with_reducible refine (HSL.out N HNP.out (Int.le_refl _) _ HB3.out).mono ?_)
    rintro e w4 ⟨rfl, hb⟩
    have HB4 := Lib.hid (below_step HB3.out hb)
    have HS4 := Lib.hid (HS3.out.below hb HS3.out.lt)
    clear hb c0
    have c0 := HC.out _ HB4.out
    generalize w2.heap.size = sb at HS4 ⊢
    by_cases hfar : slotT t N = true
    · rw [hfar]
      have HF : Hid (farT t) := Lib.hid (HFT.out.2 (.inr hfar))
      obtain ⟨s0, -, -, s3, -, -⟩ := HS4.out
      clear hfar
      go_wp2_with fail
      (with_reducible refine (HFAR.out _ HF.out HB4.out).mono ?_)
      rintro e w5 ⟨rfl, hj⟩
      have HJ := Lib.hid hj
      clear hj
      go_wp2
      go_ret
      exact ⟨rfl, HJ.out⟩
    · have hfar' : slotT t N = false := by simpa using hfar
      rw [hfar']
      have HNF : Hid (¬ farT t) := Lib.hid (fun h => (HFT.out.1 h).elim (fun h => by have := HNP.out; omega) hfar)
      rw [if_neg HNF.out] at HEQ
      obtain ⟨s0, -, -, s3, -, -⟩ := HS4.out
      clear hfar
      by_cases hn0 : n = 0
      · subst hn0
        have d2 : decide (0 < N) = true := by have := HNP.out; simp; omega
        go_wp2_with fail
        (with_reducible refine (HSL.out 1 (Int.le_refl _) HNP.out _ HB4.out).mono ?_)
        rintro e w5 ⟨rfl, hb⟩
        have HB5 := Lib.hid (below_step HB4.out hb)
        have HS5 := Lib.hid (HS4.out.below hb HS4.out.lt)
        clear hb c0 s0 s3
        have c0 := HC.out _ HB5.out
        obtain ⟨s0, -, -, s3, -, -⟩ := HS5.out
        by_cases hq : slotT t 1 = true
        · rw [hq]
          have HLE : Hid (lenP t = Bd.halve (slotT t) ((N : Int) - 0).toNat 0 N) := Lib.hid (by rw [HEQ.out, if_neg (by simp), if_pos ⟨by have := HNP.out; omega, by simpa using hq⟩])
          clear hq
          go_wp2_with fail
          (with_reducible refine (HHALF.out 0 N (Int.le_refl _) (by have := HNP.out; omega) (Int.le_refl _) _ HB5.out).mono ?_)
          rintro e w6 ⟨rfl, hb⟩
          have HB6 := Lib.hid (below_step HB5.out hb)
          clear hb c0 s0 s3
          have c0 := HC.out _ HB6.out
          have HRG := Lib.hid (Bd.halve_is (slotT t) ((N : Int) - 0).toNat 0 N (by have := HR.out; have := HNP.out; omega) (by have := HR.out; have := HNP.out; omega))
          generalize Bd.halve (slotT t) ((N : Int) - 0).toNat 0 N = r at HRG HLE ⊢
          go_wp2_with fail
          (with_reducible refine (HHINT.out r _ HRG.out.1 (Int.le_of_lt HRG.out.2.1) HNF.out HLE.out HB6.out).mono ?_)
          rintro e w9 ⟨rfl, hj⟩
          have HJ := Lib.hid hj
          clear hj
          go_wp2
          go_ret
          exact ⟨by rw [HLE.out]; rfl, HJ.out⟩
        · have hq' : slotT t 1 = false := by simpa using hq
          rw [hq']
          have HLE : Hid (lenP t = 0) := Lib.hid (by rw [HEQ.out, if_neg (by simp), if_neg (fun h => hq (by simpa using h.2))])
          clear hq
          go_wp2_with fail
          (with_reducible refine (HHINT.out 0 _ (Int.le_refl _) (by have := HNP.out; omega) HNF.out HLE.out HB5.out).mono ?_)
          rintro e w9 ⟨rfl, hj⟩
          have HJ := Lib.hid hj
          clear hj
          go_wp2
          go_ret
          exact ⟨by rw [HLE.out]; rfl, HJ.out⟩
      · have d2 : (n == 0) = false := by simpa using hn0
        have HNN : Hid (1 ≤ n) := Lib.hid (by have := HR.out; omega)
        have m1 : wrap64 (n + 1) = n + 1 := wrap64_id (by have := HR.out; have := HN64.out; unfold In64; omega)
        have HN0 := Lib.hid hn0
        clear hn0
        go_wp2_with fail
        (with_reducible refine (HSL.out n HNN.out HR.out.2 _ HB4.out).mono ?_)
        rintro e w5 ⟨rfl, hb⟩
        have HB5 := Lib.hid (below_step HB4.out hb)
        have HS5 := Lib.hid (HS4.out.below hb HS4.out.lt)
        clear hb c0 s0 s3
        have c0 := HC.out _ HB5.out
        obtain ⟨s0, -, -, s3, -, -⟩ := HS5.out
        by_cases hq : slotT t n = true
        · rw [hq]
          have hlt : n < N := by
            have h1 := HR.out.2
            by_cases e : n = N
            · rw [e, hfar'] at hq; simp at hq
            · omega
          have d3 : decide (n < N) = true := by simpa using hlt
          have HLT := Lib.hid hlt
          have HQ := Lib.hid hq
          clear hq hlt
          go_wp2_with fail
          (with_reducible refine (HSL.out (n + 1) (by have := HNN.out; omega) (by have := HLT.out; omega) _ HB5.out).mono ?_)
          rintro e w6 ⟨rfl, hb⟩
          have HB6 := Lib.hid (below_step HB5.out hb)
          have HS6 := Lib.hid (HS5.out.below hb HS5.out.lt)
          clear hb c0 s0 s3
          have c0 := HC.out _ HB6.out
          obtain ⟨s0, -, -, s3, -, -⟩ := HS6.out
          by_cases hq : slotT t (n + 1) = true
          · rw [hq]
            have HLE : Hid (lenP t = Bd.halve (slotT t) ((N : Int) - n).toNat n N) := Lib.hid (by rw [HEQ.out, if_neg (fun h => h (.inr HQ.out)), if_pos ⟨HLT.out, hq⟩])
            clear hq
            go_wp2_with fail
            (with_reducible refine (HHALF.out n N HR.out.1 HLT.out (Int.le_refl _) _ HB6.out).mono ?_)
            rintro e w7 ⟨rfl, hb⟩
            have HB7 := Lib.hid (below_step HB6.out hb)
            clear hb c0 s0 s3
            have c0 := HC.out _ HB7.out
            have HRG := Lib.hid (Bd.halve_is (slotT t) ((N : Int) - n).toNat n N HLT.out (by have := HLT.out; omega))
            generalize Bd.halve (slotT t) ((N : Int) - n).toNat n N = r at HRG HLE ⊢
            go_wp2_with fail
            (with_reducible refine (HHINT.out r _ (by have := HRG.out.1; have := HR.out; omega) (Int.le_of_lt HRG.out.2.1) HNF.out HLE.out HB7.out).mono ?_)
            rintro e w9 ⟨rfl, hj⟩
            have HJ := Lib.hid hj
            clear hj
            go_wp2
            go_ret
            exact ⟨by rw [HLE.out]; rfl, HJ.out⟩
          · have hq' : slotT t (n + 1) = false := by simpa using hq
            rw [hq']
            have HLE : Hid (lenP t = n) := Lib.hid (by rw [HEQ.out, if_neg (fun h => h (.inr HQ.out)), if_neg (fun h => hq h.2)])
            clear hq
            go_wp2_with fail
            (with_reducible refine (HHINT.out n _ HR.out.1 HR.out.2 HNF.out HLE.out HB6.out).mono ?_)
            rintro e w9 ⟨rfl, hj⟩
            have HJ := Lib.hid hj
            clear hj
            go_wp2
            go_ret
            exact ⟨by rw [HLE.out]; rfl, HJ.out⟩
        · have hq' : slotT t n = false := by simpa using hq
          rw [hq']
          have HLE : Hid (lenP t = Bd.halve (slotT t) ((n : Int) - 0).toNat 0 n) := Lib.hid (by rw [HEQ.out, if_pos (fun h => h.elim HN0.out hq)]; simp)
          clear hq
          go_wp2_with fail
          (with_reducible refine (HHALF.out 0 n (Int.le_refl _) (by have := HNN.out; omega) HR.out.2 _ HB5.out).mono ?_)
          rintro e w6 ⟨rfl, hb⟩
          have HB6 := Lib.hid (below_step HB5.out hb)
          clear hb c0 s0 s3
          have c0 := HC.out _ HB6.out
          have HRG := Lib.hid (Bd.halve_is (slotT t) ((n : Int) - 0).toNat 0 n (by have := HNN.out; omega) (by have := HNN.out; omega))
          generalize Bd.halve (slotT t) ((n : Int) - 0).toNat 0 n = r at HRG HLE ⊢
          go_wp2_with fail
          (with_reducible refine (HHINT.out r _ HRG.out.1 (by have := HRG.out.2.1; have := HR.out; omega) HNF.out HLE.out HB6.out).mono ?_)
          rintro e w9 ⟨rfl, hj⟩
          have HJ := Lib.hid hj
          clear hj
          go_wp2
          go_ret
          exact ⟨by rw [HLE.out]; rfl, HJ.out⟩
end Go.Proofs.YteheolefemlcgaaGreat
