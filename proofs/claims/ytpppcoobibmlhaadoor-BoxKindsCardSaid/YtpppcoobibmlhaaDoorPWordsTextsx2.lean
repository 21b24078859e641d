-- PRINTED BY print.sh 35421559b90ae4d0a3588c463048766b98c2df88dd9212a6774a882060cdf62d: not written by this session
import Derived.Test.YtpppcoobibmlhaaDoorPWordsTextsx0
import Derived.Test.YtpppcoobibmlhaaDoorPWordsTextsx1
namespace Go.Proofs.YtpppcoobibmlhaaDoor.PWordsTexts
open Go.RowKit Go.Proofs.YtpppcoobibmlhaaDoorW.PrintWords Go.Proofs.YtpppcoobibmlhaaDoorW.PrintLast Go.Proofs.YtpppcoobibmlhaaDoorW.PrintMore
attribute [local go_sem] max2_int min2_int max_two min_two max_three min_three max_four min_four   -- for this text's walks alone
set_option linter.unusedVariables false
set_option linter.unusedSimpArgs false

/-! ### trestleref02_read: function 62 -/
mutual
def trestleref02_read.j0 : Nat → ByteArray → Bool → Bool → Option (Int × Int)
  | 0, _, _, _ => none
  | k + 1, x0, x1, x6 => if x6 = true then (if 2 ≤ (x0.size : Int) then (trestleref02_read.j1 k (x0.extract 2 x0.size) x1 x6) else (none)) else (trestleref02_read.j1 k x0 x1 x6)
def trestleref02_read.j1 : Nat → ByteArray → Bool → Bool → Option (Int × Int)
  | 0, _, _, _ => none
  | k + 1, x0, x1, x6 => if (x0.size : Int) = 0 then (some (0, 4)) else (trestleref02_read.l0 k x0 x1 x6 0)
def trestleref02_read.l0 : Nat → ByteArray → Bool → Bool → Int → Option (Int × Int)
  | 0, _, _, _, _ => none
  | k + 1, x0, x1, x6, x7 => if x7 < (x0.size : Int) then (if 0 ≤ x7 then ((trestleref02_worth.f k (bt x0 x7) x6).bind fun t108 => (if t108 < 0 then (some (0, 4)) else (trestleref02_read.l0 k x0 x1 x6 (wrap64 (x7 + 1))))) else (none)) else (if x6 = true then (trestleref02_read.l1 k x0 x1 0 0) else (trestleref02_read.l2 k x0 x1 0 0))
def trestleref02_read.l1 : Nat → ByteArray → Bool → Int → Int → Option (Int × Int)
  | 0, _, _, _, _ => none
  | k + 1, x0, x1, x8, x9 => if x9 < (x0.size : Int) then (if 0 ≤ x9 then ((trestleref02_worth.f k (bt x0 x9) true).bind fun t109 => (trestleref02_read.l1 k x0 x1 (wrap64 ((wrap64 (x8 * 16)) + t109)) (wrap64 (x9 + 1)))) else (none)) else (if x1 = true then (some (wrap64 (-x8), 0)) else (some (x8, 0)))
def trestleref02_read.l2 : Nat → ByteArray → Bool → Int → Int → Option (Int × Int)
  | 0, _, _, _, _ => none
  | k + 1, x0, x1, x10, x11 => if x11 < (x0.size : Int) then (if 0 ≤ x11 then ((trestleref02_worth.f k (bt x0 x11) false).bind fun t110 => (if x10 < (wrap64 (Int.tdiv (wrap64 ((-9223372036854775808) + t110)) 10)) then (some (0, 14)) else (trestleref02_read.l2 k x0 x1 (wrap64 ((wrap64 (x10 * 10)) - t110)) (wrap64 (x11 + 1))))) else (none)) else (if x1 = true then (some (x10, 0)) else (if x10 = (-9223372036854775808) then (some (0, 14)) else (some (wrap64 (-x10), 0))))
end
def trestleref02_read.f (k : Nat) (a0 : ByteArray) (a1 : Bool) : Option (Int × Int) := if (a0.size : Int) ≥ 2 then (if 0 < (a0.size : Int) then (if (bt a0 0) = 48 then (if 1 < (a0.size : Int) then (if (bt a0 1) = 120 then (trestleref02_read.j0 k a0 a1 true) else (trestleref02_read.j0 k a0 a1 ((bt a0 1) == 88))) else (none)) else (trestleref02_read.j0 k a0 a1 false)) else (none)) else (trestleref02_read.j0 k a0 a1 false)
theorem trestleref02_read.mono_l : ∀ k, (∀ y0 y1 y2, LeO (trestleref02_read.j0 k y0 y1 y2) (trestleref02_read.j0 (k + 1) y0 y1 y2)) ∧ (∀ y0 y1 y2, LeO (trestleref02_read.j1 k y0 y1 y2) (trestleref02_read.j1 (k + 1) y0 y1 y2)) ∧ (∀ y0 y1 y2 y3, LeO (trestleref02_read.l0 k y0 y1 y2 y3) (trestleref02_read.l0 (k + 1) y0 y1 y2 y3)) ∧ (∀ y0 y1 y2 y3, LeO (trestleref02_read.l1 k y0 y1 y2 y3) (trestleref02_read.l1 (k + 1) y0 y1 y2 y3)) ∧ (∀ y0 y1 y2 y3, LeO (trestleref02_read.l2 k y0 y1 y2 y3) (trestleref02_read.l2 (k + 1) y0 y1 y2 y3))
  | 0 => ⟨fun _ _ _ r h => by simp [trestleref02_read.j0] at h, fun _ _ _ r h => by simp [trestleref02_read.j1] at h, fun _ _ _ _ r h => by simp [trestleref02_read.l0] at h, fun _ _ _ _ r h => by simp [trestleref02_read.l1] at h, fun _ _ _ _ r h => by simp [trestleref02_read.l2] at h⟩
  | k + 1 => by
    obtain ⟨ih0, ih1, ih2, ih3, ih4⟩ := trestleref02_read.mono_l k
    refine ⟨?_, ?_, ?_, ?_, ?_⟩
    · intro y0 y1 y2
      unfold trestleref02_read.j0
      repeat' first
      | (with_reducible exact ih0 _ _ _)
      | (with_reducible exact ih1 _ _ _)
      | (with_reducible exact ih2 _ _ _ _)
      | (with_reducible exact ih3 _ _ _ _)
      | (with_reducible exact ih4 _ _ _ _)
      | (with_reducible exact trestleref02_worth.mono _ _ _)
      | (with_reducible exact LeO.refl _)
      | (with_reducible exact LeO.none _)
      | (with_reducible refine LeO.ite ?_ ?_)
      | (with_reducible refine LeO.bind ?_ (fun _ => ?_))
      | exact ih0 _ _ _
      | exact ih1 _ _ _
      | exact ih2 _ _ _ _
      | exact ih3 _ _ _ _
      | exact ih4 _ _ _ _
      | exact trestleref02_worth.mono _ _ _
      | exact LeO.none _
      | refine LeO.ite ?_ ?_
      | refine LeO.bind ?_ (fun _ => ?_)
    · intro y0 y1 y2
      unfold trestleref02_read.j1
      repeat' first
      | (with_reducible exact ih0 _ _ _)
      | (with_reducible exact ih1 _ _ _)
      | (with_reducible exact ih2 _ _ _ _)
      | (with_reducible exact ih3 _ _ _ _)
      | (with_reducible exact ih4 _ _ _ _)
      | (with_reducible exact trestleref02_worth.mono _ _ _)
      | (with_reducible exact LeO.refl _)
      | (with_reducible exact LeO.none _)
      | (with_reducible refine LeO.ite ?_ ?_)
      | (with_reducible refine LeO.bind ?_ (fun _ => ?_))
      | exact ih0 _ _ _
      | exact ih1 _ _ _
      | exact ih2 _ _ _ _
      | exact ih3 _ _ _ _
      | exact ih4 _ _ _ _
      | exact trestleref02_worth.mono _ _ _
      | exact LeO.none _
      | refine LeO.ite ?_ ?_
      | refine LeO.bind ?_ (fun _ => ?_)
    · intro y0 y1 y2 y3
      unfold trestleref02_read.l0
      repeat' first
      | (with_reducible exact ih0 _ _ _)
      | (with_reducible exact ih1 _ _ _)
      | (with_reducible exact ih2 _ _ _ _)
      | (with_reducible exact ih3 _ _ _ _)
      | (with_reducible exact ih4 _ _ _ _)
      | (with_reducible exact trestleref02_worth.mono _ _ _)
      | (with_reducible exact LeO.refl _)
      | (with_reducible exact LeO.none _)
      | (with_reducible refine LeO.ite ?_ ?_)
      | (with_reducible refine LeO.bind ?_ (fun _ => ?_))
      | exact ih0 _ _ _
      | exact ih1 _ _ _
      | exact ih2 _ _ _ _
      | exact ih3 _ _ _ _
      | exact ih4 _ _ _ _
      | exact trestleref02_worth.mono _ _ _
      | exact LeO.none _
      | refine LeO.ite ?_ ?_
      | refine LeO.bind ?_ (fun _ => ?_)
    · intro y0 y1 y2 y3
      unfold trestleref02_read.l1
      repeat' first
      | (with_reducible exact ih0 _ _ _)
      | (with_reducible exact ih1 _ _ _)
      | (with_reducible exact ih2 _ _ _ _)
      | (with_reducible exact ih3 _ _ _ _)
      | (with_reducible exact ih4 _ _ _ _)
      | (with_reducible exact trestleref02_worth.mono _ _ _)
      | (with_reducible exact LeO.refl _)
      | (with_reducible exact LeO.none _)
      | (with_reducible refine LeO.ite ?_ ?_)
      | (with_reducible refine LeO.bind ?_ (fun _ => ?_))
      | exact ih0 _ _ _
      | exact ih1 _ _ _
      | exact ih2 _ _ _ _
      | exact ih3 _ _ _ _
      | exact ih4 _ _ _ _
      | exact trestleref02_worth.mono _ _ _
      | exact LeO.none _
      | refine LeO.ite ?_ ?_
      | refine LeO.bind ?_ (fun _ => ?_)
    · intro y0 y1 y2 y3
      unfold trestleref02_read.l2
      repeat' first
      | (with_reducible exact ih0 _ _ _)
      | (with_reducible exact ih1 _ _ _)
      | (with_reducible exact ih2 _ _ _ _)
      | (with_reducible exact ih3 _ _ _ _)
      | (with_reducible exact ih4 _ _ _ _)
      | (with_reducible exact trestleref02_worth.mono _ _ _)
      | (with_reducible exact LeO.refl _)
      | (with_reducible exact LeO.none _)
      | (with_reducible refine LeO.ite ?_ ?_)
      | (with_reducible refine LeO.bind ?_ (fun _ => ?_))
      | exact ih0 _ _ _
      | exact ih1 _ _ _
      | exact ih2 _ _ _ _
      | exact ih3 _ _ _ _
      | exact ih4 _ _ _ _
      | exact trestleref02_worth.mono _ _ _
      | exact LeO.none _
      | refine LeO.ite ?_ ?_
      | refine LeO.bind ?_ (fun _ => ?_)
theorem trestleref02_read.mono : ∀ a0 a1 k, LeO (trestleref02_read.f k a0 a1) (trestleref02_read.f (k + 1) a0 a1) := by
  intro a0 a1 k
  obtain ⟨ih0, ih1, ih2, ih3, ih4⟩ := trestleref02_read.mono_l k
  unfold trestleref02_read.f
  repeat' first
      | (with_reducible exact ih0 _ _ _)
      | (with_reducible exact ih1 _ _ _)
      | (with_reducible exact ih2 _ _ _ _)
      | (with_reducible exact ih3 _ _ _ _)
      | (with_reducible exact ih4 _ _ _ _)
      | (with_reducible exact trestleref02_worth.mono _ _ _)
      | (with_reducible exact LeO.refl _)
      | (with_reducible exact LeO.none _)
      | (with_reducible refine LeO.ite ?_ ?_)
      | (with_reducible refine LeO.bind ?_ (fun _ => ?_))
      | exact ih0 _ _ _
      | exact ih1 _ _ _
      | exact ih2 _ _ _ _
      | exact ih3 _ _ _ _
      | exact ih4 _ _ _ _
      | exact trestleref02_worth.mono _ _ _
      | exact LeO.none _
      | refine LeO.ite ?_ ?_
      | refine LeO.bind ?_ (fun _ => ?_)
set_option maxHeartbeats 8000000 in
set_option maxRecDepth 100000 in
theorem trestleref02_read.calls (k : Nat) (a0 : ByteArray) (a1 : Bool) (r1 : Int) (r2 : Int) (w : World) (h : trestleref02_read.f k a0 a1 = some (r1, r2)) :
    Calls Tryd.prog 62 #[.string a0, .bool a1] w fun e w' => e = .returned (.tuple #[.int .i64 r1, .int .i64 r2]) ∧ Drawn0 w w' := by
  have H : (if (a0.size : Int) ≥ 2 then (if 0 < (a0.size : Int) then (if (bt a0 0) = 48 then (if 1 < (a0.size : Int) then (if (bt a0 1) = 120 then (trestleref02_read.j0 k a0 a1 true) else (trestleref02_read.j0 k a0 a1 ((bt a0 1) == 88))) else (none)) else (trestleref02_read.j0 k a0 a1 false)) else (none)) else (trestleref02_read.j0 k a0 a1 false)) = some (r1, r2) := h
  clear h
  have HC3 := Aside0.mk H
  clear H
  go_enter Tryd.func62, Tryd.ntmps62
  go_upto_region 1 with (fail)
  go_cut [6] (fun v6 wc => ∃ (kq : Nat) (x6_2 : Bool), v6 = .bool x6_2 ∧ Aside0 (trestleref02_read.j0 kq a0 a1 x6_2 = some (r1, r2)) ∧ Aside0 (kq ≤ k) ∧ Drawn0 w wc)
  case first =>
    have H := HC3.out
    clear HC3
    by_cases c4 : (a0.size : Int) ≥ 2
    · rw [if_pos c4] at H
      have c4b0 : decide (2 ≤ (a0.size : Int)) = true := decide_eq_true c4
      have c4b1 : decide (2 ≤ a0.size) = true := decide_eq_true (by omega)
      clear c4
      (first | rw [c4b0] | (simp only [i64_w, i32_w]; rw [c4b0]) | skip)
      by_cases c5 : 0 < (a0.size : Int)
      · rw [if_pos c5] at H
        have c5b0 : decide (0 < (a0.size : Int)) = true := decide_eq_true c5
        have c5b1 : decide (0 < a0.size) = true := decide_eq_true (by omega)
        clear c5
        by_cases c7 : (bt a0 0) = 48
        · rw [if_pos c7] at H
          have c7b0 : ((bt a0 0) == 48) = true := beq_iff_eq.mpr c7
          have c7b1 : ((bt a0 0) != 48) = false := bne_eq_false_iff_eq.mpr c7
          clear c7
          by_cases c8 : 1 < (a0.size : Int)
          · rw [if_pos c8] at H
            have c8b0 : decide (1 < (a0.size : Int)) = true := decide_eq_true c8
            have c8b1 : decide (1 < a0.size) = true := decide_eq_true (by omega)
            clear c8
            by_cases c10 : (bt a0 1) = 120
            · rw [if_pos c10] at H
              have c10b0 : ((bt a0 1) == 120) = true := beq_iff_eq.mpr c10
              have c10b1 : ((bt a0 1) != 120) = false := bne_eq_false_iff_eq.mpr c10
              clear c10
              have H' := Aside0.mk H
              clear H
              have p6 : 0 ≤ (0 : Int) := (by omega)
              have q6 : 0 < a0.size := (by have : (0 : Int) < (a0.size : Int) := of_decide_eq_true (by first | (with_reducible assumption) | assumption); omega)
              have hx6 : ∀ h : 0 < a0.size, ((a0[0]'h).toNat : Int) = bt a0 0 := bt_at a0 0
              clear p6
              have qi6 : (0 < (a0.size : Int)) = True := eq_true (of_decide_eq_true (by first | (with_reducible assumption) | assumption))
              replace q6 := eq_true q6
              have p9 : 0 ≤ (1 : Int) := (by omega)
              have q9 : 1 < a0.size := (by have : (1 : Int) < (a0.size : Int) := of_decide_eq_true (by first | (with_reducible assumption) | assumption); omega)
              have hx9 : ∀ h : 1 < a0.size, ((a0[1]'h).toNat : Int) = bt a0 1 := bt_at a0 1
              clear p9
              have qi9 : (1 < (a0.size : Int)) = True := eq_true (of_decide_eq_true (by first | (with_reducible assumption) | assumption))
              replace q9 := eq_true q9
              go_wp2
              go_meet
              case rel => exact ⟨_, (true), (by first | rfl | (simp; done) | (simp [*]; done)), H', ⟨by first | omega | exact Nat.le_refl _⟩, by repeat (first | exact Drawn0.refl _ | apply Drawn0.step)⟩
            · rw [if_neg c10] at H
              have c10b0 : ((bt a0 1) == 120) = false := beq_eq_false_iff_ne.mpr c10
              have c10b1 : ((bt a0 1) != 120) = true := bne_iff_ne.mpr c10
              have H' := Aside0.mk H
              clear H
              have p6 : 0 ≤ (0 : Int) := (by omega)
              have q6 : 0 < a0.size := (by have : (0 : Int) < (a0.size : Int) := of_decide_eq_true (by first | (with_reducible assumption) | assumption); omega)
              have hx6 : ∀ h : 0 < a0.size, ((a0[0]'h).toNat : Int) = bt a0 0 := bt_at a0 0
              clear p6
              have qi6 : (0 < (a0.size : Int)) = True := eq_true (of_decide_eq_true (by first | (with_reducible assumption) | assumption))
              replace q6 := eq_true q6
              have p9 : 0 ≤ (1 : Int) := (by omega)
              have q9 : 1 < a0.size := (by have : (1 : Int) < (a0.size : Int) := of_decide_eq_true (by first | (with_reducible assumption) | assumption); omega)
              have hx9 : ∀ h : 1 < a0.size, ((a0[1]'h).toNat : Int) = bt a0 1 := bt_at a0 1
              clear p9
              have qi9 : (1 < (a0.size : Int)) = True := eq_true (of_decide_eq_true (by first | (with_reducible assumption) | assumption))
              replace q9 := eq_true q9
              have p11 : 0 ≤ (1 : Int) := (by omega)
              have q11 : 1 < a0.size := (by have : (1 : Int) < (a0.size : Int) := of_decide_eq_true (by first | (with_reducible assumption) | assumption); omega)
              have hx11 : ∀ h : 1 < a0.size, ((a0[1]'h).toNat : Int) = bt a0 1 := bt_at a0 1
              clear p11
              have qi11 : (1 < (a0.size : Int)) = True := eq_true (of_decide_eq_true (by first | (with_reducible assumption) | assumption))
              replace q11 := eq_true q11
              go_wp2
              go_meet
              case rel => exact ⟨_, (((bt a0 1) == 88)), (by first | rfl | (simp; done) | (simp [*]; done)), H', ⟨by first | omega | exact Nat.le_refl _⟩, by repeat (first | exact Drawn0.refl _ | apply Drawn0.step)⟩
          · rw [if_neg c8] at H
            exact absurd H (by simp)
        · rw [if_neg c7] at H
          have c7b0 : ((bt a0 0) == 48) = false := beq_eq_false_iff_ne.mpr c7
          have c7b1 : ((bt a0 0) != 48) = true := bne_iff_ne.mpr c7
          have H' := Aside0.mk H
          clear H
          have p6 : 0 ≤ (0 : Int) := (by omega)
          have q6 : 0 < a0.size := (by have : (0 : Int) < (a0.size : Int) := of_decide_eq_true (by first | (with_reducible assumption) | assumption); omega)
          have hx6 : ∀ h : 0 < a0.size, ((a0[0]'h).toNat : Int) = bt a0 0 := bt_at a0 0
          clear p6
          have qi6 : (0 < (a0.size : Int)) = True := eq_true (of_decide_eq_true (by first | (with_reducible assumption) | assumption))
          replace q6 := eq_true q6
          go_wp2
          go_meet
          case rel => exact ⟨_, (false), (by first | rfl | (simp; done) | (simp [*]; done)), H', ⟨by first | omega | exact Nat.le_refl _⟩, by repeat (first | exact Drawn0.refl _ | apply Drawn0.step)⟩
      · rw [if_neg c5] at H
        exact absurd H (by simp)
    · rw [if_neg c4] at H
      have c4b0 : decide (2 ≤ (a0.size : Int)) = false := decide_eq_false c4
      have c4b1 : decide (2 ≤ a0.size) = false := decide_eq_false (by omega)
      clear c4
      (first | rw [c4b0] | (simp only [i64_w, i32_w]; rw [c4b0]) | skip)
      have H' := Aside0.mk H
      clear H
      go_wp2
      go_meet
      case rel => exact ⟨_, (false), (by first | rfl | (simp; done) | (simp [*]; done)), H', ⟨by first | omega | exact Nat.le_refl _⟩, by repeat (first | exact Drawn0.refl _ | apply Drawn0.step)⟩
  case rest =>
    clear HC3
    try clear c1
    try clear p1
    try clear q1
    try clear hx1
    try clear qi1
    try clear p2
    try clear c4
    try clear c4b0
    try clear c4b1
    try clear c5
    try clear c5b0
    try clear c5b1
    try clear c6
    try clear p6
    try clear q6
    try clear hx6
    try clear qi6
    try clear c7
    try clear c7b0
    try clear c7b1
    try clear c8
    try clear c8b0
    try clear c8b1
    try clear p9
    try clear q9
    try clear hx9
    try clear qi9
    try clear c10
    try clear c10b0
    try clear c10b1
    try clear p11
    try clear q11
    try clear hx11
    try clear qi11
    try clear p11
    try clear p6
    try clear p9
    try clear q11
    try clear q6
    try clear q9
    obtain ⟨kq, x6_2, rfl, HA, HJ2, ⟨mc2, rfl⟩⟩ := hcut
    cases kq with
    | zero => exact absurd HA.out (by simp [trestleref02_read.j0])
    | succ kj2 =>
      have H := HA.out
      clear HA
      simp only [trestleref02_read.j0] at H
      have HC12 := Aside0.mk H
      clear H
      go_upto_if 31 with (fail)
      go_cut [0] (fun v0 wc => ∃ (kq : Nat) (x0_11 : ByteArray), v0 = .string x0_11 ∧ Aside0 (trestleref02_read.j1 kq x0_11 a1 x6_2 = some (r1, r2)) ∧ Aside0 (kq ≤ kj2) ∧ Drawn0 w wc)
      case first =>
        have H := HC12.out
        clear HC12
        by_cases c13 : x6_2 = true
        · subst c13
          have H1 : (if 2 ≤ (a0.size : Int) then (trestleref02_read.j1 kj2 (a0.extract 2 a0.size) a1 true) else (none)) = some (r1, r2) := by rw [if_pos rfl] at H; exact H
          clear H
          have H := H1
          clear H1
          by_cases c14 : 2 ≤ (a0.size : Int)
          · rw [if_pos c14] at H
            have c14b0 := eq_true c14
            have c14b1 : decide (2 ≤ (a0.size : Int)) = true := decide_eq_true c14
            clear c14
            have H' := Aside0.mk H
            clear H
            go_wp2
            go_meet
            case rel => exact ⟨_, (a0.extract 2 a0.size), (by first | rfl | (simp; done) | (simp [*]; done)), H', ⟨by have := HJ2.out; first | omega | exact Nat.le_refl _⟩, by repeat (first | exact Drawn0.refl _ | apply Drawn0.step)⟩
          · rw [if_neg c14] at H
            exact absurd H (by simp)
        · replace c13 := Bool.eq_false_iff.mpr c13
          subst c13
          have H1 : (trestleref02_read.j1 kj2 a0 a1 false) = some (r1, r2) := by rw [if_neg (show ¬ (false = true) by decide)] at H; exact H
          clear H
          have H := H1
          clear H1
          have H' := Aside0.mk H
          clear H
          go_wp2
          go_meet
          case rel => exact ⟨_, (a0), (by first | rfl | (simp; done) | (simp [*]; done)), H', ⟨by have := HJ2.out; first | omega | exact Nat.le_refl _⟩, by repeat (first | exact Drawn0.refl _ | apply Drawn0.step)⟩
      case rest =>
        clear HC12
        try clear c1
        try clear p1
        try clear q1
        try clear hx1
        try clear qi1
        try clear c2
        try clear p2
        try clear c4
        try clear c4b0
        try clear c4b1
        try clear c5
        try clear c5b0
        try clear c5b1
        try clear c6
        try clear p6
        try clear q6
        try clear hx6
        try clear qi6
        try clear c7
        try clear c7b0
        try clear c7b1
        try clear c8
        try clear c8b0
        try clear c8b1
        try clear p9
        try clear q9
        try clear hx9
        try clear qi9
        try clear c10
        try clear c10b0
        try clear c10b1
        try clear p11
        try clear q11
        try clear hx11
        try clear qi11
        try clear c13
        try clear c14
        try clear c14b0
        try clear c14b1
        try clear p1
        try clear p11
        try clear p2
        try clear p6
        try clear p9
        try clear q1
        try clear q11
        try clear q6
        try clear q9
        obtain ⟨kq, x0_11, rfl, HA, HJ11, ⟨mc11, rfl⟩⟩ := hcut
        cases kq with
        | zero => exact absurd HA.out (by simp [trestleref02_read.j1])
        | succ kj11 =>
          have H := HA.out
          clear HA
          simp only [trestleref02_read.j1] at H
          by_cases c15 : (x0_11.size : Int) = 0
          · rw [if_pos c15] at H
            have c15b0 : ((x0_11.size : Int) == 0) = true := beq_iff_eq.mpr c15
            have c15b1 : ((x0_11.size : Int) != 0) = false := bne_eq_false_iff_eq.mpr c15
            clear c15
            simp only [Option.some.injEq, Prod.mk.injEq] at H
            obtain ⟨rfl, rfl⟩ := H
            go_wp2
            go_ret2
            exact ⟨by first | rfl | (simp; done) | (simp [*]; done), by repeat (first | exact Drawn0.refl _ | apply Drawn0.step)⟩
          · rw [if_neg c15] at H
            have c15b0 : ((x0_11.size : Int) == 0) = false := beq_eq_false_iff_ne.mpr c15
            have c15b1 : ((x0_11.size : Int) != 0) = true := bne_iff_ne.mpr c15
            have H' := Aside0.mk H
            clear H
            go_wp2
            go_loopg [7] kj11 (fun kq v7 w' => ∃ (x7_3 : Int), v7 = .int .i64 x7_3 ∧ Aside0 (trestleref02_read.l0 kq x0_11 a1 x6_2 x7_3 = some (r1, r2)) ∧ Aside0 (kq ≤ kj11) ∧ Drawn0 w w')
            case atStart => exact ⟨(0), (by first | rfl | (simp; done) | (simp [*]; done)), H', ⟨Nat.le_refl _⟩, by repeat (first | exact Drawn0.refl _ | apply Drawn0.step)⟩
            case round =>
              clear H'
              try clear c1
              try clear p1
              try clear q1
              try clear hx1
              try clear qi1
              try clear c2
              try clear p2
              try clear c4
              try clear c4b0
              try clear c4b1
              try clear c5
              try clear c5b0
              try clear c5b1
              try clear c6
              try clear p6
              try clear q6
              try clear hx6
              try clear qi6
              try clear c7
              try clear c7b0
              try clear c7b1
              try clear c8
              try clear c8b0
              try clear c8b1
              try clear p9
              try clear q9
              try clear hx9
              try clear qi9
              try clear c10
              try clear c10b0
              try clear c10b1
              try clear c11
              try clear p11
              try clear q11
              try clear hx11
              try clear qi11
              try clear c13
              try clear c14
              try clear c14b0
              try clear c14b1
              try clear c15
              try clear c15b0
              try clear c15b1
              try clear p1
              try clear p11
              try clear p2
              try clear p6
              try clear p9
              try clear q1
              try clear q11
              try clear q6
              try clear q9
              obtain ⟨x7_3, rfl, HA, HK3, ⟨m3, rfl⟩⟩ := hrel
              cases gk with
              | zero => exact absurd HA.out (by simp [trestleref02_read.l0])
              | succ k3 =>
                have H := HA.out
                clear HA
                simp only [trestleref02_read.l0] at H
                by_cases c16 : x7_3 < (x0_11.size : Int)
                · rw [if_pos c16] at H
                  have c16b0 : decide (x7_3 < (x0_11.size : Int)) = true := decide_eq_true c16
                  clear c16
                  by_cases c17 : 0 ≤ x7_3
                  · rw [if_pos c17] at H
                    have c17b0 : decide (0 ≤ x7_3) = true := decide_eq_true c17
                    clear c17
                    replace H := Option.bind_eq_some_iff.mp H
                    obtain ⟨t108, A190, H⟩ := H
                    replace H : (if t108 < 0 then (some (0, 4)) else (trestleref02_read.l0 k3 x0_11 a1 x6_2 (wrap64 (x7_3 + 1)))) = some (r1, r2) := H
                    have A19 := Aside0.mk A190
                    clear A190
                    by_cases c20 : t108 < 0
                    · rw [if_pos c20] at H
                      have c20b0 : decide (t108 < 0) = true := decide_eq_true c20
                      clear c20
                      simp only [Option.some.injEq, Prod.mk.injEq] at H
                      obtain ⟨rfl, rfl⟩ := H
                      have p18 : 0 ≤ (x7_3 : Int) := of_decide_eq_true (by first | (with_reducible assumption) | assumption)
                      have q18 : x7_3 < (x0_11.size : Int) := of_decide_eq_true (by first | (with_reducible assumption) | assumption)
                      have hx18 := bt_at x0_11 x7_3
                      replace p18 := eq_true p18
                      replace q18 := eq_true q18
                      go_wp2_with (first | ((with_reducible refine gate_callee (f := 79) rfl ?_); refine goesL_ (some 47) rfl rfl Tryd.func79 (by kernel_rfl) rfl #[.int .u8 (bt x0_11 x7_3), .bool x6_2] rfl (by (try simp only [List.map_toArray, List.map_cons, List.map_nil]); first | done | rfl | (simp only [List.length_drop, List.length_take]; rfl)) ?_; (with_reducible refine (trestleref02_worth.calls k3 (bt x0_11 x7_3) x6_2 t108 _ A19.out).mono ?_); rintro e w' ⟨rfl, ⟨nd, rfl⟩⟩; refine ⟨_, rfl, ?_⟩))
                      go_ret2
                      exact ⟨by first | rfl | (simp; done) | (simp [*]; done), by repeat (first | exact Drawn0.refl _ | apply Drawn0.step)⟩
                    · rw [if_neg c20] at H
                      have c20b0 : decide (t108 < 0) = false := decide_eq_false c20
                      clear c20
                      have H' := Aside0.mk H
                      clear H
                      have p18 : 0 ≤ (x7_3 : Int) := of_decide_eq_true (by first | (with_reducible assumption) | assumption)
                      have q18 : x7_3 < (x0_11.size : Int) := of_decide_eq_true (by first | (with_reducible assumption) | assumption)
                      have hx18 := bt_at x0_11 x7_3
                      replace p18 := eq_true p18
                      replace q18 := eq_true q18
                      go_wp2_with (first | ((with_reducible refine gate_callee (f := 79) rfl ?_); refine goesL_ (some 47) rfl rfl Tryd.func79 (by kernel_rfl) rfl #[.int .u8 (bt x0_11 x7_3), .bool x6_2] rfl (by (try simp only [List.map_toArray, List.map_cons, List.map_nil]); first | done | rfl | (simp only [List.length_drop, List.length_take]; rfl)) ?_; (with_reducible refine (trestleref02_worth.calls k3 (bt x0_11 x7_3) x6_2 t108 _ A19.out).mono ?_); rintro e w' ⟨rfl, ⟨nd, rfl⟩⟩; refine ⟨_, rfl, ?_⟩))
                      go_roundg k3
                      case measure => have := HJ2.out; have := HJ11.out; have := HK3.out; omega
                      case rel => exact ⟨(wrap64 (x7_3 + 1)), (by first | rfl | (simp; done) | (simp [*]; done)), H', ⟨by have := HJ2.out; have := HJ11.out; have := HK3.out; omega⟩, by repeat (first | exact Drawn0.refl _ | apply Drawn0.step)⟩
                  · rw [if_neg c17] at H
                    exact absurd H (by simp)
                · rw [if_neg c16] at H
                  have c16b0 : decide (x7_3 < (x0_11.size : Int)) = false := decide_eq_false c16
                  clear c16
                  by_cases c21 : x6_2 = true
                  · subst c21
                    have H1 : (trestleref02_read.l1 k3 x0_11 a1 0 0) = some (r1, r2) := by rw [if_pos rfl] at H; exact H
                    clear H
                    have H := H1
                    clear H1
                    have H' := Aside0.mk H
                    clear H
                    go_wp2
                    go_loopg [8, 9] k3 (fun kq v8 v9 w' => ∃ (x8_4 : Int) (x9_4 : Int), v8 = .int .i64 x8_4 ∧ v9 = .int .i64 x9_4 ∧ Aside0 (trestleref02_read.l1 kq x0_11 a1 x8_4 x9_4 = some (r1, r2)) ∧ Aside0 (kq ≤ k3) ∧ Drawn0 w w')
                    case atStart => exact ⟨(0), (0), (by first | rfl | (simp; done) | (simp [*]; done)), (by first | rfl | (simp; done) | (simp [*]; done)), H', ⟨Nat.le_refl _⟩, by repeat (first | exact Drawn0.refl _ | apply Drawn0.step)⟩
                    case round =>
                      clear H'
                      try clear c1
                      try clear p1
                      try clear q1
                      try clear hx1
                      try clear qi1
                      try clear c2
                      try clear p2
                      try clear c4
                      try clear c4b0
                      try clear c4b1
                      try clear c5
                      try clear c5b0
                      try clear c5b1
                      try clear c6
                      try clear p6
                      try clear q6
                      try clear hx6
                      try clear qi6
                      try clear c7
                      try clear c7b0
                      try clear c7b1
                      try clear c8
                      try clear c8b0
                      try clear c8b1
                      try clear p9
                      try clear q9
                      try clear hx9
                      try clear qi9
                      try clear c10
                      try clear c10b0
                      try clear c10b1
                      try clear c11
                      try clear p11
                      try clear q11
                      try clear hx11
                      try clear qi11
                      try clear c13
                      try clear c14
                      try clear c14b0
                      try clear c14b1
                      try clear c15
                      try clear c15b0
                      try clear c15b1
                      try clear c16
                      try clear c16b0
                      try clear c17
                      try clear c17b0
                      try clear p18
                      try clear q18
                      try clear hx18
                      try clear c20
                      try clear c20b0
                      try clear c21
                      try clear p1
                      try clear p11
                      try clear p18
                      try clear p2
                      try clear p6
                      try clear p9
                      try clear q1
                      try clear q11
                      try clear q18
                      try clear q6
                      try clear q9
                      obtain ⟨x8_4, x9_4, rfl, rfl, HA, HK4, ⟨m4, rfl⟩⟩ := hrel
                      cases gk with
                      | zero => exact absurd HA.out (by simp [trestleref02_read.l1])
                      | succ k4 =>
                        have H := HA.out
                        clear HA
                        simp only [trestleref02_read.l1] at H
                        by_cases c22 : x9_4 < (x0_11.size : Int)
                        · rw [if_pos c22] at H
                          have c22b0 : decide (x9_4 < (x0_11.size : Int)) = true := decide_eq_true c22
                          clear c22
                          by_cases c23 : 0 ≤ x9_4
                          · rw [if_pos c23] at H
                            have c23b0 : decide (0 ≤ x9_4) = true := decide_eq_true c23
                            clear c23
                            replace H := Option.bind_eq_some_iff.mp H
                            obtain ⟨t109, A250, H⟩ := H
                            replace H : (trestleref02_read.l1 k4 x0_11 a1 (wrap64 ((wrap64 (x8_4 * 16)) + t109)) (wrap64 (x9_4 + 1))) = some (r1, r2) := H
                            have A25 := Aside0.mk A250
                            clear A250
                            have H' := Aside0.mk H
                            clear H
                            have p24 : 0 ≤ (x9_4 : Int) := of_decide_eq_true (by first | (with_reducible assumption) | assumption)
                            have q24 : x9_4 < (x0_11.size : Int) := of_decide_eq_true (by first | (with_reducible assumption) | assumption)
                            have hx24 := bt_at x0_11 x9_4
                            replace p24 := eq_true p24
                            replace q24 := eq_true q24
                            go_wp2_with (first | ((with_reducible refine gate_callee (f := 79) rfl ?_); refine goesL_ (some 61) rfl rfl Tryd.func79 (by kernel_rfl) rfl #[.int .u8 (bt x0_11 x9_4), .bool true] rfl (by (try simp only [List.map_toArray, List.map_cons, List.map_nil]); first | done | rfl | (simp only [List.length_drop, List.length_take]; rfl)) ?_; (with_reducible refine (trestleref02_worth.calls k4 (bt x0_11 x9_4) true t109 _ A25.out).mono ?_); rintro e w' ⟨rfl, ⟨nd, rfl⟩⟩; refine ⟨_, rfl, ?_⟩))
                            go_roundg k4
                            case measure => have := HJ2.out; have := HJ11.out; have := HK3.out; have := HK4.out; omega
                            case rel => exact ⟨(wrap64 ((wrap64 (x8_4 * 16)) + t109)), (wrap64 (x9_4 + 1)), (by first | rfl | (simp; done) | (simp [*]; done)), (by first | rfl | (simp; done) | (simp [*]; done)), H', ⟨by have := HJ2.out; have := HJ11.out; have := HK3.out; have := HK4.out; omega⟩, by repeat (first | exact Drawn0.refl _ | apply Drawn0.step)⟩
                          · rw [if_neg c23] at H
                            exact absurd H (by simp)
                        · rw [if_neg c22] at H
                          have c22b0 : decide (x9_4 < (x0_11.size : Int)) = false := decide_eq_false c22
                          clear c22
                          by_cases c26 : a1 = true
                          · subst c26
                            have H1 : (some (wrap64 (-x8_4), 0)) = some (r1, r2) := by rw [if_pos rfl] at H; exact H
                            clear H
                            have H := H1
                            clear H1
                            simp only [Option.some.injEq, Prod.mk.injEq] at H
                            obtain ⟨rfl, rfl⟩ := H
                            go_wp2
                            go_ret2
                            exact ⟨by first | rfl | (simp; done) | (simp [*]; done), by repeat (first | exact Drawn0.refl _ | apply Drawn0.step)⟩
                          · replace c26 := Bool.eq_false_iff.mpr c26
                            subst c26
                            have H1 : (some (x8_4, 0)) = some (r1, r2) := by rw [if_neg (show ¬ (false = true) by decide)] at H; exact H
                            clear H
                            have H := H1
                            clear H1
                            simp only [Option.some.injEq, Prod.mk.injEq] at H
                            obtain ⟨rfl, rfl⟩ := H
                            go_wp2
                            go_ret2
                            exact ⟨by first | rfl | (simp; done) | (simp [*]; done), by repeat (first | exact Drawn0.refl _ | apply Drawn0.step)⟩
                  · replace c21 := Bool.eq_false_iff.mpr c21
                    subst c21
                    have H1 : (trestleref02_read.l2 k3 x0_11 a1 0 0) = some (r1, r2) := by rw [if_neg (show ¬ (false = true) by decide)] at H; exact H
                    clear H
                    have H := H1
                    clear H1
                    have H' := Aside0.mk H
                    clear H
                    go_wp2
                    go_loopg [10, 11] k3 (fun kq v10 v11 w' => ∃ (x10_4 : Int) (x11_4 : Int), v10 = .int .i64 x10_4 ∧ v11 = .int .i64 x11_4 ∧ Aside0 (trestleref02_read.l2 kq x0_11 a1 x10_4 x11_4 = some (r1, r2)) ∧ Aside0 (kq ≤ k3) ∧ Drawn0 w w')
                    case atStart => exact ⟨(0), (0), (by first | rfl | (simp; done) | (simp [*]; done)), (by first | rfl | (simp; done) | (simp [*]; done)), H', ⟨Nat.le_refl _⟩, by repeat (first | exact Drawn0.refl _ | apply Drawn0.step)⟩
                    case round =>
                      clear H'
                      try clear c1
                      try clear p1
                      try clear q1
                      try clear hx1
                      try clear qi1
                      try clear c2
                      try clear p2
                      try clear q2
                      try clear hx2
                      try clear c4
                      try clear c4b0
                      try clear c4b1
                      try clear c5
                      try clear c5b0
                      try clear c5b1
                      try clear c6
                      try clear p6
                      try clear q6
                      try clear hx6
                      try clear qi6
                      try clear c7
                      try clear c7b0
                      try clear c7b1
                      try clear c8
                      try clear c8b0
                      try clear c8b1
                      try clear p9
                      try clear q9
                      try clear hx9
                      try clear qi9
                      try clear c10
                      try clear c10b0
                      try clear c10b1
                      try clear c11
                      try clear p11
                      try clear q11
                      try clear hx11
                      try clear qi11
                      try clear c13
                      try clear c14
                      try clear c14b0
                      try clear c14b1
                      try clear c15
                      try clear c15b0
                      try clear c15b1
                      try clear c16
                      try clear c16b0
                      try clear c17
                      try clear c17b0
                      try clear p18
                      try clear q18
                      try clear hx18
                      try clear c20
                      try clear c20b0
                      try clear c21
                      try clear c22
                      try clear c22b0
                      try clear c23
                      try clear c23b0
                      try clear p24
                      try clear q24
                      try clear hx24
                      try clear c26
                      try clear p1
                      try clear p11
                      try clear p18
                      try clear p2
                      try clear p24
                      try clear p6
                      try clear p9
                      try clear q1
                      try clear q11
                      try clear q18
                      try clear q24
                      try clear q6
                      try clear q9
                      obtain ⟨x10_4, x11_4, rfl, rfl, HA, HK4, ⟨m4, rfl⟩⟩ := hrel
                      cases gk with
                      | zero => exact absurd HA.out (by simp [trestleref02_read.l2])
                      | succ k4 =>
                        have H := HA.out
                        clear HA
                        simp only [trestleref02_read.l2] at H
                        by_cases c27 : x11_4 < (x0_11.size : Int)
                        · rw [if_pos c27] at H
                          have c27b0 : decide (x11_4 < (x0_11.size : Int)) = true := decide_eq_true c27
                          clear c27
                          by_cases c28 : 0 ≤ x11_4
                          · rw [if_pos c28] at H
                            have c28b0 : decide (0 ≤ x11_4) = true := decide_eq_true c28
                            clear c28
                            replace H := Option.bind_eq_some_iff.mp H
                            obtain ⟨t110, A300, H⟩ := H
                            replace H : (if x10_4 < (wrap64 (Int.tdiv (wrap64 ((-9223372036854775808) + t110)) 10)) then (some (0, 14)) else (trestleref02_read.l2 k4 x0_11 a1 (wrap64 ((wrap64 (x10_4 * 10)) - t110)) (wrap64 (x11_4 + 1)))) = some (r1, r2) := H
                            have A30 := Aside0.mk A300
                            clear A300
                            by_cases c31 : x10_4 < (wrap64 (Int.tdiv (wrap64 ((-9223372036854775808) + t110)) 10))
                            · rw [if_pos c31] at H
                              have c31b0 : decide (x10_4 < (wrap64 (Int.tdiv (wrap64 ((-9223372036854775808) + t110)) 10))) = true := decide_eq_true c31
                              clear c31
                              simp only [Option.some.injEq, Prod.mk.injEq] at H
                              obtain ⟨rfl, rfl⟩ := H
                              have p29 : 0 ≤ (x11_4 : Int) := of_decide_eq_true (by first | (with_reducible assumption) | assumption)
                              have q29 : x11_4 < (x0_11.size : Int) := of_decide_eq_true (by first | (with_reducible assumption) | assumption)
                              have hx29 := bt_at x0_11 x11_4
                              replace p29 := eq_true p29
                              replace q29 := eq_true q29
                              go_wp2_with (first | ((with_reducible refine gate_callee (f := 79) rfl ?_); refine goesL_ (some 76) rfl rfl Tryd.func79 (by kernel_rfl) rfl #[.int .u8 (bt x0_11 x11_4), .bool false] rfl (by (try simp only [List.map_toArray, List.map_cons, List.map_nil]); first | done | rfl | (simp only [List.length_drop, List.length_take]; rfl)) ?_; (with_reducible refine (trestleref02_worth.calls k4 (bt x0_11 x11_4) false t110 _ A30.out).mono ?_); rintro e w' ⟨rfl, ⟨nd, rfl⟩⟩; refine ⟨_, rfl, ?_⟩))
                              go_ret2
                              exact ⟨by first | rfl | (simp; done) | (simp [*]; done), by repeat (first | exact Drawn0.refl _ | apply Drawn0.step)⟩
                            · rw [if_neg c31] at H
                              have c31b0 : decide (x10_4 < (wrap64 (Int.tdiv (wrap64 ((-9223372036854775808) + t110)) 10))) = false := decide_eq_false c31
                              clear c31
                              have H' := Aside0.mk H
                              clear H
                              have p29 : 0 ≤ (x11_4 : Int) := of_decide_eq_true (by first | (with_reducible assumption) | assumption)
                              have q29 : x11_4 < (x0_11.size : Int) := of_decide_eq_true (by first | (with_reducible assumption) | assumption)
                              have hx29 := bt_at x0_11 x11_4
                              replace p29 := eq_true p29
                              replace q29 := eq_true q29
                              go_wp2_with (first | ((with_reducible refine gate_callee (f := 79) rfl ?_); refine goesL_ (some 76) rfl rfl Tryd.func79 (by kernel_rfl) rfl #[.int .u8 (bt x0_11 x11_4), .bool false] rfl (by (try simp only [List.map_toArray, List.map_cons, List.map_nil]); first | done | rfl | (simp only [List.length_drop, List.length_take]; rfl)) ?_; (with_reducible refine (trestleref02_worth.calls k4 (bt x0_11 x11_4) false t110 _ A30.out).mono ?_); rintro e w' ⟨rfl, ⟨nd, rfl⟩⟩; refine ⟨_, rfl, ?_⟩))
                              go_roundg k4
                              case measure => have := HJ2.out; have := HJ11.out; have := HK3.out; have := HK4.out; omega
                              case rel => exact ⟨(wrap64 ((wrap64 (x10_4 * 10)) - t110)), (wrap64 (x11_4 + 1)), (by first | rfl | (simp; done) | (simp [*]; done)), (by first | rfl | (simp; done) | (simp [*]; done)), H', ⟨by have := HJ2.out; have := HJ11.out; have := HK3.out; have := HK4.out; omega⟩, by repeat (first | exact Drawn0.refl _ | apply Drawn0.step)⟩
                          · rw [if_neg c28] at H
                            exact absurd H (by simp)
                        · rw [if_neg c27] at H
                          have c27b0 : decide (x11_4 < (x0_11.size : Int)) = false := decide_eq_false c27
                          clear c27
                          by_cases c32 : a1 = true
                          · subst c32
                            have H1 : (some (x10_4, 0)) = some (r1, r2) := by rw [if_pos rfl] at H; exact H
                            clear H
                            have H := H1
                            clear H1
                            simp only [Option.some.injEq, Prod.mk.injEq] at H
                            obtain ⟨rfl, rfl⟩ := H
                            go_wp2
                            go_ret2
                            exact ⟨by first | rfl | (simp; done) | (simp [*]; done), by repeat (first | exact Drawn0.refl _ | apply Drawn0.step)⟩
                          · replace c32 := Bool.eq_false_iff.mpr c32
                            subst c32
                            have H1 : (if x10_4 = (-9223372036854775808) then (some (0, 14)) else (some (wrap64 (-x10_4), 0))) = some (r1, r2) := by rw [if_neg (show ¬ (false = true) by decide)] at H; exact H
                            clear H
                            have H := H1
                            clear H1
                            by_cases c33 : x10_4 = (-9223372036854775808)
                            · rw [if_pos c33] at H
                              have c33b0 : (x10_4 == (-9223372036854775808)) = true := beq_iff_eq.mpr c33
                              have c33b1 : (x10_4 != (-9223372036854775808)) = false := bne_eq_false_iff_eq.mpr c33
                              clear c33
                              simp only [Option.some.injEq, Prod.mk.injEq] at H
                              obtain ⟨rfl, rfl⟩ := H
                              go_wp2
                              go_ret2
                              exact ⟨by first | rfl | (simp; done) | (simp [*]; done), by repeat (first | exact Drawn0.refl _ | apply Drawn0.step)⟩
                            · rw [if_neg c33] at H
                              have c33b0 : (x10_4 == (-9223372036854775808)) = false := beq_eq_false_iff_ne.mpr c33
                              have c33b1 : (x10_4 != (-9223372036854775808)) = true := bne_iff_ne.mpr c33
                              simp only [Option.some.injEq, Prod.mk.injEq] at H
                              obtain ⟨rfl, rfl⟩ := H
                              go_wp2
                              go_ret2
                              exact ⟨by first | rfl | (simp; done) | (simp [*]; done), by repeat (first | exact Drawn0.refl _ | apply Drawn0.step)⟩

/-! ### trestleref02_Parse: function 18 -/
def trestleref02_Parse.f (k : Nat) (a0 : ByteArray) : Option (Int × Int) := (trestleref02_read.f k a0 false).bind fun bt111 => (some (bt111.1, bt111.2))
theorem trestleref02_Parse.mono : ∀ a0 k, LeO (trestleref02_Parse.f k a0) (trestleref02_Parse.f (k + 1) a0) := by
  intro a0 k
  unfold trestleref02_Parse.f
  repeat' first
      | (with_reducible exact trestleref02_read.mono _ _ _)
      | (with_reducible exact LeO.refl _)
      | (with_reducible exact LeO.none _)
      | (with_reducible refine LeO.ite ?_ ?_)
      | (with_reducible refine LeO.bind ?_ (fun _ => ?_))
      | exact trestleref02_read.mono _ _ _
      | exact LeO.none _
      | refine LeO.ite ?_ ?_
      | refine LeO.bind ?_ (fun _ => ?_)
set_option maxHeartbeats 8000000 in
set_option maxRecDepth 100000 in
theorem trestleref02_Parse.calls (k : Nat) (a0 : ByteArray) (r1 : Int) (r2 : Int) (w : World) (h : trestleref02_Parse.f k a0 = some (r1, r2)) :
    Calls Tryd.prog 18 #[.string a0] w fun e w' => e = .returned (.tuple #[.int .i64 r1, .int .i64 r2]) ∧ Drawn0 w w' := by
  have H : ((trestleref02_read.f k a0 false).bind fun bt111 => (some (bt111.1, bt111.2))) = some (r1, r2) := h
  clear h
  replace H := Option.bind_eq_some_iff.mp H
  obtain ⟨⟨t111, t112⟩, A20, H⟩ := H
  replace H : (some (t111, t112)) = some (r1, r2) := H
  have A2 := Aside0.mk A20
  clear A20
  simp only [Option.some.injEq, Prod.mk.injEq] at H
  obtain ⟨rfl, rfl⟩ := H
  go_enter Tryd.func18, Tryd.ntmps18
  go_wp2_with (first | ((with_reducible refine gate_callee (f := 62) rfl ?_); refine goesL_ (some 5) rfl rfl Tryd.func62 (by kernel_rfl) rfl #[.string a0, .bool false] rfl (by (try simp only [List.map_toArray, List.map_cons, List.map_nil]); first | done | rfl | (simp only [List.length_drop, List.length_take]; rfl)) ?_; (with_reducible refine (trestleref02_read.calls k a0 false t111 t112 _ A2.out).mono ?_); rintro e w' ⟨rfl, ⟨nd, rfl⟩⟩; refine ⟨_, rfl, ?_⟩))
  go_ret2
  exact ⟨by first | rfl | (simp; done) | (simp [*]; done), by repeat (first | exact Drawn0.refl _ | apply Drawn0.step)⟩

end Go.Proofs.YtpppcoobibmlhaaDoor.PWordsTexts
