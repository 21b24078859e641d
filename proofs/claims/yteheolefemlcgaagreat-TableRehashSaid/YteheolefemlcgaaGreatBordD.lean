/- border: beyond. -/
import Derived.Test.YteheolefemlcgaaGreatBordC
namespace Go.Proofs.YteheolefemlcgaaGreat
open Go.RowKit
set_option linter.unusedVariables false
set_option linter.unusedSimpArgs false

section
variable {w0 w1 w : World} {a s b g hp : Nat} {t : Tbl}
theorem BJ.since (H : BJ w1 a s b g hp t w) (hb : Below w0.heap.size w0 w1) : BJ w0 a s b g hp t w :=
  ⟨H.ex, ((Kp.refl (fun q => q = a) w0).below hb).trans H.kp (fun q hq => .inl hq)⟩
end
theorem Bd.beyond_eq {has : Int → Bool} {n x y : Int} (h : has (n + 1) = true) (hu : Bd.up has 64 (n + 1) (2 * (n + 1)) = (x, y)) : Bd.beyond has n = if x = y then y else Bd.halve has (y - x).toNat x y := by unfold Bd.beyond; rw [if_pos h, hu]
theorem bord_more (w0 : World) (a s b g hp tb : Nat) (t : Tbl) (hok : t.p.ok) (hc : w0.cell? ⟨tb, 0, none⟩ = some (.pointer (some ⟨a, 0, none⟩))) (hl : tb < w0.heap.size) (hn : tb ≠ a) (i : Int) (w : World) (H : BJ w0 a s b g hp t w) :
    Calls Tryz.prog 106 #[.int .i64 i, .pointer (some ⟨tb, 0, none⟩)] w fun e w' => e = .returned (.bool (hasT t i)) ∧ BJ w0 a s b g hp t w' := by
  have c0 := (H.cell (p := ⟨tb, 0, none⟩) hl hn).trans hc
  have HJ := Lib.hid H; have HO := Lib.hid hok
  clear H hok hc
  go_enter Tryz.func106, Tryz.ntmps106
  go_wp2_with fail
  (with_reducible refine (bord_present w0 a s b g hp t HO.out i _ HJ.out).mono ?_)
  rintro e w' ⟨rfl, hj⟩
  have HJ2 := Lib.hid hj
  clear hj
  go_wp2
  go_ret
  exact ⟨rfl, HJ2.out⟩
set_option maxRecDepth 100000 in
set_option maxHeartbeats 800000 in
theorem bord_beyond (a s b g hp : Nat) (t : Tbl) (hok : t.p.ok) (n : Int) (h0 : 0 ≤ n) (h1 : n ≤ 65536) (w : World) (H : TabIn w a s b g hp t) :
    Calls Tryz.prog 79 #[.pointer (some ⟨a, 0, none⟩), .int .i64 n] w fun e w' => e = .returned (.int .i64 (Bd.beyond (hasT t) n)) ∧ BJ w a s b g hp t w' := by
  have hb := (Below.refl w.heap.size w).alloc (Nat.le_refl _) (.cells #[.pointer (some ⟨a, 0, none⟩)] 27)
  have HB := Lib.hid hb
  have HJ := Lib.hid (BJ.start (H.below hb))
  have HO := Lib.hid hok
  have HN := Lib.hid (And.intro h0 h1)
  have hal : a < w.heap.size := H.pt.la
  have hta : w.heap.size ≠ a := by omega
  have hc0 : (w.alloc (.cells #[.pointer (some ⟨a, 0, none⟩)] 27)).cell? ⟨w.heap.size, 0, none⟩ = some (.pointer (some ⟨a, 0, none⟩)) := by simp [go_sem]
  have hl0 : w.heap.size < (w.alloc (.cells #[.pointer (some ⟨a, 0, none⟩)] 27)).heap.size := by simp [go_sem]
  have HC0 := Lib.hid hc0; have HL0 := Lib.hid hl0; have HTA := Lib.hid hta
  have HMORE := Lib.hid (fun (i : Int) (W : World) (h : BJ (w.alloc (.cells #[.pointer (some ⟨a, 0, none⟩)] 27)) a s b g hp t W) => bord_more _ a s b g hp w.heap.size t hok hc0 hl0 hta i W h)
  have HPRE := Lib.hid (fun (i : Int) (W : World) (h : BJ (w.alloc (.cells #[.pointer (some ⟨a, 0, none⟩)] 27)) a s b g hp t W) => bord_present _ a s b g hp t hok i W h)
  have HCELL := Lib.hid (fun (W : World) (h : BJ (w.alloc (.cells #[.pointer (some ⟨a, 0, none⟩)] 27)) a s b g hp t W) => (h.cell (p := ⟨w.heap.size, 0, none⟩) hl0 hta).trans hc0)
  have m1 : wrap64 (n + 1) = n + 1 := wrap64_id (by unfold In64; omega)
  have m2 : wrap64 (2 * (n + 1)) = 2 * (n + 1) := wrap64_id (by unfold In64; omega)
  clear H hok hb h0 h1 hal hta hl0
  clear hc0 HC0 HL0
  obtain ⟨wa, hwa⟩ : ∃ wa, w.alloc (.cells #[.pointer (some ⟨a, 0, none⟩)] 27) = wa := ⟨_, rfl⟩
  rw [hwa] at HB HJ HMORE HPRE HCELL
  have HWA := Lib.hid hwa
  have c0 := HCELL.out _ HJ.out
  rw [← hwa] at c0
  clear hwa
  go_enter Tryz.func79, Tryz.ntmps79
  go_wp2_with fail
  rw [HWA.out]
  (with_reducible refine (HPRE.out (n + 1) _ HJ.out).mono ?_)
  rintro e w2 ⟨rfl, hj⟩
  have HJ2 := Lib.hid hj
  clear hj c0
  by_cases hh : hasT t (n + 1) = true
  · have HH := Lib.hid hh
    rw [hh]
    have c0 := HCELL.out _ HJ2.out
    clear hh
    go_wp2_with fail
    clear c0
    rw [m1, m2]
    go_loopw [5, 6] (fun lo hi wr => ∃ (f : Nat) (l h : Int), lo = .int .i64 l ∧ hi = .int .i64 h ∧ Hid (1 ≤ l ∧ l < h ∧ h ≤ 9223372036854775807) ∧ Hid (hasT t l = true) ∧ Hid (h = 9223372036854775807 ∨ 9223372036854775807 < 2 ^ f * h) ∧ Hid (Bd.up (hasT t) 64 (n + 1) (2 * (n + 1)) = Bd.up (hasT t) (f + 1) l h) ∧ Hid (BJ wa a s b g hp t wr)) (fun _ hi _ => (9223372036854775807 - intOf hi).toNat)
    case atStart => exact ⟨63, n + 1, 2 * (n + 1), by first | rfl | rw [m1], by first | rfl | rw [m2], Lib.hid (by have := HN.out; omega), HH, Lib.hid (.inr (by have := HN.out; omega)), Lib.hid rfl, HJ2⟩
    case round =>
      clear HJ2
      obtain ⟨f, l, h, rfl, rfl, HL, HL2, HF, HU, HW⟩ := hrel
      have c0 := HCELL.out _ HW.out
      go_wp2_with fail
      (with_reducible refine (HPRE.out h _ HW.out).mono ?_)
      rintro e w3 ⟨rfl, hj⟩
      have HJ3 := Lib.hid hj
      clear hj c0
      have c0 := HCELL.out _ HJ3.out
      by_cases hb : hasT t h = true
      · rw [hb]
        have HB2 := Lib.hid hb
        clear hb
        by_cases hx : h = 9223372036854775807
        · subst hx
          have HR : Hid (Bd.beyond (hasT t) n = 9223372036854775807) := Lib.hid (by
            rw [Bd.beyond_eq HH.out (x := 9223372036854775807) (y := 9223372036854775807) (by
              rw [HU.out]
              unfold Bd.up
              rw [if_pos HB2.out, if_pos rfl])]
            rw [if_pos rfl])
          go_wp2
          go_ret
          exact ⟨by rw [HR.out]; rfl, HJ3.out.since HB.out⟩
        · have d1 : (h == 9223372036854775807) = false := by simpa using hx
          obtain ⟨g', hg⟩ : ∃ g', f = g' + 1 := by
            cases f with
            | zero => have h1 := HF.out.resolve_left hx; simp at h1; have := HL.out; omega
            | succ k => exact ⟨k, rfl⟩
          subst hg
          have HG : Hid (9223372036854775807 < 2 ^ g' * (2 * h)) := Lib.hid (by
            have h1 := HF.out.resolve_left hx
            rw [Int.pow_succ, Int.mul_assoc] at h1
            exact h1)
          have HX := Lib.hid hx
          by_cases hs : h ≤ 4611686018427387903
          · have d2 : decide (h ≤ 4611686018427387903) = true := by simpa using hs
            have m3 : wrap64 (2 * h) = 2 * h := wrap64_id (by have := HL.out; unfold In64; omega)
            have HU2 : Hid (Bd.up (hasT t) 64 (n + 1) (2 * (n + 1)) = Bd.up (hasT t) (g' + 1) h (2 * h)) := Lib.hid (by
              rw [HU.out]
              conv => lhs; unfold Bd.up
              rw [if_pos HB2.out, if_neg HX.out, if_pos hs])
            have HS := Lib.hid hs
            clear hx hs
            go_wp2_with fail
            go_roundw
            case rel => exact ⟨g', h, 2 * h, rfl, by first | rfl | rw [m3], Lib.hid (by have := HL.out; have := HS.out; omega), HB2, Lib.hid (.inr HG.out), HU2, HJ3⟩
            case measure => simp only [intOf, m3]; have := HL.out; have := HS.out; omega
          · have d2 : decide (h ≤ 4611686018427387903) = false := by simpa using hs
            have HU2 : Hid (Bd.up (hasT t) 64 (n + 1) (2 * (n + 1)) = Bd.up (hasT t) (g' + 1) h 9223372036854775807) := Lib.hid (by
              rw [HU.out]
              conv => lhs; unfold Bd.up
              rw [if_pos HB2.out, if_neg HX.out, if_neg hs])
            clear hx hs
            go_wp2_with fail
            go_roundw
            case rel => exact ⟨g', h, 9223372036854775807, rfl, rfl, Lib.hid (by have := HL.out; have := HX.out; omega), HB2, Lib.hid (.inl rfl), HU2, HJ3⟩
            case measure => simp only [intOf]; have := HL.out; have := HX.out; omega
      · have hb' : hasT t h = false := by simpa using hb
        rw [hb']
        have HR : Hid (Bd.beyond (hasT t) n = Bd.halve (hasT t) (h - l).toNat l h) := Lib.hid (by
          have hL := HL.out
          rw [Bd.beyond_eq HH.out (x := l) (y := h) (by
            rw [HU.out]
            unfold Bd.up
            rw [if_neg hb])]
          rw [if_neg (by omega)])
        clear hb
        go_wp2_with fail
        (with_reducible refine (halve_P w.heap.size (hasT t) (BJ wa a s b g hp t) l h (h - l).toNat (by have := HL.out; omega) (by have := HL.out; omega) (by have := HL.out; omega) (by have := HL.out; omega) (fun W m hW _ _ => HMORE.out m W hW) _ HJ3.out).mono ?_)
        rintro e w4 ⟨rfl, hj⟩
        have HJ4 := Lib.hid hj
        clear hj
        go_wp2
        go_ret
        exact ⟨by rw [HR.out]; rfl, HJ4.out.since HB.out⟩
  · have hh' : hasT t (n + 1) = false := by simpa using hh
    rw [hh']
    have HH : Hid (Bd.beyond (hasT t) n = n) := Lib.hid (by unfold Bd.beyond; rw [if_neg hh])
    go_wp2
    go_ret
    exact ⟨by rw [HH.out]; rfl, HJ2.out.since HB.out⟩
end Go.Proofs.YteheolefemlcgaaGreat
