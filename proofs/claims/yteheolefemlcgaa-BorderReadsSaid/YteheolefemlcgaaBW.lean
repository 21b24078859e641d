/- BorderTwice: the walk. -/
import Derived.Test.YteheolefemlcgaaBT
namespace Go.Proofs.Yteheolefemlcgaa
open Go.RowKit Go.Maps
set_option linter.unusedVariables false
set_option linter.unusedSimpArgs false

theorem farT_p {t t' : Tbl} (h : t'.p = t.p) : farT t' ↔ farT t := by unfold farT slotT; rw [h]
/-- Asked again: the same. -/
theorem len_again {t t' : Tbl} (hok : t.p.ok) (h0 : 0 ≤ t.hint) (h1 : t.hint ≤ t.p.sn) (hp : t'.p = t.p) (hh : ¬ farT t → t'.hint = lenP t) : lenP t' = lenP t := by
  have hB := len_is hok h0 h1
  have hz := hok.sz
  by_cases hf : farT t
  · unfold lenP
    rw [if_pos hf, if_pos ((farT_p hp).2 hf)]
    unfold hasT Tbl.get
    rw [hp]
  · have hr := slot_hint h0 h1 hf
    have hhn := hh hf
    obtain ⟨b0, b1, b2, b3⟩ := hB
    have hN : (t.p.sn : Int) ≠ 0 := fun e => hf (.inl (by omega))
    have hlt : lenP t < t.p.sn := by
      by_cases e : lenP t = t.p.sn
      · rcases b2 with e2 | e2
        · omega
        · rw [e, has_slot (by omega) (by omega)] at e2
          exact absurd (.inr e2) hf
      · omega
    have hs1 : lenP t = 0 ∨ slotT t (lenP t) = true := by
      rcases b2 with e2 | e2
      · exact .inl e2
      · by_cases e : lenP t = 0
        · exact .inl e
        · rw [has_slot (by omega) (by omega)] at e2; exact .inr e2
    have hs2 : slotT t (lenP t + 1) = false := by
      have e2 := b3.resolve_left (by omega)
      rw [has_slot (by omega) (by omega)] at e2; exact e2
    have hsl : ∀ i, slotT t' i = slotT t i := fun i => by unfold slotT; rw [hp]
    generalize lenP t = n at *
    unfold lenP lenA
    rw [if_neg (fun h => hf ((farT_p hp).1 h)), hhn, hsl, hsl, if_neg (fun h => h hs1), if_neg (fun h => by rw [hs2] at h; simp at h)]
theorem lenT_hint (t : Tbl) (pr : Int) : (farT t → (t.lenT pr).hint = t.hint) ∧ (¬ farT t → (t.lenT pr).hint = lenP t) := by
  unfold Tbl.lenT
  constructor
  · intro h; rw [if_pos h]
  · intro h; rw [if_neg h]
set_option maxRecDepth 100000 in
set_option maxHeartbeats 1600000 in
theorem walk_BorderTwice {vx : Value} {W : World} (x : CY) (f : CSB W vx x) (w : World) : Calls Try.prog 14 #[vx] W fun e w' => e = .returned (.bool true) ∧ Below W.heap.size W w' := by
  have FC := Lib.hid f
  obtain rfl := f.e
  have HBX := Lib.hid (CBY.new W x)
  have HB0 := Lib.hid ((Below.refl W.heap.size W).alloc (Nat.le_refl _) (.cells #[.int .i64 x.arr, .int .i64 x.hsh, .slice x.A x.l.length x.c] 88))
  clear f
  unfold CY.val
  go_enter Try.func14, Try.ntmps14
  go_wp2_with fail
  (with_reducible refine (law09_fixed _).mono ?_)
  rintro e w1 ⟨rfl, hb⟩
  have HX1 := Lib.hid (HBX.out.below hb)
  have HB1 := Lib.hid (below_step HB0.out hb)
  clear hb
  obtain ⟨p0, p1, p2, -⟩ := HX1.out
  go_wp2_with fail
  (with_reducible refine (law09_begin x.arr x.hsh x.A x.l.length x.c W _ (onlyB W.heap.size) (fun q hq => by have := HX1.out.lt; unfold onlyB at hq; omega) HB1.out).mono ?_)
  rintro e w2 ⟨N, M, hp, a, Q, -, rfl, hm, hk⟩
  have HM := Lib.hid hm
  have HX2 := Lib.hid (HX1.out.keep (hk _ rfl))
  clear hm hk p0 p1 p2
  generalize newT (HS.new 400000) N M = t0 at HM
  generalize newH (HS.new 400000) N M = hs0 at HM
  go_wp2_with fail
  go_loopw [6] (fun i wr => ∃ (j : Nat) (t : Tbl) (hs : HS), j ≤ x.l.length ∧ j ≤ 300 ∧ i = .int .i64 j ∧ Hid (BS W (onlyB W.heap.size) hp a t hs (3 + 2 * j) wr) ∧ Hid (CBY wr W.heap.size x)) (fun i _ => x.l.length - (intOf i).toNat)
  case atStart => exact ⟨0, t0, hs0, Nat.zero_le _, Nat.zero_le _, rfl, HM, HX2⟩
  case round =>
    clear HM HX2 HBX HB0 HX1 HB1
    obtain ⟨j, t, hs, hj, hj3, rfl, HM, HX⟩ := hrel
    obtain ⟨p0, p1, p2, -⟩ := HX.out
    by_cases h1 : j < x.l.length
    · have d1 : decide ((j : Int) < (x.l.length : Int)) = true := by simp; omega
      have j1 : (j : Int) < (x.l.length : Int) := by omega
      have lx : (x.l.length : Int) ≤ 9223372036854775807 := by have := FC.out.le; have := FC.out.mx; omega
      by_cases h2 : j < 300
      · have d2 : decide ((j : Int) < 300) = true := by simp; omega
        have j3 : (j : Int) < 300 := by omega
        obtain ⟨bx, ox, eA, hbx, hcx⟩ := FC.out.ops (by omega)
        rw [eA] at p2
        have HEA := Lib.hid eA
        clear eA
        have HCX := Lib.hid (hcx j h1)
        have HIX := Lib.hid (FC.out.in64 j)
        clear hcx
        generalize op9 x.l j = z at HCX HIX
        obtain ⟨kd, ⟨kk, kn, kst⟩, ⟨vk, vn, vst⟩, nn⟩ := z
        have HIX : Hid (In64 kn ∧ In64 nn) := Lib.hid (by have h := HIX.out; unfold O9.ok In64V at h; exact ⟨h.2.1.2, h.2.2.2⟩)
        have HJ := Lib.hid h2
        have HBXX := Lib.hid hbx
        obtain ⟨c0, c1, c2, c3, c4, c5, c6, c7⟩ := HCX.out.bel HM.out.bel hbx
        dsimp only at c0 c1 c2 c3 c4 c5 c6 c7
        go_wp2_with fail
        go_still_tail 13, (by kernel_rfl)
        change wpList _ _ _ _ _ wr.drew
        go_wp2_with fail
        (with_reducible refine ((HM.out.below (Below.refl _ wr).drew).set (by have := HJ.out; omega) kk kn kst vk vn vst HIX.out.1).mono ?_)
        rintro e w5 ⟨rfl, hx, hk⟩
        have HX5 := Lib.hid ((HX.out.below (Below.refl _ wr).drew).keep (hk _ rfl))
        have HM5 := Lib.hid hx
        clear hx hk c0 c1 c2 c3 c4 c5 c6 c7 p0 p1 p2 HM HX
        generalize t.set hs ⟨kk, kn, kst⟩ ⟨vk, vn, vst⟩ = r5 at HM5
        obtain ⟨t5, hs5, er⟩ := r5
        dsimp only at HM5
        obtain ⟨p0, p1, p2, -⟩ := HX5.out
        rw [HEA.out] at p2
        obtain ⟨c0, c1, c2, c3, c4, c5, c6, c7⟩ := HCX.out.bel HM5.out.bel HBXX.out
        dsimp only at c0 c1 c2 c3 c4 c5 c6 c7
        by_cases h5 : (j : Int) % 5 = 0
        · have d5 : ((j : Int) % 5 != 0) = false := by rw [h5]; rfl
          have H5 := Lib.hid h5
          clear h5
          go_wp2_with fail
          (with_reducible refine (BS.len HM5.out).mono ?_)
          rintro e w6 ⟨t6, ⟨rfl, pr, ht⟩, hpe, hx, hk⟩
          have HM6 := Lib.hid hx
          have HP6 : Hid (t6.p = t5.p ∧ (¬ farT t5 → t6.hint = lenP t5)) := Lib.hid ⟨hpe, fun h => by rw [ht]; exact (lenT_hint t5 pr).2 h⟩
          have HX6 := Lib.hid (HX5.out.keep (hk _ rfl))
          clear hx hpe hk ht
          clear c0 c1 c2 c3 c4 c5 c6 c7 p0 p1 p2
          obtain ⟨p0, p1, p2, -⟩ := HX6.out
          rw [HEA.out] at p2
          obtain ⟨c0, c1, c2, c3, c4, c5, c6, c7⟩ := HCX.out.bel HM6.out.bel HBXX.out
          dsimp only at c0 c1 c2 c3 c4 c5 c6 c7
          obtain ⟨v, hv⟩ : ∃ v, t6.get ⟨kk, kn, kst⟩ = v := ⟨_, rfl⟩
          have HV := Lib.hid hv
          clear hv
          go_wp2_with fail
          (with_reducible refine (BS.get HM6.out kk kn kst v HV.out).mono ?_)
          rintro e w7 ⟨t7, ⟨rfl, hh⟩, hpe, hx, hk⟩
          have HM7 := Lib.hid hx
          have HP7 : Hid (t7.p = t5.p ∧ (¬ farT t5 → t7.hint = lenP t5)) := Lib.hid ⟨hpe.trans HP6.out.1, fun h => hh.trans (HP6.out.2 h)⟩
          have HX7 := Lib.hid (HX6.out.keep (hk _ rfl))
          clear hx hpe hk hh
          clear c0 c1 c2 c3 c4 c5 c6 c7 p0 p1 p2
          obtain ⟨p0, p1, p2, -⟩ := HX7.out
          rw [HEA.out] at p2
          obtain ⟨c0, c1, c2, c3, c4, c5, c6, c7⟩ := HCX.out.bel HM7.out.bel HBXX.out
          dsimp only at c0 c1 c2 c3 c4 c5 c6 c7
          go_wp2_with fail
          (with_reducible refine (BS.is HM7.out nn HIX.out.2).mono ?_)
          rintro e w8 ⟨t8, ⟨rfl, hh⟩, hpe, hx, hk⟩
          have HM8 := Lib.hid hx
          have HP8 : Hid (t8.p = t5.p ∧ (¬ farT t5 → t8.hint = lenP t5)) := Lib.hid ⟨hpe.trans HP7.out.1, fun h => hh.trans (HP7.out.2 h)⟩
          have HX8 := Lib.hid (HX7.out.keep (hk _ rfl))
          clear hx hpe hk hh
          clear c0 c1 c2 c3 c4 c5 c6 c7 p0 p1 p2
          go_wp2_with fail
          (with_reducible refine (BS.len HM8.out).mono ?_)
          rintro e w9 ⟨t9, ⟨rfl, pr, ht⟩, hpe, hx, hk⟩
          have HM9 := Lib.hid hx
          have HE8 : Hid (lenP t8 = lenP t5) := Lib.hid (len_again HM5.out.ok HM5.out.h0 HM5.out.h1 HP8.out.1 HP8.out.2)
          have HP9 : Hid (t9.p = t5.p ∧ (¬ farT t5 → t9.hint = lenP t5)) := Lib.hid ⟨hpe.trans HP8.out.1, fun h => by rw [ht, (lenT_hint t8 pr).2 (fun h2 => h ((farT_p HP8.out.1).1 h2))]; exact HE8.out⟩
          have HX9 := Lib.hid (HX8.out.keep (hk _ rfl))
          clear hx hpe hk ht
          rw [HE8.out]
          go_wp2_with fail
          (with_reducible refine (BS.len HM9.out).mono ?_)
          rintro e wA ⟨tA, ⟨rfl, -⟩, -, hx, hk⟩
          have HMA := Lib.hid hx
          have HE9 : Hid (lenP t9 = lenP t5) := Lib.hid (len_again HM5.out.ok HM5.out.h0 HM5.out.h1 HP9.out.1 HP9.out.2)
          have HXA := Lib.hid (HX9.out.keep (hk _ rfl))
          clear hx hk
          rw [HE9.out]
          go_wp2_with fail
          go_roundw
          case rel => exact ⟨j + 1, tA, hs5, by omega, by omega, by go_num, Lib.hid (HMA.out.mono (by omega)), HXA⟩
          case measure => simp [intOf]; omega
        · have d5 : ((j : Int) % 5 != 0) = true := bne_iff_ne.2 h5
          have H5 := Lib.hid h5
          clear h5
          go_wp2_with fail
          go_roundw
          case rel => exact ⟨j + 1, t5, hs5, by omega, by omega, by go_num, Lib.hid (HM5.out.mono (by omega)), HX5⟩
          case measure => simp [intOf]; omega
      · have d2 : decide ((j : Int) < 300) = false := by simp; omega
        go_wp2
        go_ret
        exact ⟨rfl, HM.out.bel⟩
    · have d1 : decide ((j : Int) < (x.l.length : Int)) = false := by simp; omega
      go_wp2
      go_ret
      exact ⟨rfl, HM.out.bel⟩
theorem rowBorderTwice {vx : Value} {W : World} (x : CY) (f : CSB W vx x) (w : World) : Calls Try.prog 14 #[vx] W fun e w' => e = .returned (.bool true) ∧ Below W.heap.size W w' :=
  walk_BorderTwice x f w
end Go.Proofs.Yteheolefemlcgaa
