/- TableValues: the walk. -/
import Derived.Test.YteheolefemlcgaaValT
import Derived.Deep.RegionHeldLaw
namespace Go.Proofs.Yteheolefemlcgaa
open Go.RowKit Go.Maps
set_option linter.unusedVariables false
set_option linter.unusedSimpArgs false

def only1 (b : Nat) (q : Nat) : Prop := q = b
def only3 (b c d : Nat) (q : Nat) : Prop := q = b ∨ q = c ∨ q = d
set_option maxRecDepth 100000 in
set_option maxHeartbeats 1600000 in
theorem walk_TableValues {vx : Value} {W : World} (x : CX) (f : CSA W vx x) (w : World) : Calls Try.prog 6 #[vx] W fun e w' => e = .returned (.bool true) ∧ Below W.heap.size W w' := by
  have hcx := fun w => law08_cut f w
  have fc := f.cut
  have hx3 : x.cut.l.length ≤ 300 := by show (x.l.take 300).length ≤ 300; rw [List.length_take]; omega
  obtain rfl := f.e
  generalize x.cut = x2 at hcx fc hx3
  unfold CX.val at hcx
  have FC := Lib.hid fc; have HCX := Lib.hid hcx; have HL3 := Lib.hid hx3
  have HBX := Lib.hid (show CB (W.alloc (.cells #[.int .i64 x.lim, .int .i64 x.arr, .int .i64 x.hsh, .slice x.A x.l.length x.c] 24)) W.heap.size x from C4.new W _ _ _ _ _)
  have HB0 := Lib.hid (((Below.refl _ W).alloc (Nat.le_refl _) (.cells #[.int .i64 x.lim, .int .i64 x.arr, .int .i64 x.hsh, .slice x.A x.l.length x.c] 24)))
  clear f fc hcx hx3
  unfold CX.val
  go_enter Try.func6, Try.ntmps6
  go_wp2_with fail
  (with_reducible refine (law08_fixed _).mono ?_)
  rintro e w1 ⟨rfl, hb⟩
  have HBX1 := Lib.hid (show CB w1 W.heap.size x from HBX.out.below hb)
  have HB1 := Lib.hid (below_step HB0.out hb)
  clear hb
  obtain ⟨p0, p1, p2, p3, pf, -⟩ := HBX1.out
  have pf0 := pf 0; have pf1 := pf 1; have pf2 := pf 2; have pf3 := pf 3
  go_wp2_with fail
  (with_reducible refine (HCX.out _).mono ?_)
  rintro e w2 ⟨rfl, hb⟩
  have HBX2 := Lib.hid (show CB w2 W.heap.size x from HBX1.out.below hb)
  have HB2 := Lib.hid (below_step HB1.out hb)
  clear hb p0 p1 p2 p3 pf pf0 pf1 pf2 pf3
  obtain ⟨p0, p1, p2, p3, pf, -⟩ := HBX2.out
  have pf0 := pf 0; have pf1 := pf 1; have pf2 := pf 2; have pf3 := pf 3
  go_wp2_with fail
  have HXC := Lib.hid (show CB ((((w2.setCell ⟨W.heap.size, 0, none⟩ (.int .i64 x2.lim)).setCell ⟨W.heap.size, 1, none⟩ (.int .i64 x2.arr)).setCell ⟨W.heap.size, 2, none⟩ (.int .i64 x2.hsh)).setCell ⟨W.heap.size, 3, none⟩ (.slice x2.A x2.l.length x2.c)) W.heap.size x2 from C4.over HBX2.out _ _ _ _)
  have HBC := Lib.hid ((((HB2.out.setCell (p := ⟨W.heap.size, 0, none⟩) (Nat.le_refl _) (.int .i64 x2.lim)).setCell (p := ⟨W.heap.size, 1, none⟩) (Nat.le_refl _) (.int .i64 x2.arr)).setCell (p := ⟨W.heap.size, 2, none⟩) (Nat.le_refl _) (.int .i64 x2.hsh)).setCell (p := ⟨W.heap.size, 3, none⟩) (Nat.le_refl _) (.slice x2.A x2.l.length x2.c))
  clear p0 p1 p2 p3 pf pf0 pf1 pf2 pf3
  by_cases hlim : x2.lim < 0 ∨ 400000 < x2.lim
  · (with_reducible refine (law08_begin_no FC.out hlim _).mono ?_)
    rintro e w3 ⟨rfl, hb⟩
    have HX3 := Lib.hid (HXC.out.below hb)
    have HB3 := Lib.hid (below_step HBC.out hb)
    clear hb
    obtain ⟨p0, p1, p2, p3, -, -⟩ := HX3.out
    go_wp2_with fail
    (with_reducible refine (law08_begin_no FC.out hlim _).mono ?_)
    rintro e w4 ⟨rfl, hb⟩
    have HB4 := Lib.hid (below_step HB3.out hb)
    clear hb p0 p1 p2 p3
    go_wp2
    go_ret
    exact ⟨rfl, HB4.out⟩
  · have hl2 : 0 ≤ x2.lim ∧ x2.lim ≤ 400000 := by omega
    (with_reducible refine (law08_begin_is FC.out hl2.1 hl2.2 W _ (only1 W.heap.size) (fun q hq => by have := HXC.out.lt; unfold only1 at hq; omega) HBC.out).mono ?_)
    rintro e w3 ⟨A, hs1, hp1, P, Q, rfl, hP, hN1, hh1, hT, hA, hk⟩
    have HX3 := Lib.hid (HXC.out.keep (hk _ rfl))
    have HT3 := Lib.hid hT; have HA3 := Lib.hid hA; have HN1 := Lib.hid hN1; have HH1 := Lib.hid hh1
    obtain ⟨p0, p1, p2, p3, -, -⟩ := HX3.out
    clear hT hA hk hN1 hh1
    go_wp2_with fail
    cases A with
    | none =>
      obtain rfl : none = P := by simpa [OT.ptr] using hP
      have HE : Hid (newE (HS.new x2.lim) x2.arr x2.hsh ≠ 0) := Lib.hid (by
        rcases HN1.out with ⟨-, h⟩ | ⟨a, h, -⟩
        · exact h
        · simp at h)
      clear hP
      (with_reducible refine (law08_begin_is FC.out hl2.1 hl2.2 W _ (only1 W.heap.size) (fun q hq => by have := HX3.out.lt; unfold only1 at hq; omega) HT3.out.bel).mono ?_)
      rintro e w4 ⟨A, hs2, hp2, P, Q2, rfl, hP, hN2, hh2, hT, hA, hk⟩
      have HT4 := Lib.hid hT
      obtain rfl : none = P := by
        rcases hN2 with ⟨rfl, -⟩ | ⟨a, -, h⟩
        · simpa [OT.ptr] using hP
        · exact absurd h HE.out
      clear hP hN2 hh2 hT hA hk p0 p1 p2 p3
      go_wp2
      go_ret
      exact ⟨rfl, HT4.out.bel⟩
    | some y =>
      obtain ⟨a1, t0⟩ := y
      obtain rfl : some ⟨a1, 0, none⟩ = P := by simpa [OT.ptr] using hP
      have HE : Hid (t0 = newT (HS.new x2.lim) x2.arr x2.hsh ∧ newE (HS.new x2.lim) x2.arr x2.hsh = 0) := Lib.hid (by
        rcases HN1.out with ⟨h, -⟩ | ⟨a, h, h2⟩
        · simp at h
        · simp at h; exact ⟨h.2, h2⟩)
      obtain ⟨F1, D1, hP1, hO1⟩ := Pt.ofTT HT3.out
      have HP1 := Lib.hid hP1; have HO1 := Lib.hid hO1
      clear hP hP1 hO1
      (with_reducible refine (law08_begin_is FC.out hl2.1 hl2.2 W _ (fun q => q = W.heap.size ∨ (F1 q ∨ D1 q) ∨ q + 1 = w3.heap.size) (fun q hq => hq.elim (fun h => by rw [h]; exact HX3.out.lt) (fun h => h.elim (HP1.out.lt q) (fun h => by omega))) HT3.out.bel).mono ?_)
      rintro e w4 ⟨A, hs2, hp2, P, Q2, rfl, hP, hN2, hh2, hT, hA, hk⟩
      obtain ⟨a2, rfl⟩ : ∃ a2, A = some (a2, t0) := by
        rcases hN2 with ⟨-, h⟩ | ⟨a, rfl, -⟩
        · exact absurd HE.out.2 h
        · exact ⟨a, by rw [HE.out.1]⟩
      obtain rfl : some ⟨a2, 0, none⟩ = P := by simpa [OT.ptr] using hP
      obtain rfl : hs1 = hs2 := HH1.out.trans hh2.symm
      obtain ⟨F2, D2, hP2, hO2⟩ := Pt.ofTT hT
      have hz : w3.heap.size ≤ w4.heap.size := by
        have h0 := HX3.out.lt
        have := hT.res (w3.heap.size - 1) (.inr (.inr (by omega)))
        omega
      have hP1' := HP1.out.block (w' := w4) (fun q hq => hk q (.inr (.inl hq))) hz (hT.bel.os.trans HT3.out.bel.os.symm) (hT.bel.tape.trans HT3.out.bel.tape.symm) (hT.bel.output.trans HT3.out.bel.output.symm)
      have HM : Hid (T2 W (only1 W.heap.size) hp1 a1 hp2 a2 t0 t0 hs1 hs1 w4) := Lib.hid ⟨⟨F1, D1, F2, D2, hP1', hP2, fun q hq => HO1.out q hq, fun q hq => ⟨(hO2 q hq).1, fun h => (hO2 q hq).2 (.inl h)⟩, fun q hq h => (hO2 q h).2 (.inr (.inl hq))⟩, fun q hq => by rw [hq]; exact hT.res _ (.inl rfl), hT.bel⟩
      have HX4 := Lib.hid (HX3.out.keep (hk _ (.inl rfl)))
      have HK0 : Hid (TOK t0 hs1 3) := Lib.hid ⟨(HA3.out.a _ rfl).1, (HA3.out.a _ rfl).2.1, HA3.out.hok, HA3.out.sz⟩
      clear hP hN2 hh2 hT hA hk p0 p1 p2 p3 hP2 hO2 hP1'
      have HS0 : Hid (SmT t0 t0) := Lib.hid (SmT.refl t0)
      clear hz
      clear HT3 HA3 HN1 HH1 HP1 HO1 HX3 HXC HBC HBX HBX1 HBX2 HB0 HB1 HB2 HCX hlim hl2 HE
      go_wp2_with fail
      go_loopw [11] (fun i wr => ∃ (j : Nat) (t u : Tbl) (hs : HS), j ≤ x2.l.length ∧ i = .int .i64 j ∧ Hid (T2 W (only1 W.heap.size) hp1 a1 hp2 a2 t u hs hs wr) ∧ Hid (SmT t u) ∧ Hid (CB wr W.heap.size x2) ∧ Hid (TOK t hs (3 + 2 * j)) ∧ Hid (TOK u hs (3 + 2 * j))) (fun i _ => x2.l.length - (intOf i).toNat)
      case atStart => exact ⟨0, t0, t0, hs1, Nat.zero_le _, rfl, HM, HS0, HX4, HK0, HK0⟩
      case round =>
        clear HM HS0 HX4 HK0
        obtain ⟨j, t, u, hs, hj, rfl, HM, HS, HX, HK1, HK2⟩ := hrel
        obtain ⟨-, -, -, a3, -, -⟩ := HX.out
        by_cases h1 : j < x2.l.length
        · have d1 : decide ((j : Int) < (x2.l.length : Int)) = true := by simp; omega
          have j1 : (j : Int) < (x2.l.length : Int) := by omega
          have lx : (x2.l.length : Int) ≤ 300 := by have := HL3.out; omega
          obtain ⟨bx, ox, eA, hbx, hcx⟩ := FC.out.ops (by omega)
          rw [eA] at a3
          have HEA := Lib.hid eA
          clear eA
          have HCX := Lib.hid (hcx j h1)
          have HIX := Lib.hid (FC.out.in64 j)
          clear hcx
          generalize opAt x2.l j = zx at HCX HIX
          obtain ⟨⟨kk, kn, kst⟩, vk, vn, vst⟩ := zx
          have HJ := Lib.hid (show j < 300 by have := HL3.out; omega)
          have HBX := Lib.hid hbx
          obtain ⟨c0, c1, c2, c3, c4, c5⟩ := HCX.out.bel HM.out.bel hbx
          go_wp2_with fail
          have hbv := ((Below.refl wr.heap.size wr).alloc (Nat.le_refl _) (.cells #[.int .i64 vk, .int .i64 vn, .string vst] 39))
          have hbw := hbv.alloc hbv.size (.cells #[.int .i64 vk, .int .i64 vn, .string vst] 39)
          have HV1 := Lib.hid ((C3.new wr vk vn vst).alloc (.cells #[.int .i64 vk, .int .i64 vn, .string vst] 39))
          have HW1 := Lib.hid (C3.new (wr.alloc (.cells #[.int .i64 vk, .int .i64 vn, .string vst] 39)) vk vn vst)
          rw [World.size_alloc] at HW1
          have HXL := Lib.hid HX.out.lt
          have HWL := Lib.hid HM.out.bel.size
          have HM1 := Lib.hid (HM.out.hold (R' := only3 W.heap.size wr.heap.size (wr.heap.size + 1)) hbw (fun q hq => by
            have h0 := HX.out.lt
            rw [World.size_alloc, World.size_alloc]
            rcases hq with rfl | rfl | rfl
            · exact ⟨by omega, .inl rfl⟩
            · exact ⟨by omega, .inr (Nat.le_refl _)⟩
            · exact ⟨by omega, .inr (by omega)⟩))
          have HX1 := Lib.hid (HX.out.below hbw)
          clear hbv hbw c0 c1 c2 c3 c4 c5 a3 HM HX
          generalize (wr.alloc (.cells #[.int .i64 vk, .int .i64 vn, .string vst] 39)).alloc (.cells #[.int .i64 vk, .int .i64 vn, .string vst] 39) = wa at HV1 HW1 HM1 HX1 ⊢
          generalize wr.heap.size = vb at HV1 HW1 HM1 HXL HWL ⊢
          obtain ⟨v0, v1, v2, -, -⟩ := HV1.out
          have key : (errForm (okV ⟨vk, vn, vst⟩) = 0 ∧ ¬ vk = 0) ∨ (errForm (okV ⟨vk, vn, vst⟩) = 0 ∧ (vk != 0) = false) ∨ errForm (okV ⟨vk, vn, vst⟩) = 2 := by
            unfold errForm
            by_cases e : okV ⟨vk, vn, vst⟩ = true
            · rw [if_pos e]
              by_cases e2 : vk = 0
              · exact .inr (.inl ⟨rfl, by simpa using e2⟩)
              · exact .inl ⟨rfl, e2⟩
            · rw [if_neg e]; exact .inr (.inr rfl)
          rcases key with ⟨hE, hz⟩ | ⟨hE, hz⟩ | hE
          have HNV : Hid (NV ⟨vk, vn, vst⟩ ⟨3, 0, ⟨#[111, 116, 104, 101, 114]⟩⟩) := Lib.hid (by
            refine ⟨⟨fun h => absurd h hz, fun h => by simp at h⟩, ?_⟩
            have e : okV ⟨vk, vn, vst⟩ = true := by
              unfold errForm at hE
              by_cases e : okV ⟨vk, vn, vst⟩ = true
              · exact e
              · rw [if_neg e] at hE; simp at hE
            rw [e]; decide)
          have dz : (vk != 0) = true := by simpa using hz
          (with_reducible refine (ref_Check_f vk vn vst 0 hE _).mono ?_)
          rintro e w5 ⟨rfl, hb⟩
          have HM5 := Lib.hid (HM1.out.below hb); have HX5 := Lib.hid (HX1.out.below hb); have HV5 := Lib.hid (HV1.out.below hb HV1.out.lt); have HW5 := Lib.hid (HW1.out.below hb HW1.out.lt)
          clear hb HM1 HX1 HV1 HW1 v0 v1 v2 hE hz
          obtain ⟨v0, v1, v2, -, -⟩ := HV5.out
          go_wp2_with fail
          (with_reducible refine (ref3_S _ _).mono ?_)
          rintro e wS ⟨rfl, hb⟩
          have HMS := Lib.hid (HM5.out.below hb); have HXS := Lib.hid (HX5.out.below hb); have HVS := Lib.hid (HV5.out.below hb HV5.out.lt); have HWS := Lib.hid (HW5.out.below hb HW5.out.lt)
          clear hb HM5 HX5 HV5 HW5 v0 v1 v2 dz
          obtain ⟨g0, g1, g2, gf, -⟩ := HWS.out
          have gf0 := gf 0; have gf1 := gf 1; have gf2 := gf 2
          clear gf
          go_wp2_with fail
          have hK : Kp (fun q => q = vb + 1) wS (((wS.setCell ⟨vb + 1, 0, none⟩ (.int .i64 3)).setCell ⟨vb + 1, 1, none⟩ (.int .i64 0)).setCell ⟨vb + 1, 2, none⟩ (.string ⟨#[111, 116, 104, 101, 114]⟩)) :=
            (((Kp.refl (fun q => q = vb + 1) wS).set ⟨vb + 1, 0, none⟩ (.inl rfl) _).set ⟨vb + 1, 1, none⟩ (.inl rfl) _).set ⟨vb + 1, 2, none⟩ (.inl rfl) _
          have HM6 := Lib.hid (HMS.out.kpR hK (fun q hq => ⟨.inr (.inr hq), by have := HWL.out; omega⟩))
          have HX6 := Lib.hid (HXS.out.keep (hK.block _ HXS.out.lt (by have := HXL.out; omega)))
          have HV6 := Lib.hid (HVS.out.keep (hK.block _ HVS.out.lt (by omega)))
          have HWY : Hid (∃ u : V, NV ⟨vk, vn, vst⟩ u ∧ C3 (((wS.setCell ⟨vb + 1, 0, none⟩ (.int .i64 3)).setCell ⟨vb + 1, 1, none⟩ (.int .i64 0)).setCell ⟨vb + 1, 2, none⟩ (.string ⟨#[111, 116, 104, 101, 114]⟩)) (vb + 1) 0 u) := Lib.hid ⟨_, HNV.out, HWS.out.over 3 0 _⟩
          clear HMS HXS HVS HWS hK g0 g1 g2 gf0 gf1 gf2 HNV
          generalize ((wS.setCell ⟨vb + 1, 0, none⟩ (.int .i64 3)).setCell ⟨vb + 1, 1, none⟩ (.int .i64 0)).setCell ⟨vb + 1, 2, none⟩ (.string ⟨#[111, 116, 104, 101, 114]⟩) = w6 at HM6 HX6 HV6 HWY ⊢
          rotate_left
          have HWX : Hid (∃ u : V, NV ⟨vk, vn, vst⟩ u ∧ u = ⟨vk, vn, vst⟩) := Lib.hid ⟨_, NV.refl _, rfl⟩
          have dz := hz
          (with_reducible refine (ref_Check_f vk vn vst 0 hE _).mono ?_)
          rintro e w6 ⟨rfl, hb⟩
          have HM6 := Lib.hid (HM1.out.below hb); have HX6 := Lib.hid (HX1.out.below hb); have HV6 := Lib.hid (HV1.out.below hb HV1.out.lt)
          have HWY : Hid (∃ u : V, NV ⟨vk, vn, vst⟩ u ∧ C3 w6 (vb + 1) 0 u) := Lib.hid ⟨_, NV.refl _, HW1.out.below hb HW1.out.lt⟩
          clear hb HM1 HX1 HV1 HW1 v0 v1 v2 hE HWX
          obtain ⟨v0, v1, v2, -, -⟩ := HV6.out
          go_wp2_with fail
          rotate_left
          have HWX : Hid (∃ u : V, NV ⟨vk, vn, vst⟩ u ∧ u = ⟨vk, vn, vst⟩) := Lib.hid ⟨_, NV.refl _, rfl⟩
          skip
          (with_reducible refine (ref_Check_f vk vn vst 2 hE _).mono ?_)
          rintro e w6 ⟨rfl, hb⟩
          have HM6 := Lib.hid (HM1.out.below hb); have HX6 := Lib.hid (HX1.out.below hb); have HV6 := Lib.hid (HV1.out.below hb HV1.out.lt)
          have HWY : Hid (∃ u : V, NV ⟨vk, vn, vst⟩ u ∧ C3 w6 (vb + 1) 0 u) := Lib.hid ⟨_, NV.refl _, HW1.out.below hb HW1.out.lt⟩
          clear hb HM1 HX1 HV1 HW1 v0 v1 v2 hE HWX
          obtain ⟨v0, v1, v2, -, -⟩ := HV6.out
          go_wp2_with fail
          rotate_left
          all_goals
            obtain ⟨⟨uk, un, us⟩, hnv, hw⟩ := HWY.out
            have HNV := Lib.hid hnv
            have HW6 := Lib.hid hw
            clear hnv hw HWY
            try clear hE
            try clear dz
            try clear hz
            have hsm := HS.out.set hs ⟨kk, kn, kst⟩ HNV.out
            have HSZ : Hid (hs.sizes.length ≤ 800000) := Lib.hid (by have := HK1.out.sz; have := HJ.out; omega)
            have HC1 := Lib.hid (fun w' (h : T2 W (only3 W.heap.size vb (vb + 1)) hp1 a1 hp2 a2 t u hs hs w') => h.set HK1.out.ok HK1.out.ids HSZ.out kk kn kst vk vn vst HIX.out)
            have HKA := Lib.hid (set_keeps (k := ⟨kk, kn, kst⟩) (v := ⟨vk, vn, vst⟩) HK1.out (by have := HJ.out; omega) HIX.out)
            have HC2 := Lib.hid (fun t' h' w' (h : T2 W (only3 W.heap.size vb (vb + 1)) hp1 a1 hp2 a2 t' u h' hs w') => h.swap.set HK2.out.ok HK2.out.ids HSZ.out kk kn kst uk un us HIX.out)
            have HKB := Lib.hid (set_keeps (k := ⟨kk, kn, kst⟩) (v := ⟨uk, un, us⟩) HK2.out (by have := HJ.out; omega) HIX.out)
            generalize t.set hs ⟨kk, kn, kst⟩ ⟨vk, vn, vst⟩ = r1 at hsm HC1 HKA
            generalize u.set hs ⟨kk, kn, kst⟩ ⟨uk, un, us⟩ = r2 at hsm HC2 HKB
            obtain ⟨t7, hs7, er⟩ := r1
            obtain ⟨u7, s7⟩ := r2
            obtain ⟨hsm, h2⟩ := hsm
            dsimp only at h2 hsm HC1 HKA
            subst h2
            dsimp only at HC2 HKB
            have HS7 := Lib.hid hsm
            have HS0 : Hid (∀ w', Below W.heap.size W w' → (∀ q, only3 W.heap.size vb (vb + 1) q → w'.heap[q]? = w6.heap[q]?) → (w'.cell? ⟨W.heap.size, 3, none⟩ = some (.slice (some ⟨bx, ox, none⟩) x2.l.length x2.c) ∧ w'.cell? ⟨bx, ox + j * 8 + 1, none⟩ = some (.int .i64 kk) ∧ w'.cell? ⟨bx, ox + j * 8 + 2, none⟩ = some (.int .i64 kn) ∧ w'.cell? ⟨bx, ox + j * 8 + 3, none⟩ = some (.string kst)) ∧ (w'.cell? ⟨vb, 0, none⟩ = some (.int .i64 vk) ∧ w'.cell? ⟨vb, 1, none⟩ = some (.int .i64 vn) ∧ w'.cell? ⟨vb, 2, none⟩ = some (.string vst)) ∧ (w'.cell? ⟨vb + 1, 0, none⟩ = some (.int .i64 uk) ∧ w'.cell? ⟨vb + 1, 1, none⟩ = some (.int .i64 un) ∧ w'.cell? ⟨vb + 1, 2, none⟩ = some (.string us))) := Lib.hid (fun w' hb hq => by
              have hX := HX6.out.keep (hq _ (.inl rfl))
              have hV := HV6.out.keep (hq _ (.inr (.inl rfl)))
              have hW := HW6.out.keep (hq _ (.inr (.inr rfl)))
              have hO := HCX.out.bel hb HBX.out
              have h3 := hX.c3
              rw [HEA.out] at h3
              exact ⟨⟨h3, hO.k0, hO.k1, hO.k2⟩, ⟨hV.c0, hV.c1, hV.c2⟩, ⟨hW.c0, hW.c1, hW.c2⟩⟩)
            obtain ⟨n7, hn7⟩ : ∃ n : Int, (t7.p.sn : Int) = n := ⟨_, rfl⟩
            obtain ⟨m7, hm7⟩ : ∃ n : Int, (t7.p.h.n : Int) = n := ⟨_, rfl⟩
            obtain ⟨f7, hf7⟩ : ∃ n : Int, (t7.p.h.free : Int) = n := ⟨_, rfl⟩
            obtain ⟨x7, hx7⟩ : ∃ n : Int, t7.hint = n := ⟨_, rfl⟩
            obtain ⟨y7, hy7⟩ : ∃ n : Int, t7.pr = n := ⟨_, rfl⟩
            have hsh := hsm.p.hn
            have HST1 := Lib.hid (fun w' (h : T2 W (only3 W.heap.size vb (vb + 1)) hp1 a1 hp2 a2 t7 u7 hs7 hs7 w') => h.stats n7 m7 f7 x7 hn7 hm7 hf7 hx7)
            have HST2 := Lib.hid (fun w' (h : T2 W (only3 W.heap.size vb (vb + 1)) hp1 a1 hp2 a2 t7 u7 hs7 hs7 w') => h.swap.stats n7 m7 f7 x7 (by rw [hsm.p.sn]; exact hn7) (by rw [hsh.1]; exact hm7) (by rw [hsh.2.2.2]; exact hf7) (by rw [hsm.hint]; exact hx7))
            have HPR1 := Lib.hid (fun w' (h : T2 W (only3 W.heap.size vb (vb + 1)) hp1 a1 hp2 a2 t7 u7 hs7 hs7 w') => h.probes y7 hy7)
            have HPR2 := Lib.hid (fun w' (h : T2 W (only3 W.heap.size vb (vb + 1)) hp1 a1 hp2 a2 t7 u7 hs7 hs7 w') => h.swap.probes y7 (by rw [hsm.pr]; exact hy7))
            clear hsm HNV hsh hn7 hm7 hf7 hx7 hy7
            try clear v0 v1 v2
            go_region_held3 (fun w' => (w'.cell? ⟨W.heap.size, 3, none⟩ = some (.slice (some ⟨bx, ox, none⟩) x2.l.length x2.c) ∧ w'.cell? ⟨bx, ox + j * 8 + 1, none⟩ = some (.int .i64 kk) ∧ w'.cell? ⟨bx, ox + j * 8 + 2, none⟩ = some (.int .i64 kn) ∧ w'.cell? ⟨bx, ox + j * 8 + 3, none⟩ = some (.string kst)) ∧ (w'.cell? ⟨vb, 0, none⟩ = some (.int .i64 vk) ∧ w'.cell? ⟨vb, 1, none⟩ = some (.int .i64 vn) ∧ w'.cell? ⟨vb, 2, none⟩ = some (.string vst)) ∧ (w'.cell? ⟨vb + 1, 0, none⟩ = some (.int .i64 uk) ∧ w'.cell? ⟨vb + 1, 1, none⟩ = some (.int .i64 un) ∧ w'.cell? ⟨vb + 1, 2, none⟩ = some (.string us)))
              (first | exact HS0.out _ (HM6.out.below (Below.refl _ w6).drew).bel (fun _ _ => rfl) | exact HS0.out _ HM7.out.bel HR7.out | exact HS0.out _ HM8.out.bel HR8.out | exact HS0.out _ HM9.out.bel HR9.out | exact HS0.out _ HMA.out.bel HRA.out | assumption)
              (first
                | (go_at_call 23; (with_reducible refine (HC1.out _ (HM6.out.below (Below.refl _ w6).drew)).mono ?_); rintro e w7 ⟨rfl, hm, hk⟩; have HM7 := Lib.hid hm; have HR7 := Lib.hid (fun q (h : only3 W.heap.size vb (vb + 1) q) => (hk q h).trans (show w6.drew.heap[q]? = w6.heap[q]? from rfl)); clear hm hk)
                | (go_at_call 23; (with_reducible refine (HC2.out _ _ _ HM7.out).mono ?_); rintro e w8 ⟨rfl, hm, hk⟩; have HM8 := Lib.hid hm.swap; have HR8 := Lib.hid (fun q (h : only3 W.heap.size vb (vb + 1) q) => (hk q h).trans (HR7.out q h)); clear hm hk)
                | (go_at_call 28; (with_reducible refine (HST1.out _ HM8.out).mono ?_); rintro e w9 ⟨rfl, hb⟩; have HM9 := Lib.hid (HM8.out.below hb); have HR9 := Lib.hid (fun q (h : only3 W.heap.size vb (vb + 1) q) => (hb.block q (HM8.out.res q h)).trans (HR8.out q h)); clear hb)
                | (go_at_call 28; (with_reducible refine (HST2.out _ HM9.out).mono ?_); rintro e wA ⟨rfl, hb⟩; have HMA := Lib.hid (HM9.out.below hb); have HRA := Lib.hid (fun q (h : only3 W.heap.size vb (vb + 1) q) => (hb.block q (HM9.out.res q h)).trans (HR9.out q h)); clear hb)
                | (go_at_call 27; (with_reducible refine (HPR1.out _ HMA.out).mono ?_); rintro e wB ⟨rfl, rfl⟩)
                | (go_at_call 27; (with_reducible refine (HPR2.out _ HMA.out).mono ?_); rintro e wB ⟨rfl, rfl⟩))
            have HM1' := Lib.hid (HMA.out.hold (R' := only1 W.heap.size) (Below.refl _ _) (fun q hq => ⟨HMA.out.res q (.inl hq), .inl (.inl hq)⟩))
            have HXA := Lib.hid (HX6.out.keep (HRA.out _ (.inl rfl)))
            clear HM6 HX6 HV6 HW6 HM7 HR7 HM8 HR8 HM9 HR9 HMA HRA HC1 HC2 HST1 HST2 HPR1 HPR2 HS0
            go_wp2_with fail
            go_roundw
            case rel => exact ⟨j + 1, t7, u7, hs7, by omega, by go_num, HM1', HS7, HXA, Lib.hid ⟨HKA.out.ok, HKA.out.ids, HKA.out.hok, by have := HKA.out.sz; omega⟩, Lib.hid ⟨HKB.out.ok, HKB.out.ids, HKB.out.hok, by have := HKB.out.sz; omega⟩⟩
            case measure => simp [intOf]; omega
        · obtain rfl : x2.l.length = j := by omega
          have d1 : decide ((x2.l.length : Int) < (x2.l.length : Int)) = false := by simp
          go_wp2_with fail
          (with_reducible refine (HM.out.dump HK1.out.ok).mono ?_)
          rintro e w5 ⟨gs, cs, gd, cp, rfl, e1, e2, e3, hb⟩
          have HM5 := Lib.hid (HM.out.below hb)
          have HD1 := Lib.hid (And.intro e1 (And.intro e2 e3))
          have HBa := Lib.hid hb
          clear e1 e2 e3 hb a3
          go_wp2_with fail
          (with_reducible refine (HM5.out.swap.dump HK2.out.ok).mono ?_)
          rintro e w6 ⟨gs2, cs2, gd2, cp2, rfl, e1, e2, e3, hb⟩
          have HM6 := Lib.hid (HM5.out.below hb)
          have HD2 := Lib.hid (And.intro e1 (And.intro e2 e3))
          have HDk : Hid (DumpAt w6 gd t.p.h) := Lib.hid (HD1.out.2.1.keep (hb.block _ HD1.out.1))
          have hsh := HS.out.p.hn
          have hgl : gd < w6.heap.size := Nat.lt_of_lt_of_le HD1.out.1 hb.size
          have hgl2 : gd2 < w6.heap.size := e1
          rw [hsh.1]
          obtain ⟨N, hN⟩ : ∃ N, t.p.h.n = N := ⟨_, rfl⟩
          have HCELL : Hid (∀ q, q < N → ∀ w', Below w6.heap.size w6 w' → ∃ k v1 v2 nx, C7 w' gd (q * 7) k v1 nx ∧ C7 w' gd2 (q * 7) k v2 nx) := Lib.hid (fun q hq w' hb' => by
            have a1 := (HDk.out.keep (hb'.block _ hgl)) q (by rw [hN]; exact hq)
            have a2 := (DumpAt.keep HD2.out.2.1 (hb'.block _ hgl2)) q (by rw [hsh.1, hN]; exact hq)
            rw [hsh.2.1, HS.out.nxt] at a2
            exact ⟨_, _, _, _, a1, a2⟩)
          have HB6 := Lib.hid HM6.out.bel
          have HN6 : Hid (N ≤ 65536) := Lib.hid (by rw [← hN]; exact HK1.out.ok.hg.sz)
          rw [hN]
          clear e1 e2 e3 hb hsh hgl hgl2 HDk HD1 HD2 hN HM HS HX HK1 HK2 HM5 HBa d1
          go_wp2_with fail
          go_loopw [18] (fun i wi => ∃ q : Nat, q ≤ N ∧ i = .int .i64 q ∧ Hid (Below w6.heap.size w6 wi)) (fun i _ => N - (intOf i).toNat)
          case atStart => exact ⟨0, Nat.zero_le _, rfl, Lib.hid (Below.refl _ _)⟩
          case round =>
            obtain ⟨q, hq, rfl, HBi⟩ := hrel
            by_cases hql : q < N
            · have d1 : decide ((q : Int) < (N : Int)) = true := by simp; omega
              have q1 : (q : Int) < (N : Int) := by omega
              have q3 : (N : Int) ≤ 65536 := by have := HN6.out; omega
              obtain ⟨k, y1, y2, nx, hA, hB⟩ := HCELL.out q hql wr HBi.out
              obtain ⟨g0, g1, g2, -, -, -, g6, -, -⟩ := hA
              obtain ⟨r0, r1, r2, -, -, -, r6, -, -⟩ := hB
              obtain ⟨kk, kn, kst⟩ := k
              dsimp only at g0 g1 g2 r0 r1 r2
              go_wp2
              go_quiet (fail)
              go_wp2
              exact ⟨⟨q + 1, hql, by simp, Lib.hid (below_drewN HBi.out _)⟩, by simp [intOf]; omega⟩
            · obtain rfl : N = q := by omega
              have d1 : decide ((N : Int) < (N : Int)) = false := by simp
              go_wp2
              go_ret
              exact ⟨rfl, below_step HB6.out HBi.out⟩
theorem rowTableValues {vx : Value} {W : World} (x : CX) (f : CSA W vx x) (w : World) : Calls Try.prog 6 #[vx] W fun e w' => e = .returned (.bool true) ∧ Below W.heap.size W w' :=
  walk_TableValues x f w
end Go.Proofs.Yteheolefemlcgaa
