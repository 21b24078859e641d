/- BorderTrue: the walk. -/
import Derived.Test.YteheolefemlcgaaBordG
namespace Go.Proofs.Yteheolefemlcgaa
open Go.RowKit Go.Maps
set_option linter.unusedVariables false
set_option linter.unusedSimpArgs false

/-- A case of the border's laws in a block of its own. -/
structure CBY (w : World) (b : Nat) (x : CY) : Prop where
  c0 : w.cell? ⟨b, 0, none⟩ = some (.int .i64 x.arr)
  c1 : w.cell? ⟨b, 1, none⟩ = some (.int .i64 x.hsh)
  c2 : w.cell? ⟨b, 2, none⟩ = some (.slice x.A x.l.length x.c)
  lt : b < w.heap.size
theorem CBY.keep {w w' : World} {b : Nat} {x : CY} (H : CBY w b x) (hb : w'.heap[b]? = w.heap[b]?) : CBY w' b x := by
  have hc : ∀ i, w'.cell? ⟨b, i, none⟩ = w.cell? ⟨b, i, none⟩ := fun i => World.cell?_of_block (a := ⟨b, i, none⟩) hb
  refine ⟨(hc _).trans H.c0, (hc _).trans H.c1, (hc _).trans H.c2, ?_⟩
  have := H.lt
  obtain ⟨o, ho⟩ : ∃ o, w.heap[b]? = some o := ⟨_, Array.getElem?_eq_getElem this⟩
  rw [ho] at hb
  exact (Array.getElem?_eq_some_iff.1 hb).1
theorem CBY.below {w w' : World} {b : Nat} {x : CY} (H : CBY w b x) (hb : Below w.heap.size w w') : CBY w' b x := H.keep (hb.block b H.lt)
theorem CBY.new (w : World) (x : CY) : CBY (w.alloc (.cells #[.int .i64 x.arr, .int .i64 x.hsh, .slice x.A x.l.length x.c] 88)) w.heap.size x := ⟨by simp [go_sem], by simp [go_sem], by simp [go_sem], by simp [go_sem]⟩
theorem get_p {t t2 : Tbl} {n : Int} {v : V} (h : t2.p = t.p) (hv : t.get (iV n) = v) : t2.get ⟨2, n, ⟨#[]⟩⟩ = v := by
  unfold Tbl.get at *
  rw [h]
  exact hv
def onlyB (b : Nat) (q : Nat) : Prop := q = b
def twoB (b c : Nat) (q : Nat) : Prop := q = b ∨ q = c
set_option maxRecDepth 100000 in
set_option maxHeartbeats 1600000 in
theorem walk_BorderTrue {vx : Value} {W : World} (x : CY) (f : CSB W vx x) (w : World) : Calls Try.prog 12 #[vx] W fun e w' => e = .returned (.bool true) ∧ Below W.heap.size W w' := by
  have FC := Lib.hid f
  obtain rfl := f.e
  have HBX := Lib.hid (CBY.new W x)
  have HB0 := Lib.hid ((Below.refl W.heap.size W).alloc (Nat.le_refl _) (.cells #[.int .i64 x.arr, .int .i64 x.hsh, .slice x.A x.l.length x.c] 88))
  clear f
  unfold CY.val
  have hf : ∀ (a b : Int) (c : ByteArray) (W : World), (Instr.field 39 (.agg #[.int .i64 a, .int .i64 b, .string c]) 0).run Try.prog W = .ok (.int .i64 a) W := fun a b c W => by rfl
  go_enter Try.func12, Try.ntmps12
  go_wp2_with fail
  (with_reducible refine (law09_fixed _).mono ?_)
  rintro e w1 ⟨rfl, hb⟩
  have HX1 := Lib.hid (HBX.out.below hb)
  have HB1 := Lib.hid (below_step HB0.out hb)
  clear hb
  obtain ⟨p0, p1, p2, -⟩ := HX1.out
  go_wp2_with fail
  (with_reducible refine (law09_begin x.arr x.hsh x.A x.l.length x.c W _ (onlyB W.heap.size) (fun q hq => by have := HX1.out.lt; unfold onlyB at hq; omega) HB1.out).mono ?_)
  rintro e w2 ⟨N, M, hp, a, Q, -, rfl, hm, hk⟩
  have HM := Lib.hid hm
  have HX2 := Lib.hid (HX1.out.keep (hk _ rfl))
  clear hm hk p0 p1 p2
  generalize newT (HS.new 400000) N M = t0 at HM
  generalize newH (HS.new 400000) N M = hs0 at HM
  go_wp2_with fail
  go_loopw [6] (fun i wr => ∃ (j : Nat) (t : Tbl) (hs : HS), j ≤ x.l.length ∧ j ≤ 300 ∧ i = .int .i64 j ∧ Hid (BS W (onlyB W.heap.size) hp a t hs (3 + 2 * j) wr) ∧ Hid (CBY wr W.heap.size x)) (fun i _ => x.l.length - (intOf i).toNat)
  case atStart => exact ⟨0, t0, hs0, Nat.zero_le _, Nat.zero_le _, rfl, HM, HX2⟩
  case round =>
    clear HM HX2 HBX HB0 HX1 HB1
    obtain ⟨j, t, hs, hj, hj3, rfl, HM, HX⟩ := hrel
    obtain ⟨p0, p1, p2, -⟩ := HX.out
    by_cases h1 : j < x.l.length
    · have d1 : decide ((j : Int) < (x.l.length : Int)) = true := by simp; omega
      have j1 : (j : Int) < (x.l.length : Int) := by omega
      have lx : (x.l.length : Int) ≤ 9223372036854775807 := by have := FC.out.le; have := FC.out.mx; omega
      by_cases h2 : j < 300
      · have d2 : decide ((j : Int) < 300) = true := by simp; omega
        have j3 : (j : Int) < 300 := by omega
        obtain ⟨bx, ox, eA, hbx, hcx⟩ := FC.out.ops (by omega)
        rw [eA] at p2
        have HEA := Lib.hid eA
        clear eA
        have HCX := Lib.hid (hcx j h1)
        have HIX := Lib.hid (FC.out.in64 j)
        clear hcx
        generalize op9 x.l j = z at HCX HIX
        obtain ⟨kd, ⟨kk, kn, kst⟩, ⟨vk, vn, vst⟩, nn⟩ := z
        have HIX : Hid (In64 kn) := Lib.hid (by have h := HIX.out; unfold O9.ok In64V at h; exact h.2.1.2)
        have HJ := Lib.hid h2
        have HBXX := Lib.hid hbx
        obtain ⟨c0, c1, c2, c3, c4, c5, c6, c7⟩ := HCX.out.bel HM.out.bel hbx
        dsimp only at c0 c1 c2 c3 c4 c5 c6 c7
        have hbo := (Below.refl wr.heap.size wr).alloc (Nat.le_refl _) (.cells #[.int .i64 kd, .int .i64 kk, .int .i64 kn, .string kst, .int .i64 vk, .int .i64 vn, .string vst, .int .i64 nn] 90)
        have HMo := Lib.hid (HM.out.below hbo)
        have HXo := Lib.hid (HX.out.below hbo)
        clear hbo
        by_cases h5 : kd = 5
        subst h5
        have d3 : ((5 : Int) == 5) = true := rfl
        go_wp2_with fail
        (with_reducible refine (BS.hint HMo.out nn).mono ?_)
        rintro e w5 ⟨t5, ⟨rfl, -⟩, -, hx, hk⟩
        have HM5 : Hid (BS W (onlyB W.heap.size) hp a t5 hs (3 + 2 * j + 2) w5) := Lib.hid (BS.mono hx (by omega))
        have HX5 := Lib.hid (HXo.out.keep (hk _ rfl))
        obtain ⟨hs5, hhs⟩ : ∃ h, hs = h := ⟨_, rfl⟩
        rw [hhs] at HM5
        clear hx hk
        rotate_left
        have d3 : (kd == 5) = false := by simpa using h5
        go_wp2_with fail
        (with_reducible refine (BS.set HMo.out (by have := HJ.out; omega) kk kn kst vk vn vst HIX.out).mono ?_)
        rintro e w5 ⟨rfl, hx, hk⟩
        have HX5 := Lib.hid (HXo.out.keep (hk _ rfl))
        have HM5 := Lib.hid hx
        clear hx hk
        generalize t.set hs ⟨kk, kn, kst⟩ ⟨vk, vn, vst⟩ = r5 at HM5
        obtain ⟨t5, hs5, er⟩ := r5
        dsimp only at HM5
        rotate_left
        all_goals
          have hlen := len_is HM5.out.ok HM5.out.h0 HM5.out.h1
          have HB9 := Lib.hid hlen
          go_wp2_with fail
          (with_reducible refine (BS.len HM5.out).mono ?_)
          rintro e w6 ⟨t6, ⟨rfl, -⟩, hpe, hx, hk⟩
          have HM6 := Lib.hid hx
          have HP6 := Lib.hid hpe
          have HX6 := Lib.hid (HX5.out.keep (hk _ rfl))
          clear hx hpe hk
          generalize lenP t5 = L at HB9 hlen ⊢
          obtain ⟨l0, l1, l2, l3⟩ := hlen
          have e0 : decide (L < 0) = false := by simpa using l0
          by_cases g0 : L = 0
          · subst g0
            have e1 : decide ((0 : Int) < 0) = false := by decide
            have e2 : decide ((0 : Int) < 9223372036854775807) = true := by decide
            obtain ⟨v, hv⟩ : ∃ v, t5.get (iV 1) = v := ⟨_, rfl⟩
            have hz : hasT t5 1 = false := by simpa using l3.resolve_left (by omega)
            have e3 : (v.k != 0) = false := by unfold hasT at hz; rw [hv] at hz; simpa using hz
            have HV := Lib.hid hv
            clear hv hz l2 l3
            go_wp2_with fail
            (with_reducible refine (ref3_I _ _).mono ?_)
            rintro e w7 ⟨rfl, hb⟩
            have HM7 := Lib.hid (HM6.out.below hb)
            have HX7 := Lib.hid (HX6.out.below hb)
            clear hb
            go_wp2_with fail
            (with_reducible refine (BS.get HM7.out 2 1 ⟨#[]⟩ v (get_p HP6.out HV.out)).mono ?_)
            rintro e w8 ⟨t8, ⟨rfl, -⟩, hpe, hx, hk⟩
            have HM8 := Lib.hid hx
            have HP8 := Lib.hid (hpe.trans HP6.out)
            have HX8 := Lib.hid (HX7.out.keep (hk _ rfl))
            clear hx hpe hk
            go_wp2_with fail
            (with_reducible refine (BS.is HM8.out 0 (by have := HB9.out; unfold isB at this; unfold In64; omega)).mono ?_)
            rintro e wA ⟨tA, ⟨rfl, -⟩, -, hx, hk⟩
            have HMA := Lib.hid hx
            have HXA := Lib.hid (HX8.out.keep (hk _ rfl))
            rw [isP_p HP8.out, isB_is HB9.out]
            clear hx hk
            go_wp2_with fail
            go_roundw
            case rel => exact ⟨j + 1, tA, hs5, by omega, by omega, by go_num, Lib.hid (HMA.out.mono (by omega)), HXA⟩
            case measure => simp [intOf]; omega
          · have e1 : decide (0 < L) = true := by simp; omega
            obtain ⟨u, hu⟩ : ∃ u, t5.get (iV L) = u := ⟨_, rfl⟩
            have hz1 : hasT t5 L = true := l2.resolve_left g0
            have e4 : (u.k == 0) = false := by unfold hasT at hz1; rw [hu] at hz1; simpa using hz1
            have HU := Lib.hid hu
            clear hu hz1 l2
            go_wp2_with fail
            (with_reducible refine (ref3_I _ _).mono ?_)
            rintro e w7 ⟨rfl, hb⟩
            have HM7 := Lib.hid (HM6.out.below hb)
            have HX7 := Lib.hid (HX6.out.below hb)
            clear hb
            go_wp2_with fail
            (with_reducible refine (BS.get HM7.out 2 L ⟨#[]⟩ u (get_p HP6.out HU.out)).mono ?_)
            rintro e w8 ⟨t8, ⟨rfl, -⟩, hpe, hx, hk⟩
            have HM8 := Lib.hid hx
            have HP8 := Lib.hid (hpe.trans HP6.out)
            have HX8 := Lib.hid (HX7.out.keep (hk _ rfl))
            clear hx hpe hk
            by_cases g1 : L = 9223372036854775807
            · subst g1
              have e2 : decide ((9223372036854775807 : Int) < 9223372036854775807) = false := by simp
              go_wp2_with fail
              (with_reducible refine (BS.is HM8.out 9223372036854775807 (by have := HB9.out; unfold isB at this; unfold In64; omega)).mono ?_)
              rintro e wA ⟨tA, ⟨rfl, -⟩, -, hx, hk⟩
              have HMA := Lib.hid hx
              have HXA := Lib.hid (HX8.out.keep (hk _ rfl))
              rw [isP_p HP8.out, isB_is HB9.out]
              clear hx hk
              go_wp2_with fail
              go_roundw
              case rel => exact ⟨j + 1, tA, hs5, by omega, by omega, by go_num, Lib.hid (HMA.out.mono (by omega)), HXA⟩
              case measure => simp [intOf]; omega
            · have e2 : decide (L < 9223372036854775807) = true := by simp; omega
              obtain ⟨v, hv⟩ : ∃ v, t5.get (iV (L + 1)) = v := ⟨_, rfl⟩
              have hz : hasT t5 (L + 1) = false := l3.resolve_left g1
              have e3 : (v.k != 0) = false := by unfold hasT at hz; rw [hv] at hz; simpa using hz
              have HV := Lib.hid hv
              have m1 : wrap64 (L + 1) = L + 1 := wrap64_id (by unfold In64; omega)
              clear hv hz l3
              go_wp2_with fail
              (with_reducible refine (ref3_I _ _).mono ?_)
              rintro e w9 ⟨rfl, hb⟩
              have HM9 := Lib.hid (HM8.out.below hb)
              have HX9 := Lib.hid (HX8.out.below hb)
              clear hb
              go_wp2_with fail
              (with_reducible refine (BS.get HM9.out 2 (L + 1) ⟨#[]⟩ v (get_p HP8.out HV.out)).mono ?_)
              rintro e wA ⟨tA, ⟨rfl, -⟩, hpe, hx, hk⟩
              have HMA := Lib.hid hx
              have HPA := Lib.hid (hpe.trans HP8.out)
              have HXA := Lib.hid (HX9.out.keep (hk _ rfl))
              clear hx hpe hk
              go_wp2_with fail
              (with_reducible refine (BS.is HMA.out L (by have := HB9.out; unfold isB at this; unfold In64; omega)).mono ?_)
              rintro e wB ⟨tB, ⟨rfl, -⟩, -, hx, hk⟩
              have HMB := Lib.hid hx
              have HXB := Lib.hid (HXA.out.keep (hk _ rfl))
              rw [isP_p HPA.out, isB_is HB9.out]
              clear hx hk
              go_wp2_with fail
              go_roundw
              case rel => exact ⟨j + 1, tB, hs5, by omega, by omega, by go_num, Lib.hid (HMB.out.mono (by omega)), HXB⟩
              case measure => simp [intOf]; omega
      · have d2 : decide ((j : Int) < 300) = false := by simp; omega
        go_wp2
        go_ret
        exact ⟨rfl, HM.out.bel⟩
    · have d1 : decide ((j : Int) < (x.l.length : Int)) = false := by simp; omega
      go_wp2
      go_ret
      exact ⟨rfl, HM.out.bel⟩
theorem rowBorderTrue {vx : Value} {W : World} (x : CY) (f : CSB W vx x) (w : World) : Calls Try.prog 12 #[vx] W fun e w' => e = .returned (.bool true) ∧ Below W.heap.size W w' :=
  walk_BorderTrue x f w
end Go.Proofs.Yteheolefemlcgaa
