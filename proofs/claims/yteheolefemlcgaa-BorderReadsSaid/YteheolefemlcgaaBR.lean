/- BorderReads: the walk. -/
import Derived.Test.YteheolefemlcgaaBW
namespace Go.Proofs.Yteheolefemlcgaa
open Go.RowKit Go.Maps
set_option linter.unusedVariables false
set_option linter.unusedSimpArgs false

theorem len_lt {t : Tbl} (hok : t.p.ok) (h0 : 0 ≤ t.hint) (h1 : t.hint ≤ t.p.sn) (hf : ¬ farT t) : lenP t < t.p.sn := by
  obtain ⟨b0, b1, b2, b3⟩ := len_is hok h0 h1
  have hr := slot_hint h0 h1 hf
  have hN : (t.p.sn : Int) ≠ 0 := fun e => hf (.inl (by omega))
  by_cases e : lenP t = t.p.sn
  · rcases b2 with e2 | e2
    · omega
    · rw [e, has_slot (by omega) (by omega)] at e2
      exact absurd (.inr e2) hf
  · omega
theorem len_ge {t : Tbl} (hok : t.p.ok) (hf : farT t) : (t.p.sn : Int) ≤ lenP t := by
  unfold lenP
  rw [if_pos hf]
  exact (Bd.beyond_is (hasT t) t.p.sn (by omega) (by have := hok.sz; omega)).1
set_option maxRecDepth 100000 in
theorem tab_Pair_no (a : Nat) (i : Int) (hi : i < 1) (w : World) : Calls Try.prog 33 #[.pointer (some ⟨a, 0, none⟩), .int .i64 i] w fun e w' => e = .returned (.tuple #[.agg #[.int .i64 0, .int .i64 0, .string ⟨#[]⟩], .agg #[.int .i64 0, .int .i64 0, .string ⟨#[]⟩]]) ∧ Below w.heap.size w w' := by
  have d0 : decide (i < 1) = true := by simpa using hi
  clear hi
  go_enter Try.func33, Try.ntmps33
  go_wp2
  exact bodyPost_ret (v := .tuple #[.agg #[.int .i64 0, .int .i64 0, .string ⟨#[]⟩], .agg #[.int .i64 0, .int .i64 0, .string ⟨#[]⟩]]) (by simp [results, Try.results33, go_sem, cell_set_self, *]) rfl ⟨rfl, ((Below.refl _ w).alloc (Nat.le_refl _) _).alloc (by simp) _⟩
def threeB (b c d : Nat) (q : Nat) : Prop := q = b ∨ q = c ∨ q = d
section
variable {w0 w : World} {S : Nat → Prop} {hp a n : Nat} {t : Tbl} {hs : HS}
theorem BS.probes (H : BS w0 S hp a t hs n w) (x : Int) (hx : t.pr = x) : Calls Try.prog 27 #[.pointer (some ⟨a, 0, none⟩)] w fun e w' => e = .returned (.int .i64 x) ∧ w = w' := by
  obtain ⟨⟨F, D, E, h1, ⟨s, b, g, hT, hD⟩, -⟩, -, -⟩ := H.tt
  subst hx
  exact tab_Probes a s b g hp t w hT
/-- The value in the array's last slot (Nil: there is none). -/
def lastV (t : Tbl) : V := if t.p.sn = 0 then nilV else t.p.sv (t.p.sn - 1)
theorem lastV_is (t : Tbl) : (0 < (t.p.sn : Int) ∧ (lastV t).k = 0) ↔ ¬ farT t := by
  unfold lastV farT slotT
  by_cases h : t.p.sn = 0
  · rw [if_pos h, h]; simp
  · rw [if_neg h, show ((t.p.sn : Int) - 1).toNat = t.p.sn - 1 by omega]
    constructor
    · rintro ⟨-, h2⟩ h3
      rcases h3 with h3 | h3
      · exact h h3
      · rw [h2] at h3; simp at h3
    · intro h2
      refine ⟨by omega, ?_⟩
      by_cases e : (t.p.sv (t.p.sn - 1)).k = 0
      · exact e
      · exact absurd (.inr (by simpa using e)) h2
theorem BS.lastP (H : BS w0 S hp a t hs n w) (N : Int) (hN : (t.p.sn : Int) = N) : Calls Try.prog 33 #[.pointer (some ⟨a, 0, none⟩), .int .i64 N] w fun e w' => ∃ kk kn : Int, ∃ ks : ByteArray, e = .returned (.tuple #[.agg #[.int .i64 kk, .int .i64 kn, .string ks], .agg #[.int .i64 (lastV t).k, .int .i64 (lastV t).n, .string (lastV t).s]]) ∧ Below w.heap.size w w' := by
  subst hN
  by_cases h : t.p.sn = 0
  · refine (tab_Pair_no a t.p.sn (by omega) w).mono ?_
    rintro e w' ⟨he, hb⟩
    exact ⟨0, 0, ⟨#[]⟩, by rw [he]; unfold lastV; rw [if_pos h]; rfl, hb⟩
  · obtain ⟨⟨F, D, E, h1, ⟨s, b, g, hT, hD⟩, -⟩, -, -⟩ := H.tt
    have e1 : (t.p.sn : Int) = ((t.p.sn - 1 : Nat) : Int) + 1 := by omega
    have hP := tab_Pair_in a s b g hp t H.ok.sz (t.p.sn - 1) (by omega) (lastV t) (by unfold lastV; rw [if_neg h]) w hT
    rw [← e1] at hP
    refine hP.mono ?_
    rintro e w' ⟨he, hb⟩
    exact ⟨_, _, _, he, hb⟩
end
set_option maxRecDepth 100000 in
set_option maxHeartbeats 1600000 in
theorem walk_BorderReads {vx : Value} {W : World} (x : CY) (f : CSB W vx x) (w : World) : Calls Try.prog 16 #[vx] W fun e w' => e = .returned (.bool true) ∧ Below W.heap.size W w' := by
  have FC := Lib.hid f
  obtain rfl := f.e
  have HBX := Lib.hid (CBY.new W x)
  have HB0 := Lib.hid ((Below.refl W.heap.size W).alloc (Nat.le_refl _) (.cells #[.int .i64 x.arr, .int .i64 x.hsh, .slice x.A x.l.length x.c] 88))
  clear f
  unfold CY.val
  go_enter Try.func16, Try.ntmps16
  go_wp2_with fail
  (with_reducible refine (law09_fixed _).mono ?_)
  rintro e w1 ⟨rfl, hb⟩
  have HX1 := Lib.hid (HBX.out.below hb)
  have HB1 := Lib.hid (below_step HB0.out hb)
  clear hb
  obtain ⟨p0, p1, p2, -⟩ := HX1.out
  go_wp2_with fail
  (with_reducible refine (law09_begin x.arr x.hsh x.A x.l.length x.c W _ (onlyB W.heap.size) (fun q hq => by have := HX1.out.lt; unfold onlyB at hq; omega) HB1.out).mono ?_)
  rintro e w2 ⟨N, M, hp, a, Q, -, rfl, hm, hk⟩
  have HM := Lib.hid hm
  have HX2 := Lib.hid (HX1.out.keep (hk _ rfl))
  clear hm hk p0 p1 p2
  generalize newT (HS.new 400000) N M = t0 at HM
  generalize newH (HS.new 400000) N M = hs0 at HM
  go_wp2_with fail
  go_loopw [6] (fun i wr => ∃ (j : Nat) (t : Tbl) (hs : HS), j ≤ x.l.length ∧ j ≤ 300 ∧ i = .int .i64 j ∧ Hid (BS W (onlyB W.heap.size) hp a t hs (3 + 2 * j) wr) ∧ Hid (CBY wr W.heap.size x)) (fun i _ => x.l.length - (intOf i).toNat)
  case atStart => exact ⟨0, t0, hs0, Nat.zero_le _, Nat.zero_le _, rfl, HM, HX2⟩
  case round =>
    clear HM HX2 HBX HB0 HX1 HB1
    obtain ⟨j, t, hs, hj, hj3, rfl, HM, HX⟩ := hrel
    obtain ⟨p0, p1, p2, -⟩ := HX.out
    by_cases h1 : j < x.l.length
    · have d1 : decide ((j : Int) < (x.l.length : Int)) = true := by simp; omega
      have j1 : (j : Int) < (x.l.length : Int) := by omega
      have lx : (x.l.length : Int) ≤ 9223372036854775807 := by have := FC.out.le; have := FC.out.mx; omega
      by_cases h2 : j < 300
      · have d2 : decide ((j : Int) < 300) = true := by simp; omega
        have j3 : (j : Int) < 300 := by omega
        obtain ⟨bx, ox, eA, hbx, hcx⟩ := FC.out.ops (by omega)
        rw [eA] at p2
        have HEA := Lib.hid eA
        clear eA
        have HCX := Lib.hid (hcx j h1)
        have HIX := Lib.hid (FC.out.in64 j)
        clear hcx
        generalize op9 x.l j = z at HCX HIX
        obtain ⟨kd, ⟨kk, kn, kst⟩, ⟨vk, vn, vst⟩, nn⟩ := z
        have HIX : Hid (In64 kn ∧ In64 nn) := Lib.hid (by have h := HIX.out; unfold O9.ok In64V at h; exact ⟨h.2.1.2, h.2.2.2⟩)
        have HJ := Lib.hid h2
        have HBXX := Lib.hid hbx
        obtain ⟨c0, c1, c2, c3, c4, c5, c6, c7⟩ := HCX.out.bel HM.out.bel hbx
        dsimp only at c0 c1 c2 c3 c4 c5 c6 c7
        go_wp2_with fail
        go_still_tail 13, (by kernel_rfl)
        change wpList _ _ _ _ _ wr.drew
        go_wp2_with fail
        (with_reducible refine ((HM.out.below (Below.refl _ wr).drew).set (by have := HJ.out; omega) kk kn kst vk vn vst HIX.out.1).mono ?_)
        rintro e w5 ⟨rfl, hx, hk⟩
        have HX5 := Lib.hid ((HX.out.below (Below.refl _ wr).drew).keep (hk _ rfl))
        have HM5 := Lib.hid hx
        clear hx hk c0 c1 c2 c3 c4 c5 c6 c7 p0 p1 p2 HM HX
        generalize t.set hs ⟨kk, kn, kst⟩ ⟨vk, vn, vst⟩ = r5 at HM5
        obtain ⟨t5, hs5, er⟩ := r5
        dsimp only at HM5
        obtain ⟨p0, p1, p2, -⟩ := HX5.out
        rw [HEA.out] at p2
        obtain ⟨c0, c1, c2, c3, c4, c5, c6, c7⟩ := HCX.out.bel HM5.out.bel HBXX.out
        dsimp only at c0 c1 c2 c3 c4 c5 c6 c7
        have hf0 : ∀ (a b c d : Int) (W : World), (Instr.field 51 (.agg #[.int .i64 a, .int .i64 b, .int .i64 c, .int .i64 d]) 0).run Try.prog W = .ok (.int .i64 a) W := fun a b c d W => by rfl
        have hf3 : ∀ (a b c d : Int) (W : World), (Instr.field 51 (.agg #[.int .i64 a, .int .i64 b, .int .i64 c, .int .i64 d]) 3).run Try.prog W = .ok (.int .i64 d) W := fun a b c d W => by rfl
        obtain ⟨N5, hN5⟩ : ∃ n : Int, (t5.p.sn : Int) = n := ⟨_, rfl⟩
        obtain ⟨m5, hm5⟩ : ∃ n : Int, (t5.p.h.n : Int) = n := ⟨_, rfl⟩
        obtain ⟨f5, hf5⟩ : ∃ n : Int, (t5.p.h.free : Int) = n := ⟨_, rfl⟩
        obtain ⟨x5, hx5⟩ : ∃ n : Int, t5.hint = n := ⟨_, rfl⟩
        obtain ⟨y5, hy5⟩ : ∃ n : Int, t5.pr = n := ⟨_, rfl⟩
        have HN5 := Lib.hid hN5; have HX5' := Lib.hid hx5; have HY5 := Lib.hid hy5; have Hm5 := Lib.hid hm5; have Hf5 := Lib.hid hf5
        clear hN5 hm5 hf5 hx5 hy5
        go_wp2_with fail
        (with_reducible refine (BS.stats HM5.out N5 m5 f5 x5 HN5.out Hm5.out Hf5.out HX5'.out).mono ?_)
        rintro e w6 ⟨rfl, hb⟩
        have HM6 := Lib.hid (HM5.out.below hb)
        have HX6 := Lib.hid (HX5.out.below hb)
        clear hb
        go_wp2_with fail
        (with_reducible refine (BS.probes HM6.out y5 HY5.out).mono ?_)
        rintro e w7 ⟨rfl, rfl⟩
        go_wp2_with fail
        have hb7 := (Below.refl w6.heap.size w6).alloc (Nat.le_refl _) (.cells #[.int .i64 N5, .int .i64 m5, .int .i64 f5, .int .i64 x5] 51)
        have HS7 := Lib.hid (C4.new w6 (.int .i64 N5) (.int .i64 m5) (.int .i64 f5) (.int .i64 x5) 51)
        have HX7 := Lib.hid (HX6.out.below hb7)
        have HXL := Lib.hid HX6.out.lt
        have HM7 := Lib.hid (BS.reserve (S' := twoB W.heap.size w6.heap.size) HM6.out hb7 (fun q hq => by
          have h0 := HX6.out.lt
          rw [World.size_alloc]
          rcases hq with rfl | rfl
          · exact ⟨by omega, .inl rfl⟩
          · exact ⟨by omega, .inr (Nat.le_refl _)⟩))
        clear hb7 HM6 HX6 HM5 HX5 c0 c1 c2 c3 c4 c5 c6 c7 p0 p1 p2
        generalize w6.alloc (.cells #[.int .i64 N5, .int .i64 m5, .int .i64 f5, .int .i64 x5] 51) = w7 at HS7 HX7 HM7 ⊢
        generalize w6.heap.size = sb at HS7 HM7 HXL ⊢
        (with_reducible refine (BS.lastP HM7.out N5 HN5.out).mono ?_)
        rintro e w8 ⟨ak, an, ast, rfl, hb⟩
        have HM8 := Lib.hid (HM7.out.below hb)
        have HX8 := Lib.hid (HX7.out.below hb)
        have HS8 := Lib.hid (HS7.out.below hb HS7.out.lt)
        clear hb HM7 HX7 HS7
        have HLV := Lib.hid (lastV_is t5)
        generalize lastV t5 = lv at HLV ⊢
        obtain ⟨lk, ln, ls⟩ := lv
        dsimp only
        go_wp2_with fail
        have hb9 := ((Below.refl w8.heap.size w8).alloc (Nat.le_refl _) (.cells #[.int .i64 ak, .int .i64 an, .string ast] 39)).alloc (by simp) (.cells #[.int .i64 lk, .int .i64 ln, .string ls] 39)
        have hv9 := C3.new (w8.alloc (.cells #[.int .i64 ak, .int .i64 an, .string ast] 39)) lk ln ls
        rw [World.size_alloc] at hv9
        have HV9 := Lib.hid hv9
        have HX9 := Lib.hid (HX8.out.below hb9)
        have HS9 := Lib.hid (HS8.out.below hb9 HS8.out.lt)
        have HM9 := Lib.hid (BS.reserve (S' := threeB W.heap.size sb (w8.heap.size + 1)) HM8.out hb9 (fun q hq => by
          have h0 := HX8.out.lt
          have h1 := HS8.out.lt
          rw [World.size_alloc, World.size_alloc]
          rcases hq with rfl | rfl | rfl
          · exact ⟨by omega, .inl (.inl rfl)⟩
          · exact ⟨by omega, .inl (.inr rfl)⟩
          · exact ⟨by omega, .inr (by omega)⟩))
        clear hb9 hv9 HM8 HX8 HS8
        generalize (w8.alloc (.cells #[.int .i64 ak, .int .i64 an, .string ast] 39)).alloc (.cells #[.int .i64 lk, .int .i64 ln, .string ls] 39) = w9 at HV9 HX9 HS9 HM9 ⊢
        generalize w8.heap.size + 1 = vb at HV9 HM9 ⊢
        (with_reducible refine (BS.len HM9.out).mono ?_)
        rintro e wA ⟨tA, ⟨rfl, pr, ht⟩, hpe, hx, hk⟩
        have HXA := Lib.hid (HX9.out.keep (hk _ (.inl rfl)))
        have HSA := Lib.hid (HS9.out.keep (hk _ (.inr (.inl rfl))))
        have HVA := Lib.hid (HV9.out.keep (hk _ (.inr (.inr rfl))))
        have HMA := Lib.hid hx
        obtain ⟨s0, s1, s2, s3, -, -⟩ := HSA.out
        obtain ⟨v0, v1, v2, -, -⟩ := HVA.out
        by_cases hf : farT t5
        · have hge := len_ge HM9.out.ok hf
          rw [HN5.out] at hge
          have hN0 : ¬ (0 < N5 ∧ lk = 0) := fun h => (HLV.out.1 (by rw [HN5.out]; exact h)) hf
          have HTA : Hid (tA.hint = x5 ∧ tA.p = t5.p) := Lib.hid ⟨by rw [ht, (lenT_hint t5 pr).1 hf]; exact HX5'.out, hpe⟩
          generalize lenP t5 = L at hge ⊢
          have d9 : decide (L < N5) = false := by simp; omega
          have key : (decide (0 < N5) = false) ∨ (decide (0 < N5) = true ∧ (lk == 0) = false) := by
            by_cases h : 0 < N5
            · exact .inr ⟨by simpa using h, by simpa using fun h2 => hN0 ⟨h, h2⟩⟩
            · exact .inl (by simpa using h)
          clear hf hN0 hge hx hk hpe ht
          rcases key with k1 | ⟨k1, k2⟩
          all_goals
            have HSS : Hid (∀ w', Below wA.heap.size wA w' → w'.cell? ⟨sb, 0, none⟩ = some (.int .i64 N5) ∧ w'.cell? ⟨sb, 3, none⟩ = some (.int .i64 x5)) := Lib.hid (fun w' hb => by
              have h := HSA.out.below hb HSA.out.lt
              exact ⟨h.c0, h.c3⟩)
            go_wp2_with fail
            go_region_held3 (fun w' => w'.cell? ⟨sb, 0, none⟩ = some (.int .i64 N5) ∧ w'.cell? ⟨sb, 3, none⟩ = some (.int .i64 x5))
              (first | exact HSS.out _ (Below.refl _ wA).drew | exact HSS.out _ HBB.out | assumption)
              (first | (go_at_call 28; (with_reducible refine (BS.stats (HMA.out.below (Below.refl _ wA).drew) N5 m5 f5 x5 (by rw [HTA.out.2]; exact HN5.out) (by rw [HTA.out.2]; exact Hm5.out) (by rw [HTA.out.2]; exact Hf5.out) HTA.out.1).mono ?_); rintro e wB ⟨rfl, hb⟩; have HBB := Lib.hid (below_step (Below.refl wA.heap.size wA).drew hb); clear hb))
            have HMB := Lib.hid (BS.reserve (S' := onlyB W.heap.size) HMA.out HBB.out (fun q hq => ⟨Nat.lt_of_lt_of_le (HMA.out.keepS q (.inl hq)) HBB.out.size, .inl (.inl hq)⟩))
            have HXB := Lib.hid (HXA.out.below HBB.out)
            clear s0 s1 s2 s3 HSS
            go_wp2_with fail
            go_roundw
            case rel => exact ⟨j + 1, tA, hs5, by omega, by omega, by go_num, Lib.hid (HMB.out.mono (by omega)), HXB⟩
            case measure => simp [intOf]; omega
        · have hlt := len_lt HM9.out.ok HM9.out.h0 HM9.out.h1 hf
          rw [HN5.out] at hlt
          have hN0 := HLV.out.2 hf
          rw [HN5.out] at hN0
          have e1 : tA = { t5 with hint := lenP t5 } := by rw [ht]; unfold Tbl.lenT; rw [if_neg hf]
          generalize lenP t5 = L at hlt e1 ⊢
          have d8 : decide (0 < N5) = true := by simpa using hN0.1
          have d9 : (lk == 0) = true := by simpa using hN0.2
          have d7 : decide (N5 ≤ L) = false := by simp; omega
          have HTA : Hid (tA.hint = L ∧ tA.p = t5.p ∧ tA.pr = y5) := Lib.hid ⟨by rw [e1], by rw [e1], by rw [e1]; exact HY5.out⟩
          clear hf hlt hN0 e1 hx hk hpe ht
          go_wp2_with fail
          (with_reducible refine (BS.probes HMA.out y5 HTA.out.2.2).mono ?_)
          rintro e wB ⟨rfl, rfl⟩
          go_wp2_with fail
          (with_reducible refine (BS.stats HMA.out N5 m5 f5 L (by rw [HTA.out.2.1]; exact HN5.out) (by rw [HTA.out.2.1]; exact Hm5.out) (by rw [HTA.out.2.1]; exact Hf5.out) HTA.out.1).mono ?_)
          rintro e wB ⟨rfl, hb⟩
          have HMB := Lib.hid (BS.reserve (S' := onlyB W.heap.size) HMA.out hb (fun q hq => ⟨Nat.lt_of_lt_of_le (HMA.out.keepS q (.inl hq)) hb.size, .inl (.inl hq)⟩))
          have HXB := Lib.hid (HXA.out.below hb)
          have HSB := Lib.hid (HSA.out.below hb HSA.out.lt)
          clear hb s0 s1 s2 s3
          obtain ⟨s0, s1, s2, s3, -, -⟩ := HSB.out
          go_wp2_with fail
          go_roundw
          case rel => exact ⟨j + 1, tA, hs5, by omega, by omega, by go_num, Lib.hid (HMB.out.mono (by omega)), HXB⟩
          case measure => simp [intOf]; omega
      · have d2 : decide ((j : Int) < 300) = false := by simp; omega
        go_wp2
        go_ret
        exact ⟨rfl, HM.out.bel⟩
    · have d1 : decide ((j : Int) < (x.l.length : Int)) = false := by simp; omega
      go_wp2
      go_ret
      exact ⟨rfl, HM.out.bel⟩
theorem rowBorderReads {vx : Value} {W : World} (x : CY) (f : CSB W vx x) (w : World) : Calls Try.prog 16 #[vx] W fun e w' => e = .returned (.bool true) ∧ Below W.heap.size W w' :=
  walk_BorderReads x f w
end Go.Proofs.Yteheolefemlcgaa
