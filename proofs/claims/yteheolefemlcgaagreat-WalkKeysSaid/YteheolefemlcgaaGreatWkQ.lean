/- WalkKeys: the walk. -/
import Derived.Test.YteheolefemlcgaaGreatWkC
import Derived.Test.YteheolefemlcgaaGreatWkZ
import Derived.Test.YteheolefemlcgaaGreatDump
namespace Go.Proofs.YteheolefemlcgaaGreat
open Go.RowKit Go.Maps
set_option linter.unusedVariables false
set_option linter.unusedSimpArgs false

def trX (b c d : Nat) (q : Nat) : Prop := q = b ∨ q = c ∨ q = d
theorem ref_Check_q (k n : Int) (s : ByteArray) (z : Int) (hz : errForm (okV ⟨k, n, s⟩) = z) (w : World) : Calls Tryz.prog 32 #[.agg #[.int .i64 k, .int .i64 n, .string s]] w fun e w' => e = .returned (.int .i64 z) ∧ Below w.heap.size w w' := by
  rw [← hz]; exact ref_Check ⟨k, n, s⟩ w
theorem BS.dump {w0 w : World} {S : Nat → Prop} {hp a n : Nat} {t : Tbl} {hs : HS} (H : BS w0 S hp a t hs n w) (m : Nat) (hm : t.p.h.n = m) :
    Calls Tryz.prog 14 #[.pointer (some ⟨a, 0, none⟩)] w fun e w' => ∃ gs sn cs gd cp, e = .returned (.tuple #[.slice (some ⟨gs, 0, none⟩) sn cs, .slice (some ⟨gd, 0, none⟩) m cp]) ∧ w.heap.size ≤ gd ∧ DumpAt w' gd t.p.h ∧ m ≤ cp ∧ Below w.heap.size w w' := by
  subst hm
  obtain ⟨s, b, g, hT⟩ := H.tab
  refine (tab_Dump a s b g hp t H.ok w hT).mono ?_
  rintro e w' ⟨gs, cs, gd, cp, rfl, h1, h2, -, -, -, h3, -, h4, h5⟩
  exact ⟨gs, _, cs, gd, cp, rfl, by omega, h3, h4, h5⟩
/-- Two Stats, limb by limb. -/
theorem four_cases (a b c d e f g h : Int) : ((a == e) = false) ∨ (e = a ∧ (b == f) = false) ∨ (e = a ∧ f = b ∧ (c == g) = false) ∨ (e = a ∧ f = b ∧ g = c ∧ (d == h) = false) ∨ (e = a ∧ f = b ∧ g = c ∧ h = d) := by
  by_cases h1 : a = e
  · by_cases h2 : b = f
    · by_cases h3 : c = g
      · by_cases h4 : d = h
        · exact .inr (.inr (.inr (.inr ⟨h1.symm, h2.symm, h3.symm, h4.symm⟩)))
        · exact .inr (.inr (.inr (.inl ⟨h1.symm, h2.symm, h3.symm, by simpa using h4⟩)))
      · exact .inr (.inr (.inl ⟨h1.symm, h2.symm, by simpa using h3⟩))
    · exact .inr (.inl ⟨h1.symm, by simpa using h2⟩)
  · exact .inl (by simpa using h1)
/-- Where a key lies, test by test. -/
theorem held_cases (p : PT) (kk kn : Int) (ks : ByteArray) (n : Int) (hn : (p.sn : Int) = n) (hk : okV ⟨kk, kn, ks⟩ = true) :
    (kk = 0) ∨ (kk ≠ 0 ∧ (kk == 0) = false ∧ (kk == 2) = false ∧ ¬ p.inB ⟨kk, kn, ks⟩) ∨ (kk = 2 ∧ decide (1 ≤ kn) = false ∧ ¬ p.inB ⟨kk, kn, ks⟩) ∨ (kk = 2 ∧ decide (1 ≤ kn) = true ∧ decide (kn ≤ n) = true ∧ p.inB ⟨kk, kn, ks⟩) ∨ (kk = 2 ∧ decide (1 ≤ kn) = true ∧ decide (kn ≤ n) = false ∧ ¬ p.inB ⟨kk, kn, ks⟩) := by
  by_cases h0 : kk = 0
  · exact .inl h0
  · by_cases h2 : kk = 2
    · by_cases h3 : 1 ≤ kn
      · by_cases h4 : kn ≤ n
        · refine .inr (.inr (.inr (.inl ⟨h2, by simpa using h3, by simpa using h4, h2, ?_, h3, by show kn ≤ p.sn; omega⟩)))
          subst h2
          rw [okV_2] at hk
          simpa using hk
        · exact .inr (.inr (.inr (.inr ⟨h2, by simpa using h3, by simpa using h4, fun h => by have := h.2.2.2; have e : kn ≤ (p.sn : Int) := this; omega⟩)))
      · exact .inr (.inr (.inl ⟨h2, by simpa using h3, fun h => h3 h.2.2.1⟩))
    · exact .inr (.inl ⟨h0, by simpa using h0, by simpa using h2, fun h => h2 h.1⟩)
set_option maxRecDepth 100000 in
set_option maxHeartbeats 6400000 in
theorem rowWalkKeys {vx : Value} {W : World} (x : CXX) (vk : Value) (f : CSX W vx x) (fk : IsVal vk) (w : World) : Calls Tryz.prog 7 #[vx, vk] W fun e w' => e = .returned (.bool true) ∧ Below W.heap.size W w' := by
  obtain ⟨kk0, kn0, ks0, rfl, -, -, -⟩ := fk
  have FC := Lib.hid f
  obtain rfl := f.e
  have HBX := Lib.hid ((CBX.new W x).below ((Below.refl _ _).alloc (Nat.le_refl _) (.cells #[.int .i64 kk0, .int .i64 kn0, .string ks0] 35)))
  have HBK : Hid (C3 ((W.alloc (.cells #[.int .i64 x.arr, .int .i64 x.hsh, .slice x.A x.l.length x.c] 63)).alloc (.cells #[.int .i64 kk0, .int .i64 kn0, .string ks0] 35)) (W.heap.size + 1) 0 ⟨kk0, kn0, ks0⟩) := Lib.hid (by
    have h := C3.new (W.alloc (.cells #[.int .i64 x.arr, .int .i64 x.hsh, .slice x.A x.l.length x.c] 63)) kk0 kn0 ks0
    rw [World.size_alloc] at h; exact h)
  have HB0 := Lib.hid (((Below.refl W.heap.size W).alloc (Nat.le_refl _) (.cells #[.int .i64 x.arr, .int .i64 x.hsh, .slice x.A x.l.length x.c] 63)).alloc (by rw [World.size_alloc]; omega) (.cells #[.int .i64 kk0, .int .i64 kn0, .string ks0] 35))
  clear f
  unfold CXX.val
  have hf0 : ∀ (a b c d : Int) (W : World), (Instr.field 56 (.agg #[.int .i64 a, .int .i64 b, .int .i64 c, .int .i64 d]) 0).run Tryz.prog W = .ok (.int .i64 a) W := fun a b c d W => by rfl
  have hfv : ∀ (a b : Int) (c : ByteArray) (W : World), (Instr.field 35 (.agg #[.int .i64 a, .int .i64 b, .string c]) 0).run Tryz.prog W = .ok (.int .i64 a) W := fun a b c W => by rfl
  go_enter Tryz.func7, Tryz.ntmps7
  go_wp2_with fail
  (with_reducible refine (law10_fixed _).mono ?_)
  rintro e w1 ⟨rfl, hb⟩
  have HX1 := Lib.hid (HBX.out.below hb)
  have HB1 := Lib.hid (below_step HB0.out hb)
  have HK1 := Lib.hid (HBK.out.below hb HBK.out.lt)
  clear hb
  obtain ⟨p0, p1, p2, -⟩ := HX1.out
  go_wp2_with fail
  (with_reducible refine (law10_begin x.arr x.hsh x.A x.l.length x.c W _ (twoX W.heap.size (W.heap.size + 1)) (fun q hq => by have := HX1.out.lt; have := HK1.out.lt; unfold twoX at hq; omega) HB1.out).mono ?_)
  rintro e w2 ⟨N, M, hp, a, Q, -, rfl, hm, hk⟩
  have HM := Lib.hid hm
  have HX2 := Lib.hid (HX1.out.keep (hk _ (.inl rfl)))
  have HK2 := Lib.hid (HK1.out.keep (hk _ (.inr rfl)))
  clear hm hk p0 p1 p2
  generalize newT (HS.new 400000) N M = t0 at HM
  generalize newH (HS.new 400000) N M = hs0 at HM
  go_wp2_with fail
  go_loopw [8] (fun i wr => ∃ (j : Nat) (t : Tbl) (hs : HS), j ≤ x.l.length ∧ j ≤ 300 ∧ i = .int .i64 j ∧ Hid (BS W (twoX W.heap.size (W.heap.size + 1)) hp a t hs (3 + 2 * j) wr) ∧ Hid (CBX wr W.heap.size x) ∧ Hid (C3 wr (W.heap.size + 1) 0 ⟨kk0, kn0, ks0⟩)) (fun i _ => x.l.length - (intOf i).toNat)
  case atStart => exact ⟨0, t0, hs0, Nat.zero_le _, Nat.zero_le _, rfl, HM, HX2, HK2⟩
  case round =>
    clear HM HX2 HBX HB0 HX1 HB1 HBK HK1 HK2
    obtain ⟨j, t, hs, hj, hj3, rfl, HM, HX, HK⟩ := hrel
    obtain ⟨p0, p1, p2, -⟩ := HX.out
    by_cases hc : j < x.l.length ∧ j < 300
    · obtain ⟨h1, h2⟩ := hc
      have d1 : decide ((j : Int) < (x.l.length : Int)) = true := by simp; omega
      have j1 : (j : Int) < (x.l.length : Int) := by omega
      have lx : (x.l.length : Int) ≤ 9223372036854775807 := by have := FC.out.le; have := FC.out.mx; omega
      have d2 : decide ((j : Int) < 300) = true := by simp; omega
      have j3 : (j : Int) < 300 := by omega
      obtain ⟨bx, ox, eA, hbx, hcx⟩ := FC.out.ops (by omega)
      rw [eA] at p2
      have HEA := Lib.hid eA
      clear eA
      have HCX := Lib.hid (hcx j h1)
      have HIX := Lib.hid (FC.out.in64 j)
      clear hcx
      generalize opX x.l j = z at HCX HIX
      obtain ⟨kd, ⟨kk, kn, kst⟩, ⟨vk, vn, vst⟩⟩ := z
      have HIX : Hid (In64 kn) := Lib.hid (by have h := HIX.out; unfold OX.ok In64V at h; exact h.2.1.2)
      have HJ := Lib.hid h2
      obtain ⟨c0, c1, c2, c3, c4, c5, c6⟩ := HCX.out.bel HM.out.bel hbx
      dsimp only at c0 c1 c2 c3 c4 c5 c6
      have HCX0 := HCX
      have HBXX := Lib.hid hbx
      obtain ⟨N5, hN5⟩ : ∃ N5 : Int, (t.p.sn : Int) = N5 := ⟨_, rfl⟩
      obtain ⟨m5, hm5⟩ : ∃ m5 : Int, (t.p.h.n : Int) = m5 := ⟨_, rfl⟩
      obtain ⟨f5, hf5⟩ : ∃ f5 : Int, (t.p.h.free : Int) = f5 := ⟨_, rfl⟩
      obtain ⟨x5, hx5⟩ : ∃ x5 : Int, t.hint = x5 := ⟨_, rfl⟩
      have HT0 : Hid ((t.p.sn : Int) = N5 ∧ (t.p.h.n : Int) = m5 ∧ (t.p.h.free : Int) = f5 ∧ t.hint = x5) := Lib.hid ⟨hN5, hm5, hf5, hx5⟩
      clear hN5 hm5 hf5 hx5 hbx c0 c1 c2 c3 c4 c5 c6
      go_wp2_with fail
      (with_reducible refine (BS.stats HM.out N5 m5 f5 x5 HT0.out.1 HT0.out.2.1 HT0.out.2.2.1 HT0.out.2.2.2).mono ?_)
      rintro e w2' ⟨rfl, hb⟩
      have hbw := hb.alloc hb.size (.cells #[.int .i64 N5, .int .i64 m5, .int .i64 f5, .int .i64 x5] 56)
      have HSB := Lib.hid (C4.new w2' (.int .i64 N5) (.int .i64 m5) (.int .i64 f5) (.int .i64 x5) 56)
      have HM3 := Lib.hid (BS.reserve (S' := trX W.heap.size (W.heap.size + 1) w2'.heap.size) HM.out hbw (fun q hq => by
        rcases hq with rfl | rfl | rfl
        · exact ⟨Nat.lt_of_lt_of_le HX.out.lt hbw.size, .inl (.inl rfl)⟩
        · exact ⟨Nat.lt_of_lt_of_le HK.out.lt hbw.size, .inl (.inr rfl)⟩
        · exact ⟨HSB.out.lt, .inr hb.size⟩))
      have HX3 := Lib.hid (HX.out.below hbw)
      have HK3 := Lib.hid (HK.out.below hbw HK.out.lt)
      have HM2 := Lib.hid (HM.out.below hb)
      have HX2' := Lib.hid (HX.out.below hb)
      clear hb hbw HM HX HK p0 p1 p2
      obtain ⟨⟨gk, gn, gs⟩, hgv⟩ : ∃ v, t.get ⟨kk, kn, kst⟩ = v := ⟨_, rfl⟩
      have HGV := Lib.hid hgv
      clear hgv
      obtain ⟨p0, p1, p2, pl⟩ := HX2'.out
      rw [HEA.out] at p2
      obtain ⟨c0, c1, c2, c3, c4, c5, c6⟩ := HCX0.out.bel HM2.out.bel HBXX.out
      dsimp only at c0 c1 c2 c3 c4 c5 c6
      have hbl : bx < w2'.heap.size := lt_cell c0
      go_wp2_with fail
      clear hbl pl HM2 HX2'
      generalize w2'.alloc (.cells #[.int .i64 N5, .int .i64 m5, .int .i64 f5, .int .i64 x5] 56) = w3 at HSB HM3 HX3 HK3 ⊢
      generalize w2'.heap.size = sb at HSB HM3 ⊢
      (with_reducible refine (BS.get HM3.out kk kn kst ⟨gk, gn, gs⟩ HGV.out).mono ?_)
      rintro e w4 ⟨t4, ⟨rfl, -⟩, hp4, hx, hk⟩
      have HM4 := Lib.hid hx
      have HP4 := Lib.hid hp4
      have HX4 := Lib.hid (HX3.out.keep (hk _ (.inl rfl)))
      have HK4 := Lib.hid (HK3.out.keep (hk _ (.inr (.inl rfl))))
      have HSB4 := Lib.hid (HSB.out.keep (hk _ (.inr (.inr rfl))))
      clear hx hp4 hk c0 c1 c2 c3 c4 c5 c6 p0 p1 p2 HM3 HX3 HK3 HSB
      obtain ⟨p0, p1, p2, -⟩ := HX4.out
      rw [HEA.out] at p2
      obtain ⟨c0, c1, c2, c3, c4, c5, c6⟩ := HCX0.out.bel HM4.out.bel HBXX.out
      dsimp only at c0 c1 c2 c3 c4 c5 c6
      go_wp2_with fail
      go_still_tail 13, (by kernel_rfl)
      change wpList _ _ _ _ _ w4.drew
      go_wp2_with fail
      (with_reducible refine ((HM4.out.below (Below.refl _ w4).drew).set (by have := HJ.out; omega) kk kn kst vk vn vst HIX.out).mono ?_)
      rintro e w5 ⟨rfl, hx, hk⟩
      have HKS : Hid (gk ≠ 0 → (t4.set hs ⟨kk, kn, kst⟩ ⟨vk, vn, vst⟩).1.p.nextE ⟨kk, kn, kst⟩ = 0) := Lib.hid (fun h => keys_set HM4.out.ok HIX.out (by
        have e : t4.get ⟨kk, kn, kst⟩ = ⟨gk, gn, gs⟩ := by have h2 := HGV.out; unfold Tbl.get at h2 ⊢; rw [HP4.out]; exact h2
        rw [e]; exact h))
      have HM5 := Lib.hid hx
      have HX5 := Lib.hid ((HX4.out.below (Below.refl _ w4).drew).keep (hk _ (.inl rfl)))
      have HK5 := Lib.hid (HK4.out.drew.keep (hk _ (.inr (.inl rfl))))
      have HSB5 := Lib.hid (HSB4.out.keep ((hk _ (.inr (.inr rfl))).trans rfl))
      clear hx hk c0 c1 c2 c3 c4 c5 c6 p0 p1 p2 HM4 HX4 HK4 HSB4
      generalize t4.set hs ⟨kk, kn, kst⟩ ⟨vk, vn, vst⟩ = r5 at HM5 HKS
      obtain ⟨t5, hs5, er⟩ := r5
      dsimp only at HM5 HKS
      obtain ⟨p0, p1, p2, -⟩ := HX5.out
      rw [HEA.out] at p2
      obtain ⟨c0, c1, c2, c3, c4, c5, c6⟩ := HCX0.out.bel HM5.out.bel HBXX.out
      dsimp only at c0 c1 c2 c3 c4 c5 c6
      obtain ⟨⟨⟨nk, nn, ns⟩, ⟨uk, un, us⟩⟩, hnp⟩ : ∃ z, t5.p.nextP ⟨kk, kn, kst⟩ = z := ⟨_, rfl⟩
      obtain ⟨ee, hee⟩ : ∃ z, t5.p.nextE ⟨kk, kn, kst⟩ = z := ⟨_, rfl⟩
      have HNP := Lib.hid hnp; have HEE := Lib.hid hee
      clear hnp hee
      go_wp2_with fail
      (with_reducible refine (BS.next HM5.out kk kn kst (⟨nk, nn, ns⟩, ⟨uk, un, us⟩) ee HNP.out HEE.out).mono ?_)
      rintro e w5' ⟨t6, ⟨rfl, -⟩, hp6, hx, hk⟩
      have hbw := ((Below.refl w5'.heap.size w5').alloc (Nat.le_refl _) (.cells #[.int .i64 nk, .int .i64 nn, .string ns] 35)).alloc (by rw [World.size_alloc]; omega) (.cells #[.int .i64 uk, .int .i64 un, .string us] 35)
      have HM6 := Lib.hid (hx.below hbw)
      have HX6 := Lib.hid ((HX5.out.keep (hk _ (.inl rfl))).below hbw)
      have h6 := HK5.out.keep (hk _ (.inr (.inl rfl)))
      have HK6 := Lib.hid (h6.below hbw h6.lt)
      have h7 := HSB5.out.keep (hk _ (.inr (.inr rfl)))
      have HSB6 := Lib.hid (h7.below hbw h7.lt)
      clear hx hp6 hk hbw h6 h7 c0 c1 c2 c3 c4 c5 c6 p0 p1 p2 HM5 HX5 HK5 HSB5
      dsimp only
      go_wp2_with fail
      generalize ((w5'.alloc (.cells #[.int .i64 nk, .int .i64 nn, .string ns] 35)).alloc (.cells #[.int .i64 uk, .int .i64 un, .string us] 35)) = w6 at HM6 HX6 HK6 HSB6 ⊢
      obtain ⟨N6, hN6⟩ : ∃ N6 : Int, (t6.p.sn : Int) = N6 := ⟨_, rfl⟩
      obtain ⟨m6, hm6⟩ : ∃ m6 : Int, (t6.p.h.n : Int) = m6 := ⟨_, rfl⟩
      obtain ⟨f6, hf6⟩ : ∃ f6 : Int, (t6.p.h.free : Int) = f6 := ⟨_, rfl⟩
      obtain ⟨x6, hx6⟩ : ∃ x6 : Int, t6.hint = x6 := ⟨_, rfl⟩
      have HT6 : Hid ((t6.p.sn : Int) = N6 ∧ (t6.p.h.n : Int) = m6 ∧ (t6.p.h.free : Int) = f6 ∧ t6.hint = x6) := Lib.hid ⟨hN6, hm6, hf6, hx6⟩
      clear hN6 hm6 hf6 hx6
      have HSS : Hid (∀ w' : World, Below w6.heap.size w6 w' → w'.cell? ⟨sb, 0, none⟩ = some (.int .i64 N5) ∧ w'.cell? ⟨sb, 1, none⟩ = some (.int .i64 m5) ∧ w'.cell? ⟨sb, 2, none⟩ = some (.int .i64 f5) ∧ w'.cell? ⟨sb, 3, none⟩ = some (.int .i64 x5)) := Lib.hid (fun w' hb => by
        have h := HSB6.out.below hb HSB6.out.lt
        exact ⟨h.c0, h.c1, h.c2, h.c3⟩)
      by_cases hgk : gk = 0
      · have dg : (gk != 0) = false := by simpa using hgk
        try rw [dg]
        clear hgk
        go_wp2_with fail
        refine wp_region_held_drew (S := (fun w' => w'.cell? ⟨sb, 0, none⟩ = some (.int .i64 N5) ∧ w'.cell? ⟨sb, 1, none⟩ = some (.int .i64 m5) ∧ w'.cell? ⟨sb, 2, none⟩ = some (.int .i64 f5) ∧ w'.cell? ⟨sb, 3, none⟩ = some (.int .i64 x5))) (by kernel_rfl) ?_ (fun hH0n => ?_)
        · with_reducible exact HSS.out _ (Below.refl _ w6).drew
        refine wpAnyH_take (i := 0) (oi := ?oin0) (v := ?vn0) ?hin0 (by kernel_rfl) (by kernel_rfl) (by kernel_rfl) ?hQn0 ?hyn0 (by assumption) ?_; (case hin0 => (simp only [List.getElem?_toArray, List.getElem?_cons_succ, List.getElem?_cons_zero]; try rfl)); (case hQn0 => exact fun _ _ _ h => h)
        case hyn0 => (refine Or.inl ⟨by rfl, ?_⟩; intro w' hSw; (try dsimp only at hSw); go_simp; try with_reducible rfl)
        try simp only [Act.put, List.setIfInBounds_toArray, List.set_cons_zero, List.set_cons_succ]
        refine wpAnyH_take (i := 1) (oi := ?oin1) (v := ?vn1) ?hin1 (by kernel_rfl) (by kernel_rfl) (by kernel_rfl) ?hQn1 ?hyn1 (by assumption) ?_; (case hin1 => (simp only [List.getElem?_toArray, List.getElem?_cons_succ, List.getElem?_cons_zero]; try rfl)); (case hQn1 => exact fun _ _ _ h => h)
        case hyn1 => (refine Or.inl ⟨by rfl, ?_⟩; intro w' hSw; (try dsimp only at hSw); go_simp; try with_reducible rfl)
        try simp only [Act.put, List.setIfInBounds_toArray, List.set_cons_zero, List.set_cons_succ]
        refine wpAnyH_take (i := 2) (oi := ?oin2) (v := undef) ?hin2 (by kernel_rfl) (by kernel_rfl) (by kernel_rfl) ?hQn2 ?hyn2 (by assumption) ?_; (case hin2 => (simp only [List.getElem?_toArray, List.getElem?_cons_succ, List.getElem?_cons_zero]; try rfl)); (case hQn2 => exact fun _ _ _ h => h)
        case hyn2 => exact Or.inr ⟨by rfl, rfl⟩
        try simp only [Act.put, List.setIfInBounds_toArray, List.set_cons_zero, List.set_cons_succ]
        refine wpAnyH_take (i := 3) (oi := ?oin3) (v := undef) ?hin3 (by kernel_rfl) (by kernel_rfl) (by kernel_rfl) ?hQn3 ?hyn3 (by assumption) ?_; (case hin3 => (simp only [List.getElem?_toArray, List.getElem?_cons_succ, List.getElem?_cons_zero]; try rfl)); (case hQn3 => exact fun _ _ _ h => h)
        case hyn3 => exact Or.inr ⟨by rfl, rfl⟩
        try simp only [Act.put, List.setIfInBounds_toArray, List.set_cons_zero, List.set_cons_succ]
        refine wpAnyH_take (i := 4) (oi := ?oin4) (v := undef) ?hin4 (by kernel_rfl) (by kernel_rfl) (by kernel_rfl) ?hQn4 ?hyn4 (by assumption) ?_; (case hin4 => (simp only [List.getElem?_toArray, List.getElem?_cons_succ, List.getElem?_cons_zero]; try rfl)); (case hQn4 => exact fun _ _ _ h => h)
        case hyn4 => exact Or.inr ⟨by rfl, rfl⟩
        try simp only [Act.put, List.setIfInBounds_toArray, List.set_cons_zero, List.set_cons_succ]
        refine wpAnyH_take (i := 5) (oi := ?oin5) (v := undef) ?hin5 (by kernel_rfl) (by kernel_rfl) (by kernel_rfl) ?hQn5 ?hyn5 (by assumption) ?_; (case hin5 => (simp only [List.getElem?_toArray, List.getElem?_cons_succ, List.getElem?_cons_zero]; try rfl)); (case hQn5 => exact fun _ _ _ h => h)
        case hyn5 => exact Or.inr ⟨by rfl, rfl⟩
        try simp only [Act.put, List.setIfInBounds_toArray, List.set_cons_zero, List.set_cons_succ]
        refine wpAnyH_take (i := 6) (oi := ?oin6) (v := ?vn6) ?hin6 (by kernel_rfl) (by kernel_rfl) (by kernel_rfl) ?hQn6 ?hyn6 (by assumption) ?_; (case hin6 => (simp only [List.getElem?_toArray, List.getElem?_cons_succ, List.getElem?_cons_zero]; try rfl)); (case hQn6 => exact fun _ _ _ h => h)
        case hyn6 => (refine Or.inl ⟨by rfl, ?_⟩; intro w' hSw; (try dsimp only at hSw); go_simp; try with_reducible rfl)
        try simp only [Act.put, List.setIfInBounds_toArray, List.set_cons_zero, List.set_cons_succ]
        refine wpAnyH_take (i := 7) (oi := ?oin7) (v := ?vn7) ?hin7 (by kernel_rfl) (by kernel_rfl) (by kernel_rfl) ?hQn7 ?hyn7 (by assumption) ?_; (case hin7 => (simp only [List.getElem?_toArray, List.getElem?_cons_succ, List.getElem?_cons_zero]; try rfl)); (case hQn7 => exact fun _ _ _ h => h)
        case hyn7 => (refine Or.inl ⟨by rfl, ?_⟩; intro w' hSw; (try dsimp only at hSw); go_simp; try with_reducible rfl)
        try simp only [Act.put, List.setIfInBounds_toArray, List.set_cons_zero, List.set_cons_succ]
        refine wpAnyH_take (i := 8) (oi := ?oin8) (v := undef) ?hin8 (by kernel_rfl) (by kernel_rfl) (by kernel_rfl) ?hQn8 ?hyn8 (by assumption) ?_; (case hin8 => (simp only [List.getElem?_toArray, List.getElem?_cons_succ, List.getElem?_cons_zero]; try rfl)); (case hQn8 => exact fun _ _ _ h => h)
        case hyn8 => exact Or.inr ⟨by rfl, rfl⟩
        try simp only [Act.put, List.setIfInBounds_toArray, List.set_cons_zero, List.set_cons_succ]
        refine wpAnyH_take (i := 9) (oi := ?oin9) (v := undef) ?hin9 (by kernel_rfl) (by kernel_rfl) (by kernel_rfl) ?hQn9 ?hyn9 (by assumption) ?_; (case hin9 => (simp only [List.getElem?_toArray, List.getElem?_cons_succ, List.getElem?_cons_zero]; try rfl)); (case hQn9 => exact fun _ _ _ h => h)
        case hyn9 => exact Or.inr ⟨by rfl, rfl⟩
        try simp only [Act.put, List.setIfInBounds_toArray, List.set_cons_zero, List.set_cons_succ]
        refine wpAnyH_take (i := 10) (oi := ?oin10) (v := ?vn10) ?hin10 (by kernel_rfl) (by kernel_rfl) (by kernel_rfl) ?hQn10 ?hyn10 (by assumption) ?_; (case hin10 => (simp only [List.getElem?_toArray, List.getElem?_cons_succ, List.getElem?_cons_zero]; try rfl)); (case hQn10 => exact fun _ _ _ h => h)
        case hyn10 => (refine Or.inl ⟨by rfl, ?_⟩; intro w' hSw; (try dsimp only at hSw); go_simp; try with_reducible rfl)
        try simp only [Act.put, List.setIfInBounds_toArray, List.set_cons_zero, List.set_cons_succ]
        refine wpAnyH_done (by kernel_rfl) ?_ _
        have HM7 := Lib.hid (BS.reserve (S' := twoX W.heap.size (W.heap.size + 1)) HM6.out (Below.refl w6.heap.size w6).drew (fun q hq => ⟨Nat.lt_of_lt_of_le (HM6.out.keepS q (hq.imp id .inl)) ((Below.refl w6.heap.size w6).drew).size, .inl (hq.imp id .inl)⟩))
        have HX7 := Lib.hid (HX6.out.below (Below.refl w6.heap.size w6).drew)
        have HK7 := Lib.hid (HK6.out.below (Below.refl w6.heap.size w6).drew HK6.out.lt)
        go_wp2_with fail
        go_roundw
        case rel => exact ⟨j + 1, t6, hs5, by omega, by omega, by go_num, Lib.hid (HM7.out.mono (by omega)), HX7, HK7⟩
        case measure => simp [intOf]; omega
      · have dg : (gk != 0) = true := by simpa using hgk
        obtain rfl : ee = 0 := by rw [← HEE.out]; exact HKS.out hgk
        try rw [dg]
        clear hgk
        rcases four_cases N6 m6 f6 x6 N5 m5 f5 x5 with e1 | ⟨e1, e2⟩ | ⟨e1, e2, e3⟩ | ⟨e1, e2, e3, e4⟩ | ⟨e1, e2, e3, e4⟩
        · go_wp2_with fail
          refine wp_region_held_drew (S := (fun w' => w'.cell? ⟨sb, 0, none⟩ = some (.int .i64 N5) ∧ w'.cell? ⟨sb, 1, none⟩ = some (.int .i64 m5) ∧ w'.cell? ⟨sb, 2, none⟩ = some (.int .i64 f5) ∧ w'.cell? ⟨sb, 3, none⟩ = some (.int .i64 x5))) (by kernel_rfl) ?_ (fun hH0a => ?_)
          · with_reducible exact HSS.out _ (Below.refl _ w6).drew
          refine wpAnyH_take (i := 0) (oi := ?oia0) (v := ?va0) ?hia0 (by kernel_rfl) (by kernel_rfl) (by kernel_rfl) ?hQa0 ?hya0 (by assumption) ?_; (case hia0 => (simp only [List.getElem?_toArray, List.getElem?_cons_succ, List.getElem?_cons_zero]; try rfl)); (case hQa0 => exact fun _ _ _ h => h)
          case hya0 => (refine Or.inl ⟨by rfl, ?_⟩; intro w' hSw; (try dsimp only at hSw); go_simp; try with_reducible rfl)
          try simp only [Act.put, List.setIfInBounds_toArray, List.set_cons_zero, List.set_cons_succ]
          refine wpAnyH_take (i := 1) (oi := ?oia1) (v := ?va1) ?hia1 (by kernel_rfl) (by kernel_rfl) (by kernel_rfl) ?hQa1 ?hya1 (by assumption) ?_; (case hia1 => (simp only [List.getElem?_toArray, List.getElem?_cons_succ, List.getElem?_cons_zero]; try rfl)); (case hQa1 => exact fun _ _ _ h => h)
          case hya1 => (refine Or.inl ⟨by rfl, ?_⟩; intro w' hSw; (try dsimp only at hSw); go_simp; try with_reducible rfl)
          try simp only [Act.put, List.setIfInBounds_toArray, List.set_cons_zero, List.set_cons_succ]
          refine wpAnyH_take (i := 2) (oi := ?oia2) (v := ?va2) ?hia2 (by kernel_rfl) (by kernel_rfl) (by kernel_rfl) ?hQa2 ?hya2 (by assumption) ?_; (case hia2 => (simp only [List.getElem?_toArray, List.getElem?_cons_succ, List.getElem?_cons_zero]; try rfl)); (case hQa2 => exact fun _ _ _ h => h)
          case hya2 => (refine Or.inl ⟨by rfl, ?_⟩; intro w' hSw; (try dsimp only at hSw); go_simp; try with_reducible rfl)
          try simp only [Act.put, List.setIfInBounds_toArray, List.set_cons_zero, List.set_cons_succ]
          refine wpAnyH_take (i := 4) (oi := ?oia4) (v := ?va4) ?hia4 (by kernel_rfl) (by kernel_rfl) (by kernel_rfl) ?hQa4 ?hya4 (by assumption) ?_; (case hia4 => (simp only [List.getElem?_toArray, List.getElem?_cons_succ, List.getElem?_cons_zero]; try rfl)); (case hQa4 => exact fun _ _ _ h => h)
          case hya4 => (refine Or.inl ⟨by rfl, ?_⟩; intro w' hSw; (try dsimp only at hSw); go_simp; try with_reducible rfl)
          try simp only [Act.put, List.setIfInBounds_toArray, List.set_cons_zero, List.set_cons_succ]
          refine wpAnyH_ready (rs := [3]) (by kernel_rfl) (by simp) ?_
          refine AllReadyH.cons (o := ?oa3) ?hoa3 (fun K hK => ?_) AllReadyH.nil
          case hoa3 =>
            simp only [List.getElem?_toArray, List.getElem?_cons_succ, List.getElem?_cons_zero]
            try rfl
          go_simp
          (with_reducible refine (BS.stats (HM6.out.below (Below.refl _ w6).drew) _ _ _ _ HT6.out.1 HT6.out.2.1 HT6.out.2.2.1 HT6.out.2.2.2).mono ?_)
          rintro e wB ⟨rfl, hb⟩
          have HBB := Lib.hid (below_step (Below.refl w6.heap.size w6).drew hb)
          clear hb
          go_wp2_with fail
          refine hK.out _ _ ?_ (fun hH1a => ?_)
          · with_reducible exact HSS.out _ HBB.out
          clear hK K hH0a
          try simp only [Act.put, List.setIfInBounds_toArray, List.set_cons_zero, List.set_cons_succ]
          refine wpAnyH_take (i := 5) (oi := ?oia5) (v := ?va5) ?hia5 (by kernel_rfl) (by kernel_rfl) (by kernel_rfl) ?hQa5 ?hya5 (by assumption) ?_; (case hia5 => (simp only [List.getElem?_toArray, List.getElem?_cons_succ, List.getElem?_cons_zero]; try rfl)); (case hQa5 => exact fun _ _ _ h => h)
          case hya5 => (refine Or.inl ⟨by rfl, ?_⟩; intro w' hSw; (try dsimp only at hSw); go_simp; try with_reducible rfl)
          try simp only [Act.put, List.setIfInBounds_toArray, List.set_cons_zero, List.set_cons_succ]
          refine wpAnyH_take (i := 6) (oi := ?oia6) (v := ?va6) ?hia6 (by kernel_rfl) (by kernel_rfl) (by kernel_rfl) ?hQa6 ?hya6 (by assumption) ?_; (case hia6 => (simp only [List.getElem?_toArray, List.getElem?_cons_succ, List.getElem?_cons_zero]; try rfl)); (case hQa6 => exact fun _ _ _ h => h)
          case hya6 => (refine Or.inl ⟨by rfl, ?_⟩; intro w' hSw; (try dsimp only at hSw); go_simp; try with_reducible rfl)
          try simp only [Act.put, List.setIfInBounds_toArray, List.set_cons_zero, List.set_cons_succ]
          refine wpAnyH_take (i := 7) (oi := ?oia7) (v := ?va7) ?hia7 (by kernel_rfl) (by kernel_rfl) (by kernel_rfl) ?hQa7 ?hya7 (by assumption) ?_; (case hia7 => (simp only [List.getElem?_toArray, List.getElem?_cons_succ, List.getElem?_cons_zero]; try rfl)); (case hQa7 => exact fun _ _ _ h => h)
          case hya7 => (refine Or.inl ⟨by rfl, ?_⟩; intro w' hSw; (try dsimp only at hSw); go_simp; try with_reducible rfl)
          try simp only [Act.put, List.setIfInBounds_toArray, List.set_cons_zero, List.set_cons_succ]
          refine wpAnyH_take (i := 8) (oi := ?oia8) (v := undef) ?hia8 (by kernel_rfl) (by kernel_rfl) (by kernel_rfl) ?hQa8 ?hya8 (by assumption) ?_; (case hia8 => (simp only [List.getElem?_toArray, List.getElem?_cons_succ, List.getElem?_cons_zero]; try rfl)); (case hQa8 => exact fun _ _ _ h => h)
          case hya8 => exact Or.inr ⟨by rfl, rfl⟩
          try simp only [Act.put, List.setIfInBounds_toArray, List.set_cons_zero, List.set_cons_succ]
          refine wpAnyH_take (i := 9) (oi := ?oia9) (v := undef) ?hia9 (by kernel_rfl) (by kernel_rfl) (by kernel_rfl) ?hQa9 ?hya9 (by assumption) ?_; (case hia9 => (simp only [List.getElem?_toArray, List.getElem?_cons_succ, List.getElem?_cons_zero]; try rfl)); (case hQa9 => exact fun _ _ _ h => h)
          case hya9 => exact Or.inr ⟨by rfl, rfl⟩
          try simp only [Act.put, List.setIfInBounds_toArray, List.set_cons_zero, List.set_cons_succ]
          refine wpAnyH_take (i := 10) (oi := ?oia10) (v := ?va10) ?hia10 (by kernel_rfl) (by kernel_rfl) (by kernel_rfl) ?hQa10 ?hya10 (by assumption) ?_; (case hia10 => (simp only [List.getElem?_toArray, List.getElem?_cons_succ, List.getElem?_cons_zero]; try rfl)); (case hQa10 => exact fun _ _ _ h => h)
          case hya10 => (refine Or.inl ⟨by rfl, ?_⟩; intro w' hSw; (try dsimp only at hSw); go_simp; try with_reducible rfl)
          try simp only [Act.put, List.setIfInBounds_toArray, List.set_cons_zero, List.set_cons_succ]
          refine wpAnyH_done (by kernel_rfl) ?_ _
          have HM7 := Lib.hid (BS.reserve (S' := twoX W.heap.size (W.heap.size + 1)) HM6.out HBB.out (fun q hq => ⟨Nat.lt_of_lt_of_le (HM6.out.keepS q (hq.imp id .inl)) (HBB.out).size, .inl (hq.imp id .inl)⟩))
          have HX7 := Lib.hid (HX6.out.below HBB.out)
          have HK7 := Lib.hid (HK6.out.below HBB.out HK6.out.lt)
          go_wp2_with fail
          go_roundw
          case rel => exact ⟨j + 1, t6, hs5, by omega, by omega, by go_num, Lib.hid (HM7.out.mono (by omega)), HX7, HK7⟩
          case measure => simp [intOf]; omega
        · subst e1
          go_wp2_with fail
          refine wp_region_held_drew (S := (fun w' => w'.cell? ⟨sb, 0, none⟩ = some (.int .i64 N5) ∧ w'.cell? ⟨sb, 1, none⟩ = some (.int .i64 m5) ∧ w'.cell? ⟨sb, 2, none⟩ = some (.int .i64 f5) ∧ w'.cell? ⟨sb, 3, none⟩ = some (.int .i64 x5))) (by kernel_rfl) ?_ (fun hH0b => ?_)
          · with_reducible exact HSS.out _ (Below.refl _ w6).drew
          refine wpAnyH_take (i := 0) (oi := ?oib0) (v := ?vb0) ?hib0 (by kernel_rfl) (by kernel_rfl) (by kernel_rfl) ?hQb0 ?hyb0 (by assumption) ?_; (case hib0 => (simp only [List.getElem?_toArray, List.getElem?_cons_succ, List.getElem?_cons_zero]; try rfl)); (case hQb0 => exact fun _ _ _ h => h)
          case hyb0 => (refine Or.inl ⟨by rfl, ?_⟩; intro w' hSw; (try dsimp only at hSw); go_simp; try with_reducible rfl)
          try simp only [Act.put, List.setIfInBounds_toArray, List.set_cons_zero, List.set_cons_succ]
          refine wpAnyH_take (i := 1) (oi := ?oib1) (v := ?vb1) ?hib1 (by kernel_rfl) (by kernel_rfl) (by kernel_rfl) ?hQb1 ?hyb1 (by assumption) ?_; (case hib1 => (simp only [List.getElem?_toArray, List.getElem?_cons_succ, List.getElem?_cons_zero]; try rfl)); (case hQb1 => exact fun _ _ _ h => h)
          case hyb1 => (refine Or.inl ⟨by rfl, ?_⟩; intro w' hSw; (try dsimp only at hSw); go_simp; try with_reducible rfl)
          try simp only [Act.put, List.setIfInBounds_toArray, List.set_cons_zero, List.set_cons_succ]
          refine wpAnyH_take (i := 2) (oi := ?oib2) (v := ?vb2) ?hib2 (by kernel_rfl) (by kernel_rfl) (by kernel_rfl) ?hQb2 ?hyb2 (by assumption) ?_; (case hib2 => (simp only [List.getElem?_toArray, List.getElem?_cons_succ, List.getElem?_cons_zero]; try rfl)); (case hQb2 => exact fun _ _ _ h => h)
          case hyb2 => (refine Or.inl ⟨by rfl, ?_⟩; intro w' hSw; (try dsimp only at hSw); go_simp; try with_reducible rfl)
          try simp only [Act.put, List.setIfInBounds_toArray, List.set_cons_zero, List.set_cons_succ]
          refine wpAnyH_take (i := 4) (oi := ?oib4) (v := ?vb4) ?hib4 (by kernel_rfl) (by kernel_rfl) (by kernel_rfl) ?hQb4 ?hyb4 (by assumption) ?_; (case hib4 => (simp only [List.getElem?_toArray, List.getElem?_cons_succ, List.getElem?_cons_zero]; try rfl)); (case hQb4 => exact fun _ _ _ h => h)
          case hyb4 => (refine Or.inl ⟨by rfl, ?_⟩; intro w' hSw; (try dsimp only at hSw); go_simp; try with_reducible rfl)
          try simp only [Act.put, List.setIfInBounds_toArray, List.set_cons_zero, List.set_cons_succ]
          refine wpAnyH_ready (rs := [3]) (by kernel_rfl) (by simp) ?_
          refine AllReadyH.cons (o := ?ob3) ?hob3 (fun K hK => ?_) AllReadyH.nil
          case hob3 =>
            simp only [List.getElem?_toArray, List.getElem?_cons_succ, List.getElem?_cons_zero]
            try rfl
          go_simp
          (with_reducible refine (BS.stats (HM6.out.below (Below.refl _ w6).drew) _ _ _ _ HT6.out.1 HT6.out.2.1 HT6.out.2.2.1 HT6.out.2.2.2).mono ?_)
          rintro e wB ⟨rfl, hb⟩
          have HBB := Lib.hid (below_step (Below.refl w6.heap.size w6).drew hb)
          clear hb
          go_wp2_with fail
          refine hK.out _ _ ?_ (fun hH1b => ?_)
          · with_reducible exact HSS.out _ HBB.out
          clear hK K hH0b
          try simp only [Act.put, List.setIfInBounds_toArray, List.set_cons_zero, List.set_cons_succ]
          refine wpAnyH_take (i := 5) (oi := ?oib5) (v := ?vb5) ?hib5 (by kernel_rfl) (by kernel_rfl) (by kernel_rfl) ?hQb5 ?hyb5 (by assumption) ?_; (case hib5 => (simp only [List.getElem?_toArray, List.getElem?_cons_succ, List.getElem?_cons_zero]; try rfl)); (case hQb5 => exact fun _ _ _ h => h)
          case hyb5 => (refine Or.inl ⟨by rfl, ?_⟩; intro w' hSw; (try dsimp only at hSw); go_simp; try with_reducible rfl)
          try simp only [Act.put, List.setIfInBounds_toArray, List.set_cons_zero, List.set_cons_succ]
          refine wpAnyH_take (i := 6) (oi := ?oib6) (v := ?vb6) ?hib6 (by kernel_rfl) (by kernel_rfl) (by kernel_rfl) ?hQb6 ?hyb6 (by assumption) ?_; (case hib6 => (simp only [List.getElem?_toArray, List.getElem?_cons_succ, List.getElem?_cons_zero]; try rfl)); (case hQb6 => exact fun _ _ _ h => h)
          case hyb6 => (refine Or.inl ⟨by rfl, ?_⟩; intro w' hSw; (try dsimp only at hSw); go_simp; try with_reducible rfl)
          try simp only [Act.put, List.setIfInBounds_toArray, List.set_cons_zero, List.set_cons_succ]
          refine wpAnyH_take (i := 7) (oi := ?oib7) (v := ?vb7) ?hib7 (by kernel_rfl) (by kernel_rfl) (by kernel_rfl) ?hQb7 ?hyb7 (by assumption) ?_; (case hib7 => (simp only [List.getElem?_toArray, List.getElem?_cons_succ, List.getElem?_cons_zero]; try rfl)); (case hQb7 => exact fun _ _ _ h => h)
          case hyb7 => (refine Or.inl ⟨by rfl, ?_⟩; intro w' hSw; (try dsimp only at hSw); go_simp; try with_reducible rfl)
          try simp only [Act.put, List.setIfInBounds_toArray, List.set_cons_zero, List.set_cons_succ]
          refine wpAnyH_take (i := 8) (oi := ?oib8) (v := undef) ?hib8 (by kernel_rfl) (by kernel_rfl) (by kernel_rfl) ?hQb8 ?hyb8 (by assumption) ?_; (case hib8 => (simp only [List.getElem?_toArray, List.getElem?_cons_succ, List.getElem?_cons_zero]; try rfl)); (case hQb8 => exact fun _ _ _ h => h)
          case hyb8 => exact Or.inr ⟨by rfl, rfl⟩
          try simp only [Act.put, List.setIfInBounds_toArray, List.set_cons_zero, List.set_cons_succ]
          refine wpAnyH_take (i := 9) (oi := ?oib9) (v := undef) ?hib9 (by kernel_rfl) (by kernel_rfl) (by kernel_rfl) ?hQb9 ?hyb9 (by assumption) ?_; (case hib9 => (simp only [List.getElem?_toArray, List.getElem?_cons_succ, List.getElem?_cons_zero]; try rfl)); (case hQb9 => exact fun _ _ _ h => h)
          case hyb9 => exact Or.inr ⟨by rfl, rfl⟩
          try simp only [Act.put, List.setIfInBounds_toArray, List.set_cons_zero, List.set_cons_succ]
          refine wpAnyH_take (i := 10) (oi := ?oib10) (v := ?vb10) ?hib10 (by kernel_rfl) (by kernel_rfl) (by kernel_rfl) ?hQb10 ?hyb10 (by assumption) ?_; (case hib10 => (simp only [List.getElem?_toArray, List.getElem?_cons_succ, List.getElem?_cons_zero]; try rfl)); (case hQb10 => exact fun _ _ _ h => h)
          case hyb10 => (refine Or.inl ⟨by rfl, ?_⟩; intro w' hSw; (try dsimp only at hSw); go_simp; try with_reducible rfl)
          try simp only [Act.put, List.setIfInBounds_toArray, List.set_cons_zero, List.set_cons_succ]
          refine wpAnyH_done (by kernel_rfl) ?_ _
          have HM7 := Lib.hid (BS.reserve (S' := twoX W.heap.size (W.heap.size + 1)) HM6.out HBB.out (fun q hq => ⟨Nat.lt_of_lt_of_le (HM6.out.keepS q (hq.imp id .inl)) (HBB.out).size, .inl (hq.imp id .inl)⟩))
          have HX7 := Lib.hid (HX6.out.below HBB.out)
          have HK7 := Lib.hid (HK6.out.below HBB.out HK6.out.lt)
          go_wp2_with fail
          go_roundw
          case rel => exact ⟨j + 1, t6, hs5, by omega, by omega, by go_num, Lib.hid (HM7.out.mono (by omega)), HX7, HK7⟩
          case measure => simp [intOf]; omega
        · subst e1 e2
          go_wp2_with fail
          refine wp_region_held_drew (S := (fun w' => w'.cell? ⟨sb, 0, none⟩ = some (.int .i64 N5) ∧ w'.cell? ⟨sb, 1, none⟩ = some (.int .i64 m5) ∧ w'.cell? ⟨sb, 2, none⟩ = some (.int .i64 f5) ∧ w'.cell? ⟨sb, 3, none⟩ = some (.int .i64 x5))) (by kernel_rfl) ?_ (fun hH0c => ?_)
          · with_reducible exact HSS.out _ (Below.refl _ w6).drew
          refine wpAnyH_take (i := 0) (oi := ?oic0) (v := ?vc0) ?hic0 (by kernel_rfl) (by kernel_rfl) (by kernel_rfl) ?hQc0 ?hyc0 (by assumption) ?_; (case hic0 => (simp only [List.getElem?_toArray, List.getElem?_cons_succ, List.getElem?_cons_zero]; try rfl)); (case hQc0 => exact fun _ _ _ h => h)
          case hyc0 => (refine Or.inl ⟨by rfl, ?_⟩; intro w' hSw; (try dsimp only at hSw); go_simp; try with_reducible rfl)
          try simp only [Act.put, List.setIfInBounds_toArray, List.set_cons_zero, List.set_cons_succ]
          refine wpAnyH_take (i := 1) (oi := ?oic1) (v := ?vc1) ?hic1 (by kernel_rfl) (by kernel_rfl) (by kernel_rfl) ?hQc1 ?hyc1 (by assumption) ?_; (case hic1 => (simp only [List.getElem?_toArray, List.getElem?_cons_succ, List.getElem?_cons_zero]; try rfl)); (case hQc1 => exact fun _ _ _ h => h)
          case hyc1 => (refine Or.inl ⟨by rfl, ?_⟩; intro w' hSw; (try dsimp only at hSw); go_simp; try with_reducible rfl)
          try simp only [Act.put, List.setIfInBounds_toArray, List.set_cons_zero, List.set_cons_succ]
          refine wpAnyH_take (i := 2) (oi := ?oic2) (v := ?vc2) ?hic2 (by kernel_rfl) (by kernel_rfl) (by kernel_rfl) ?hQc2 ?hyc2 (by assumption) ?_; (case hic2 => (simp only [List.getElem?_toArray, List.getElem?_cons_succ, List.getElem?_cons_zero]; try rfl)); (case hQc2 => exact fun _ _ _ h => h)
          case hyc2 => (refine Or.inl ⟨by rfl, ?_⟩; intro w' hSw; (try dsimp only at hSw); go_simp; try with_reducible rfl)
          try simp only [Act.put, List.setIfInBounds_toArray, List.set_cons_zero, List.set_cons_succ]
          refine wpAnyH_take (i := 4) (oi := ?oic4) (v := ?vc4) ?hic4 (by kernel_rfl) (by kernel_rfl) (by kernel_rfl) ?hQc4 ?hyc4 (by assumption) ?_; (case hic4 => (simp only [List.getElem?_toArray, List.getElem?_cons_succ, List.getElem?_cons_zero]; try rfl)); (case hQc4 => exact fun _ _ _ h => h)
          case hyc4 => (refine Or.inl ⟨by rfl, ?_⟩; intro w' hSw; (try dsimp only at hSw); go_simp; try with_reducible rfl)
          try simp only [Act.put, List.setIfInBounds_toArray, List.set_cons_zero, List.set_cons_succ]
          refine wpAnyH_ready (rs := [3]) (by kernel_rfl) (by simp) ?_
          refine AllReadyH.cons (o := ?oc3) ?hoc3 (fun K hK => ?_) AllReadyH.nil
          case hoc3 =>
            simp only [List.getElem?_toArray, List.getElem?_cons_succ, List.getElem?_cons_zero]
            try rfl
          go_simp
          (with_reducible refine (BS.stats (HM6.out.below (Below.refl _ w6).drew) _ _ _ _ HT6.out.1 HT6.out.2.1 HT6.out.2.2.1 HT6.out.2.2.2).mono ?_)
          rintro e wB ⟨rfl, hb⟩
          have HBB := Lib.hid (below_step (Below.refl w6.heap.size w6).drew hb)
          clear hb
          go_wp2_with fail
          refine hK.out _ _ ?_ (fun hH1c => ?_)
          · with_reducible exact HSS.out _ HBB.out
          clear hK K hH0c
          try simp only [Act.put, List.setIfInBounds_toArray, List.set_cons_zero, List.set_cons_succ]
          refine wpAnyH_take (i := 5) (oi := ?oic5) (v := ?vc5) ?hic5 (by kernel_rfl) (by kernel_rfl) (by kernel_rfl) ?hQc5 ?hyc5 (by assumption) ?_; (case hic5 => (simp only [List.getElem?_toArray, List.getElem?_cons_succ, List.getElem?_cons_zero]; try rfl)); (case hQc5 => exact fun _ _ _ h => h)
          case hyc5 => (refine Or.inl ⟨by rfl, ?_⟩; intro w' hSw; (try dsimp only at hSw); go_simp; try with_reducible rfl)
          try simp only [Act.put, List.setIfInBounds_toArray, List.set_cons_zero, List.set_cons_succ]
          refine wpAnyH_take (i := 6) (oi := ?oic6) (v := ?vc6) ?hic6 (by kernel_rfl) (by kernel_rfl) (by kernel_rfl) ?hQc6 ?hyc6 (by assumption) ?_; (case hic6 => (simp only [List.getElem?_toArray, List.getElem?_cons_succ, List.getElem?_cons_zero]; try rfl)); (case hQc6 => exact fun _ _ _ h => h)
          case hyc6 => (refine Or.inl ⟨by rfl, ?_⟩; intro w' hSw; (try dsimp only at hSw); go_simp; try with_reducible rfl)
          try simp only [Act.put, List.setIfInBounds_toArray, List.set_cons_zero, List.set_cons_succ]
          refine wpAnyH_take (i := 7) (oi := ?oic7) (v := ?vc7) ?hic7 (by kernel_rfl) (by kernel_rfl) (by kernel_rfl) ?hQc7 ?hyc7 (by assumption) ?_; (case hic7 => (simp only [List.getElem?_toArray, List.getElem?_cons_succ, List.getElem?_cons_zero]; try rfl)); (case hQc7 => exact fun _ _ _ h => h)
          case hyc7 => (refine Or.inl ⟨by rfl, ?_⟩; intro w' hSw; (try dsimp only at hSw); go_simp; try with_reducible rfl)
          try simp only [Act.put, List.setIfInBounds_toArray, List.set_cons_zero, List.set_cons_succ]
          refine wpAnyH_take (i := 8) (oi := ?oic8) (v := undef) ?hic8 (by kernel_rfl) (by kernel_rfl) (by kernel_rfl) ?hQc8 ?hyc8 (by assumption) ?_; (case hic8 => (simp only [List.getElem?_toArray, List.getElem?_cons_succ, List.getElem?_cons_zero]; try rfl)); (case hQc8 => exact fun _ _ _ h => h)
          case hyc8 => exact Or.inr ⟨by rfl, rfl⟩
          try simp only [Act.put, List.setIfInBounds_toArray, List.set_cons_zero, List.set_cons_succ]
          refine wpAnyH_take (i := 9) (oi := ?oic9) (v := undef) ?hic9 (by kernel_rfl) (by kernel_rfl) (by kernel_rfl) ?hQc9 ?hyc9 (by assumption) ?_; (case hic9 => (simp only [List.getElem?_toArray, List.getElem?_cons_succ, List.getElem?_cons_zero]; try rfl)); (case hQc9 => exact fun _ _ _ h => h)
          case hyc9 => exact Or.inr ⟨by rfl, rfl⟩
          try simp only [Act.put, List.setIfInBounds_toArray, List.set_cons_zero, List.set_cons_succ]
          refine wpAnyH_take (i := 10) (oi := ?oic10) (v := ?vc10) ?hic10 (by kernel_rfl) (by kernel_rfl) (by kernel_rfl) ?hQc10 ?hyc10 (by assumption) ?_; (case hic10 => (simp only [List.getElem?_toArray, List.getElem?_cons_succ, List.getElem?_cons_zero]; try rfl)); (case hQc10 => exact fun _ _ _ h => h)
          case hyc10 => (refine Or.inl ⟨by rfl, ?_⟩; intro w' hSw; (try dsimp only at hSw); go_simp; try with_reducible rfl)
          try simp only [Act.put, List.setIfInBounds_toArray, List.set_cons_zero, List.set_cons_succ]
          refine wpAnyH_done (by kernel_rfl) ?_ _
          have HM7 := Lib.hid (BS.reserve (S' := twoX W.heap.size (W.heap.size + 1)) HM6.out HBB.out (fun q hq => ⟨Nat.lt_of_lt_of_le (HM6.out.keepS q (hq.imp id .inl)) (HBB.out).size, .inl (hq.imp id .inl)⟩))
          have HX7 := Lib.hid (HX6.out.below HBB.out)
          have HK7 := Lib.hid (HK6.out.below HBB.out HK6.out.lt)
          go_wp2_with fail
          go_roundw
          case rel => exact ⟨j + 1, t6, hs5, by omega, by omega, by go_num, Lib.hid (HM7.out.mono (by omega)), HX7, HK7⟩
          case measure => simp [intOf]; omega
        · subst e1 e2 e3
          go_wp2_with fail
          refine wp_region_held_drew (S := (fun w' => w'.cell? ⟨sb, 0, none⟩ = some (.int .i64 N5) ∧ w'.cell? ⟨sb, 1, none⟩ = some (.int .i64 m5) ∧ w'.cell? ⟨sb, 2, none⟩ = some (.int .i64 f5) ∧ w'.cell? ⟨sb, 3, none⟩ = some (.int .i64 x5))) (by kernel_rfl) ?_ (fun hH0d => ?_)
          · with_reducible exact HSS.out _ (Below.refl _ w6).drew
          refine wpAnyH_take (i := 0) (oi := ?oid0) (v := ?vd0) ?hid0 (by kernel_rfl) (by kernel_rfl) (by kernel_rfl) ?hQd0 ?hyd0 (by assumption) ?_; (case hid0 => (simp only [List.getElem?_toArray, List.getElem?_cons_succ, List.getElem?_cons_zero]; try rfl)); (case hQd0 => exact fun _ _ _ h => h)
          case hyd0 => (refine Or.inl ⟨by rfl, ?_⟩; intro w' hSw; (try dsimp only at hSw); go_simp; try with_reducible rfl)
          try simp only [Act.put, List.setIfInBounds_toArray, List.set_cons_zero, List.set_cons_succ]
          refine wpAnyH_take (i := 1) (oi := ?oid1) (v := ?vd1) ?hid1 (by kernel_rfl) (by kernel_rfl) (by kernel_rfl) ?hQd1 ?hyd1 (by assumption) ?_; (case hid1 => (simp only [List.getElem?_toArray, List.getElem?_cons_succ, List.getElem?_cons_zero]; try rfl)); (case hQd1 => exact fun _ _ _ h => h)
          case hyd1 => (refine Or.inl ⟨by rfl, ?_⟩; intro w' hSw; (try dsimp only at hSw); go_simp; try with_reducible rfl)
          try simp only [Act.put, List.setIfInBounds_toArray, List.set_cons_zero, List.set_cons_succ]
          refine wpAnyH_take (i := 2) (oi := ?oid2) (v := ?vd2) ?hid2 (by kernel_rfl) (by kernel_rfl) (by kernel_rfl) ?hQd2 ?hyd2 (by assumption) ?_; (case hid2 => (simp only [List.getElem?_toArray, List.getElem?_cons_succ, List.getElem?_cons_zero]; try rfl)); (case hQd2 => exact fun _ _ _ h => h)
          case hyd2 => (refine Or.inl ⟨by rfl, ?_⟩; intro w' hSw; (try dsimp only at hSw); go_simp; try with_reducible rfl)
          try simp only [Act.put, List.setIfInBounds_toArray, List.set_cons_zero, List.set_cons_succ]
          refine wpAnyH_take (i := 4) (oi := ?oid4) (v := ?vd4) ?hid4 (by kernel_rfl) (by kernel_rfl) (by kernel_rfl) ?hQd4 ?hyd4 (by assumption) ?_; (case hid4 => (simp only [List.getElem?_toArray, List.getElem?_cons_succ, List.getElem?_cons_zero]; try rfl)); (case hQd4 => exact fun _ _ _ h => h)
          case hyd4 => (refine Or.inl ⟨by rfl, ?_⟩; intro w' hSw; (try dsimp only at hSw); go_simp; try with_reducible rfl)
          try simp only [Act.put, List.setIfInBounds_toArray, List.set_cons_zero, List.set_cons_succ]
          refine wpAnyH_ready (rs := [3]) (by kernel_rfl) (by simp) ?_
          refine AllReadyH.cons (o := ?od3) ?hod3 (fun K hK => ?_) AllReadyH.nil
          case hod3 =>
            simp only [List.getElem?_toArray, List.getElem?_cons_succ, List.getElem?_cons_zero]
            try rfl
          go_simp
          (with_reducible refine (BS.stats (HM6.out.below (Below.refl _ w6).drew) _ _ _ _ HT6.out.1 HT6.out.2.1 HT6.out.2.2.1 HT6.out.2.2.2).mono ?_)
          rintro e wB ⟨rfl, hb⟩
          have HBB := Lib.hid (below_step (Below.refl w6.heap.size w6).drew hb)
          clear hb
          go_wp2_with fail
          refine hK.out _ _ ?_ (fun hH1d => ?_)
          · with_reducible exact HSS.out _ HBB.out
          clear hK K hH0d
          try simp only [Act.put, List.setIfInBounds_toArray, List.set_cons_zero, List.set_cons_succ]
          refine wpAnyH_take (i := 5) (oi := ?oid5) (v := ?vd5) ?hid5 (by kernel_rfl) (by kernel_rfl) (by kernel_rfl) ?hQd5 ?hyd5 (by assumption) ?_; (case hid5 => (simp only [List.getElem?_toArray, List.getElem?_cons_succ, List.getElem?_cons_zero]; try rfl)); (case hQd5 => exact fun _ _ _ h => h)
          case hyd5 => (refine Or.inl ⟨by rfl, ?_⟩; intro w' hSw; (try dsimp only at hSw); go_simp; try with_reducible rfl)
          try simp only [Act.put, List.setIfInBounds_toArray, List.set_cons_zero, List.set_cons_succ]
          refine wpAnyH_take (i := 6) (oi := ?oid6) (v := ?vd6) ?hid6 (by kernel_rfl) (by kernel_rfl) (by kernel_rfl) ?hQd6 ?hyd6 (by assumption) ?_; (case hid6 => (simp only [List.getElem?_toArray, List.getElem?_cons_succ, List.getElem?_cons_zero]; try rfl)); (case hQd6 => exact fun _ _ _ h => h)
          case hyd6 => (refine Or.inl ⟨by rfl, ?_⟩; intro w' hSw; (try dsimp only at hSw); go_simp; try with_reducible rfl)
          try simp only [Act.put, List.setIfInBounds_toArray, List.set_cons_zero, List.set_cons_succ]
          refine wpAnyH_take (i := 7) (oi := ?oid7) (v := ?vd7) ?hid7 (by kernel_rfl) (by kernel_rfl) (by kernel_rfl) ?hQd7 ?hyd7 (by assumption) ?_; (case hid7 => (simp only [List.getElem?_toArray, List.getElem?_cons_succ, List.getElem?_cons_zero]; try rfl)); (case hQd7 => exact fun _ _ _ h => h)
          case hyd7 => (refine Or.inl ⟨by rfl, ?_⟩; intro w' hSw; (try dsimp only at hSw); go_simp; try with_reducible rfl)
          try simp only [Act.put, List.setIfInBounds_toArray, List.set_cons_zero, List.set_cons_succ]
          refine wpAnyH_take (i := 8) (oi := ?oid8) (v := undef) ?hid8 (by kernel_rfl) (by kernel_rfl) (by kernel_rfl) ?hQd8 ?hyd8 (by assumption) ?_; (case hid8 => (simp only [List.getElem?_toArray, List.getElem?_cons_succ, List.getElem?_cons_zero]; try rfl)); (case hQd8 => exact fun _ _ _ h => h)
          case hyd8 => exact Or.inr ⟨by rfl, rfl⟩
          try simp only [Act.put, List.setIfInBounds_toArray, List.set_cons_zero, List.set_cons_succ]
          refine wpAnyH_take (i := 9) (oi := ?oid9) (v := undef) ?hid9 (by kernel_rfl) (by kernel_rfl) (by kernel_rfl) ?hQd9 ?hyd9 (by assumption) ?_; (case hid9 => (simp only [List.getElem?_toArray, List.getElem?_cons_succ, List.getElem?_cons_zero]; try rfl)); (case hQd9 => exact fun _ _ _ h => h)
          case hyd9 => exact Or.inr ⟨by rfl, rfl⟩
          try simp only [Act.put, List.setIfInBounds_toArray, List.set_cons_zero, List.set_cons_succ]
          refine wpAnyH_take (i := 10) (oi := ?oid10) (v := ?vd10) ?hid10 (by kernel_rfl) (by kernel_rfl) (by kernel_rfl) ?hQd10 ?hyd10 (by assumption) ?_; (case hid10 => (simp only [List.getElem?_toArray, List.getElem?_cons_succ, List.getElem?_cons_zero]; try rfl)); (case hQd10 => exact fun _ _ _ h => h)
          case hyd10 => (refine Or.inl ⟨by rfl, ?_⟩; intro w' hSw; (try dsimp only at hSw); go_simp; try with_reducible rfl)
          try simp only [Act.put, List.setIfInBounds_toArray, List.set_cons_zero, List.set_cons_succ]
          refine wpAnyH_done (by kernel_rfl) ?_ _
          have HM7 := Lib.hid (BS.reserve (S' := twoX W.heap.size (W.heap.size + 1)) HM6.out HBB.out (fun q hq => ⟨Nat.lt_of_lt_of_le (HM6.out.keepS q (hq.imp id .inl)) (HBB.out).size, .inl (hq.imp id .inl)⟩))
          have HX7 := Lib.hid (HX6.out.below HBB.out)
          have HK7 := Lib.hid (HK6.out.below HBB.out HK6.out.lt)
          go_wp2_with fail
          go_roundw
          case rel => exact ⟨j + 1, t6, hs5, by omega, by omega, by go_num, Lib.hid (HM7.out.mono (by omega)), HX7, HK7⟩
          case measure => simp [intOf]; omega
        · subst e1 e2 e3 e4
          go_wp2_with fail
          refine wp_region_held_drew (S := (fun w' => w'.cell? ⟨sb, 0, none⟩ = some (.int .i64 N5) ∧ w'.cell? ⟨sb, 1, none⟩ = some (.int .i64 m5) ∧ w'.cell? ⟨sb, 2, none⟩ = some (.int .i64 f5) ∧ w'.cell? ⟨sb, 3, none⟩ = some (.int .i64 x5))) (by kernel_rfl) ?_ (fun hH0e => ?_)
          · with_reducible exact HSS.out _ (Below.refl _ w6).drew
          refine wpAnyH_take (i := 0) (oi := ?oie0) (v := ?ve0) ?hie0 (by kernel_rfl) (by kernel_rfl) (by kernel_rfl) ?hQe0 ?hye0 (by assumption) ?_; (case hie0 => (simp only [List.getElem?_toArray, List.getElem?_cons_succ, List.getElem?_cons_zero]; try rfl)); (case hQe0 => exact fun _ _ _ h => h)
          case hye0 => (refine Or.inl ⟨by rfl, ?_⟩; intro w' hSw; (try dsimp only at hSw); go_simp; try with_reducible rfl)
          try simp only [Act.put, List.setIfInBounds_toArray, List.set_cons_zero, List.set_cons_succ]
          refine wpAnyH_take (i := 1) (oi := ?oie1) (v := ?ve1) ?hie1 (by kernel_rfl) (by kernel_rfl) (by kernel_rfl) ?hQe1 ?hye1 (by assumption) ?_; (case hie1 => (simp only [List.getElem?_toArray, List.getElem?_cons_succ, List.getElem?_cons_zero]; try rfl)); (case hQe1 => exact fun _ _ _ h => h)
          case hye1 => (refine Or.inl ⟨by rfl, ?_⟩; intro w' hSw; (try dsimp only at hSw); go_simp; try with_reducible rfl)
          try simp only [Act.put, List.setIfInBounds_toArray, List.set_cons_zero, List.set_cons_succ]
          refine wpAnyH_take (i := 2) (oi := ?oie2) (v := ?ve2) ?hie2 (by kernel_rfl) (by kernel_rfl) (by kernel_rfl) ?hQe2 ?hye2 (by assumption) ?_; (case hie2 => (simp only [List.getElem?_toArray, List.getElem?_cons_succ, List.getElem?_cons_zero]; try rfl)); (case hQe2 => exact fun _ _ _ h => h)
          case hye2 => (refine Or.inl ⟨by rfl, ?_⟩; intro w' hSw; (try dsimp only at hSw); go_simp; try with_reducible rfl)
          try simp only [Act.put, List.setIfInBounds_toArray, List.set_cons_zero, List.set_cons_succ]
          refine wpAnyH_take (i := 4) (oi := ?oie4) (v := ?ve4) ?hie4 (by kernel_rfl) (by kernel_rfl) (by kernel_rfl) ?hQe4 ?hye4 (by assumption) ?_; (case hie4 => (simp only [List.getElem?_toArray, List.getElem?_cons_succ, List.getElem?_cons_zero]; try rfl)); (case hQe4 => exact fun _ _ _ h => h)
          case hye4 => (refine Or.inl ⟨by rfl, ?_⟩; intro w' hSw; (try dsimp only at hSw); go_simp; try with_reducible rfl)
          try simp only [Act.put, List.setIfInBounds_toArray, List.set_cons_zero, List.set_cons_succ]
          refine wpAnyH_ready (rs := [3]) (by kernel_rfl) (by simp) ?_
          refine AllReadyH.cons (o := ?oe3) ?hoe3 (fun K hK => ?_) AllReadyH.nil
          case hoe3 =>
            simp only [List.getElem?_toArray, List.getElem?_cons_succ, List.getElem?_cons_zero]
            try rfl
          go_simp
          (with_reducible refine (BS.stats (HM6.out.below (Below.refl _ w6).drew) _ _ _ _ HT6.out.1 HT6.out.2.1 HT6.out.2.2.1 HT6.out.2.2.2).mono ?_)
          rintro e wB ⟨rfl, hb⟩
          have HBB := Lib.hid (below_step (Below.refl w6.heap.size w6).drew hb)
          clear hb
          go_wp2_with fail
          refine hK.out _ _ ?_ (fun hH1e => ?_)
          · with_reducible exact HSS.out _ HBB.out
          clear hK K hH0e
          try simp only [Act.put, List.setIfInBounds_toArray, List.set_cons_zero, List.set_cons_succ]
          refine wpAnyH_take (i := 5) (oi := ?oie5) (v := ?ve5) ?hie5 (by kernel_rfl) (by kernel_rfl) (by kernel_rfl) ?hQe5 ?hye5 (by assumption) ?_; (case hie5 => (simp only [List.getElem?_toArray, List.getElem?_cons_succ, List.getElem?_cons_zero]; try rfl)); (case hQe5 => exact fun _ _ _ h => h)
          case hye5 => (refine Or.inl ⟨by rfl, ?_⟩; intro w' hSw; (try dsimp only at hSw); go_simp; try with_reducible rfl)
          try simp only [Act.put, List.setIfInBounds_toArray, List.set_cons_zero, List.set_cons_succ]
          refine wpAnyH_take (i := 6) (oi := ?oie6) (v := ?ve6) ?hie6 (by kernel_rfl) (by kernel_rfl) (by kernel_rfl) ?hQe6 ?hye6 (by assumption) ?_; (case hie6 => (simp only [List.getElem?_toArray, List.getElem?_cons_succ, List.getElem?_cons_zero]; try rfl)); (case hQe6 => exact fun _ _ _ h => h)
          case hye6 => (refine Or.inl ⟨by rfl, ?_⟩; intro w' hSw; (try dsimp only at hSw); go_simp; try with_reducible rfl)
          try simp only [Act.put, List.setIfInBounds_toArray, List.set_cons_zero, List.set_cons_succ]
          refine wpAnyH_take (i := 7) (oi := ?oie7) (v := ?ve7) ?hie7 (by kernel_rfl) (by kernel_rfl) (by kernel_rfl) ?hQe7 ?hye7 (by assumption) ?_; (case hie7 => (simp only [List.getElem?_toArray, List.getElem?_cons_succ, List.getElem?_cons_zero]; try rfl)); (case hQe7 => exact fun _ _ _ h => h)
          case hye7 => (refine Or.inl ⟨by rfl, ?_⟩; intro w' hSw; (try dsimp only at hSw); go_simp; try with_reducible rfl)
          try simp only [Act.put, List.setIfInBounds_toArray, List.set_cons_zero, List.set_cons_succ]
          refine wpAnyH_take (i := 8) (oi := ?oie8) (v := ?ve8) ?hie8 (by kernel_rfl) (by kernel_rfl) (by kernel_rfl) ?hQe8 ?hye8 (by assumption) ?_; (case hie8 => (simp only [List.getElem?_toArray, List.getElem?_cons_succ, List.getElem?_cons_zero]; try rfl)); (case hQe8 => exact fun _ _ _ h => h)
          case hye8 => (refine Or.inl ⟨by rfl, ?_⟩; intro w' hSw; (try dsimp only at hSw); go_simp; try with_reducible rfl)
          try simp only [Act.put, List.setIfInBounds_toArray, List.set_cons_zero, List.set_cons_succ]
          refine wpAnyH_take (i := 9) (oi := ?oie9) (v := ?ve9) ?hie9 (by kernel_rfl) (by kernel_rfl) (by kernel_rfl) ?hQe9 ?hye9 (by assumption) ?_; (case hie9 => (simp only [List.getElem?_toArray, List.getElem?_cons_succ, List.getElem?_cons_zero]; try rfl)); (case hQe9 => exact fun _ _ _ h => h)
          case hye9 => (refine Or.inl ⟨by rfl, ?_⟩; intro w' hSw; (try dsimp only at hSw); go_simp; try with_reducible rfl)
          try simp only [Act.put, List.setIfInBounds_toArray, List.set_cons_zero, List.set_cons_succ]
          refine wpAnyH_take (i := 10) (oi := ?oie10) (v := ?ve10) ?hie10 (by kernel_rfl) (by kernel_rfl) (by kernel_rfl) ?hQe10 ?hye10 (by assumption) ?_; (case hie10 => (simp only [List.getElem?_toArray, List.getElem?_cons_succ, List.getElem?_cons_zero]; try rfl)); (case hQe10 => exact fun _ _ _ h => h)
          case hye10 => (refine Or.inl ⟨by rfl, ?_⟩; intro w' hSw; (try dsimp only at hSw); go_simp; try with_reducible rfl)
          try simp only [Act.put, List.setIfInBounds_toArray, List.set_cons_zero, List.set_cons_succ]
          refine wpAnyH_done (by kernel_rfl) ?_ _
          have HM7 := Lib.hid (BS.reserve (S' := twoX W.heap.size (W.heap.size + 1)) HM6.out HBB.out (fun q hq => ⟨Nat.lt_of_lt_of_le (HM6.out.keepS q (hq.imp id .inl)) (HBB.out).size, .inl (hq.imp id .inl)⟩))
          have HX7 := Lib.hid (HX6.out.below HBB.out)
          have HK7 := Lib.hid (HK6.out.below HBB.out HK6.out.lt)
          go_wp2_with fail
          go_roundw
          case rel => exact ⟨j + 1, t6, hs5, by omega, by omega, by go_num, Lib.hid (HM7.out.mono (by omega)), HX7, HK7⟩
          case measure => simp [intOf]; omega
    · by_cases h1 : j < x.l.length
      · have d1 : decide ((j : Int) < (x.l.length : Int)) = true := by simp; omega
        have d2 : decide ((j : Int) < 300) = false := by simp; omega
        clear hc
        obtain ⟨k0, k1, k2, -, -⟩ := HK.out
        dsimp only at k0 k1 k2
        simp only [Nat.zero_add] at k1 k2
        obtain ⟨⟨⟨nk, nn, ns⟩, ⟨uk, un, us⟩⟩, hnp⟩ : ∃ z, t.p.nextP ⟨kk0, kn0, ks0⟩ = z := ⟨_, rfl⟩
        obtain ⟨ee, hee⟩ : ∃ z, t.p.nextE ⟨kk0, kn0, ks0⟩ = z := ⟨_, rfl⟩
        have HNP := Lib.hid hnp; have HEE := Lib.hid hee
        clear hnp hee
        go_wp2_with fail
        (with_reducible refine (BS.next HM.out kk0 kn0 ks0 (⟨nk, nn, ns⟩, ⟨uk, un, us⟩) ee HNP.out HEE.out).mono ?_)
        rintro e w3 ⟨t3, ⟨rfl, -⟩, hp3, hx, hk⟩
        have hbw := ((Below.refl w3.heap.size w3).alloc (Nat.le_refl _) (.cells #[.int .i64 nk, .int .i64 nn, .string ns] 35)).alloc (by rw [World.size_alloc]; omega) (.cells #[.int .i64 uk, .int .i64 un, .string us] 35)
        have HM4 := Lib.hid (hx.below hbw)
        have h6 := HK.out.keep (hk _ (.inr rfl))
        have HK4 := Lib.hid (h6.below hbw h6.lt)
        have HP3 := Lib.hid hp3
        clear hx hk hbw h6 hp3 k0 k1 k2 p0 p1 p2 HM HX HK h1
        dsimp only
        obtain ⟨k0, k1, k2, -, -⟩ := HK4.out
        dsimp only at k0 k1 k2
        simp only [Nat.zero_add] at k1 k2
        obtain ⟨z, hz⟩ : ∃ z, errForm (okV ⟨kk0, kn0, ks0⟩) = z := ⟨_, rfl⟩
        have HZ := Lib.hid hz
        clear hz
        go_wp2_with fail
        (with_reducible refine (ref_Check_q kk0 kn0 ks0 z HZ.out _).mono ?_)
        rintro e w5 ⟨rfl, hb⟩
        have HM5 := Lib.hid (HM4.out.below hb)
        have HK5 := Lib.hid (HK4.out.below hb HK4.out.lt)
        clear hb k0 k1 k2 HM4 HK4
        by_cases hu : okV ⟨kk0, kn0, ks0⟩ = true
        rotate_left
        · have hu' : okV ⟨kk0, kn0, ks0⟩ = false := by simpa using hu
          obtain rfl : z = 2 := by rw [← HZ.out, hu']; rfl
          obtain rfl : ee = 2 := by rw [← HEE.out]; exact keys_form hu'
          clear hu hu'
          go_wp2
          go_ret
          exact ⟨rfl, HM5.out.bel⟩
        · obtain rfl : z = 0 := by rw [← HZ.out, hu]; rfl
          have HOKV := Lib.hid hu
          have HOK5 : Hid t.p.ok := Lib.hid (by rw [← HP3.out]; exact HM5.out.ok)
          obtain ⟨N5, hN5⟩ : ∃ N5 : Int, (t3.p.sn : Int) = N5 := ⟨_, rfl⟩
          obtain ⟨m5, hm5⟩ : ∃ m5 : Int, (t3.p.h.n : Int) = m5 := ⟨_, rfl⟩
          obtain ⟨f5, hf5⟩ : ∃ f5 : Int, (t3.p.h.free : Int) = f5 := ⟨_, rfl⟩
          obtain ⟨x5, hx5⟩ : ∃ x5 : Int, t3.hint = x5 := ⟨_, rfl⟩
          have HT5 : Hid ((t3.p.sn : Int) = N5 ∧ (t3.p.h.n : Int) = m5 ∧ (t3.p.h.free : Int) = f5 ∧ t3.hint = x5) := Lib.hid ⟨hN5, hm5, hf5, hx5⟩
          have hcs := held_cases t.p kk0 kn0 ks0 N5 (by rw [← hN5, HP3.out]) hu
          clear hN5 hm5 hf5 hx5 hu
          have HSS : Hid (∀ w' : World, Below w5.heap.size w5 w' → w'.cell? ⟨W.heap.size + 1, 0, none⟩ = some (.int .i64 kk0) ∧ w'.cell? ⟨W.heap.size + 1, 1, none⟩ = some (.int .i64 kn0) ∧ w'.cell? ⟨W.heap.size + 1, 2, none⟩ = some (.string ks0)) := Lib.hid (fun w' hb => by
            obtain ⟨a0, a1, a2, -, -⟩ := HK5.out.below hb HK5.out.lt
            exact ⟨a0, a1, a2⟩)
          obtain ⟨k0, k1, k2, -, -⟩ := HK5.out
          dsimp only at k0 k1 k2
          simp only [Nat.zero_add] at k1 k2
          rcases hcs with rfl | ⟨h0, d1', d2', hnb⟩ | ⟨rfl, d1', hnb⟩ | ⟨rfl, d1', d2', hnb⟩ | ⟨rfl, d1', d2', hnb⟩
          · have HINV : Hid ((true = true ∧ t.p.nextE ⟨0, kn0, ks0⟩ = 0) ∨ (true = false ∧ (⟨0, kn0, ks0⟩ : V).k ≠ 0 ∧ ¬ t.p.inB ⟨0, kn0, ks0⟩ ∧ ∀ z, z < 0 → t.p.h.key z ≠ ⟨0, kn0, ks0⟩)) := Lib.hid (.inl ⟨rfl, keys_yes HOK5.out HOKV.out (.inl rfl)⟩)
            go_wp2_with fail
            refine wp_region_held_drew (S := (fun w' => w'.cell? ⟨W.heap.size + 1, 0, none⟩ = some (.int .i64 0) ∧ w'.cell? ⟨W.heap.size + 1, 1, none⟩ = some (.int .i64 kn0) ∧ w'.cell? ⟨W.heap.size + 1, 2, none⟩ = some (.string ks0))) (by kernel_rfl) ?_ (fun hH0px => ?_)
            · with_reducible exact HSS.out _ (Below.refl _ w5).drew
            refine wpAnyH_take (i := 0) (oi := ?oipx0) (v := ?vpx0) ?hipx0 (by kernel_rfl) (by kernel_rfl) (by kernel_rfl) ?hQpx0 ?hypx0 (by assumption) ?_; (case hipx0 => (simp only [List.getElem?_toArray, List.getElem?_cons_succ, List.getElem?_cons_zero]; try rfl)); (case hQpx0 => exact fun _ _ _ h => h)
            case hypx0 => (refine Or.inl ⟨by rfl, ?_⟩; intro w' hSw; (try dsimp only at hSw); go_simp; try with_reducible rfl)
            try simp only [Act.put, List.setIfInBounds_toArray, List.set_cons_zero, List.set_cons_succ]
            refine wpAnyH_take (i := 1) (oi := ?oipx1) (v := ?vpx1) ?hipx1 (by kernel_rfl) (by kernel_rfl) (by kernel_rfl) ?hQpx1 ?hypx1 (by assumption) ?_; (case hipx1 => (simp only [List.getElem?_toArray, List.getElem?_cons_succ, List.getElem?_cons_zero]; try rfl)); (case hQpx1 => exact fun _ _ _ h => h)
            case hypx1 => (refine Or.inl ⟨by rfl, ?_⟩; intro w' hSw; (try dsimp only at hSw); go_simp; try with_reducible rfl)
            try simp only [Act.put, List.setIfInBounds_toArray, List.set_cons_zero, List.set_cons_succ]
            refine wpAnyH_take (i := 2) (oi := ?oipx2) (v := ?vpx2) ?hipx2 (by kernel_rfl) (by kernel_rfl) (by kernel_rfl) ?hQpx2 ?hypx2 (by assumption) ?_; (case hipx2 => (simp only [List.getElem?_toArray, List.getElem?_cons_succ, List.getElem?_cons_zero]; try rfl)); (case hQpx2 => exact fun _ _ _ h => h)
            case hypx2 => (refine Or.inl ⟨by rfl, ?_⟩; intro w' hSw; (try dsimp only at hSw); go_simp; try with_reducible rfl)
            try simp only [Act.put, List.setIfInBounds_toArray, List.set_cons_zero, List.set_cons_succ]
            refine wpAnyH_take (i := 3) (oi := ?oipx3) (v := ?vpx3) ?hipx3 (by kernel_rfl) (by kernel_rfl) (by kernel_rfl) ?hQpx3 ?hypx3 (by assumption) ?_; (case hipx3 => (simp only [List.getElem?_toArray, List.getElem?_cons_succ, List.getElem?_cons_zero]; try rfl)); (case hQpx3 => exact fun _ _ _ h => h)
            case hypx3 => (refine Or.inl ⟨by rfl, ?_⟩; intro w' hSw; (try dsimp only at hSw); go_simp; try with_reducible rfl)
            try simp only [Act.put, List.setIfInBounds_toArray, List.set_cons_zero, List.set_cons_succ]
            refine wpAnyH_take (i := 4) (oi := ?oipx4) (v := undef) ?hipx4 (by kernel_rfl) (by kernel_rfl) (by kernel_rfl) ?hQpx4 ?hypx4 (by assumption) ?_; (case hipx4 => (simp only [List.getElem?_toArray, List.getElem?_cons_succ, List.getElem?_cons_zero]; try rfl)); (case hQpx4 => exact fun _ _ _ h => h)
            case hypx4 => exact Or.inr ⟨by rfl, rfl⟩
            try simp only [Act.put, List.setIfInBounds_toArray, List.set_cons_zero, List.set_cons_succ]
            refine wpAnyH_take (i := 5) (oi := ?oipx5) (v := undef) ?hipx5 (by kernel_rfl) (by kernel_rfl) (by kernel_rfl) ?hQpx5 ?hypx5 (by assumption) ?_; (case hipx5 => (simp only [List.getElem?_toArray, List.getElem?_cons_succ, List.getElem?_cons_zero]; try rfl)); (case hQpx5 => exact fun _ _ _ h => h)
            case hypx5 => exact Or.inr ⟨by rfl, rfl⟩
            try simp only [Act.put, List.setIfInBounds_toArray, List.set_cons_zero, List.set_cons_succ]
            refine wpAnyH_take (i := 6) (oi := ?oipx6) (v := undef) ?hipx6 (by kernel_rfl) (by kernel_rfl) (by kernel_rfl) ?hQpx6 ?hypx6 (by assumption) ?_; (case hipx6 => (simp only [List.getElem?_toArray, List.getElem?_cons_succ, List.getElem?_cons_zero]; try rfl)); (case hQpx6 => exact fun _ _ _ h => h)
            case hypx6 => exact Or.inr ⟨by rfl, rfl⟩
            try simp only [Act.put, List.setIfInBounds_toArray, List.set_cons_zero, List.set_cons_succ]
            refine wpAnyH_take (i := 7) (oi := ?oipx7) (v := undef) ?hipx7 (by kernel_rfl) (by kernel_rfl) (by kernel_rfl) ?hQpx7 ?hypx7 (by assumption) ?_; (case hipx7 => (simp only [List.getElem?_toArray, List.getElem?_cons_succ, List.getElem?_cons_zero]; try rfl)); (case hQpx7 => exact fun _ _ _ h => h)
            case hypx7 => exact Or.inr ⟨by rfl, rfl⟩
            try simp only [Act.put, List.setIfInBounds_toArray, List.set_cons_zero, List.set_cons_succ]
            refine wpAnyH_take (i := 8) (oi := ?oipx8) (v := undef) ?hipx8 (by kernel_rfl) (by kernel_rfl) (by kernel_rfl) ?hQpx8 ?hypx8 (by assumption) ?_; (case hipx8 => (simp only [List.getElem?_toArray, List.getElem?_cons_succ, List.getElem?_cons_zero]; try rfl)); (case hQpx8 => exact fun _ _ _ h => h)
            case hypx8 => exact Or.inr ⟨by rfl, rfl⟩
            try simp only [Act.put, List.setIfInBounds_toArray, List.set_cons_zero, List.set_cons_succ]
            refine wpAnyH_take (i := 9) (oi := ?oipx9) (v := undef) ?hipx9 (by kernel_rfl) (by kernel_rfl) (by kernel_rfl) ?hQpx9 ?hypx9 (by assumption) ?_; (case hipx9 => (simp only [List.getElem?_toArray, List.getElem?_cons_succ, List.getElem?_cons_zero]; try rfl)); (case hQpx9 => exact fun _ _ _ h => h)
            case hypx9 => exact Or.inr ⟨by rfl, rfl⟩
            try simp only [Act.put, List.setIfInBounds_toArray, List.set_cons_zero, List.set_cons_succ]
            refine wpAnyH_take (i := 10) (oi := ?oipx10) (v := undef) ?hipx10 (by kernel_rfl) (by kernel_rfl) (by kernel_rfl) ?hQpx10 ?hypx10 (by assumption) ?_; (case hipx10 => (simp only [List.getElem?_toArray, List.getElem?_cons_succ, List.getElem?_cons_zero]; try rfl)); (case hQpx10 => exact fun _ _ _ h => h)
            case hypx10 => exact Or.inr ⟨by rfl, rfl⟩
            try simp only [Act.put, List.setIfInBounds_toArray, List.set_cons_zero, List.set_cons_succ]
            refine wpAnyH_take (i := 11) (oi := ?oipx11) (v := undef) ?hipx11 (by kernel_rfl) (by kernel_rfl) (by kernel_rfl) ?hQpx11 ?hypx11 (by assumption) ?_; (case hipx11 => (simp only [List.getElem?_toArray, List.getElem?_cons_succ, List.getElem?_cons_zero]; try rfl)); (case hQpx11 => exact fun _ _ _ h => h)
            case hypx11 => exact Or.inr ⟨by rfl, rfl⟩
            try simp only [Act.put, List.setIfInBounds_toArray, List.set_cons_zero, List.set_cons_succ]
            refine wpAnyH_take (i := 12) (oi := ?oipx12) (v := undef) ?hipx12 (by kernel_rfl) (by kernel_rfl) (by kernel_rfl) ?hQpx12 ?hypx12 (by assumption) ?_; (case hipx12 => (simp only [List.getElem?_toArray, List.getElem?_cons_succ, List.getElem?_cons_zero]; try rfl)); (case hQpx12 => exact fun _ _ _ h => h)
            case hypx12 => exact Or.inr ⟨by rfl, rfl⟩
            try simp only [Act.put, List.setIfInBounds_toArray, List.set_cons_zero, List.set_cons_succ]
            refine wpAnyH_take (i := 13) (oi := ?oipx13) (v := undef) ?hipx13 (by kernel_rfl) (by kernel_rfl) (by kernel_rfl) ?hQpx13 ?hypx13 (by assumption) ?_; (case hipx13 => (simp only [List.getElem?_toArray, List.getElem?_cons_succ, List.getElem?_cons_zero]; try rfl)); (case hQpx13 => exact fun _ _ _ h => h)
            case hypx13 => exact Or.inr ⟨by rfl, rfl⟩
            try simp only [Act.put, List.setIfInBounds_toArray, List.set_cons_zero, List.set_cons_succ]
            refine wpAnyH_take (i := 14) (oi := ?oipx14) (v := undef) ?hipx14 (by kernel_rfl) (by kernel_rfl) (by kernel_rfl) ?hQpx14 ?hypx14 (by assumption) ?_; (case hipx14 => (simp only [List.getElem?_toArray, List.getElem?_cons_succ, List.getElem?_cons_zero]; try rfl)); (case hQpx14 => exact fun _ _ _ h => h)
            case hypx14 => exact Or.inr ⟨by rfl, rfl⟩
            try simp only [Act.put, List.setIfInBounds_toArray, List.set_cons_zero, List.set_cons_succ]
            refine wpAnyH_take (i := 15) (oi := ?oipx15) (v := undef) ?hipx15 (by kernel_rfl) (by kernel_rfl) (by kernel_rfl) ?hQpx15 ?hypx15 (by assumption) ?_; (case hipx15 => (simp only [List.getElem?_toArray, List.getElem?_cons_succ, List.getElem?_cons_zero]; try rfl)); (case hQpx15 => exact fun _ _ _ h => h)
            case hypx15 => exact Or.inr ⟨by rfl, rfl⟩
            try simp only [Act.put, List.setIfInBounds_toArray, List.set_cons_zero, List.set_cons_succ]
            refine wpAnyH_take (i := 16) (oi := ?oipx16) (v := undef) ?hipx16 (by kernel_rfl) (by kernel_rfl) (by kernel_rfl) ?hQpx16 ?hypx16 (by assumption) ?_; (case hipx16 => (simp only [List.getElem?_toArray, List.getElem?_cons_succ, List.getElem?_cons_zero]; try rfl)); (case hQpx16 => exact fun _ _ _ h => h)
            case hypx16 => exact Or.inr ⟨by rfl, rfl⟩
            try simp only [Act.put, List.setIfInBounds_toArray, List.set_cons_zero, List.set_cons_succ]
            refine wpAnyH_take (i := 17) (oi := ?oipx17) (v := undef) ?hipx17 (by kernel_rfl) (by kernel_rfl) (by kernel_rfl) ?hQpx17 ?hypx17 (by assumption) ?_; (case hipx17 => (simp only [List.getElem?_toArray, List.getElem?_cons_succ, List.getElem?_cons_zero]; try rfl)); (case hQpx17 => exact fun _ _ _ h => h)
            case hypx17 => exact Or.inr ⟨by rfl, rfl⟩
            try simp only [Act.put, List.setIfInBounds_toArray, List.set_cons_zero, List.set_cons_succ]
            refine wpAnyH_take (i := 18) (oi := ?oipx18) (v := undef) ?hipx18 (by kernel_rfl) (by kernel_rfl) (by kernel_rfl) ?hQpx18 ?hypx18 (by assumption) ?_; (case hipx18 => (simp only [List.getElem?_toArray, List.getElem?_cons_succ, List.getElem?_cons_zero]; try rfl)); (case hQpx18 => exact fun _ _ _ h => h)
            case hypx18 => exact Or.inr ⟨by rfl, rfl⟩
            try simp only [Act.put, List.setIfInBounds_toArray, List.set_cons_zero, List.set_cons_succ]
            refine wpAnyH_take (i := 19) (oi := ?oipx19) (v := undef) ?hipx19 (by kernel_rfl) (by kernel_rfl) (by kernel_rfl) ?hQpx19 ?hypx19 (by assumption) ?_; (case hipx19 => (simp only [List.getElem?_toArray, List.getElem?_cons_succ, List.getElem?_cons_zero]; try rfl)); (case hQpx19 => exact fun _ _ _ h => h)
            case hypx19 => exact Or.inr ⟨by rfl, rfl⟩
            try simp only [Act.put, List.setIfInBounds_toArray, List.set_cons_zero, List.set_cons_succ]
            refine wpAnyH_take (i := 20) (oi := ?oipx20) (v := ?vpx20) ?hipx20 (by kernel_rfl) (by kernel_rfl) (by kernel_rfl) ?hQpx20 ?hypx20 (by assumption) ?_; (case hipx20 => (simp only [List.getElem?_toArray, List.getElem?_cons_succ, List.getElem?_cons_zero]; try rfl)); (case hQpx20 => exact fun _ _ _ h => h)
            case hypx20 => (refine Or.inl ⟨by rfl, ?_⟩; intro w' hSw; (try dsimp only at hSw); go_simp; try with_reducible rfl)
            try simp only [Act.put, List.setIfInBounds_toArray, List.set_cons_zero, List.set_cons_succ]
            refine wpAnyH_take (i := 21) (oi := ?oipx21) (v := ?vpx21) ?hipx21 (by kernel_rfl) (by kernel_rfl) (by kernel_rfl) ?hQpx21 ?hypx21 (by assumption) ?_; (case hipx21 => (simp only [List.getElem?_toArray, List.getElem?_cons_succ, List.getElem?_cons_zero]; try rfl)); (case hQpx21 => exact fun _ _ _ h => h)
            case hypx21 => (refine Or.inl ⟨by rfl, ?_⟩; intro w' hSw; (try dsimp only at hSw); go_simp; try with_reducible rfl)
            try simp only [Act.put, List.setIfInBounds_toArray, List.set_cons_zero, List.set_cons_succ]
            refine wpAnyH_done (by kernel_rfl) ?_ _
            have HM6 := Lib.hid (HM5.out.below (Below.refl w5.heap.size w5).drew)
            have HK6 := Lib.hid (HK5.out.below (Below.refl w5.heap.size w5).drew HK5.out.lt)
            obtain ⟨mm, hmm⟩ : ∃ m, t3.p.h.n = m := ⟨_, rfl⟩
            have HMM := Lib.hid hmm
            have HSZ := Lib.hid HOK5.out.hg.sz
            clear hmm k0 k1 k2
            go_wp2_with fail
            (with_reducible refine (BS.dump HM6.out mm HMM.out).mono ?_)
            rintro e w7 ⟨gs, sn, cs, gd, cp, rfl, h1, h2, h3, h4⟩
            have HD := Lib.hid h2
            have HK7 := Lib.hid (HK6.out.below h4 HK6.out.lt)
            have HBE := Lib.hid (HM6.out.below h4).bel
            have HCP := Lib.hid h3
            clear h1 h2 h3 h4
            dsimp only
            go_wp2_with fail
            go_loopw [17, 20] (fun ok i wr => ∃ (b : Bool) (q : Nat), q ≤ mm ∧ ok = .bool b ∧ i = .int .i64 q ∧ Hid ((b = true ∧ t.p.nextE ⟨0, kn0, ks0⟩ = 0) ∨ (b = false ∧ (⟨0, kn0, ks0⟩ : V).k ≠ 0 ∧ ¬ t.p.inB ⟨0, kn0, ks0⟩ ∧ ∀ z, z < q → t.p.h.key z ≠ ⟨0, kn0, ks0⟩)) ∧ Hid (Below w7.heap.size w7 wr)) (fun _ i _ => mm - (intOf i).toNat)
            case atStart => exact ⟨_, 0, Nat.zero_le _, rfl, rfl, Lib.hid (HINV.out.imp (fun h => ⟨(by first | rfl | exact h.1), h.2⟩) (fun h => ⟨(by first | rfl | exact h.1), h.2⟩)), Lib.hid (Below.refl _ _)⟩
            case round =>
              clear HINV
              obtain ⟨b, q, hq, rfl, rfl, HINV, HBI⟩ := hrel
              by_cases hqm : q < mm
              · have dq : decide ((q : Int) < (mm : Int)) = true := by simp; omega
                have q1 : (q : Int) < (mm : Int) := by omega
                have q3 : (mm : Int) ≤ 9223372036854775807 := by have h1 := HMM.out; have h2 := HSZ.out; rw [HP3.out] at h1; omega
                have HQM := Lib.hid hqm
                cases b with
                | true =>
                  have HI2 : Hid (t.p.nextE ⟨0, kn0, ks0⟩ = 0) := Lib.hid (HINV.out.elim (fun h => h.2) (fun h => by simp at h))
                  go_wp2
                  go_quiet (fail)
                  go_wp2
                  go_roundw
                  case rel => exact ⟨true, q + 1, HQM.out, rfl, by go_num, Lib.hid (.inl ⟨rfl, HI2.out⟩), Lib.hid (below_drewN HBI.out _)⟩
                  case measure => have := HQM.out; simp [intOf]; omega
                | false =>
                  have hi := (HINV.out.resolve_left (fun h => by simp at h)).2
                  have HI := Lib.hid hi
                  have hd := HD.out q (by have := HMM.out; omega)
                  have hd2 := hd.below HBI.out hd.lt
                  obtain ⟨g0, g1, g2, -, -, -, -, -, -⟩ := hd2
                  rw [HP3.out] at g0 g1 g2
                  obtain ⟨y, hy⟩ : ∃ y, t.p.h.key q = y := ⟨_, rfl⟩
                  have HY := Lib.hid hy
                  rw [hy] at g0 g1 g2
                  obtain ⟨k0, k1, k2, -, -⟩ := HK7.out.below HBI.out HK7.out.lt
                  dsimp only at k0 k1 k2
                  simp only [Nat.zero_add] at k1 k2
                  clear hi hd hy hqm hq
                  by_cases e : y = ⟨0, kn0, ks0⟩
                  · subst e
                    have HI2 : Hid (t.p.nextE ⟨0, kn0, ks0⟩ = 0) := Lib.hid (keys_yes HOK5.out HOKV.out (.inr (.inr ⟨q, by have h1 := HMM.out; rw [HP3.out] at h1; have := HQM.out; omega, HY.out⟩)))
                    dsimp only at g0 g1 g2
                    go_wp2
                    go_quiet (fail)
                    go_wp2
                    go_roundw
                    case rel => exact ⟨true, q + 1, HQM.out, rfl, by go_num, Lib.hid (.inl ⟨rfl, HI2.out⟩), Lib.hid (below_drewN HBI.out _)⟩
                    case measure => have := HQM.out; simp [intOf]; omega
                  · have h3 := ne3 e
                    have HN2 : Hid (∀ z, z < q + 1 → t.p.h.key z ≠ ⟨0, kn0, ks0⟩) := Lib.hid (fun z hz => by
                      by_cases ez : z = q
                      · rw [ez, HY.out]; exact e
                      · exact HI.out.2.2 z (by omega))
                    obtain ⟨yk, yn, ys⟩ := y
                    dsimp only at h3 g0 g1 g2
                    clear e
                    rcases h3 with e1 | ⟨e0, e1⟩ | ⟨e0, e00, e1, e2⟩
                    rotate_left
                    subst e0
                    rotate_left
                    subst e0 e00
                    rotate_left
                    all_goals
                      go_wp2
                      go_quiet (fail)
                      go_wp2
                      go_roundw
                      case rel => exact ⟨false, q + 1, HQM.out, rfl, by go_num, Lib.hid (.inr ⟨rfl, HI.out.1, HI.out.2.1, HN2.out⟩), Lib.hid (below_drewN HBI.out _)⟩
                      case measure => have := HQM.out; simp [intOf]; omega
              · obtain rfl : q = mm := by omega
                have dq : decide ((q : Int) < (q : Int)) = false := by simp
                cases b with
                | true =>
                  have hI2 : t.p.nextE ⟨0, kn0, ks0⟩ = 0 := HINV.out.elim (fun h => h.2) (fun h => by simp at h)
                  obtain rfl : ee = 0 := by rw [← HEE.out]; exact hI2
                  clear hI2
                  go_wp2
                  go_ret
                  exact ⟨rfl, HBE.out.trans (HBI.out.mono HBE.out.size)⟩
                | false =>
                  have hi := (HINV.out.resolve_left (fun h => by simp at h)).2
                  obtain rfl : ee = 9 := by
                    rw [← HEE.out]
                    exact keys_no HOK5.out HOKV.out hi.1 hi.2.1 (fun z hz => hi.2.2 z (by have h1 := HMM.out; rw [HP3.out] at h1; omega))
                  clear hi
                  go_wp2
                  go_ret
                  exact ⟨rfl, HBE.out.trans (HBI.out.mono HBE.out.size)⟩
          · have HINV : Hid ((false = true ∧ t.p.nextE ⟨kk0, kn0, ks0⟩ = 0) ∨ (false = false ∧ (⟨kk0, kn0, ks0⟩ : V).k ≠ 0 ∧ ¬ t.p.inB ⟨kk0, kn0, ks0⟩ ∧ ∀ z, z < 0 → t.p.h.key z ≠ ⟨kk0, kn0, ks0⟩)) := Lib.hid (.inr ⟨rfl, h0, hnb, fun z hz => by omega⟩)
            clear hnb
            go_wp2_with fail
            refine wp_region_held_drew (S := (fun w' => w'.cell? ⟨W.heap.size + 1, 0, none⟩ = some (.int .i64 kk0) ∧ w'.cell? ⟨W.heap.size + 1, 1, none⟩ = some (.int .i64 kn0) ∧ w'.cell? ⟨W.heap.size + 1, 2, none⟩ = some (.string ks0))) (by kernel_rfl) ?_ (fun hH0py => ?_)
            · with_reducible exact HSS.out _ (Below.refl _ w5).drew
            refine wpAnyH_take (i := 0) (oi := ?oipy0) (v := ?vpy0) ?hipy0 (by kernel_rfl) (by kernel_rfl) (by kernel_rfl) ?hQpy0 ?hypy0 (by assumption) ?_; (case hipy0 => (simp only [List.getElem?_toArray, List.getElem?_cons_succ, List.getElem?_cons_zero]; try rfl)); (case hQpy0 => exact fun _ _ _ h => h)
            case hypy0 => (refine Or.inl ⟨by rfl, ?_⟩; intro w' hSw; (try dsimp only at hSw); go_simp; try with_reducible rfl)
            try simp only [Act.put, List.setIfInBounds_toArray, List.set_cons_zero, List.set_cons_succ]
            refine wpAnyH_take (i := 1) (oi := ?oipy1) (v := ?vpy1) ?hipy1 (by kernel_rfl) (by kernel_rfl) (by kernel_rfl) ?hQpy1 ?hypy1 (by assumption) ?_; (case hipy1 => (simp only [List.getElem?_toArray, List.getElem?_cons_succ, List.getElem?_cons_zero]; try rfl)); (case hQpy1 => exact fun _ _ _ h => h)
            case hypy1 => (refine Or.inl ⟨by rfl, ?_⟩; intro w' hSw; (try dsimp only at hSw); go_simp; try with_reducible rfl)
            try simp only [Act.put, List.setIfInBounds_toArray, List.set_cons_zero, List.set_cons_succ]
            refine wpAnyH_take (i := 2) (oi := ?oipy2) (v := ?vpy2) ?hipy2 (by kernel_rfl) (by kernel_rfl) (by kernel_rfl) ?hQpy2 ?hypy2 (by assumption) ?_; (case hipy2 => (simp only [List.getElem?_toArray, List.getElem?_cons_succ, List.getElem?_cons_zero]; try rfl)); (case hQpy2 => exact fun _ _ _ h => h)
            case hypy2 => (refine Or.inl ⟨by rfl, ?_⟩; intro w' hSw; (try dsimp only at hSw); go_simp; try with_reducible rfl)
            try simp only [Act.put, List.setIfInBounds_toArray, List.set_cons_zero, List.set_cons_succ]
            refine wpAnyH_take (i := 3) (oi := ?oipy3) (v := ?vpy3) ?hipy3 (by kernel_rfl) (by kernel_rfl) (by kernel_rfl) ?hQpy3 ?hypy3 (by assumption) ?_; (case hipy3 => (simp only [List.getElem?_toArray, List.getElem?_cons_succ, List.getElem?_cons_zero]; try rfl)); (case hQpy3 => exact fun _ _ _ h => h)
            case hypy3 => (refine Or.inl ⟨by rfl, ?_⟩; intro w' hSw; (try dsimp only at hSw); go_simp; try with_reducible rfl)
            try simp only [Act.put, List.setIfInBounds_toArray, List.set_cons_zero, List.set_cons_succ]
            refine wpAnyH_take (i := 4) (oi := ?oipy4) (v := ?vpy4) ?hipy4 (by kernel_rfl) (by kernel_rfl) (by kernel_rfl) ?hQpy4 ?hypy4 (by assumption) ?_; (case hipy4 => (simp only [List.getElem?_toArray, List.getElem?_cons_succ, List.getElem?_cons_zero]; try rfl)); (case hQpy4 => exact fun _ _ _ h => h)
            case hypy4 => (refine Or.inl ⟨by rfl, ?_⟩; intro w' hSw; (try dsimp only at hSw); go_simp; try with_reducible rfl)
            try simp only [Act.put, List.setIfInBounds_toArray, List.set_cons_zero, List.set_cons_succ]
            refine wpAnyH_take (i := 5) (oi := ?oipy5) (v := ?vpy5) ?hipy5 (by kernel_rfl) (by kernel_rfl) (by kernel_rfl) ?hQpy5 ?hypy5 (by assumption) ?_; (case hipy5 => (simp only [List.getElem?_toArray, List.getElem?_cons_succ, List.getElem?_cons_zero]; try rfl)); (case hQpy5 => exact fun _ _ _ h => h)
            case hypy5 => (refine Or.inl ⟨by rfl, ?_⟩; intro w' hSw; (try dsimp only at hSw); go_simp; try with_reducible rfl)
            try simp only [Act.put, List.setIfInBounds_toArray, List.set_cons_zero, List.set_cons_succ]
            refine wpAnyH_take (i := 6) (oi := ?oipy6) (v := ?vpy6) ?hipy6 (by kernel_rfl) (by kernel_rfl) (by kernel_rfl) ?hQpy6 ?hypy6 (by assumption) ?_; (case hipy6 => (simp only [List.getElem?_toArray, List.getElem?_cons_succ, List.getElem?_cons_zero]; try rfl)); (case hQpy6 => exact fun _ _ _ h => h)
            case hypy6 => (refine Or.inl ⟨by rfl, ?_⟩; intro w' hSw; (try dsimp only at hSw); go_simp; try with_reducible rfl)
            try simp only [Act.put, List.setIfInBounds_toArray, List.set_cons_zero, List.set_cons_succ]
            refine wpAnyH_take (i := 7) (oi := ?oipy7) (v := ?vpy7) ?hipy7 (by kernel_rfl) (by kernel_rfl) (by kernel_rfl) ?hQpy7 ?hypy7 (by assumption) ?_; (case hipy7 => (simp only [List.getElem?_toArray, List.getElem?_cons_succ, List.getElem?_cons_zero]; try rfl)); (case hQpy7 => exact fun _ _ _ h => h)
            case hypy7 => (refine Or.inl ⟨by rfl, ?_⟩; intro w' hSw; (try dsimp only at hSw); go_simp; try with_reducible rfl)
            try simp only [Act.put, List.setIfInBounds_toArray, List.set_cons_zero, List.set_cons_succ]
            refine wpAnyH_take (i := 8) (oi := ?oipy8) (v := undef) ?hipy8 (by kernel_rfl) (by kernel_rfl) (by kernel_rfl) ?hQpy8 ?hypy8 (by assumption) ?_; (case hipy8 => (simp only [List.getElem?_toArray, List.getElem?_cons_succ, List.getElem?_cons_zero]; try rfl)); (case hQpy8 => exact fun _ _ _ h => h)
            case hypy8 => exact Or.inr ⟨by rfl, rfl⟩
            try simp only [Act.put, List.setIfInBounds_toArray, List.set_cons_zero, List.set_cons_succ]
            refine wpAnyH_take (i := 9) (oi := ?oipy9) (v := undef) ?hipy9 (by kernel_rfl) (by kernel_rfl) (by kernel_rfl) ?hQpy9 ?hypy9 (by assumption) ?_; (case hipy9 => (simp only [List.getElem?_toArray, List.getElem?_cons_succ, List.getElem?_cons_zero]; try rfl)); (case hQpy9 => exact fun _ _ _ h => h)
            case hypy9 => exact Or.inr ⟨by rfl, rfl⟩
            try simp only [Act.put, List.setIfInBounds_toArray, List.set_cons_zero, List.set_cons_succ]
            refine wpAnyH_take (i := 10) (oi := ?oipy10) (v := undef) ?hipy10 (by kernel_rfl) (by kernel_rfl) (by kernel_rfl) ?hQpy10 ?hypy10 (by assumption) ?_; (case hipy10 => (simp only [List.getElem?_toArray, List.getElem?_cons_succ, List.getElem?_cons_zero]; try rfl)); (case hQpy10 => exact fun _ _ _ h => h)
            case hypy10 => exact Or.inr ⟨by rfl, rfl⟩
            try simp only [Act.put, List.setIfInBounds_toArray, List.set_cons_zero, List.set_cons_succ]
            refine wpAnyH_take (i := 11) (oi := ?oipy11) (v := ?vpy11) ?hipy11 (by kernel_rfl) (by kernel_rfl) (by kernel_rfl) ?hQpy11 ?hypy11 (by assumption) ?_; (case hipy11 => (simp only [List.getElem?_toArray, List.getElem?_cons_succ, List.getElem?_cons_zero]; try rfl)); (case hQpy11 => exact fun _ _ _ h => h)
            case hypy11 => (refine Or.inl ⟨by rfl, ?_⟩; intro w' hSw; (try dsimp only at hSw); go_simp; try with_reducible rfl)
            try simp only [Act.put, List.setIfInBounds_toArray, List.set_cons_zero, List.set_cons_succ]
            refine wpAnyH_take (i := 12) (oi := ?oipy12) (v := ?vpy12) ?hipy12 (by kernel_rfl) (by kernel_rfl) (by kernel_rfl) ?hQpy12 ?hypy12 (by assumption) ?_; (case hipy12 => (simp only [List.getElem?_toArray, List.getElem?_cons_succ, List.getElem?_cons_zero]; try rfl)); (case hQpy12 => exact fun _ _ _ h => h)
            case hypy12 => (refine Or.inl ⟨by rfl, ?_⟩; intro w' hSw; (try dsimp only at hSw); go_simp; try with_reducible rfl)
            try simp only [Act.put, List.setIfInBounds_toArray, List.set_cons_zero, List.set_cons_succ]
            refine wpAnyH_take (i := 13) (oi := ?oipy13) (v := undef) ?hipy13 (by kernel_rfl) (by kernel_rfl) (by kernel_rfl) ?hQpy13 ?hypy13 (by assumption) ?_; (case hipy13 => (simp only [List.getElem?_toArray, List.getElem?_cons_succ, List.getElem?_cons_zero]; try rfl)); (case hQpy13 => exact fun _ _ _ h => h)
            case hypy13 => exact Or.inr ⟨by rfl, rfl⟩
            try simp only [Act.put, List.setIfInBounds_toArray, List.set_cons_zero, List.set_cons_succ]
            refine wpAnyH_take (i := 14) (oi := ?oipy14) (v := undef) ?hipy14 (by kernel_rfl) (by kernel_rfl) (by kernel_rfl) ?hQpy14 ?hypy14 (by assumption) ?_; (case hipy14 => (simp only [List.getElem?_toArray, List.getElem?_cons_succ, List.getElem?_cons_zero]; try rfl)); (case hQpy14 => exact fun _ _ _ h => h)
            case hypy14 => exact Or.inr ⟨by rfl, rfl⟩
            try simp only [Act.put, List.setIfInBounds_toArray, List.set_cons_zero, List.set_cons_succ]
            refine wpAnyH_take (i := 15) (oi := ?oipy15) (v := undef) ?hipy15 (by kernel_rfl) (by kernel_rfl) (by kernel_rfl) ?hQpy15 ?hypy15 (by assumption) ?_; (case hipy15 => (simp only [List.getElem?_toArray, List.getElem?_cons_succ, List.getElem?_cons_zero]; try rfl)); (case hQpy15 => exact fun _ _ _ h => h)
            case hypy15 => exact Or.inr ⟨by rfl, rfl⟩
            try simp only [Act.put, List.setIfInBounds_toArray, List.set_cons_zero, List.set_cons_succ]
            refine wpAnyH_take (i := 16) (oi := ?oipy16) (v := undef) ?hipy16 (by kernel_rfl) (by kernel_rfl) (by kernel_rfl) ?hQpy16 ?hypy16 (by assumption) ?_; (case hipy16 => (simp only [List.getElem?_toArray, List.getElem?_cons_succ, List.getElem?_cons_zero]; try rfl)); (case hQpy16 => exact fun _ _ _ h => h)
            case hypy16 => exact Or.inr ⟨by rfl, rfl⟩
            try simp only [Act.put, List.setIfInBounds_toArray, List.set_cons_zero, List.set_cons_succ]
            refine wpAnyH_take (i := 17) (oi := ?oipy17) (v := undef) ?hipy17 (by kernel_rfl) (by kernel_rfl) (by kernel_rfl) ?hQpy17 ?hypy17 (by assumption) ?_; (case hipy17 => (simp only [List.getElem?_toArray, List.getElem?_cons_succ, List.getElem?_cons_zero]; try rfl)); (case hQpy17 => exact fun _ _ _ h => h)
            case hypy17 => exact Or.inr ⟨by rfl, rfl⟩
            try simp only [Act.put, List.setIfInBounds_toArray, List.set_cons_zero, List.set_cons_succ]
            refine wpAnyH_take (i := 18) (oi := ?oipy18) (v := undef) ?hipy18 (by kernel_rfl) (by kernel_rfl) (by kernel_rfl) ?hQpy18 ?hypy18 (by assumption) ?_; (case hipy18 => (simp only [List.getElem?_toArray, List.getElem?_cons_succ, List.getElem?_cons_zero]; try rfl)); (case hQpy18 => exact fun _ _ _ h => h)
            case hypy18 => exact Or.inr ⟨by rfl, rfl⟩
            try simp only [Act.put, List.setIfInBounds_toArray, List.set_cons_zero, List.set_cons_succ]
            refine wpAnyH_take (i := 19) (oi := ?oipy19) (v := ?vpy19) ?hipy19 (by kernel_rfl) (by kernel_rfl) (by kernel_rfl) ?hQpy19 ?hypy19 (by assumption) ?_; (case hipy19 => (simp only [List.getElem?_toArray, List.getElem?_cons_succ, List.getElem?_cons_zero]; try rfl)); (case hQpy19 => exact fun _ _ _ h => h)
            case hypy19 => (refine Or.inl ⟨by rfl, ?_⟩; intro w' hSw; (try dsimp only at hSw); go_simp; try with_reducible rfl)
            try simp only [Act.put, List.setIfInBounds_toArray, List.set_cons_zero, List.set_cons_succ]
            refine wpAnyH_take (i := 20) (oi := ?oipy20) (v := ?vpy20) ?hipy20 (by kernel_rfl) (by kernel_rfl) (by kernel_rfl) ?hQpy20 ?hypy20 (by assumption) ?_; (case hipy20 => (simp only [List.getElem?_toArray, List.getElem?_cons_succ, List.getElem?_cons_zero]; try rfl)); (case hQpy20 => exact fun _ _ _ h => h)
            case hypy20 => (refine Or.inl ⟨by rfl, ?_⟩; intro w' hSw; (try dsimp only at hSw); go_simp; try with_reducible rfl)
            try simp only [Act.put, List.setIfInBounds_toArray, List.set_cons_zero, List.set_cons_succ]
            refine wpAnyH_take (i := 21) (oi := ?oipy21) (v := ?vpy21) ?hipy21 (by kernel_rfl) (by kernel_rfl) (by kernel_rfl) ?hQpy21 ?hypy21 (by assumption) ?_; (case hipy21 => (simp only [List.getElem?_toArray, List.getElem?_cons_succ, List.getElem?_cons_zero]; try rfl)); (case hQpy21 => exact fun _ _ _ h => h)
            case hypy21 => (refine Or.inl ⟨by rfl, ?_⟩; intro w' hSw; (try dsimp only at hSw); go_simp; try with_reducible rfl)
            try simp only [Act.put, List.setIfInBounds_toArray, List.set_cons_zero, List.set_cons_succ]
            refine wpAnyH_done (by kernel_rfl) ?_ _
            have HM6 := Lib.hid (HM5.out.below (Below.refl w5.heap.size w5).drew)
            have HK6 := Lib.hid (HK5.out.below (Below.refl w5.heap.size w5).drew HK5.out.lt)
            obtain ⟨mm, hmm⟩ : ∃ m, t3.p.h.n = m := ⟨_, rfl⟩
            have HMM := Lib.hid hmm
            have HSZ := Lib.hid HOK5.out.hg.sz
            clear hmm k0 k1 k2
            go_wp2_with fail
            (with_reducible refine (BS.dump HM6.out mm HMM.out).mono ?_)
            rintro e w7 ⟨gs, sn, cs, gd, cp, rfl, h1, h2, h3, h4⟩
            have HD := Lib.hid h2
            have HK7 := Lib.hid (HK6.out.below h4 HK6.out.lt)
            have HBE := Lib.hid (HM6.out.below h4).bel
            have HCP := Lib.hid h3
            clear h1 h2 h3 h4
            dsimp only
            go_wp2_with fail
            go_loopw [17, 20] (fun ok i wr => ∃ (b : Bool) (q : Nat), q ≤ mm ∧ ok = .bool b ∧ i = .int .i64 q ∧ Hid ((b = true ∧ t.p.nextE ⟨kk0, kn0, ks0⟩ = 0) ∨ (b = false ∧ (⟨kk0, kn0, ks0⟩ : V).k ≠ 0 ∧ ¬ t.p.inB ⟨kk0, kn0, ks0⟩ ∧ ∀ z, z < q → t.p.h.key z ≠ ⟨kk0, kn0, ks0⟩)) ∧ Hid (Below w7.heap.size w7 wr)) (fun _ i _ => mm - (intOf i).toNat)
            case atStart => exact ⟨_, 0, Nat.zero_le _, rfl, rfl, Lib.hid (HINV.out.imp (fun h => ⟨(by first | rfl | exact h.1), h.2⟩) (fun h => ⟨(by first | rfl | exact h.1), h.2⟩)), Lib.hid (Below.refl _ _)⟩
            case round =>
              clear HINV
              obtain ⟨b, q, hq, rfl, rfl, HINV, HBI⟩ := hrel
              by_cases hqm : q < mm
              · have dq : decide ((q : Int) < (mm : Int)) = true := by simp; omega
                have q1 : (q : Int) < (mm : Int) := by omega
                have q3 : (mm : Int) ≤ 9223372036854775807 := by have h1 := HMM.out; have h2 := HSZ.out; rw [HP3.out] at h1; omega
                have HQM := Lib.hid hqm
                cases b with
                | true =>
                  have HI2 : Hid (t.p.nextE ⟨kk0, kn0, ks0⟩ = 0) := Lib.hid (HINV.out.elim (fun h => h.2) (fun h => by simp at h))
                  go_wp2
                  go_quiet (fail)
                  go_wp2
                  go_roundw
                  case rel => exact ⟨true, q + 1, HQM.out, rfl, by go_num, Lib.hid (.inl ⟨rfl, HI2.out⟩), Lib.hid (below_drewN HBI.out _)⟩
                  case measure => have := HQM.out; simp [intOf]; omega
                | false =>
                  have hi := (HINV.out.resolve_left (fun h => by simp at h)).2
                  have HI := Lib.hid hi
                  have hd := HD.out q (by have := HMM.out; omega)
                  have hd2 := hd.below HBI.out hd.lt
                  obtain ⟨g0, g1, g2, -, -, -, -, -, -⟩ := hd2
                  rw [HP3.out] at g0 g1 g2
                  obtain ⟨y, hy⟩ : ∃ y, t.p.h.key q = y := ⟨_, rfl⟩
                  have HY := Lib.hid hy
                  rw [hy] at g0 g1 g2
                  obtain ⟨k0, k1, k2, -, -⟩ := HK7.out.below HBI.out HK7.out.lt
                  dsimp only at k0 k1 k2
                  simp only [Nat.zero_add] at k1 k2
                  clear hi hd hy hqm hq
                  by_cases e : y = ⟨kk0, kn0, ks0⟩
                  · subst e
                    have HI2 : Hid (t.p.nextE ⟨kk0, kn0, ks0⟩ = 0) := Lib.hid (keys_yes HOK5.out HOKV.out (.inr (.inr ⟨q, by have h1 := HMM.out; rw [HP3.out] at h1; have := HQM.out; omega, HY.out⟩)))
                    dsimp only at g0 g1 g2
                    go_wp2
                    go_quiet (fail)
                    go_wp2
                    go_roundw
                    case rel => exact ⟨true, q + 1, HQM.out, rfl, by go_num, Lib.hid (.inl ⟨rfl, HI2.out⟩), Lib.hid (below_drewN HBI.out _)⟩
                    case measure => have := HQM.out; simp [intOf]; omega
                  · have h3 := ne3 e
                    have HN2 : Hid (∀ z, z < q + 1 → t.p.h.key z ≠ ⟨kk0, kn0, ks0⟩) := Lib.hid (fun z hz => by
                      by_cases ez : z = q
                      · rw [ez, HY.out]; exact e
                      · exact HI.out.2.2 z (by omega))
                    obtain ⟨yk, yn, ys⟩ := y
                    dsimp only at h3 g0 g1 g2
                    clear e
                    rcases h3 with e1 | ⟨e0, e1⟩ | ⟨e0, e00, e1, e2⟩
                    rotate_left
                    subst e0
                    rotate_left
                    subst e0 e00
                    rotate_left
                    all_goals
                      go_wp2
                      go_quiet (fail)
                      go_wp2
                      go_roundw
                      case rel => exact ⟨false, q + 1, HQM.out, rfl, by go_num, Lib.hid (.inr ⟨rfl, HI.out.1, HI.out.2.1, HN2.out⟩), Lib.hid (below_drewN HBI.out _)⟩
                      case measure => have := HQM.out; simp [intOf]; omega
              · obtain rfl : q = mm := by omega
                have dq : decide ((q : Int) < (q : Int)) = false := by simp
                cases b with
                | true =>
                  have hI2 : t.p.nextE ⟨kk0, kn0, ks0⟩ = 0 := HINV.out.elim (fun h => h.2) (fun h => by simp at h)
                  obtain rfl : ee = 0 := by rw [← HEE.out]; exact hI2
                  clear hI2
                  go_wp2
                  go_ret
                  exact ⟨rfl, HBE.out.trans (HBI.out.mono HBE.out.size)⟩
                | false =>
                  have hi := (HINV.out.resolve_left (fun h => by simp at h)).2
                  obtain rfl : ee = 9 := by
                    rw [← HEE.out]
                    exact keys_no HOK5.out HOKV.out hi.1 hi.2.1 (fun z hz => hi.2.2 z (by have h1 := HMM.out; rw [HP3.out] at h1; omega))
                  clear hi
                  go_wp2
                  go_ret
                  exact ⟨rfl, HBE.out.trans (HBI.out.mono HBE.out.size)⟩
          · have HINV : Hid ((false = true ∧ t.p.nextE ⟨2, kn0, ks0⟩ = 0) ∨ (false = false ∧ (⟨2, kn0, ks0⟩ : V).k ≠ 0 ∧ ¬ t.p.inB ⟨2, kn0, ks0⟩ ∧ ∀ z, z < 0 → t.p.h.key z ≠ ⟨2, kn0, ks0⟩)) := Lib.hid (.inr ⟨rfl, (by show (2 : Int) ≠ 0; decide), hnb, fun z hz => by omega⟩)
            clear hnb
            go_wp2_with fail
            refine wp_region_held_drew (S := (fun w' => w'.cell? ⟨W.heap.size + 1, 0, none⟩ = some (.int .i64 2) ∧ w'.cell? ⟨W.heap.size + 1, 1, none⟩ = some (.int .i64 kn0) ∧ w'.cell? ⟨W.heap.size + 1, 2, none⟩ = some (.string ks0))) (by kernel_rfl) ?_ (fun hH0pz => ?_)
            · with_reducible exact HSS.out _ (Below.refl _ w5).drew
            refine wpAnyH_take (i := 0) (oi := ?oipz0) (v := ?vpz0) ?hipz0 (by kernel_rfl) (by kernel_rfl) (by kernel_rfl) ?hQpz0 ?hypz0 (by assumption) ?_; (case hipz0 => (simp only [List.getElem?_toArray, List.getElem?_cons_succ, List.getElem?_cons_zero]; try rfl)); (case hQpz0 => exact fun _ _ _ h => h)
            case hypz0 => (refine Or.inl ⟨by rfl, ?_⟩; intro w' hSw; (try dsimp only at hSw); go_simp; try with_reducible rfl)
            try simp only [Act.put, List.setIfInBounds_toArray, List.set_cons_zero, List.set_cons_succ]
            refine wpAnyH_take (i := 1) (oi := ?oipz1) (v := ?vpz1) ?hipz1 (by kernel_rfl) (by kernel_rfl) (by kernel_rfl) ?hQpz1 ?hypz1 (by assumption) ?_; (case hipz1 => (simp only [List.getElem?_toArray, List.getElem?_cons_succ, List.getElem?_cons_zero]; try rfl)); (case hQpz1 => exact fun _ _ _ h => h)
            case hypz1 => (refine Or.inl ⟨by rfl, ?_⟩; intro w' hSw; (try dsimp only at hSw); go_simp; try with_reducible rfl)
            try simp only [Act.put, List.setIfInBounds_toArray, List.set_cons_zero, List.set_cons_succ]
            refine wpAnyH_take (i := 2) (oi := ?oipz2) (v := ?vpz2) ?hipz2 (by kernel_rfl) (by kernel_rfl) (by kernel_rfl) ?hQpz2 ?hypz2 (by assumption) ?_; (case hipz2 => (simp only [List.getElem?_toArray, List.getElem?_cons_succ, List.getElem?_cons_zero]; try rfl)); (case hQpz2 => exact fun _ _ _ h => h)
            case hypz2 => (refine Or.inl ⟨by rfl, ?_⟩; intro w' hSw; (try dsimp only at hSw); go_simp; try with_reducible rfl)
            try simp only [Act.put, List.setIfInBounds_toArray, List.set_cons_zero, List.set_cons_succ]
            refine wpAnyH_take (i := 3) (oi := ?oipz3) (v := ?vpz3) ?hipz3 (by kernel_rfl) (by kernel_rfl) (by kernel_rfl) ?hQpz3 ?hypz3 (by assumption) ?_; (case hipz3 => (simp only [List.getElem?_toArray, List.getElem?_cons_succ, List.getElem?_cons_zero]; try rfl)); (case hQpz3 => exact fun _ _ _ h => h)
            case hypz3 => (refine Or.inl ⟨by rfl, ?_⟩; intro w' hSw; (try dsimp only at hSw); go_simp; try with_reducible rfl)
            try simp only [Act.put, List.setIfInBounds_toArray, List.set_cons_zero, List.set_cons_succ]
            refine wpAnyH_take (i := 4) (oi := ?oipz4) (v := ?vpz4) ?hipz4 (by kernel_rfl) (by kernel_rfl) (by kernel_rfl) ?hQpz4 ?hypz4 (by assumption) ?_; (case hipz4 => (simp only [List.getElem?_toArray, List.getElem?_cons_succ, List.getElem?_cons_zero]; try rfl)); (case hQpz4 => exact fun _ _ _ h => h)
            case hypz4 => (refine Or.inl ⟨by rfl, ?_⟩; intro w' hSw; (try dsimp only at hSw); go_simp; try with_reducible rfl)
            try simp only [Act.put, List.setIfInBounds_toArray, List.set_cons_zero, List.set_cons_succ]
            refine wpAnyH_take (i := 5) (oi := ?oipz5) (v := ?vpz5) ?hipz5 (by kernel_rfl) (by kernel_rfl) (by kernel_rfl) ?hQpz5 ?hypz5 (by assumption) ?_; (case hipz5 => (simp only [List.getElem?_toArray, List.getElem?_cons_succ, List.getElem?_cons_zero]; try rfl)); (case hQpz5 => exact fun _ _ _ h => h)
            case hypz5 => (refine Or.inl ⟨by rfl, ?_⟩; intro w' hSw; (try dsimp only at hSw); go_simp; try with_reducible rfl)
            try simp only [Act.put, List.setIfInBounds_toArray, List.set_cons_zero, List.set_cons_succ]
            refine wpAnyH_take (i := 6) (oi := ?oipz6) (v := ?vpz6) ?hipz6 (by kernel_rfl) (by kernel_rfl) (by kernel_rfl) ?hQpz6 ?hypz6 (by assumption) ?_; (case hipz6 => (simp only [List.getElem?_toArray, List.getElem?_cons_succ, List.getElem?_cons_zero]; try rfl)); (case hQpz6 => exact fun _ _ _ h => h)
            case hypz6 => (refine Or.inl ⟨by rfl, ?_⟩; intro w' hSw; (try dsimp only at hSw); go_simp; try with_reducible rfl)
            try simp only [Act.put, List.setIfInBounds_toArray, List.set_cons_zero, List.set_cons_succ]
            refine wpAnyH_take (i := 7) (oi := ?oipz7) (v := ?vpz7) ?hipz7 (by kernel_rfl) (by kernel_rfl) (by kernel_rfl) ?hQpz7 ?hypz7 (by assumption) ?_; (case hipz7 => (simp only [List.getElem?_toArray, List.getElem?_cons_succ, List.getElem?_cons_zero]; try rfl)); (case hQpz7 => exact fun _ _ _ h => h)
            case hypz7 => (refine Or.inl ⟨by rfl, ?_⟩; intro w' hSw; (try dsimp only at hSw); go_simp; try with_reducible rfl)
            try simp only [Act.put, List.setIfInBounds_toArray, List.set_cons_zero, List.set_cons_succ]
            refine wpAnyH_take (i := 8) (oi := ?oipz8) (v := ?vpz8) ?hipz8 (by kernel_rfl) (by kernel_rfl) (by kernel_rfl) ?hQpz8 ?hypz8 (by assumption) ?_; (case hipz8 => (simp only [List.getElem?_toArray, List.getElem?_cons_succ, List.getElem?_cons_zero]; try rfl)); (case hQpz8 => exact fun _ _ _ h => h)
            case hypz8 => (refine Or.inl ⟨by rfl, ?_⟩; intro w' hSw; (try dsimp only at hSw); go_simp; try with_reducible rfl)
            try simp only [Act.put, List.setIfInBounds_toArray, List.set_cons_zero, List.set_cons_succ]
            refine wpAnyH_take (i := 9) (oi := ?oipz9) (v := ?vpz9) ?hipz9 (by kernel_rfl) (by kernel_rfl) (by kernel_rfl) ?hQpz9 ?hypz9 (by assumption) ?_; (case hipz9 => (simp only [List.getElem?_toArray, List.getElem?_cons_succ, List.getElem?_cons_zero]; try rfl)); (case hQpz9 => exact fun _ _ _ h => h)
            case hypz9 => (refine Or.inl ⟨by rfl, ?_⟩; intro w' hSw; (try dsimp only at hSw); go_simp; try with_reducible rfl)
            try simp only [Act.put, List.setIfInBounds_toArray, List.set_cons_zero, List.set_cons_succ]
            refine wpAnyH_take (i := 10) (oi := ?oipz10) (v := ?vpz10) ?hipz10 (by kernel_rfl) (by kernel_rfl) (by kernel_rfl) ?hQpz10 ?hypz10 (by assumption) ?_; (case hipz10 => (simp only [List.getElem?_toArray, List.getElem?_cons_succ, List.getElem?_cons_zero]; try rfl)); (case hQpz10 => exact fun _ _ _ h => h)
            case hypz10 => (refine Or.inl ⟨by rfl, ?_⟩; intro w' hSw; (try dsimp only at hSw); go_simp; try with_reducible rfl)
            try simp only [Act.put, List.setIfInBounds_toArray, List.set_cons_zero, List.set_cons_succ]
            refine wpAnyH_take (i := 11) (oi := ?oipz11) (v := ?vpz11) ?hipz11 (by kernel_rfl) (by kernel_rfl) (by kernel_rfl) ?hQpz11 ?hypz11 (by assumption) ?_; (case hipz11 => (simp only [List.getElem?_toArray, List.getElem?_cons_succ, List.getElem?_cons_zero]; try rfl)); (case hQpz11 => exact fun _ _ _ h => h)
            case hypz11 => (refine Or.inl ⟨by rfl, ?_⟩; intro w' hSw; (try dsimp only at hSw); go_simp; try with_reducible rfl)
            try simp only [Act.put, List.setIfInBounds_toArray, List.set_cons_zero, List.set_cons_succ]
            refine wpAnyH_take (i := 12) (oi := ?oipz12) (v := ?vpz12) ?hipz12 (by kernel_rfl) (by kernel_rfl) (by kernel_rfl) ?hQpz12 ?hypz12 (by assumption) ?_; (case hipz12 => (simp only [List.getElem?_toArray, List.getElem?_cons_succ, List.getElem?_cons_zero]; try rfl)); (case hQpz12 => exact fun _ _ _ h => h)
            case hypz12 => (refine Or.inl ⟨by rfl, ?_⟩; intro w' hSw; (try dsimp only at hSw); go_simp; try with_reducible rfl)
            try simp only [Act.put, List.setIfInBounds_toArray, List.set_cons_zero, List.set_cons_succ]
            refine wpAnyH_take (i := 13) (oi := ?oipz13) (v := undef) ?hipz13 (by kernel_rfl) (by kernel_rfl) (by kernel_rfl) ?hQpz13 ?hypz13 (by assumption) ?_; (case hipz13 => (simp only [List.getElem?_toArray, List.getElem?_cons_succ, List.getElem?_cons_zero]; try rfl)); (case hQpz13 => exact fun _ _ _ h => h)
            case hypz13 => exact Or.inr ⟨by rfl, rfl⟩
            try simp only [Act.put, List.setIfInBounds_toArray, List.set_cons_zero, List.set_cons_succ]
            refine wpAnyH_take (i := 14) (oi := ?oipz14) (v := undef) ?hipz14 (by kernel_rfl) (by kernel_rfl) (by kernel_rfl) ?hQpz14 ?hypz14 (by assumption) ?_; (case hipz14 => (simp only [List.getElem?_toArray, List.getElem?_cons_succ, List.getElem?_cons_zero]; try rfl)); (case hQpz14 => exact fun _ _ _ h => h)
            case hypz14 => exact Or.inr ⟨by rfl, rfl⟩
            try simp only [Act.put, List.setIfInBounds_toArray, List.set_cons_zero, List.set_cons_succ]
            refine wpAnyH_take (i := 15) (oi := ?oipz15) (v := undef) ?hipz15 (by kernel_rfl) (by kernel_rfl) (by kernel_rfl) ?hQpz15 ?hypz15 (by assumption) ?_; (case hipz15 => (simp only [List.getElem?_toArray, List.getElem?_cons_succ, List.getElem?_cons_zero]; try rfl)); (case hQpz15 => exact fun _ _ _ h => h)
            case hypz15 => exact Or.inr ⟨by rfl, rfl⟩
            try simp only [Act.put, List.setIfInBounds_toArray, List.set_cons_zero, List.set_cons_succ]
            refine wpAnyH_take (i := 16) (oi := ?oipz16) (v := undef) ?hipz16 (by kernel_rfl) (by kernel_rfl) (by kernel_rfl) ?hQpz16 ?hypz16 (by assumption) ?_; (case hipz16 => (simp only [List.getElem?_toArray, List.getElem?_cons_succ, List.getElem?_cons_zero]; try rfl)); (case hQpz16 => exact fun _ _ _ h => h)
            case hypz16 => exact Or.inr ⟨by rfl, rfl⟩
            try simp only [Act.put, List.setIfInBounds_toArray, List.set_cons_zero, List.set_cons_succ]
            refine wpAnyH_take (i := 17) (oi := ?oipz17) (v := undef) ?hipz17 (by kernel_rfl) (by kernel_rfl) (by kernel_rfl) ?hQpz17 ?hypz17 (by assumption) ?_; (case hipz17 => (simp only [List.getElem?_toArray, List.getElem?_cons_succ, List.getElem?_cons_zero]; try rfl)); (case hQpz17 => exact fun _ _ _ h => h)
            case hypz17 => exact Or.inr ⟨by rfl, rfl⟩
            try simp only [Act.put, List.setIfInBounds_toArray, List.set_cons_zero, List.set_cons_succ]
            refine wpAnyH_take (i := 18) (oi := ?oipz18) (v := undef) ?hipz18 (by kernel_rfl) (by kernel_rfl) (by kernel_rfl) ?hQpz18 ?hypz18 (by assumption) ?_; (case hipz18 => (simp only [List.getElem?_toArray, List.getElem?_cons_succ, List.getElem?_cons_zero]; try rfl)); (case hQpz18 => exact fun _ _ _ h => h)
            case hypz18 => exact Or.inr ⟨by rfl, rfl⟩
            try simp only [Act.put, List.setIfInBounds_toArray, List.set_cons_zero, List.set_cons_succ]
            refine wpAnyH_take (i := 19) (oi := ?oipz19) (v := ?vpz19) ?hipz19 (by kernel_rfl) (by kernel_rfl) (by kernel_rfl) ?hQpz19 ?hypz19 (by assumption) ?_; (case hipz19 => (simp only [List.getElem?_toArray, List.getElem?_cons_succ, List.getElem?_cons_zero]; try rfl)); (case hQpz19 => exact fun _ _ _ h => h)
            case hypz19 => (refine Or.inl ⟨by rfl, ?_⟩; intro w' hSw; (try dsimp only at hSw); go_simp; try with_reducible rfl)
            try simp only [Act.put, List.setIfInBounds_toArray, List.set_cons_zero, List.set_cons_succ]
            refine wpAnyH_take (i := 20) (oi := ?oipz20) (v := ?vpz20) ?hipz20 (by kernel_rfl) (by kernel_rfl) (by kernel_rfl) ?hQpz20 ?hypz20 (by assumption) ?_; (case hipz20 => (simp only [List.getElem?_toArray, List.getElem?_cons_succ, List.getElem?_cons_zero]; try rfl)); (case hQpz20 => exact fun _ _ _ h => h)
            case hypz20 => (refine Or.inl ⟨by rfl, ?_⟩; intro w' hSw; (try dsimp only at hSw); go_simp; try with_reducible rfl)
            try simp only [Act.put, List.setIfInBounds_toArray, List.set_cons_zero, List.set_cons_succ]
            refine wpAnyH_take (i := 21) (oi := ?oipz21) (v := ?vpz21) ?hipz21 (by kernel_rfl) (by kernel_rfl) (by kernel_rfl) ?hQpz21 ?hypz21 (by assumption) ?_; (case hipz21 => (simp only [List.getElem?_toArray, List.getElem?_cons_succ, List.getElem?_cons_zero]; try rfl)); (case hQpz21 => exact fun _ _ _ h => h)
            case hypz21 => (refine Or.inl ⟨by rfl, ?_⟩; intro w' hSw; (try dsimp only at hSw); go_simp; try with_reducible rfl)
            try simp only [Act.put, List.setIfInBounds_toArray, List.set_cons_zero, List.set_cons_succ]
            refine wpAnyH_done (by kernel_rfl) ?_ _
            have HM6 := Lib.hid (HM5.out.below (Below.refl w5.heap.size w5).drew)
            have HK6 := Lib.hid (HK5.out.below (Below.refl w5.heap.size w5).drew HK5.out.lt)
            obtain ⟨mm, hmm⟩ : ∃ m, t3.p.h.n = m := ⟨_, rfl⟩
            have HMM := Lib.hid hmm
            have HSZ := Lib.hid HOK5.out.hg.sz
            clear hmm k0 k1 k2
            go_wp2_with fail
            (with_reducible refine (BS.dump HM6.out mm HMM.out).mono ?_)
            rintro e w7 ⟨gs, sn, cs, gd, cp, rfl, h1, h2, h3, h4⟩
            have HD := Lib.hid h2
            have HK7 := Lib.hid (HK6.out.below h4 HK6.out.lt)
            have HBE := Lib.hid (HM6.out.below h4).bel
            have HCP := Lib.hid h3
            clear h1 h2 h3 h4
            dsimp only
            go_wp2_with fail
            go_loopw [17, 20] (fun ok i wr => ∃ (b : Bool) (q : Nat), q ≤ mm ∧ ok = .bool b ∧ i = .int .i64 q ∧ Hid ((b = true ∧ t.p.nextE ⟨2, kn0, ks0⟩ = 0) ∨ (b = false ∧ (⟨2, kn0, ks0⟩ : V).k ≠ 0 ∧ ¬ t.p.inB ⟨2, kn0, ks0⟩ ∧ ∀ z, z < q → t.p.h.key z ≠ ⟨2, kn0, ks0⟩)) ∧ Hid (Below w7.heap.size w7 wr)) (fun _ i _ => mm - (intOf i).toNat)
            case atStart => exact ⟨_, 0, Nat.zero_le _, rfl, rfl, Lib.hid (HINV.out.imp (fun h => ⟨(by first | rfl | exact h.1), h.2⟩) (fun h => ⟨(by first | rfl | exact h.1), h.2⟩)), Lib.hid (Below.refl _ _)⟩
            case round =>
              clear HINV
              obtain ⟨b, q, hq, rfl, rfl, HINV, HBI⟩ := hrel
              by_cases hqm : q < mm
              · have dq : decide ((q : Int) < (mm : Int)) = true := by simp; omega
                have q1 : (q : Int) < (mm : Int) := by omega
                have q3 : (mm : Int) ≤ 9223372036854775807 := by have h1 := HMM.out; have h2 := HSZ.out; rw [HP3.out] at h1; omega
                have HQM := Lib.hid hqm
                cases b with
                | true =>
                  have HI2 : Hid (t.p.nextE ⟨2, kn0, ks0⟩ = 0) := Lib.hid (HINV.out.elim (fun h => h.2) (fun h => by simp at h))
                  go_wp2
                  go_quiet (fail)
                  go_wp2
                  go_roundw
                  case rel => exact ⟨true, q + 1, HQM.out, rfl, by go_num, Lib.hid (.inl ⟨rfl, HI2.out⟩), Lib.hid (below_drewN HBI.out _)⟩
                  case measure => have := HQM.out; simp [intOf]; omega
                | false =>
                  have hi := (HINV.out.resolve_left (fun h => by simp at h)).2
                  have HI := Lib.hid hi
                  have hd := HD.out q (by have := HMM.out; omega)
                  have hd2 := hd.below HBI.out hd.lt
                  obtain ⟨g0, g1, g2, -, -, -, -, -, -⟩ := hd2
                  rw [HP3.out] at g0 g1 g2
                  obtain ⟨y, hy⟩ : ∃ y, t.p.h.key q = y := ⟨_, rfl⟩
                  have HY := Lib.hid hy
                  rw [hy] at g0 g1 g2
                  obtain ⟨k0, k1, k2, -, -⟩ := HK7.out.below HBI.out HK7.out.lt
                  dsimp only at k0 k1 k2
                  simp only [Nat.zero_add] at k1 k2
                  clear hi hd hy hqm hq
                  by_cases e : y = ⟨2, kn0, ks0⟩
                  · subst e
                    have HI2 : Hid (t.p.nextE ⟨2, kn0, ks0⟩ = 0) := Lib.hid (keys_yes HOK5.out HOKV.out (.inr (.inr ⟨q, by have h1 := HMM.out; rw [HP3.out] at h1; have := HQM.out; omega, HY.out⟩)))
                    dsimp only at g0 g1 g2
                    go_wp2
                    go_quiet (fail)
                    go_wp2
                    go_roundw
                    case rel => exact ⟨true, q + 1, HQM.out, rfl, by go_num, Lib.hid (.inl ⟨rfl, HI2.out⟩), Lib.hid (below_drewN HBI.out _)⟩
                    case measure => have := HQM.out; simp [intOf]; omega
                  · have h3 := ne3 e
                    have HN2 : Hid (∀ z, z < q + 1 → t.p.h.key z ≠ ⟨2, kn0, ks0⟩) := Lib.hid (fun z hz => by
                      by_cases ez : z = q
                      · rw [ez, HY.out]; exact e
                      · exact HI.out.2.2 z (by omega))
                    obtain ⟨yk, yn, ys⟩ := y
                    dsimp only at h3 g0 g1 g2
                    clear e
                    rcases h3 with e1 | ⟨e0, e1⟩ | ⟨e0, e00, e1, e2⟩
                    rotate_left
                    subst e0
                    rotate_left
                    subst e0 e00
                    rotate_left
                    all_goals
                      go_wp2
                      go_quiet (fail)
                      go_wp2
                      go_roundw
                      case rel => exact ⟨false, q + 1, HQM.out, rfl, by go_num, Lib.hid (.inr ⟨rfl, HI.out.1, HI.out.2.1, HN2.out⟩), Lib.hid (below_drewN HBI.out _)⟩
                      case measure => have := HQM.out; simp [intOf]; omega
              · obtain rfl : q = mm := by omega
                have dq : decide ((q : Int) < (q : Int)) = false := by simp
                cases b with
                | true =>
                  have hI2 : t.p.nextE ⟨2, kn0, ks0⟩ = 0 := HINV.out.elim (fun h => h.2) (fun h => by simp at h)
                  obtain rfl : ee = 0 := by rw [← HEE.out]; exact hI2
                  clear hI2
                  go_wp2
                  go_ret
                  exact ⟨rfl, HBE.out.trans (HBI.out.mono HBE.out.size)⟩
                | false =>
                  have hi := (HINV.out.resolve_left (fun h => by simp at h)).2
                  obtain rfl : ee = 9 := by
                    rw [← HEE.out]
                    exact keys_no HOK5.out HOKV.out hi.1 hi.2.1 (fun z hz => hi.2.2 z (by have h1 := HMM.out; rw [HP3.out] at h1; omega))
                  clear hi
                  go_wp2
                  go_ret
                  exact ⟨rfl, HBE.out.trans (HBI.out.mono HBE.out.size)⟩
          · have HINV : Hid ((true = true ∧ t.p.nextE ⟨2, kn0, ks0⟩ = 0) ∨ (true = false ∧ (⟨2, kn0, ks0⟩ : V).k ≠ 0 ∧ ¬ t.p.inB ⟨2, kn0, ks0⟩ ∧ ∀ z, z < 0 → t.p.h.key z ≠ ⟨2, kn0, ks0⟩)) := Lib.hid (.inl ⟨rfl, keys_yes HOK5.out HOKV.out (.inr (.inl hnb))⟩)
            clear hnb
            go_wp2_with fail
            refine wp_region_held_drew (S := (fun w' => w'.cell? ⟨W.heap.size + 1, 0, none⟩ = some (.int .i64 2) ∧ w'.cell? ⟨W.heap.size + 1, 1, none⟩ = some (.int .i64 kn0) ∧ w'.cell? ⟨W.heap.size + 1, 2, none⟩ = some (.string ks0))) (by kernel_rfl) ?_ (fun hH0pu => ?_)
            · with_reducible exact HSS.out _ (Below.refl _ w5).drew
            refine wpAnyH_take (i := 0) (oi := ?oipu0) (v := ?vpu0) ?hipu0 (by kernel_rfl) (by kernel_rfl) (by kernel_rfl) ?hQpu0 ?hypu0 (by assumption) ?_; (case hipu0 => (simp only [List.getElem?_toArray, List.getElem?_cons_succ, List.getElem?_cons_zero]; try rfl)); (case hQpu0 => exact fun _ _ _ h => h)
            case hypu0 => (refine Or.inl ⟨by rfl, ?_⟩; intro w' hSw; (try dsimp only at hSw); go_simp; try with_reducible rfl)
            try simp only [Act.put, List.setIfInBounds_toArray, List.set_cons_zero, List.set_cons_succ]
            refine wpAnyH_take (i := 1) (oi := ?oipu1) (v := ?vpu1) ?hipu1 (by kernel_rfl) (by kernel_rfl) (by kernel_rfl) ?hQpu1 ?hypu1 (by assumption) ?_; (case hipu1 => (simp only [List.getElem?_toArray, List.getElem?_cons_succ, List.getElem?_cons_zero]; try rfl)); (case hQpu1 => exact fun _ _ _ h => h)
            case hypu1 => (refine Or.inl ⟨by rfl, ?_⟩; intro w' hSw; (try dsimp only at hSw); go_simp; try with_reducible rfl)
            try simp only [Act.put, List.setIfInBounds_toArray, List.set_cons_zero, List.set_cons_succ]
            refine wpAnyH_take (i := 2) (oi := ?oipu2) (v := ?vpu2) ?hipu2 (by kernel_rfl) (by kernel_rfl) (by kernel_rfl) ?hQpu2 ?hypu2 (by assumption) ?_; (case hipu2 => (simp only [List.getElem?_toArray, List.getElem?_cons_succ, List.getElem?_cons_zero]; try rfl)); (case hQpu2 => exact fun _ _ _ h => h)
            case hypu2 => (refine Or.inl ⟨by rfl, ?_⟩; intro w' hSw; (try dsimp only at hSw); go_simp; try with_reducible rfl)
            try simp only [Act.put, List.setIfInBounds_toArray, List.set_cons_zero, List.set_cons_succ]
            refine wpAnyH_take (i := 3) (oi := ?oipu3) (v := ?vpu3) ?hipu3 (by kernel_rfl) (by kernel_rfl) (by kernel_rfl) ?hQpu3 ?hypu3 (by assumption) ?_; (case hipu3 => (simp only [List.getElem?_toArray, List.getElem?_cons_succ, List.getElem?_cons_zero]; try rfl)); (case hQpu3 => exact fun _ _ _ h => h)
            case hypu3 => (refine Or.inl ⟨by rfl, ?_⟩; intro w' hSw; (try dsimp only at hSw); go_simp; try with_reducible rfl)
            try simp only [Act.put, List.setIfInBounds_toArray, List.set_cons_zero, List.set_cons_succ]
            refine wpAnyH_take (i := 4) (oi := ?oipu4) (v := ?vpu4) ?hipu4 (by kernel_rfl) (by kernel_rfl) (by kernel_rfl) ?hQpu4 ?hypu4 (by assumption) ?_; (case hipu4 => (simp only [List.getElem?_toArray, List.getElem?_cons_succ, List.getElem?_cons_zero]; try rfl)); (case hQpu4 => exact fun _ _ _ h => h)
            case hypu4 => (refine Or.inl ⟨by rfl, ?_⟩; intro w' hSw; (try dsimp only at hSw); go_simp; try with_reducible rfl)
            try simp only [Act.put, List.setIfInBounds_toArray, List.set_cons_zero, List.set_cons_succ]
            refine wpAnyH_take (i := 5) (oi := ?oipu5) (v := ?vpu5) ?hipu5 (by kernel_rfl) (by kernel_rfl) (by kernel_rfl) ?hQpu5 ?hypu5 (by assumption) ?_; (case hipu5 => (simp only [List.getElem?_toArray, List.getElem?_cons_succ, List.getElem?_cons_zero]; try rfl)); (case hQpu5 => exact fun _ _ _ h => h)
            case hypu5 => (refine Or.inl ⟨by rfl, ?_⟩; intro w' hSw; (try dsimp only at hSw); go_simp; try with_reducible rfl)
            try simp only [Act.put, List.setIfInBounds_toArray, List.set_cons_zero, List.set_cons_succ]
            refine wpAnyH_take (i := 6) (oi := ?oipu6) (v := ?vpu6) ?hipu6 (by kernel_rfl) (by kernel_rfl) (by kernel_rfl) ?hQpu6 ?hypu6 (by assumption) ?_; (case hipu6 => (simp only [List.getElem?_toArray, List.getElem?_cons_succ, List.getElem?_cons_zero]; try rfl)); (case hQpu6 => exact fun _ _ _ h => h)
            case hypu6 => (refine Or.inl ⟨by rfl, ?_⟩; intro w' hSw; (try dsimp only at hSw); go_simp; try with_reducible rfl)
            try simp only [Act.put, List.setIfInBounds_toArray, List.set_cons_zero, List.set_cons_succ]
            refine wpAnyH_take (i := 7) (oi := ?oipu7) (v := ?vpu7) ?hipu7 (by kernel_rfl) (by kernel_rfl) (by kernel_rfl) ?hQpu7 ?hypu7 (by assumption) ?_; (case hipu7 => (simp only [List.getElem?_toArray, List.getElem?_cons_succ, List.getElem?_cons_zero]; try rfl)); (case hQpu7 => exact fun _ _ _ h => h)
            case hypu7 => (refine Or.inl ⟨by rfl, ?_⟩; intro w' hSw; (try dsimp only at hSw); go_simp; try with_reducible rfl)
            try simp only [Act.put, List.setIfInBounds_toArray, List.set_cons_zero, List.set_cons_succ]
            refine wpAnyH_take (i := 8) (oi := ?oipu8) (v := ?vpu8) ?hipu8 (by kernel_rfl) (by kernel_rfl) (by kernel_rfl) ?hQpu8 ?hypu8 (by assumption) ?_; (case hipu8 => (simp only [List.getElem?_toArray, List.getElem?_cons_succ, List.getElem?_cons_zero]; try rfl)); (case hQpu8 => exact fun _ _ _ h => h)
            case hypu8 => (refine Or.inl ⟨by rfl, ?_⟩; intro w' hSw; (try dsimp only at hSw); go_simp; try with_reducible rfl)
            try simp only [Act.put, List.setIfInBounds_toArray, List.set_cons_zero, List.set_cons_succ]
            refine wpAnyH_take (i := 9) (oi := ?oipu9) (v := ?vpu9) ?hipu9 (by kernel_rfl) (by kernel_rfl) (by kernel_rfl) ?hQpu9 ?hypu9 (by assumption) ?_; (case hipu9 => (simp only [List.getElem?_toArray, List.getElem?_cons_succ, List.getElem?_cons_zero]; try rfl)); (case hQpu9 => exact fun _ _ _ h => h)
            case hypu9 => (refine Or.inl ⟨by rfl, ?_⟩; intro w' hSw; (try dsimp only at hSw); go_simp; try with_reducible rfl)
            try simp only [Act.put, List.setIfInBounds_toArray, List.set_cons_zero, List.set_cons_succ]
            refine wpAnyH_take (i := 10) (oi := ?oipu10) (v := ?vpu10) ?hipu10 (by kernel_rfl) (by kernel_rfl) (by kernel_rfl) ?hQpu10 ?hypu10 (by assumption) ?_; (case hipu10 => (simp only [List.getElem?_toArray, List.getElem?_cons_succ, List.getElem?_cons_zero]; try rfl)); (case hQpu10 => exact fun _ _ _ h => h)
            case hypu10 => (refine Or.inl ⟨by rfl, ?_⟩; intro w' hSw; (try dsimp only at hSw); go_simp; try with_reducible rfl)
            try simp only [Act.put, List.setIfInBounds_toArray, List.set_cons_zero, List.set_cons_succ]
            refine wpAnyH_take (i := 11) (oi := ?oipu11) (v := ?vpu11) ?hipu11 (by kernel_rfl) (by kernel_rfl) (by kernel_rfl) ?hQpu11 ?hypu11 (by assumption) ?_; (case hipu11 => (simp only [List.getElem?_toArray, List.getElem?_cons_succ, List.getElem?_cons_zero]; try rfl)); (case hQpu11 => exact fun _ _ _ h => h)
            case hypu11 => (refine Or.inl ⟨by rfl, ?_⟩; intro w' hSw; (try dsimp only at hSw); go_simp; try with_reducible rfl)
            try simp only [Act.put, List.setIfInBounds_toArray, List.set_cons_zero, List.set_cons_succ]
            refine wpAnyH_take (i := 12) (oi := ?oipu12) (v := ?vpu12) ?hipu12 (by kernel_rfl) (by kernel_rfl) (by kernel_rfl) ?hQpu12 ?hypu12 (by assumption) ?_; (case hipu12 => (simp only [List.getElem?_toArray, List.getElem?_cons_succ, List.getElem?_cons_zero]; try rfl)); (case hQpu12 => exact fun _ _ _ h => h)
            case hypu12 => (refine Or.inl ⟨by rfl, ?_⟩; intro w' hSw; (try dsimp only at hSw); go_simp; try with_reducible rfl)
            try simp only [Act.put, List.setIfInBounds_toArray, List.set_cons_zero, List.set_cons_succ]
            refine wpAnyH_take (i := 13) (oi := ?oipu13) (v := ?vpu13) ?hipu13 (by kernel_rfl) (by kernel_rfl) (by kernel_rfl) ?hQpu13 ?hypu13 (by assumption) ?_; (case hipu13 => (simp only [List.getElem?_toArray, List.getElem?_cons_succ, List.getElem?_cons_zero]; try rfl)); (case hQpu13 => exact fun _ _ _ h => h)
            case hypu13 => (refine Or.inl ⟨by rfl, ?_⟩; intro w' hSw; (try dsimp only at hSw); go_simp; try with_reducible rfl)
            try simp only [Act.put, List.setIfInBounds_toArray, List.set_cons_zero, List.set_cons_succ]
            refine wpAnyH_take (i := 14) (oi := ?oipu14) (v := ?vpu14) ?hipu14 (by kernel_rfl) (by kernel_rfl) (by kernel_rfl) ?hQpu14 ?hypu14 (by assumption) ?_; (case hipu14 => (simp only [List.getElem?_toArray, List.getElem?_cons_succ, List.getElem?_cons_zero]; try rfl)); (case hQpu14 => exact fun _ _ _ h => h)
            case hypu14 => (refine Or.inl ⟨by rfl, ?_⟩; intro w' hSw; (try dsimp only at hSw); go_simp; try with_reducible rfl)
            try simp only [Act.put, List.setIfInBounds_toArray, List.set_cons_zero, List.set_cons_succ]
            refine wpAnyH_take (i := 15) (oi := ?oipu15) (v := ?vpu15) ?hipu15 (by kernel_rfl) (by kernel_rfl) (by kernel_rfl) ?hQpu15 ?hypu15 (by assumption) ?_; (case hipu15 => (simp only [List.getElem?_toArray, List.getElem?_cons_succ, List.getElem?_cons_zero]; try rfl)); (case hQpu15 => exact fun _ _ _ h => h)
            case hypu15 => (refine Or.inl ⟨by rfl, ?_⟩; intro w' hSw; (try dsimp only at hSw); go_simp; try with_reducible rfl)
            try simp only [Act.put, List.setIfInBounds_toArray, List.set_cons_zero, List.set_cons_succ]
            refine wpAnyH_ready (rs := [16]) (by kernel_rfl) (by simp) ?_
            refine AllReadyH.cons (o := ?opu16) ?hopu16 (fun K hK => ?_) AllReadyH.nil
            case hopu16 =>
              simp only [List.getElem?_toArray, List.getElem?_cons_succ, List.getElem?_cons_zero]
              try rfl
            go_simp
            (with_reducible refine (BS.stats (HM5.out.below (Below.refl _ w5).drew) N5 m5 f5 x5 HT5.out.1 HT5.out.2.1 HT5.out.2.2.1 HT5.out.2.2.2).mono ?_)
            rintro e wB ⟨rfl, hb⟩
            have HBB := Lib.hid (below_step (Below.refl w5.heap.size w5).drew hb)
            clear hb
            go_wp2_with fail
            refine hK.out _ _ ?_ (fun hH1pu => ?_)
            · with_reducible exact HSS.out _ HBB.out
            clear hK K hH0pu
            try simp only [Act.put, List.setIfInBounds_toArray, List.set_cons_zero, List.set_cons_succ]
            refine wpAnyH_take (i := 17) (oi := ?oipu17) (v := ?vpu17) ?hipu17 (by kernel_rfl) (by kernel_rfl) (by kernel_rfl) ?hQpu17 ?hypu17 (by assumption) ?_; (case hipu17 => (simp only [List.getElem?_toArray, List.getElem?_cons_succ, List.getElem?_cons_zero]; try rfl)); (case hQpu17 => exact fun _ _ _ h => h)
            case hypu17 => (refine Or.inl ⟨by rfl, ?_⟩; intro w' hSw; (try dsimp only at hSw); go_simp; try with_reducible rfl)
            try simp only [Act.put, List.setIfInBounds_toArray, List.set_cons_zero, List.set_cons_succ]
            refine wpAnyH_take (i := 18) (oi := ?oipu18) (v := ?vpu18) ?hipu18 (by kernel_rfl) (by kernel_rfl) (by kernel_rfl) ?hQpu18 ?hypu18 (by assumption) ?_; (case hipu18 => (simp only [List.getElem?_toArray, List.getElem?_cons_succ, List.getElem?_cons_zero]; try rfl)); (case hQpu18 => exact fun _ _ _ h => h)
            case hypu18 => (refine Or.inl ⟨by rfl, ?_⟩; intro w' hSw; (try dsimp only at hSw); go_simp; try with_reducible rfl)
            try simp only [Act.put, List.setIfInBounds_toArray, List.set_cons_zero, List.set_cons_succ]
            refine wpAnyH_take (i := 19) (oi := ?oipu19) (v := ?vpu19) ?hipu19 (by kernel_rfl) (by kernel_rfl) (by kernel_rfl) ?hQpu19 ?hypu19 (by assumption) ?_; (case hipu19 => (simp only [List.getElem?_toArray, List.getElem?_cons_succ, List.getElem?_cons_zero]; try rfl)); (case hQpu19 => exact fun _ _ _ h => h)
            case hypu19 => (refine Or.inl ⟨by rfl, ?_⟩; intro w' hSw; (try dsimp only at hSw); go_simp; try with_reducible rfl)
            try simp only [Act.put, List.setIfInBounds_toArray, List.set_cons_zero, List.set_cons_succ]
            refine wpAnyH_take (i := 20) (oi := ?oipu20) (v := ?vpu20) ?hipu20 (by kernel_rfl) (by kernel_rfl) (by kernel_rfl) ?hQpu20 ?hypu20 (by assumption) ?_; (case hipu20 => (simp only [List.getElem?_toArray, List.getElem?_cons_succ, List.getElem?_cons_zero]; try rfl)); (case hQpu20 => exact fun _ _ _ h => h)
            case hypu20 => (refine Or.inl ⟨by rfl, ?_⟩; intro w' hSw; (try dsimp only at hSw); go_simp; try with_reducible rfl)
            try simp only [Act.put, List.setIfInBounds_toArray, List.set_cons_zero, List.set_cons_succ]
            refine wpAnyH_take (i := 21) (oi := ?oipu21) (v := ?vpu21) ?hipu21 (by kernel_rfl) (by kernel_rfl) (by kernel_rfl) ?hQpu21 ?hypu21 (by assumption) ?_; (case hipu21 => (simp only [List.getElem?_toArray, List.getElem?_cons_succ, List.getElem?_cons_zero]; try rfl)); (case hQpu21 => exact fun _ _ _ h => h)
            case hypu21 => (refine Or.inl ⟨by rfl, ?_⟩; intro w' hSw; (try dsimp only at hSw); go_simp; try with_reducible rfl)
            try simp only [Act.put, List.setIfInBounds_toArray, List.set_cons_zero, List.set_cons_succ]
            refine wpAnyH_done (by kernel_rfl) ?_ _
            have HM6 := Lib.hid (HM5.out.below HBB.out)
            have HK6 := Lib.hid (HK5.out.below HBB.out HK5.out.lt)
            obtain ⟨mm, hmm⟩ : ∃ m, t3.p.h.n = m := ⟨_, rfl⟩
            have HMM := Lib.hid hmm
            have HSZ := Lib.hid HOK5.out.hg.sz
            clear hmm k0 k1 k2
            go_wp2_with fail
            (with_reducible refine (BS.dump HM6.out mm HMM.out).mono ?_)
            rintro e w7 ⟨gs, sn, cs, gd, cp, rfl, h1, h2, h3, h4⟩
            have HD := Lib.hid h2
            have HK7 := Lib.hid (HK6.out.below h4 HK6.out.lt)
            have HBE := Lib.hid (HM6.out.below h4).bel
            have HCP := Lib.hid h3
            clear h1 h2 h3 h4
            dsimp only
            go_wp2_with fail
            go_loopw [17, 20] (fun ok i wr => ∃ (b : Bool) (q : Nat), q ≤ mm ∧ ok = .bool b ∧ i = .int .i64 q ∧ Hid ((b = true ∧ t.p.nextE ⟨2, kn0, ks0⟩ = 0) ∨ (b = false ∧ (⟨2, kn0, ks0⟩ : V).k ≠ 0 ∧ ¬ t.p.inB ⟨2, kn0, ks0⟩ ∧ ∀ z, z < q → t.p.h.key z ≠ ⟨2, kn0, ks0⟩)) ∧ Hid (Below w7.heap.size w7 wr)) (fun _ i _ => mm - (intOf i).toNat)
            case atStart => exact ⟨_, 0, Nat.zero_le _, rfl, rfl, Lib.hid (HINV.out.imp (fun h => ⟨(by first | rfl | exact h.1), h.2⟩) (fun h => ⟨(by first | rfl | exact h.1), h.2⟩)), Lib.hid (Below.refl _ _)⟩
            case round =>
              clear HINV
              obtain ⟨b, q, hq, rfl, rfl, HINV, HBI⟩ := hrel
              by_cases hqm : q < mm
              · have dq : decide ((q : Int) < (mm : Int)) = true := by simp; omega
                have q1 : (q : Int) < (mm : Int) := by omega
                have q3 : (mm : Int) ≤ 9223372036854775807 := by have h1 := HMM.out; have h2 := HSZ.out; rw [HP3.out] at h1; omega
                have HQM := Lib.hid hqm
                cases b with
                | true =>
                  have HI2 : Hid (t.p.nextE ⟨2, kn0, ks0⟩ = 0) := Lib.hid (HINV.out.elim (fun h => h.2) (fun h => by simp at h))
                  go_wp2
                  go_quiet (fail)
                  go_wp2
                  go_roundw
                  case rel => exact ⟨true, q + 1, HQM.out, rfl, by go_num, Lib.hid (.inl ⟨rfl, HI2.out⟩), Lib.hid (below_drewN HBI.out _)⟩
                  case measure => have := HQM.out; simp [intOf]; omega
                | false =>
                  have hi := (HINV.out.resolve_left (fun h => by simp at h)).2
                  have HI := Lib.hid hi
                  have hd := HD.out q (by have := HMM.out; omega)
                  have hd2 := hd.below HBI.out hd.lt
                  obtain ⟨g0, g1, g2, -, -, -, -, -, -⟩ := hd2
                  rw [HP3.out] at g0 g1 g2
                  obtain ⟨y, hy⟩ : ∃ y, t.p.h.key q = y := ⟨_, rfl⟩
                  have HY := Lib.hid hy
                  rw [hy] at g0 g1 g2
                  obtain ⟨k0, k1, k2, -, -⟩ := HK7.out.below HBI.out HK7.out.lt
                  dsimp only at k0 k1 k2
                  simp only [Nat.zero_add] at k1 k2
                  clear hi hd hy hqm hq
                  by_cases e : y = ⟨2, kn0, ks0⟩
                  · subst e
                    have HI2 : Hid (t.p.nextE ⟨2, kn0, ks0⟩ = 0) := Lib.hid (keys_yes HOK5.out HOKV.out (.inr (.inr ⟨q, by have h1 := HMM.out; rw [HP3.out] at h1; have := HQM.out; omega, HY.out⟩)))
                    dsimp only at g0 g1 g2
                    go_wp2
                    go_quiet (fail)
                    go_wp2
                    go_roundw
                    case rel => exact ⟨true, q + 1, HQM.out, rfl, by go_num, Lib.hid (.inl ⟨rfl, HI2.out⟩), Lib.hid (below_drewN HBI.out _)⟩
                    case measure => have := HQM.out; simp [intOf]; omega
                  · have h3 := ne3 e
                    have HN2 : Hid (∀ z, z < q + 1 → t.p.h.key z ≠ ⟨2, kn0, ks0⟩) := Lib.hid (fun z hz => by
                      by_cases ez : z = q
                      · rw [ez, HY.out]; exact e
                      · exact HI.out.2.2 z (by omega))
                    obtain ⟨yk, yn, ys⟩ := y
                    dsimp only at h3 g0 g1 g2
                    clear e
                    rcases h3 with e1 | ⟨e0, e1⟩ | ⟨e0, e00, e1, e2⟩
                    rotate_left
                    subst e0
                    rotate_left
                    subst e0 e00
                    rotate_left
                    all_goals
                      go_wp2
                      go_quiet (fail)
                      go_wp2
                      go_roundw
                      case rel => exact ⟨false, q + 1, HQM.out, rfl, by go_num, Lib.hid (.inr ⟨rfl, HI.out.1, HI.out.2.1, HN2.out⟩), Lib.hid (below_drewN HBI.out _)⟩
                      case measure => have := HQM.out; simp [intOf]; omega
              · obtain rfl : q = mm := by omega
                have dq : decide ((q : Int) < (q : Int)) = false := by simp
                cases b with
                | true =>
                  have hI2 : t.p.nextE ⟨2, kn0, ks0⟩ = 0 := HINV.out.elim (fun h => h.2) (fun h => by simp at h)
                  obtain rfl : ee = 0 := by rw [← HEE.out]; exact hI2
                  clear hI2
                  go_wp2
                  go_ret
                  exact ⟨rfl, HBE.out.trans (HBI.out.mono HBE.out.size)⟩
                | false =>
                  have hi := (HINV.out.resolve_left (fun h => by simp at h)).2
                  obtain rfl : ee = 9 := by
                    rw [← HEE.out]
                    exact keys_no HOK5.out HOKV.out hi.1 hi.2.1 (fun z hz => hi.2.2 z (by have h1 := HMM.out; rw [HP3.out] at h1; omega))
                  clear hi
                  go_wp2
                  go_ret
                  exact ⟨rfl, HBE.out.trans (HBI.out.mono HBE.out.size)⟩
          · have HINV : Hid ((false = true ∧ t.p.nextE ⟨2, kn0, ks0⟩ = 0) ∨ (false = false ∧ (⟨2, kn0, ks0⟩ : V).k ≠ 0 ∧ ¬ t.p.inB ⟨2, kn0, ks0⟩ ∧ ∀ z, z < 0 → t.p.h.key z ≠ ⟨2, kn0, ks0⟩)) := Lib.hid (.inr ⟨rfl, (by show (2 : Int) ≠ 0; decide), hnb, fun z hz => by omega⟩)
            clear hnb
            go_wp2_with fail
            refine wp_region_held_drew (S := (fun w' => w'.cell? ⟨W.heap.size + 1, 0, none⟩ = some (.int .i64 2) ∧ w'.cell? ⟨W.heap.size + 1, 1, none⟩ = some (.int .i64 kn0) ∧ w'.cell? ⟨W.heap.size + 1, 2, none⟩ = some (.string ks0))) (by kernel_rfl) ?_ (fun hH0pv => ?_)
            · with_reducible exact HSS.out _ (Below.refl _ w5).drew
            refine wpAnyH_take (i := 0) (oi := ?oipv0) (v := ?vpv0) ?hipv0 (by kernel_rfl) (by kernel_rfl) (by kernel_rfl) ?hQpv0 ?hypv0 (by assumption) ?_; (case hipv0 => (simp only [List.getElem?_toArray, List.getElem?_cons_succ, List.getElem?_cons_zero]; try rfl)); (case hQpv0 => exact fun _ _ _ h => h)
            case hypv0 => (refine Or.inl ⟨by rfl, ?_⟩; intro w' hSw; (try dsimp only at hSw); go_simp; try with_reducible rfl)
            try simp only [Act.put, List.setIfInBounds_toArray, List.set_cons_zero, List.set_cons_succ]
            refine wpAnyH_take (i := 1) (oi := ?oipv1) (v := ?vpv1) ?hipv1 (by kernel_rfl) (by kernel_rfl) (by kernel_rfl) ?hQpv1 ?hypv1 (by assumption) ?_; (case hipv1 => (simp only [List.getElem?_toArray, List.getElem?_cons_succ, List.getElem?_cons_zero]; try rfl)); (case hQpv1 => exact fun _ _ _ h => h)
            case hypv1 => (refine Or.inl ⟨by rfl, ?_⟩; intro w' hSw; (try dsimp only at hSw); go_simp; try with_reducible rfl)
            try simp only [Act.put, List.setIfInBounds_toArray, List.set_cons_zero, List.set_cons_succ]
            refine wpAnyH_take (i := 2) (oi := ?oipv2) (v := ?vpv2) ?hipv2 (by kernel_rfl) (by kernel_rfl) (by kernel_rfl) ?hQpv2 ?hypv2 (by assumption) ?_; (case hipv2 => (simp only [List.getElem?_toArray, List.getElem?_cons_succ, List.getElem?_cons_zero]; try rfl)); (case hQpv2 => exact fun _ _ _ h => h)
            case hypv2 => (refine Or.inl ⟨by rfl, ?_⟩; intro w' hSw; (try dsimp only at hSw); go_simp; try with_reducible rfl)
            try simp only [Act.put, List.setIfInBounds_toArray, List.set_cons_zero, List.set_cons_succ]
            refine wpAnyH_take (i := 3) (oi := ?oipv3) (v := ?vpv3) ?hipv3 (by kernel_rfl) (by kernel_rfl) (by kernel_rfl) ?hQpv3 ?hypv3 (by assumption) ?_; (case hipv3 => (simp only [List.getElem?_toArray, List.getElem?_cons_succ, List.getElem?_cons_zero]; try rfl)); (case hQpv3 => exact fun _ _ _ h => h)
            case hypv3 => (refine Or.inl ⟨by rfl, ?_⟩; intro w' hSw; (try dsimp only at hSw); go_simp; try with_reducible rfl)
            try simp only [Act.put, List.setIfInBounds_toArray, List.set_cons_zero, List.set_cons_succ]
            refine wpAnyH_take (i := 4) (oi := ?oipv4) (v := ?vpv4) ?hipv4 (by kernel_rfl) (by kernel_rfl) (by kernel_rfl) ?hQpv4 ?hypv4 (by assumption) ?_; (case hipv4 => (simp only [List.getElem?_toArray, List.getElem?_cons_succ, List.getElem?_cons_zero]; try rfl)); (case hQpv4 => exact fun _ _ _ h => h)
            case hypv4 => (refine Or.inl ⟨by rfl, ?_⟩; intro w' hSw; (try dsimp only at hSw); go_simp; try with_reducible rfl)
            try simp only [Act.put, List.setIfInBounds_toArray, List.set_cons_zero, List.set_cons_succ]
            refine wpAnyH_take (i := 5) (oi := ?oipv5) (v := ?vpv5) ?hipv5 (by kernel_rfl) (by kernel_rfl) (by kernel_rfl) ?hQpv5 ?hypv5 (by assumption) ?_; (case hipv5 => (simp only [List.getElem?_toArray, List.getElem?_cons_succ, List.getElem?_cons_zero]; try rfl)); (case hQpv5 => exact fun _ _ _ h => h)
            case hypv5 => (refine Or.inl ⟨by rfl, ?_⟩; intro w' hSw; (try dsimp only at hSw); go_simp; try with_reducible rfl)
            try simp only [Act.put, List.setIfInBounds_toArray, List.set_cons_zero, List.set_cons_succ]
            refine wpAnyH_take (i := 6) (oi := ?oipv6) (v := ?vpv6) ?hipv6 (by kernel_rfl) (by kernel_rfl) (by kernel_rfl) ?hQpv6 ?hypv6 (by assumption) ?_; (case hipv6 => (simp only [List.getElem?_toArray, List.getElem?_cons_succ, List.getElem?_cons_zero]; try rfl)); (case hQpv6 => exact fun _ _ _ h => h)
            case hypv6 => (refine Or.inl ⟨by rfl, ?_⟩; intro w' hSw; (try dsimp only at hSw); go_simp; try with_reducible rfl)
            try simp only [Act.put, List.setIfInBounds_toArray, List.set_cons_zero, List.set_cons_succ]
            refine wpAnyH_take (i := 7) (oi := ?oipv7) (v := ?vpv7) ?hipv7 (by kernel_rfl) (by kernel_rfl) (by kernel_rfl) ?hQpv7 ?hypv7 (by assumption) ?_; (case hipv7 => (simp only [List.getElem?_toArray, List.getElem?_cons_succ, List.getElem?_cons_zero]; try rfl)); (case hQpv7 => exact fun _ _ _ h => h)
            case hypv7 => (refine Or.inl ⟨by rfl, ?_⟩; intro w' hSw; (try dsimp only at hSw); go_simp; try with_reducible rfl)
            try simp only [Act.put, List.setIfInBounds_toArray, List.set_cons_zero, List.set_cons_succ]
            refine wpAnyH_take (i := 8) (oi := ?oipv8) (v := ?vpv8) ?hipv8 (by kernel_rfl) (by kernel_rfl) (by kernel_rfl) ?hQpv8 ?hypv8 (by assumption) ?_; (case hipv8 => (simp only [List.getElem?_toArray, List.getElem?_cons_succ, List.getElem?_cons_zero]; try rfl)); (case hQpv8 => exact fun _ _ _ h => h)
            case hypv8 => (refine Or.inl ⟨by rfl, ?_⟩; intro w' hSw; (try dsimp only at hSw); go_simp; try with_reducible rfl)
            try simp only [Act.put, List.setIfInBounds_toArray, List.set_cons_zero, List.set_cons_succ]
            refine wpAnyH_take (i := 9) (oi := ?oipv9) (v := ?vpv9) ?hipv9 (by kernel_rfl) (by kernel_rfl) (by kernel_rfl) ?hQpv9 ?hypv9 (by assumption) ?_; (case hipv9 => (simp only [List.getElem?_toArray, List.getElem?_cons_succ, List.getElem?_cons_zero]; try rfl)); (case hQpv9 => exact fun _ _ _ h => h)
            case hypv9 => (refine Or.inl ⟨by rfl, ?_⟩; intro w' hSw; (try dsimp only at hSw); go_simp; try with_reducible rfl)
            try simp only [Act.put, List.setIfInBounds_toArray, List.set_cons_zero, List.set_cons_succ]
            refine wpAnyH_take (i := 10) (oi := ?oipv10) (v := ?vpv10) ?hipv10 (by kernel_rfl) (by kernel_rfl) (by kernel_rfl) ?hQpv10 ?hypv10 (by assumption) ?_; (case hipv10 => (simp only [List.getElem?_toArray, List.getElem?_cons_succ, List.getElem?_cons_zero]; try rfl)); (case hQpv10 => exact fun _ _ _ h => h)
            case hypv10 => (refine Or.inl ⟨by rfl, ?_⟩; intro w' hSw; (try dsimp only at hSw); go_simp; try with_reducible rfl)
            try simp only [Act.put, List.setIfInBounds_toArray, List.set_cons_zero, List.set_cons_succ]
            refine wpAnyH_take (i := 11) (oi := ?oipv11) (v := ?vpv11) ?hipv11 (by kernel_rfl) (by kernel_rfl) (by kernel_rfl) ?hQpv11 ?hypv11 (by assumption) ?_; (case hipv11 => (simp only [List.getElem?_toArray, List.getElem?_cons_succ, List.getElem?_cons_zero]; try rfl)); (case hQpv11 => exact fun _ _ _ h => h)
            case hypv11 => (refine Or.inl ⟨by rfl, ?_⟩; intro w' hSw; (try dsimp only at hSw); go_simp; try with_reducible rfl)
            try simp only [Act.put, List.setIfInBounds_toArray, List.set_cons_zero, List.set_cons_succ]
            refine wpAnyH_take (i := 12) (oi := ?oipv12) (v := ?vpv12) ?hipv12 (by kernel_rfl) (by kernel_rfl) (by kernel_rfl) ?hQpv12 ?hypv12 (by assumption) ?_; (case hipv12 => (simp only [List.getElem?_toArray, List.getElem?_cons_succ, List.getElem?_cons_zero]; try rfl)); (case hQpv12 => exact fun _ _ _ h => h)
            case hypv12 => (refine Or.inl ⟨by rfl, ?_⟩; intro w' hSw; (try dsimp only at hSw); go_simp; try with_reducible rfl)
            try simp only [Act.put, List.setIfInBounds_toArray, List.set_cons_zero, List.set_cons_succ]
            refine wpAnyH_take (i := 13) (oi := ?oipv13) (v := ?vpv13) ?hipv13 (by kernel_rfl) (by kernel_rfl) (by kernel_rfl) ?hQpv13 ?hypv13 (by assumption) ?_; (case hipv13 => (simp only [List.getElem?_toArray, List.getElem?_cons_succ, List.getElem?_cons_zero]; try rfl)); (case hQpv13 => exact fun _ _ _ h => h)
            case hypv13 => (refine Or.inl ⟨by rfl, ?_⟩; intro w' hSw; (try dsimp only at hSw); go_simp; try with_reducible rfl)
            try simp only [Act.put, List.setIfInBounds_toArray, List.set_cons_zero, List.set_cons_succ]
            refine wpAnyH_take (i := 14) (oi := ?oipv14) (v := ?vpv14) ?hipv14 (by kernel_rfl) (by kernel_rfl) (by kernel_rfl) ?hQpv14 ?hypv14 (by assumption) ?_; (case hipv14 => (simp only [List.getElem?_toArray, List.getElem?_cons_succ, List.getElem?_cons_zero]; try rfl)); (case hQpv14 => exact fun _ _ _ h => h)
            case hypv14 => (refine Or.inl ⟨by rfl, ?_⟩; intro w' hSw; (try dsimp only at hSw); go_simp; try with_reducible rfl)
            try simp only [Act.put, List.setIfInBounds_toArray, List.set_cons_zero, List.set_cons_succ]
            refine wpAnyH_take (i := 15) (oi := ?oipv15) (v := ?vpv15) ?hipv15 (by kernel_rfl) (by kernel_rfl) (by kernel_rfl) ?hQpv15 ?hypv15 (by assumption) ?_; (case hipv15 => (simp only [List.getElem?_toArray, List.getElem?_cons_succ, List.getElem?_cons_zero]; try rfl)); (case hQpv15 => exact fun _ _ _ h => h)
            case hypv15 => (refine Or.inl ⟨by rfl, ?_⟩; intro w' hSw; (try dsimp only at hSw); go_simp; try with_reducible rfl)
            try simp only [Act.put, List.setIfInBounds_toArray, List.set_cons_zero, List.set_cons_succ]
            refine wpAnyH_ready (rs := [16]) (by kernel_rfl) (by simp) ?_
            refine AllReadyH.cons (o := ?opv16) ?hopv16 (fun K hK => ?_) AllReadyH.nil
            case hopv16 =>
              simp only [List.getElem?_toArray, List.getElem?_cons_succ, List.getElem?_cons_zero]
              try rfl
            go_simp
            (with_reducible refine (BS.stats (HM5.out.below (Below.refl _ w5).drew) N5 m5 f5 x5 HT5.out.1 HT5.out.2.1 HT5.out.2.2.1 HT5.out.2.2.2).mono ?_)
            rintro e wB ⟨rfl, hb⟩
            have HBB := Lib.hid (below_step (Below.refl w5.heap.size w5).drew hb)
            clear hb
            go_wp2_with fail
            refine hK.out _ _ ?_ (fun hH1pv => ?_)
            · with_reducible exact HSS.out _ HBB.out
            clear hK K hH0pv
            try simp only [Act.put, List.setIfInBounds_toArray, List.set_cons_zero, List.set_cons_succ]
            refine wpAnyH_take (i := 17) (oi := ?oipv17) (v := ?vpv17) ?hipv17 (by kernel_rfl) (by kernel_rfl) (by kernel_rfl) ?hQpv17 ?hypv17 (by assumption) ?_; (case hipv17 => (simp only [List.getElem?_toArray, List.getElem?_cons_succ, List.getElem?_cons_zero]; try rfl)); (case hQpv17 => exact fun _ _ _ h => h)
            case hypv17 => (refine Or.inl ⟨by rfl, ?_⟩; intro w' hSw; (try dsimp only at hSw); go_simp; try with_reducible rfl)
            try simp only [Act.put, List.setIfInBounds_toArray, List.set_cons_zero, List.set_cons_succ]
            refine wpAnyH_take (i := 18) (oi := ?oipv18) (v := ?vpv18) ?hipv18 (by kernel_rfl) (by kernel_rfl) (by kernel_rfl) ?hQpv18 ?hypv18 (by assumption) ?_; (case hipv18 => (simp only [List.getElem?_toArray, List.getElem?_cons_succ, List.getElem?_cons_zero]; try rfl)); (case hQpv18 => exact fun _ _ _ h => h)
            case hypv18 => (refine Or.inl ⟨by rfl, ?_⟩; intro w' hSw; (try dsimp only at hSw); go_simp; try with_reducible rfl)
            try simp only [Act.put, List.setIfInBounds_toArray, List.set_cons_zero, List.set_cons_succ]
            refine wpAnyH_take (i := 19) (oi := ?oipv19) (v := ?vpv19) ?hipv19 (by kernel_rfl) (by kernel_rfl) (by kernel_rfl) ?hQpv19 ?hypv19 (by assumption) ?_; (case hipv19 => (simp only [List.getElem?_toArray, List.getElem?_cons_succ, List.getElem?_cons_zero]; try rfl)); (case hQpv19 => exact fun _ _ _ h => h)
            case hypv19 => (refine Or.inl ⟨by rfl, ?_⟩; intro w' hSw; (try dsimp only at hSw); go_simp; try with_reducible rfl)
            try simp only [Act.put, List.setIfInBounds_toArray, List.set_cons_zero, List.set_cons_succ]
            refine wpAnyH_take (i := 20) (oi := ?oipv20) (v := ?vpv20) ?hipv20 (by kernel_rfl) (by kernel_rfl) (by kernel_rfl) ?hQpv20 ?hypv20 (by assumption) ?_; (case hipv20 => (simp only [List.getElem?_toArray, List.getElem?_cons_succ, List.getElem?_cons_zero]; try rfl)); (case hQpv20 => exact fun _ _ _ h => h)
            case hypv20 => (refine Or.inl ⟨by rfl, ?_⟩; intro w' hSw; (try dsimp only at hSw); go_simp; try with_reducible rfl)
            try simp only [Act.put, List.setIfInBounds_toArray, List.set_cons_zero, List.set_cons_succ]
            refine wpAnyH_take (i := 21) (oi := ?oipv21) (v := ?vpv21) ?hipv21 (by kernel_rfl) (by kernel_rfl) (by kernel_rfl) ?hQpv21 ?hypv21 (by assumption) ?_; (case hipv21 => (simp only [List.getElem?_toArray, List.getElem?_cons_succ, List.getElem?_cons_zero]; try rfl)); (case hQpv21 => exact fun _ _ _ h => h)
            case hypv21 => (refine Or.inl ⟨by rfl, ?_⟩; intro w' hSw; (try dsimp only at hSw); go_simp; try with_reducible rfl)
            try simp only [Act.put, List.setIfInBounds_toArray, List.set_cons_zero, List.set_cons_succ]
            refine wpAnyH_done (by kernel_rfl) ?_ _
            have HM6 := Lib.hid (HM5.out.below HBB.out)
            have HK6 := Lib.hid (HK5.out.below HBB.out HK5.out.lt)
            obtain ⟨mm, hmm⟩ : ∃ m, t3.p.h.n = m := ⟨_, rfl⟩
            have HMM := Lib.hid hmm
            have HSZ := Lib.hid HOK5.out.hg.sz
            clear hmm k0 k1 k2
            go_wp2_with fail
            (with_reducible refine (BS.dump HM6.out mm HMM.out).mono ?_)
            rintro e w7 ⟨gs, sn, cs, gd, cp, rfl, h1, h2, h3, h4⟩
            have HD := Lib.hid h2
            have HK7 := Lib.hid (HK6.out.below h4 HK6.out.lt)
            have HBE := Lib.hid (HM6.out.below h4).bel
            have HCP := Lib.hid h3
            clear h1 h2 h3 h4
            dsimp only
            go_wp2_with fail
            go_loopw [17, 20] (fun ok i wr => ∃ (b : Bool) (q : Nat), q ≤ mm ∧ ok = .bool b ∧ i = .int .i64 q ∧ Hid ((b = true ∧ t.p.nextE ⟨2, kn0, ks0⟩ = 0) ∨ (b = false ∧ (⟨2, kn0, ks0⟩ : V).k ≠ 0 ∧ ¬ t.p.inB ⟨2, kn0, ks0⟩ ∧ ∀ z, z < q → t.p.h.key z ≠ ⟨2, kn0, ks0⟩)) ∧ Hid (Below w7.heap.size w7 wr)) (fun _ i _ => mm - (intOf i).toNat)
            case atStart => exact ⟨_, 0, Nat.zero_le _, rfl, rfl, Lib.hid (HINV.out.imp (fun h => ⟨(by first | rfl | exact h.1), h.2⟩) (fun h => ⟨(by first | rfl | exact h.1), h.2⟩)), Lib.hid (Below.refl _ _)⟩
            case round =>
              clear HINV
              obtain ⟨b, q, hq, rfl, rfl, HINV, HBI⟩ := hrel
              by_cases hqm : q < mm
              · have dq : decide ((q : Int) < (mm : Int)) = true := by simp; omega
                have q1 : (q : Int) < (mm : Int) := by omega
                have q3 : (mm : Int) ≤ 9223372036854775807 := by have h1 := HMM.out; have h2 := HSZ.out; rw [HP3.out] at h1; omega
                have HQM := Lib.hid hqm
                cases b with
                | true =>
                  have HI2 : Hid (t.p.nextE ⟨2, kn0, ks0⟩ = 0) := Lib.hid (HINV.out.elim (fun h => h.2) (fun h => by simp at h))
                  go_wp2
                  go_quiet (fail)
                  go_wp2
                  go_roundw
                  case rel => exact ⟨true, q + 1, HQM.out, rfl, by go_num, Lib.hid (.inl ⟨rfl, HI2.out⟩), Lib.hid (below_drewN HBI.out _)⟩
                  case measure => have := HQM.out; simp [intOf]; omega
                | false =>
                  have hi := (HINV.out.resolve_left (fun h => by simp at h)).2
                  have HI := Lib.hid hi
                  have hd := HD.out q (by have := HMM.out; omega)
                  have hd2 := hd.below HBI.out hd.lt
                  obtain ⟨g0, g1, g2, -, -, -, -, -, -⟩ := hd2
                  rw [HP3.out] at g0 g1 g2
                  obtain ⟨y, hy⟩ : ∃ y, t.p.h.key q = y := ⟨_, rfl⟩
                  have HY := Lib.hid hy
                  rw [hy] at g0 g1 g2
                  obtain ⟨k0, k1, k2, -, -⟩ := HK7.out.below HBI.out HK7.out.lt
                  dsimp only at k0 k1 k2
                  simp only [Nat.zero_add] at k1 k2
                  clear hi hd hy hqm hq
                  by_cases e : y = ⟨2, kn0, ks0⟩
                  · subst e
                    have HI2 : Hid (t.p.nextE ⟨2, kn0, ks0⟩ = 0) := Lib.hid (keys_yes HOK5.out HOKV.out (.inr (.inr ⟨q, by have h1 := HMM.out; rw [HP3.out] at h1; have := HQM.out; omega, HY.out⟩)))
                    dsimp only at g0 g1 g2
                    go_wp2
                    go_quiet (fail)
                    go_wp2
                    go_roundw
                    case rel => exact ⟨true, q + 1, HQM.out, rfl, by go_num, Lib.hid (.inl ⟨rfl, HI2.out⟩), Lib.hid (below_drewN HBI.out _)⟩
                    case measure => have := HQM.out; simp [intOf]; omega
                  · have h3 := ne3 e
                    have HN2 : Hid (∀ z, z < q + 1 → t.p.h.key z ≠ ⟨2, kn0, ks0⟩) := Lib.hid (fun z hz => by
                      by_cases ez : z = q
                      · rw [ez, HY.out]; exact e
                      · exact HI.out.2.2 z (by omega))
                    obtain ⟨yk, yn, ys⟩ := y
                    dsimp only at h3 g0 g1 g2
                    clear e
                    rcases h3 with e1 | ⟨e0, e1⟩ | ⟨e0, e00, e1, e2⟩
                    rotate_left
                    subst e0
                    rotate_left
                    subst e0 e00
                    rotate_left
                    all_goals
                      go_wp2
                      go_quiet (fail)
                      go_wp2
                      go_roundw
                      case rel => exact ⟨false, q + 1, HQM.out, rfl, by go_num, Lib.hid (.inr ⟨rfl, HI.out.1, HI.out.2.1, HN2.out⟩), Lib.hid (below_drewN HBI.out _)⟩
                      case measure => have := HQM.out; simp [intOf]; omega
              · obtain rfl : q = mm := by omega
                have dq : decide ((q : Int) < (q : Int)) = false := by simp
                cases b with
                | true =>
                  have hI2 : t.p.nextE ⟨2, kn0, ks0⟩ = 0 := HINV.out.elim (fun h => h.2) (fun h => by simp at h)
                  obtain rfl : ee = 0 := by rw [← HEE.out]; exact hI2
                  clear hI2
                  go_wp2
                  go_ret
                  exact ⟨rfl, HBE.out.trans (HBI.out.mono HBE.out.size)⟩
                | false =>
                  have hi := (HINV.out.resolve_left (fun h => by simp at h)).2
                  obtain rfl : ee = 9 := by
                    rw [← HEE.out]
                    exact keys_no HOK5.out HOKV.out hi.1 hi.2.1 (fun z hz => hi.2.2 z (by have h1 := HMM.out; rw [HP3.out] at h1; omega))
                  clear hi
                  go_wp2
                  go_ret
                  exact ⟨rfl, HBE.out.trans (HBI.out.mono HBE.out.size)⟩
      · have d1 : decide ((j : Int) < (x.l.length : Int)) = false := by simp; omega
        clear hc
        obtain ⟨k0, k1, k2, -, -⟩ := HK.out
        dsimp only at k0 k1 k2
        simp only [Nat.zero_add] at k1 k2
        obtain ⟨⟨⟨nk, nn, ns⟩, ⟨uk, un, us⟩⟩, hnp⟩ : ∃ z, t.p.nextP ⟨kk0, kn0, ks0⟩ = z := ⟨_, rfl⟩
        obtain ⟨ee, hee⟩ : ∃ z, t.p.nextE ⟨kk0, kn0, ks0⟩ = z := ⟨_, rfl⟩
        have HNP := Lib.hid hnp; have HEE := Lib.hid hee
        clear hnp hee
        go_wp2_with fail
        (with_reducible refine (BS.next HM.out kk0 kn0 ks0 (⟨nk, nn, ns⟩, ⟨uk, un, us⟩) ee HNP.out HEE.out).mono ?_)
        rintro e w3 ⟨t3, ⟨rfl, -⟩, hp3, hx, hk⟩
        have hbw := ((Below.refl w3.heap.size w3).alloc (Nat.le_refl _) (.cells #[.int .i64 nk, .int .i64 nn, .string ns] 35)).alloc (by rw [World.size_alloc]; omega) (.cells #[.int .i64 uk, .int .i64 un, .string us] 35)
        have HM4 := Lib.hid (hx.below hbw)
        have h6 := HK.out.keep (hk _ (.inr rfl))
        have HK4 := Lib.hid (h6.below hbw h6.lt)
        have HP3 := Lib.hid hp3
        clear hx hk hbw h6 hp3 k0 k1 k2 p0 p1 p2 HM HX HK h1
        dsimp only
        obtain ⟨k0, k1, k2, -, -⟩ := HK4.out
        dsimp only at k0 k1 k2
        simp only [Nat.zero_add] at k1 k2
        obtain ⟨z, hz⟩ : ∃ z, errForm (okV ⟨kk0, kn0, ks0⟩) = z := ⟨_, rfl⟩
        have HZ := Lib.hid hz
        clear hz
        go_wp2_with fail
        (with_reducible refine (ref_Check_q kk0 kn0 ks0 z HZ.out _).mono ?_)
        rintro e w5 ⟨rfl, hb⟩
        have HM5 := Lib.hid (HM4.out.below hb)
        have HK5 := Lib.hid (HK4.out.below hb HK4.out.lt)
        clear hb k0 k1 k2 HM4 HK4
        by_cases hu : okV ⟨kk0, kn0, ks0⟩ = true
        rotate_left
        · have hu' : okV ⟨kk0, kn0, ks0⟩ = false := by simpa using hu
          obtain rfl : z = 2 := by rw [← HZ.out, hu']; rfl
          obtain rfl : ee = 2 := by rw [← HEE.out]; exact keys_form hu'
          clear hu hu'
          go_wp2
          go_ret
          exact ⟨rfl, HM5.out.bel⟩
        · obtain rfl : z = 0 := by rw [← HZ.out, hu]; rfl
          have HOKV := Lib.hid hu
          have HOK5 : Hid t.p.ok := Lib.hid (by rw [← HP3.out]; exact HM5.out.ok)
          obtain ⟨N5, hN5⟩ : ∃ N5 : Int, (t3.p.sn : Int) = N5 := ⟨_, rfl⟩
          obtain ⟨m5, hm5⟩ : ∃ m5 : Int, (t3.p.h.n : Int) = m5 := ⟨_, rfl⟩
          obtain ⟨f5, hf5⟩ : ∃ f5 : Int, (t3.p.h.free : Int) = f5 := ⟨_, rfl⟩
          obtain ⟨x5, hx5⟩ : ∃ x5 : Int, t3.hint = x5 := ⟨_, rfl⟩
          have HT5 : Hid ((t3.p.sn : Int) = N5 ∧ (t3.p.h.n : Int) = m5 ∧ (t3.p.h.free : Int) = f5 ∧ t3.hint = x5) := Lib.hid ⟨hN5, hm5, hf5, hx5⟩
          have hcs := held_cases t.p kk0 kn0 ks0 N5 (by rw [← hN5, HP3.out]) hu
          clear hN5 hm5 hf5 hx5 hu
          have HSS : Hid (∀ w' : World, Below w5.heap.size w5 w' → w'.cell? ⟨W.heap.size + 1, 0, none⟩ = some (.int .i64 kk0) ∧ w'.cell? ⟨W.heap.size + 1, 1, none⟩ = some (.int .i64 kn0) ∧ w'.cell? ⟨W.heap.size + 1, 2, none⟩ = some (.string ks0)) := Lib.hid (fun w' hb => by
            obtain ⟨a0, a1, a2, -, -⟩ := HK5.out.below hb HK5.out.lt
            exact ⟨a0, a1, a2⟩)
          obtain ⟨k0, k1, k2, -, -⟩ := HK5.out
          dsimp only at k0 k1 k2
          simp only [Nat.zero_add] at k1 k2
          rcases hcs with rfl | ⟨h0, d1', d2', hnb⟩ | ⟨rfl, d1', hnb⟩ | ⟨rfl, d1', d2', hnb⟩ | ⟨rfl, d1', d2', hnb⟩
          · have HINV : Hid ((true = true ∧ t.p.nextE ⟨0, kn0, ks0⟩ = 0) ∨ (true = false ∧ (⟨0, kn0, ks0⟩ : V).k ≠ 0 ∧ ¬ t.p.inB ⟨0, kn0, ks0⟩ ∧ ∀ z, z < 0 → t.p.h.key z ≠ ⟨0, kn0, ks0⟩)) := Lib.hid (.inl ⟨rfl, keys_yes HOK5.out HOKV.out (.inl rfl)⟩)
            go_wp2_with fail
            refine wp_region_held_drew (S := (fun w' => w'.cell? ⟨W.heap.size + 1, 0, none⟩ = some (.int .i64 0) ∧ w'.cell? ⟨W.heap.size + 1, 1, none⟩ = some (.int .i64 kn0) ∧ w'.cell? ⟨W.heap.size + 1, 2, none⟩ = some (.string ks0))) (by kernel_rfl) ?_ (fun hH0qx => ?_)
            · with_reducible exact HSS.out _ (Below.refl _ w5).drew
            refine wpAnyH_take (i := 0) (oi := ?oiqx0) (v := ?vqx0) ?hiqx0 (by kernel_rfl) (by kernel_rfl) (by kernel_rfl) ?hQqx0 ?hyqx0 (by assumption) ?_; (case hiqx0 => (simp only [List.getElem?_toArray, List.getElem?_cons_succ, List.getElem?_cons_zero]; try rfl)); (case hQqx0 => exact fun _ _ _ h => h)
            case hyqx0 => (refine Or.inl ⟨by rfl, ?_⟩; intro w' hSw; (try dsimp only at hSw); go_simp; try with_reducible rfl)
            try simp only [Act.put, List.setIfInBounds_toArray, List.set_cons_zero, List.set_cons_succ]
            refine wpAnyH_take (i := 1) (oi := ?oiqx1) (v := ?vqx1) ?hiqx1 (by kernel_rfl) (by kernel_rfl) (by kernel_rfl) ?hQqx1 ?hyqx1 (by assumption) ?_; (case hiqx1 => (simp only [List.getElem?_toArray, List.getElem?_cons_succ, List.getElem?_cons_zero]; try rfl)); (case hQqx1 => exact fun _ _ _ h => h)
            case hyqx1 => (refine Or.inl ⟨by rfl, ?_⟩; intro w' hSw; (try dsimp only at hSw); go_simp; try with_reducible rfl)
            try simp only [Act.put, List.setIfInBounds_toArray, List.set_cons_zero, List.set_cons_succ]
            refine wpAnyH_take (i := 2) (oi := ?oiqx2) (v := ?vqx2) ?hiqx2 (by kernel_rfl) (by kernel_rfl) (by kernel_rfl) ?hQqx2 ?hyqx2 (by assumption) ?_; (case hiqx2 => (simp only [List.getElem?_toArray, List.getElem?_cons_succ, List.getElem?_cons_zero]; try rfl)); (case hQqx2 => exact fun _ _ _ h => h)
            case hyqx2 => (refine Or.inl ⟨by rfl, ?_⟩; intro w' hSw; (try dsimp only at hSw); go_simp; try with_reducible rfl)
            try simp only [Act.put, List.setIfInBounds_toArray, List.set_cons_zero, List.set_cons_succ]
            refine wpAnyH_take (i := 3) (oi := ?oiqx3) (v := ?vqx3) ?hiqx3 (by kernel_rfl) (by kernel_rfl) (by kernel_rfl) ?hQqx3 ?hyqx3 (by assumption) ?_; (case hiqx3 => (simp only [List.getElem?_toArray, List.getElem?_cons_succ, List.getElem?_cons_zero]; try rfl)); (case hQqx3 => exact fun _ _ _ h => h)
            case hyqx3 => (refine Or.inl ⟨by rfl, ?_⟩; intro w' hSw; (try dsimp only at hSw); go_simp; try with_reducible rfl)
            try simp only [Act.put, List.setIfInBounds_toArray, List.set_cons_zero, List.set_cons_succ]
            refine wpAnyH_take (i := 4) (oi := ?oiqx4) (v := undef) ?hiqx4 (by kernel_rfl) (by kernel_rfl) (by kernel_rfl) ?hQqx4 ?hyqx4 (by assumption) ?_; (case hiqx4 => (simp only [List.getElem?_toArray, List.getElem?_cons_succ, List.getElem?_cons_zero]; try rfl)); (case hQqx4 => exact fun _ _ _ h => h)
            case hyqx4 => exact Or.inr ⟨by rfl, rfl⟩
            try simp only [Act.put, List.setIfInBounds_toArray, List.set_cons_zero, List.set_cons_succ]
            refine wpAnyH_take (i := 5) (oi := ?oiqx5) (v := undef) ?hiqx5 (by kernel_rfl) (by kernel_rfl) (by kernel_rfl) ?hQqx5 ?hyqx5 (by assumption) ?_; (case hiqx5 => (simp only [List.getElem?_toArray, List.getElem?_cons_succ, List.getElem?_cons_zero]; try rfl)); (case hQqx5 => exact fun _ _ _ h => h)
            case hyqx5 => exact Or.inr ⟨by rfl, rfl⟩
            try simp only [Act.put, List.setIfInBounds_toArray, List.set_cons_zero, List.set_cons_succ]
            refine wpAnyH_take (i := 6) (oi := ?oiqx6) (v := undef) ?hiqx6 (by kernel_rfl) (by kernel_rfl) (by kernel_rfl) ?hQqx6 ?hyqx6 (by assumption) ?_; (case hiqx6 => (simp only [List.getElem?_toArray, List.getElem?_cons_succ, List.getElem?_cons_zero]; try rfl)); (case hQqx6 => exact fun _ _ _ h => h)
            case hyqx6 => exact Or.inr ⟨by rfl, rfl⟩
            try simp only [Act.put, List.setIfInBounds_toArray, List.set_cons_zero, List.set_cons_succ]
            refine wpAnyH_take (i := 7) (oi := ?oiqx7) (v := undef) ?hiqx7 (by kernel_rfl) (by kernel_rfl) (by kernel_rfl) ?hQqx7 ?hyqx7 (by assumption) ?_; (case hiqx7 => (simp only [List.getElem?_toArray, List.getElem?_cons_succ, List.getElem?_cons_zero]; try rfl)); (case hQqx7 => exact fun _ _ _ h => h)
            case hyqx7 => exact Or.inr ⟨by rfl, rfl⟩
            try simp only [Act.put, List.setIfInBounds_toArray, List.set_cons_zero, List.set_cons_succ]
            refine wpAnyH_take (i := 8) (oi := ?oiqx8) (v := undef) ?hiqx8 (by kernel_rfl) (by kernel_rfl) (by kernel_rfl) ?hQqx8 ?hyqx8 (by assumption) ?_; (case hiqx8 => (simp only [List.getElem?_toArray, List.getElem?_cons_succ, List.getElem?_cons_zero]; try rfl)); (case hQqx8 => exact fun _ _ _ h => h)
            case hyqx8 => exact Or.inr ⟨by rfl, rfl⟩
            try simp only [Act.put, List.setIfInBounds_toArray, List.set_cons_zero, List.set_cons_succ]
            refine wpAnyH_take (i := 9) (oi := ?oiqx9) (v := undef) ?hiqx9 (by kernel_rfl) (by kernel_rfl) (by kernel_rfl) ?hQqx9 ?hyqx9 (by assumption) ?_; (case hiqx9 => (simp only [List.getElem?_toArray, List.getElem?_cons_succ, List.getElem?_cons_zero]; try rfl)); (case hQqx9 => exact fun _ _ _ h => h)
            case hyqx9 => exact Or.inr ⟨by rfl, rfl⟩
            try simp only [Act.put, List.setIfInBounds_toArray, List.set_cons_zero, List.set_cons_succ]
            refine wpAnyH_take (i := 10) (oi := ?oiqx10) (v := undef) ?hiqx10 (by kernel_rfl) (by kernel_rfl) (by kernel_rfl) ?hQqx10 ?hyqx10 (by assumption) ?_; (case hiqx10 => (simp only [List.getElem?_toArray, List.getElem?_cons_succ, List.getElem?_cons_zero]; try rfl)); (case hQqx10 => exact fun _ _ _ h => h)
            case hyqx10 => exact Or.inr ⟨by rfl, rfl⟩
            try simp only [Act.put, List.setIfInBounds_toArray, List.set_cons_zero, List.set_cons_succ]
            refine wpAnyH_take (i := 11) (oi := ?oiqx11) (v := undef) ?hiqx11 (by kernel_rfl) (by kernel_rfl) (by kernel_rfl) ?hQqx11 ?hyqx11 (by assumption) ?_; (case hiqx11 => (simp only [List.getElem?_toArray, List.getElem?_cons_succ, List.getElem?_cons_zero]; try rfl)); (case hQqx11 => exact fun _ _ _ h => h)
            case hyqx11 => exact Or.inr ⟨by rfl, rfl⟩
            try simp only [Act.put, List.setIfInBounds_toArray, List.set_cons_zero, List.set_cons_succ]
            refine wpAnyH_take (i := 12) (oi := ?oiqx12) (v := undef) ?hiqx12 (by kernel_rfl) (by kernel_rfl) (by kernel_rfl) ?hQqx12 ?hyqx12 (by assumption) ?_; (case hiqx12 => (simp only [List.getElem?_toArray, List.getElem?_cons_succ, List.getElem?_cons_zero]; try rfl)); (case hQqx12 => exact fun _ _ _ h => h)
            case hyqx12 => exact Or.inr ⟨by rfl, rfl⟩
            try simp only [Act.put, List.setIfInBounds_toArray, List.set_cons_zero, List.set_cons_succ]
            refine wpAnyH_take (i := 13) (oi := ?oiqx13) (v := undef) ?hiqx13 (by kernel_rfl) (by kernel_rfl) (by kernel_rfl) ?hQqx13 ?hyqx13 (by assumption) ?_; (case hiqx13 => (simp only [List.getElem?_toArray, List.getElem?_cons_succ, List.getElem?_cons_zero]; try rfl)); (case hQqx13 => exact fun _ _ _ h => h)
            case hyqx13 => exact Or.inr ⟨by rfl, rfl⟩
            try simp only [Act.put, List.setIfInBounds_toArray, List.set_cons_zero, List.set_cons_succ]
            refine wpAnyH_take (i := 14) (oi := ?oiqx14) (v := undef) ?hiqx14 (by kernel_rfl) (by kernel_rfl) (by kernel_rfl) ?hQqx14 ?hyqx14 (by assumption) ?_; (case hiqx14 => (simp only [List.getElem?_toArray, List.getElem?_cons_succ, List.getElem?_cons_zero]; try rfl)); (case hQqx14 => exact fun _ _ _ h => h)
            case hyqx14 => exact Or.inr ⟨by rfl, rfl⟩
            try simp only [Act.put, List.setIfInBounds_toArray, List.set_cons_zero, List.set_cons_succ]
            refine wpAnyH_take (i := 15) (oi := ?oiqx15) (v := undef) ?hiqx15 (by kernel_rfl) (by kernel_rfl) (by kernel_rfl) ?hQqx15 ?hyqx15 (by assumption) ?_; (case hiqx15 => (simp only [List.getElem?_toArray, List.getElem?_cons_succ, List.getElem?_cons_zero]; try rfl)); (case hQqx15 => exact fun _ _ _ h => h)
            case hyqx15 => exact Or.inr ⟨by rfl, rfl⟩
            try simp only [Act.put, List.setIfInBounds_toArray, List.set_cons_zero, List.set_cons_succ]
            refine wpAnyH_take (i := 16) (oi := ?oiqx16) (v := undef) ?hiqx16 (by kernel_rfl) (by kernel_rfl) (by kernel_rfl) ?hQqx16 ?hyqx16 (by assumption) ?_; (case hiqx16 => (simp only [List.getElem?_toArray, List.getElem?_cons_succ, List.getElem?_cons_zero]; try rfl)); (case hQqx16 => exact fun _ _ _ h => h)
            case hyqx16 => exact Or.inr ⟨by rfl, rfl⟩
            try simp only [Act.put, List.setIfInBounds_toArray, List.set_cons_zero, List.set_cons_succ]
            refine wpAnyH_take (i := 17) (oi := ?oiqx17) (v := undef) ?hiqx17 (by kernel_rfl) (by kernel_rfl) (by kernel_rfl) ?hQqx17 ?hyqx17 (by assumption) ?_; (case hiqx17 => (simp only [List.getElem?_toArray, List.getElem?_cons_succ, List.getElem?_cons_zero]; try rfl)); (case hQqx17 => exact fun _ _ _ h => h)
            case hyqx17 => exact Or.inr ⟨by rfl, rfl⟩
            try simp only [Act.put, List.setIfInBounds_toArray, List.set_cons_zero, List.set_cons_succ]
            refine wpAnyH_take (i := 18) (oi := ?oiqx18) (v := undef) ?hiqx18 (by kernel_rfl) (by kernel_rfl) (by kernel_rfl) ?hQqx18 ?hyqx18 (by assumption) ?_; (case hiqx18 => (simp only [List.getElem?_toArray, List.getElem?_cons_succ, List.getElem?_cons_zero]; try rfl)); (case hQqx18 => exact fun _ _ _ h => h)
            case hyqx18 => exact Or.inr ⟨by rfl, rfl⟩
            try simp only [Act.put, List.setIfInBounds_toArray, List.set_cons_zero, List.set_cons_succ]
            refine wpAnyH_take (i := 19) (oi := ?oiqx19) (v := undef) ?hiqx19 (by kernel_rfl) (by kernel_rfl) (by kernel_rfl) ?hQqx19 ?hyqx19 (by assumption) ?_; (case hiqx19 => (simp only [List.getElem?_toArray, List.getElem?_cons_succ, List.getElem?_cons_zero]; try rfl)); (case hQqx19 => exact fun _ _ _ h => h)
            case hyqx19 => exact Or.inr ⟨by rfl, rfl⟩
            try simp only [Act.put, List.setIfInBounds_toArray, List.set_cons_zero, List.set_cons_succ]
            refine wpAnyH_take (i := 20) (oi := ?oiqx20) (v := ?vqx20) ?hiqx20 (by kernel_rfl) (by kernel_rfl) (by kernel_rfl) ?hQqx20 ?hyqx20 (by assumption) ?_; (case hiqx20 => (simp only [List.getElem?_toArray, List.getElem?_cons_succ, List.getElem?_cons_zero]; try rfl)); (case hQqx20 => exact fun _ _ _ h => h)
            case hyqx20 => (refine Or.inl ⟨by rfl, ?_⟩; intro w' hSw; (try dsimp only at hSw); go_simp; try with_reducible rfl)
            try simp only [Act.put, List.setIfInBounds_toArray, List.set_cons_zero, List.set_cons_succ]
            refine wpAnyH_take (i := 21) (oi := ?oiqx21) (v := ?vqx21) ?hiqx21 (by kernel_rfl) (by kernel_rfl) (by kernel_rfl) ?hQqx21 ?hyqx21 (by assumption) ?_; (case hiqx21 => (simp only [List.getElem?_toArray, List.getElem?_cons_succ, List.getElem?_cons_zero]; try rfl)); (case hQqx21 => exact fun _ _ _ h => h)
            case hyqx21 => (refine Or.inl ⟨by rfl, ?_⟩; intro w' hSw; (try dsimp only at hSw); go_simp; try with_reducible rfl)
            try simp only [Act.put, List.setIfInBounds_toArray, List.set_cons_zero, List.set_cons_succ]
            refine wpAnyH_done (by kernel_rfl) ?_ _
            have HM6 := Lib.hid (HM5.out.below (Below.refl w5.heap.size w5).drew)
            have HK6 := Lib.hid (HK5.out.below (Below.refl w5.heap.size w5).drew HK5.out.lt)
            obtain ⟨mm, hmm⟩ : ∃ m, t3.p.h.n = m := ⟨_, rfl⟩
            have HMM := Lib.hid hmm
            have HSZ := Lib.hid HOK5.out.hg.sz
            clear hmm k0 k1 k2
            go_wp2_with fail
            (with_reducible refine (BS.dump HM6.out mm HMM.out).mono ?_)
            rintro e w7 ⟨gs, sn, cs, gd, cp, rfl, h1, h2, h3, h4⟩
            have HD := Lib.hid h2
            have HK7 := Lib.hid (HK6.out.below h4 HK6.out.lt)
            have HBE := Lib.hid (HM6.out.below h4).bel
            have HCP := Lib.hid h3
            clear h1 h2 h3 h4
            dsimp only
            go_wp2_with fail
            go_loopw [17, 20] (fun ok i wr => ∃ (b : Bool) (q : Nat), q ≤ mm ∧ ok = .bool b ∧ i = .int .i64 q ∧ Hid ((b = true ∧ t.p.nextE ⟨0, kn0, ks0⟩ = 0) ∨ (b = false ∧ (⟨0, kn0, ks0⟩ : V).k ≠ 0 ∧ ¬ t.p.inB ⟨0, kn0, ks0⟩ ∧ ∀ z, z < q → t.p.h.key z ≠ ⟨0, kn0, ks0⟩)) ∧ Hid (Below w7.heap.size w7 wr)) (fun _ i _ => mm - (intOf i).toNat)
            case atStart => exact ⟨_, 0, Nat.zero_le _, rfl, rfl, Lib.hid (HINV.out.imp (fun h => ⟨(by first | rfl | exact h.1), h.2⟩) (fun h => ⟨(by first | rfl | exact h.1), h.2⟩)), Lib.hid (Below.refl _ _)⟩
            case round =>
              clear HINV
              obtain ⟨b, q, hq, rfl, rfl, HINV, HBI⟩ := hrel
              by_cases hqm : q < mm
              · have dq : decide ((q : Int) < (mm : Int)) = true := by simp; omega
                have q1 : (q : Int) < (mm : Int) := by omega
                have q3 : (mm : Int) ≤ 9223372036854775807 := by have h1 := HMM.out; have h2 := HSZ.out; rw [HP3.out] at h1; omega
                have HQM := Lib.hid hqm
                cases b with
                | true =>
                  have HI2 : Hid (t.p.nextE ⟨0, kn0, ks0⟩ = 0) := Lib.hid (HINV.out.elim (fun h => h.2) (fun h => by simp at h))
                  go_wp2
                  go_quiet (fail)
                  go_wp2
                  go_roundw
                  case rel => exact ⟨true, q + 1, HQM.out, rfl, by go_num, Lib.hid (.inl ⟨rfl, HI2.out⟩), Lib.hid (below_drewN HBI.out _)⟩
                  case measure => have := HQM.out; simp [intOf]; omega
                | false =>
                  have hi := (HINV.out.resolve_left (fun h => by simp at h)).2
                  have HI := Lib.hid hi
                  have hd := HD.out q (by have := HMM.out; omega)
                  have hd2 := hd.below HBI.out hd.lt
                  obtain ⟨g0, g1, g2, -, -, -, -, -, -⟩ := hd2
                  rw [HP3.out] at g0 g1 g2
                  obtain ⟨y, hy⟩ : ∃ y, t.p.h.key q = y := ⟨_, rfl⟩
                  have HY := Lib.hid hy
                  rw [hy] at g0 g1 g2
                  obtain ⟨k0, k1, k2, -, -⟩ := HK7.out.below HBI.out HK7.out.lt
                  dsimp only at k0 k1 k2
                  simp only [Nat.zero_add] at k1 k2
                  clear hi hd hy hqm hq
                  by_cases e : y = ⟨0, kn0, ks0⟩
                  · subst e
                    have HI2 : Hid (t.p.nextE ⟨0, kn0, ks0⟩ = 0) := Lib.hid (keys_yes HOK5.out HOKV.out (.inr (.inr ⟨q, by have h1 := HMM.out; rw [HP3.out] at h1; have := HQM.out; omega, HY.out⟩)))
                    dsimp only at g0 g1 g2
                    go_wp2
                    go_quiet (fail)
                    go_wp2
                    go_roundw
                    case rel => exact ⟨true, q + 1, HQM.out, rfl, by go_num, Lib.hid (.inl ⟨rfl, HI2.out⟩), Lib.hid (below_drewN HBI.out _)⟩
                    case measure => have := HQM.out; simp [intOf]; omega
                  · have h3 := ne3 e
                    have HN2 : Hid (∀ z, z < q + 1 → t.p.h.key z ≠ ⟨0, kn0, ks0⟩) := Lib.hid (fun z hz => by
                      by_cases ez : z = q
                      · rw [ez, HY.out]; exact e
                      · exact HI.out.2.2 z (by omega))
                    obtain ⟨yk, yn, ys⟩ := y
                    dsimp only at h3 g0 g1 g2
                    clear e
                    rcases h3 with e1 | ⟨e0, e1⟩ | ⟨e0, e00, e1, e2⟩
                    rotate_left
                    subst e0
                    rotate_left
                    subst e0 e00
                    rotate_left
                    all_goals
                      go_wp2
                      go_quiet (fail)
                      go_wp2
                      go_roundw
                      case rel => exact ⟨false, q + 1, HQM.out, rfl, by go_num, Lib.hid (.inr ⟨rfl, HI.out.1, HI.out.2.1, HN2.out⟩), Lib.hid (below_drewN HBI.out _)⟩
                      case measure => have := HQM.out; simp [intOf]; omega
              · obtain rfl : q = mm := by omega
                have dq : decide ((q : Int) < (q : Int)) = false := by simp
                cases b with
                | true =>
                  have hI2 : t.p.nextE ⟨0, kn0, ks0⟩ = 0 := HINV.out.elim (fun h => h.2) (fun h => by simp at h)
                  obtain rfl : ee = 0 := by rw [← HEE.out]; exact hI2
                  clear hI2
                  go_wp2
                  go_ret
                  exact ⟨rfl, HBE.out.trans (HBI.out.mono HBE.out.size)⟩
                | false =>
                  have hi := (HINV.out.resolve_left (fun h => by simp at h)).2
                  obtain rfl : ee = 9 := by
                    rw [← HEE.out]
                    exact keys_no HOK5.out HOKV.out hi.1 hi.2.1 (fun z hz => hi.2.2 z (by have h1 := HMM.out; rw [HP3.out] at h1; omega))
                  clear hi
                  go_wp2
                  go_ret
                  exact ⟨rfl, HBE.out.trans (HBI.out.mono HBE.out.size)⟩
          · have HINV : Hid ((false = true ∧ t.p.nextE ⟨kk0, kn0, ks0⟩ = 0) ∨ (false = false ∧ (⟨kk0, kn0, ks0⟩ : V).k ≠ 0 ∧ ¬ t.p.inB ⟨kk0, kn0, ks0⟩ ∧ ∀ z, z < 0 → t.p.h.key z ≠ ⟨kk0, kn0, ks0⟩)) := Lib.hid (.inr ⟨rfl, h0, hnb, fun z hz => by omega⟩)
            clear hnb
            go_wp2_with fail
            refine wp_region_held_drew (S := (fun w' => w'.cell? ⟨W.heap.size + 1, 0, none⟩ = some (.int .i64 kk0) ∧ w'.cell? ⟨W.heap.size + 1, 1, none⟩ = some (.int .i64 kn0) ∧ w'.cell? ⟨W.heap.size + 1, 2, none⟩ = some (.string ks0))) (by kernel_rfl) ?_ (fun hH0qy => ?_)
            · with_reducible exact HSS.out _ (Below.refl _ w5).drew
            refine wpAnyH_take (i := 0) (oi := ?oiqy0) (v := ?vqy0) ?hiqy0 (by kernel_rfl) (by kernel_rfl) (by kernel_rfl) ?hQqy0 ?hyqy0 (by assumption) ?_; (case hiqy0 => (simp only [List.getElem?_toArray, List.getElem?_cons_succ, List.getElem?_cons_zero]; try rfl)); (case hQqy0 => exact fun _ _ _ h => h)
            case hyqy0 => (refine Or.inl ⟨by rfl, ?_⟩; intro w' hSw; (try dsimp only at hSw); go_simp; try with_reducible rfl)
            try simp only [Act.put, List.setIfInBounds_toArray, List.set_cons_zero, List.set_cons_succ]
            refine wpAnyH_take (i := 1) (oi := ?oiqy1) (v := ?vqy1) ?hiqy1 (by kernel_rfl) (by kernel_rfl) (by kernel_rfl) ?hQqy1 ?hyqy1 (by assumption) ?_; (case hiqy1 => (simp only [List.getElem?_toArray, List.getElem?_cons_succ, List.getElem?_cons_zero]; try rfl)); (case hQqy1 => exact fun _ _ _ h => h)
            case hyqy1 => (refine Or.inl ⟨by rfl, ?_⟩; intro w' hSw; (try dsimp only at hSw); go_simp; try with_reducible rfl)
            try simp only [Act.put, List.setIfInBounds_toArray, List.set_cons_zero, List.set_cons_succ]
            refine wpAnyH_take (i := 2) (oi := ?oiqy2) (v := ?vqy2) ?hiqy2 (by kernel_rfl) (by kernel_rfl) (by kernel_rfl) ?hQqy2 ?hyqy2 (by assumption) ?_; (case hiqy2 => (simp only [List.getElem?_toArray, List.getElem?_cons_succ, List.getElem?_cons_zero]; try rfl)); (case hQqy2 => exact fun _ _ _ h => h)
            case hyqy2 => (refine Or.inl ⟨by rfl, ?_⟩; intro w' hSw; (try dsimp only at hSw); go_simp; try with_reducible rfl)
            try simp only [Act.put, List.setIfInBounds_toArray, List.set_cons_zero, List.set_cons_succ]
            refine wpAnyH_take (i := 3) (oi := ?oiqy3) (v := ?vqy3) ?hiqy3 (by kernel_rfl) (by kernel_rfl) (by kernel_rfl) ?hQqy3 ?hyqy3 (by assumption) ?_; (case hiqy3 => (simp only [List.getElem?_toArray, List.getElem?_cons_succ, List.getElem?_cons_zero]; try rfl)); (case hQqy3 => exact fun _ _ _ h => h)
            case hyqy3 => (refine Or.inl ⟨by rfl, ?_⟩; intro w' hSw; (try dsimp only at hSw); go_simp; try with_reducible rfl)
            try simp only [Act.put, List.setIfInBounds_toArray, List.set_cons_zero, List.set_cons_succ]
            refine wpAnyH_take (i := 4) (oi := ?oiqy4) (v := ?vqy4) ?hiqy4 (by kernel_rfl) (by kernel_rfl) (by kernel_rfl) ?hQqy4 ?hyqy4 (by assumption) ?_; (case hiqy4 => (simp only [List.getElem?_toArray, List.getElem?_cons_succ, List.getElem?_cons_zero]; try rfl)); (case hQqy4 => exact fun _ _ _ h => h)
            case hyqy4 => (refine Or.inl ⟨by rfl, ?_⟩; intro w' hSw; (try dsimp only at hSw); go_simp; try with_reducible rfl)
            try simp only [Act.put, List.setIfInBounds_toArray, List.set_cons_zero, List.set_cons_succ]
            refine wpAnyH_take (i := 5) (oi := ?oiqy5) (v := ?vqy5) ?hiqy5 (by kernel_rfl) (by kernel_rfl) (by kernel_rfl) ?hQqy5 ?hyqy5 (by assumption) ?_; (case hiqy5 => (simp only [List.getElem?_toArray, List.getElem?_cons_succ, List.getElem?_cons_zero]; try rfl)); (case hQqy5 => exact fun _ _ _ h => h)
            case hyqy5 => (refine Or.inl ⟨by rfl, ?_⟩; intro w' hSw; (try dsimp only at hSw); go_simp; try with_reducible rfl)
            try simp only [Act.put, List.setIfInBounds_toArray, List.set_cons_zero, List.set_cons_succ]
            refine wpAnyH_take (i := 6) (oi := ?oiqy6) (v := ?vqy6) ?hiqy6 (by kernel_rfl) (by kernel_rfl) (by kernel_rfl) ?hQqy6 ?hyqy6 (by assumption) ?_; (case hiqy6 => (simp only [List.getElem?_toArray, List.getElem?_cons_succ, List.getElem?_cons_zero]; try rfl)); (case hQqy6 => exact fun _ _ _ h => h)
            case hyqy6 => (refine Or.inl ⟨by rfl, ?_⟩; intro w' hSw; (try dsimp only at hSw); go_simp; try with_reducible rfl)
            try simp only [Act.put, List.setIfInBounds_toArray, List.set_cons_zero, List.set_cons_succ]
            refine wpAnyH_take (i := 7) (oi := ?oiqy7) (v := ?vqy7) ?hiqy7 (by kernel_rfl) (by kernel_rfl) (by kernel_rfl) ?hQqy7 ?hyqy7 (by assumption) ?_; (case hiqy7 => (simp only [List.getElem?_toArray, List.getElem?_cons_succ, List.getElem?_cons_zero]; try rfl)); (case hQqy7 => exact fun _ _ _ h => h)
            case hyqy7 => (refine Or.inl ⟨by rfl, ?_⟩; intro w' hSw; (try dsimp only at hSw); go_simp; try with_reducible rfl)
            try simp only [Act.put, List.setIfInBounds_toArray, List.set_cons_zero, List.set_cons_succ]
            refine wpAnyH_take (i := 8) (oi := ?oiqy8) (v := undef) ?hiqy8 (by kernel_rfl) (by kernel_rfl) (by kernel_rfl) ?hQqy8 ?hyqy8 (by assumption) ?_; (case hiqy8 => (simp only [List.getElem?_toArray, List.getElem?_cons_succ, List.getElem?_cons_zero]; try rfl)); (case hQqy8 => exact fun _ _ _ h => h)
            case hyqy8 => exact Or.inr ⟨by rfl, rfl⟩
            try simp only [Act.put, List.setIfInBounds_toArray, List.set_cons_zero, List.set_cons_succ]
            refine wpAnyH_take (i := 9) (oi := ?oiqy9) (v := undef) ?hiqy9 (by kernel_rfl) (by kernel_rfl) (by kernel_rfl) ?hQqy9 ?hyqy9 (by assumption) ?_; (case hiqy9 => (simp only [List.getElem?_toArray, List.getElem?_cons_succ, List.getElem?_cons_zero]; try rfl)); (case hQqy9 => exact fun _ _ _ h => h)
            case hyqy9 => exact Or.inr ⟨by rfl, rfl⟩
            try simp only [Act.put, List.setIfInBounds_toArray, List.set_cons_zero, List.set_cons_succ]
            refine wpAnyH_take (i := 10) (oi := ?oiqy10) (v := undef) ?hiqy10 (by kernel_rfl) (by kernel_rfl) (by kernel_rfl) ?hQqy10 ?hyqy10 (by assumption) ?_; (case hiqy10 => (simp only [List.getElem?_toArray, List.getElem?_cons_succ, List.getElem?_cons_zero]; try rfl)); (case hQqy10 => exact fun _ _ _ h => h)
            case hyqy10 => exact Or.inr ⟨by rfl, rfl⟩
            try simp only [Act.put, List.setIfInBounds_toArray, List.set_cons_zero, List.set_cons_succ]
            refine wpAnyH_take (i := 11) (oi := ?oiqy11) (v := ?vqy11) ?hiqy11 (by kernel_rfl) (by kernel_rfl) (by kernel_rfl) ?hQqy11 ?hyqy11 (by assumption) ?_; (case hiqy11 => (simp only [List.getElem?_toArray, List.getElem?_cons_succ, List.getElem?_cons_zero]; try rfl)); (case hQqy11 => exact fun _ _ _ h => h)
            case hyqy11 => (refine Or.inl ⟨by rfl, ?_⟩; intro w' hSw; (try dsimp only at hSw); go_simp; try with_reducible rfl)
            try simp only [Act.put, List.setIfInBounds_toArray, List.set_cons_zero, List.set_cons_succ]
            refine wpAnyH_take (i := 12) (oi := ?oiqy12) (v := ?vqy12) ?hiqy12 (by kernel_rfl) (by kernel_rfl) (by kernel_rfl) ?hQqy12 ?hyqy12 (by assumption) ?_; (case hiqy12 => (simp only [List.getElem?_toArray, List.getElem?_cons_succ, List.getElem?_cons_zero]; try rfl)); (case hQqy12 => exact fun _ _ _ h => h)
            case hyqy12 => (refine Or.inl ⟨by rfl, ?_⟩; intro w' hSw; (try dsimp only at hSw); go_simp; try with_reducible rfl)
            try simp only [Act.put, List.setIfInBounds_toArray, List.set_cons_zero, List.set_cons_succ]
            refine wpAnyH_take (i := 13) (oi := ?oiqy13) (v := undef) ?hiqy13 (by kernel_rfl) (by kernel_rfl) (by kernel_rfl) ?hQqy13 ?hyqy13 (by assumption) ?_; (case hiqy13 => (simp only [List.getElem?_toArray, List.getElem?_cons_succ, List.getElem?_cons_zero]; try rfl)); (case hQqy13 => exact fun _ _ _ h => h)
            case hyqy13 => exact Or.inr ⟨by rfl, rfl⟩
            try simp only [Act.put, List.setIfInBounds_toArray, List.set_cons_zero, List.set_cons_succ]
            refine wpAnyH_take (i := 14) (oi := ?oiqy14) (v := undef) ?hiqy14 (by kernel_rfl) (by kernel_rfl) (by kernel_rfl) ?hQqy14 ?hyqy14 (by assumption) ?_; (case hiqy14 => (simp only [List.getElem?_toArray, List.getElem?_cons_succ, List.getElem?_cons_zero]; try rfl)); (case hQqy14 => exact fun _ _ _ h => h)
            case hyqy14 => exact Or.inr ⟨by rfl, rfl⟩
            try simp only [Act.put, List.setIfInBounds_toArray, List.set_cons_zero, List.set_cons_succ]
            refine wpAnyH_take (i := 15) (oi := ?oiqy15) (v := undef) ?hiqy15 (by kernel_rfl) (by kernel_rfl) (by kernel_rfl) ?hQqy15 ?hyqy15 (by assumption) ?_; (case hiqy15 => (simp only [List.getElem?_toArray, List.getElem?_cons_succ, List.getElem?_cons_zero]; try rfl)); (case hQqy15 => exact fun _ _ _ h => h)
            case hyqy15 => exact Or.inr ⟨by rfl, rfl⟩
            try simp only [Act.put, List.setIfInBounds_toArray, List.set_cons_zero, List.set_cons_succ]
            refine wpAnyH_take (i := 16) (oi := ?oiqy16) (v := undef) ?hiqy16 (by kernel_rfl) (by kernel_rfl) (by kernel_rfl) ?hQqy16 ?hyqy16 (by assumption) ?_; (case hiqy16 => (simp only [List.getElem?_toArray, List.getElem?_cons_succ, List.getElem?_cons_zero]; try rfl)); (case hQqy16 => exact fun _ _ _ h => h)
            case hyqy16 => exact Or.inr ⟨by rfl, rfl⟩
            try simp only [Act.put, List.setIfInBounds_toArray, List.set_cons_zero, List.set_cons_succ]
            refine wpAnyH_take (i := 17) (oi := ?oiqy17) (v := undef) ?hiqy17 (by kernel_rfl) (by kernel_rfl) (by kernel_rfl) ?hQqy17 ?hyqy17 (by assumption) ?_; (case hiqy17 => (simp only [List.getElem?_toArray, List.getElem?_cons_succ, List.getElem?_cons_zero]; try rfl)); (case hQqy17 => exact fun _ _ _ h => h)
            case hyqy17 => exact Or.inr ⟨by rfl, rfl⟩
            try simp only [Act.put, List.setIfInBounds_toArray, List.set_cons_zero, List.set_cons_succ]
            refine wpAnyH_take (i := 18) (oi := ?oiqy18) (v := undef) ?hiqy18 (by kernel_rfl) (by kernel_rfl) (by kernel_rfl) ?hQqy18 ?hyqy18 (by assumption) ?_; (case hiqy18 => (simp only [List.getElem?_toArray, List.getElem?_cons_succ, List.getElem?_cons_zero]; try rfl)); (case hQqy18 => exact fun _ _ _ h => h)
            case hyqy18 => exact Or.inr ⟨by rfl, rfl⟩
            try simp only [Act.put, List.setIfInBounds_toArray, List.set_cons_zero, List.set_cons_succ]
            refine wpAnyH_take (i := 19) (oi := ?oiqy19) (v := ?vqy19) ?hiqy19 (by kernel_rfl) (by kernel_rfl) (by kernel_rfl) ?hQqy19 ?hyqy19 (by assumption) ?_; (case hiqy19 => (simp only [List.getElem?_toArray, List.getElem?_cons_succ, List.getElem?_cons_zero]; try rfl)); (case hQqy19 => exact fun _ _ _ h => h)
            case hyqy19 => (refine Or.inl ⟨by rfl, ?_⟩; intro w' hSw; (try dsimp only at hSw); go_simp; try with_reducible rfl)
            try simp only [Act.put, List.setIfInBounds_toArray, List.set_cons_zero, List.set_cons_succ]
            refine wpAnyH_take (i := 20) (oi := ?oiqy20) (v := ?vqy20) ?hiqy20 (by kernel_rfl) (by kernel_rfl) (by kernel_rfl) ?hQqy20 ?hyqy20 (by assumption) ?_; (case hiqy20 => (simp only [List.getElem?_toArray, List.getElem?_cons_succ, List.getElem?_cons_zero]; try rfl)); (case hQqy20 => exact fun _ _ _ h => h)
            case hyqy20 => (refine Or.inl ⟨by rfl, ?_⟩; intro w' hSw; (try dsimp only at hSw); go_simp; try with_reducible rfl)
            try simp only [Act.put, List.setIfInBounds_toArray, List.set_cons_zero, List.set_cons_succ]
            refine wpAnyH_take (i := 21) (oi := ?oiqy21) (v := ?vqy21) ?hiqy21 (by kernel_rfl) (by kernel_rfl) (by kernel_rfl) ?hQqy21 ?hyqy21 (by assumption) ?_; (case hiqy21 => (simp only [List.getElem?_toArray, List.getElem?_cons_succ, List.getElem?_cons_zero]; try rfl)); (case hQqy21 => exact fun _ _ _ h => h)
            case hyqy21 => (refine Or.inl ⟨by rfl, ?_⟩; intro w' hSw; (try dsimp only at hSw); go_simp; try with_reducible rfl)
            try simp only [Act.put, List.setIfInBounds_toArray, List.set_cons_zero, List.set_cons_succ]
            refine wpAnyH_done (by kernel_rfl) ?_ _
            have HM6 := Lib.hid (HM5.out.below (Below.refl w5.heap.size w5).drew)
            have HK6 := Lib.hid (HK5.out.below (Below.refl w5.heap.size w5).drew HK5.out.lt)
            obtain ⟨mm, hmm⟩ : ∃ m, t3.p.h.n = m := ⟨_, rfl⟩
            have HMM := Lib.hid hmm
            have HSZ := Lib.hid HOK5.out.hg.sz
            clear hmm k0 k1 k2
            go_wp2_with fail
            (with_reducible refine (BS.dump HM6.out mm HMM.out).mono ?_)
            rintro e w7 ⟨gs, sn, cs, gd, cp, rfl, h1, h2, h3, h4⟩
            have HD := Lib.hid h2
            have HK7 := Lib.hid (HK6.out.below h4 HK6.out.lt)
            have HBE := Lib.hid (HM6.out.below h4).bel
            have HCP := Lib.hid h3
            clear h1 h2 h3 h4
            dsimp only
            go_wp2_with fail
            go_loopw [17, 20] (fun ok i wr => ∃ (b : Bool) (q : Nat), q ≤ mm ∧ ok = .bool b ∧ i = .int .i64 q ∧ Hid ((b = true ∧ t.p.nextE ⟨kk0, kn0, ks0⟩ = 0) ∨ (b = false ∧ (⟨kk0, kn0, ks0⟩ : V).k ≠ 0 ∧ ¬ t.p.inB ⟨kk0, kn0, ks0⟩ ∧ ∀ z, z < q → t.p.h.key z ≠ ⟨kk0, kn0, ks0⟩)) ∧ Hid (Below w7.heap.size w7 wr)) (fun _ i _ => mm - (intOf i).toNat)
            case atStart => exact ⟨_, 0, Nat.zero_le _, rfl, rfl, Lib.hid (HINV.out.imp (fun h => ⟨(by first | rfl | exact h.1), h.2⟩) (fun h => ⟨(by first | rfl | exact h.1), h.2⟩)), Lib.hid (Below.refl _ _)⟩
            case round =>
              clear HINV
              obtain ⟨b, q, hq, rfl, rfl, HINV, HBI⟩ := hrel
              by_cases hqm : q < mm
              · have dq : decide ((q : Int) < (mm : Int)) = true := by simp; omega
                have q1 : (q : Int) < (mm : Int) := by omega
                have q3 : (mm : Int) ≤ 9223372036854775807 := by have h1 := HMM.out; have h2 := HSZ.out; rw [HP3.out] at h1; omega
                have HQM := Lib.hid hqm
                cases b with
                | true =>
                  have HI2 : Hid (t.p.nextE ⟨kk0, kn0, ks0⟩ = 0) := Lib.hid (HINV.out.elim (fun h => h.2) (fun h => by simp at h))
                  go_wp2
                  go_quiet (fail)
                  go_wp2
                  go_roundw
                  case rel => exact ⟨true, q + 1, HQM.out, rfl, by go_num, Lib.hid (.inl ⟨rfl, HI2.out⟩), Lib.hid (below_drewN HBI.out _)⟩
                  case measure => have := HQM.out; simp [intOf]; omega
                | false =>
                  have hi := (HINV.out.resolve_left (fun h => by simp at h)).2
                  have HI := Lib.hid hi
                  have hd := HD.out q (by have := HMM.out; omega)
                  have hd2 := hd.below HBI.out hd.lt
                  obtain ⟨g0, g1, g2, -, -, -, -, -, -⟩ := hd2
                  rw [HP3.out] at g0 g1 g2
                  obtain ⟨y, hy⟩ : ∃ y, t.p.h.key q = y := ⟨_, rfl⟩
                  have HY := Lib.hid hy
                  rw [hy] at g0 g1 g2
                  obtain ⟨k0, k1, k2, -, -⟩ := HK7.out.below HBI.out HK7.out.lt
                  dsimp only at k0 k1 k2
                  simp only [Nat.zero_add] at k1 k2
                  clear hi hd hy hqm hq
                  by_cases e : y = ⟨kk0, kn0, ks0⟩
                  · subst e
                    have HI2 : Hid (t.p.nextE ⟨kk0, kn0, ks0⟩ = 0) := Lib.hid (keys_yes HOK5.out HOKV.out (.inr (.inr ⟨q, by have h1 := HMM.out; rw [HP3.out] at h1; have := HQM.out; omega, HY.out⟩)))
                    dsimp only at g0 g1 g2
                    go_wp2
                    go_quiet (fail)
                    go_wp2
                    go_roundw
                    case rel => exact ⟨true, q + 1, HQM.out, rfl, by go_num, Lib.hid (.inl ⟨rfl, HI2.out⟩), Lib.hid (below_drewN HBI.out _)⟩
                    case measure => have := HQM.out; simp [intOf]; omega
                  · have h3 := ne3 e
                    have HN2 : Hid (∀ z, z < q + 1 → t.p.h.key z ≠ ⟨kk0, kn0, ks0⟩) := Lib.hid (fun z hz => by
                      by_cases ez : z = q
                      · rw [ez, HY.out]; exact e
                      · exact HI.out.2.2 z (by omega))
                    obtain ⟨yk, yn, ys⟩ := y
                    dsimp only at h3 g0 g1 g2
                    clear e
                    rcases h3 with e1 | ⟨e0, e1⟩ | ⟨e0, e00, e1, e2⟩
                    rotate_left
                    subst e0
                    rotate_left
                    subst e0 e00
                    rotate_left
                    all_goals
                      go_wp2
                      go_quiet (fail)
                      go_wp2
                      go_roundw
                      case rel => exact ⟨false, q + 1, HQM.out, rfl, by go_num, Lib.hid (.inr ⟨rfl, HI.out.1, HI.out.2.1, HN2.out⟩), Lib.hid (below_drewN HBI.out _)⟩
                      case measure => have := HQM.out; simp [intOf]; omega
              · obtain rfl : q = mm := by omega
                have dq : decide ((q : Int) < (q : Int)) = false := by simp
                cases b with
                | true =>
                  have hI2 : t.p.nextE ⟨kk0, kn0, ks0⟩ = 0 := HINV.out.elim (fun h => h.2) (fun h => by simp at h)
                  obtain rfl : ee = 0 := by rw [← HEE.out]; exact hI2
                  clear hI2
                  go_wp2
                  go_ret
                  exact ⟨rfl, HBE.out.trans (HBI.out.mono HBE.out.size)⟩
                | false =>
                  have hi := (HINV.out.resolve_left (fun h => by simp at h)).2
                  obtain rfl : ee = 9 := by
                    rw [← HEE.out]
                    exact keys_no HOK5.out HOKV.out hi.1 hi.2.1 (fun z hz => hi.2.2 z (by have h1 := HMM.out; rw [HP3.out] at h1; omega))
                  clear hi
                  go_wp2
                  go_ret
                  exact ⟨rfl, HBE.out.trans (HBI.out.mono HBE.out.size)⟩
          · have HINV : Hid ((false = true ∧ t.p.nextE ⟨2, kn0, ks0⟩ = 0) ∨ (false = false ∧ (⟨2, kn0, ks0⟩ : V).k ≠ 0 ∧ ¬ t.p.inB ⟨2, kn0, ks0⟩ ∧ ∀ z, z < 0 → t.p.h.key z ≠ ⟨2, kn0, ks0⟩)) := Lib.hid (.inr ⟨rfl, (by show (2 : Int) ≠ 0; decide), hnb, fun z hz => by omega⟩)
            clear hnb
            go_wp2_with fail
            refine wp_region_held_drew (S := (fun w' => w'.cell? ⟨W.heap.size + 1, 0, none⟩ = some (.int .i64 2) ∧ w'.cell? ⟨W.heap.size + 1, 1, none⟩ = some (.int .i64 kn0) ∧ w'.cell? ⟨W.heap.size + 1, 2, none⟩ = some (.string ks0))) (by kernel_rfl) ?_ (fun hH0qz => ?_)
            · with_reducible exact HSS.out _ (Below.refl _ w5).drew
            refine wpAnyH_take (i := 0) (oi := ?oiqz0) (v := ?vqz0) ?hiqz0 (by kernel_rfl) (by kernel_rfl) (by kernel_rfl) ?hQqz0 ?hyqz0 (by assumption) ?_; (case hiqz0 => (simp only [List.getElem?_toArray, List.getElem?_cons_succ, List.getElem?_cons_zero]; try rfl)); (case hQqz0 => exact fun _ _ _ h => h)
            case hyqz0 => (refine Or.inl ⟨by rfl, ?_⟩; intro w' hSw; (try dsimp only at hSw); go_simp; try with_reducible rfl)
            try simp only [Act.put, List.setIfInBounds_toArray, List.set_cons_zero, List.set_cons_succ]
            refine wpAnyH_take (i := 1) (oi := ?oiqz1) (v := ?vqz1) ?hiqz1 (by kernel_rfl) (by kernel_rfl) (by kernel_rfl) ?hQqz1 ?hyqz1 (by assumption) ?_; (case hiqz1 => (simp only [List.getElem?_toArray, List.getElem?_cons_succ, List.getElem?_cons_zero]; try rfl)); (case hQqz1 => exact fun _ _ _ h => h)
            case hyqz1 => (refine Or.inl ⟨by rfl, ?_⟩; intro w' hSw; (try dsimp only at hSw); go_simp; try with_reducible rfl)
            try simp only [Act.put, List.setIfInBounds_toArray, List.set_cons_zero, List.set_cons_succ]
            refine wpAnyH_take (i := 2) (oi := ?oiqz2) (v := ?vqz2) ?hiqz2 (by kernel_rfl) (by kernel_rfl) (by kernel_rfl) ?hQqz2 ?hyqz2 (by assumption) ?_; (case hiqz2 => (simp only [List.getElem?_toArray, List.getElem?_cons_succ, List.getElem?_cons_zero]; try rfl)); (case hQqz2 => exact fun _ _ _ h => h)
            case hyqz2 => (refine Or.inl ⟨by rfl, ?_⟩; intro w' hSw; (try dsimp only at hSw); go_simp; try with_reducible rfl)
            try simp only [Act.put, List.setIfInBounds_toArray, List.set_cons_zero, List.set_cons_succ]
            refine wpAnyH_take (i := 3) (oi := ?oiqz3) (v := ?vqz3) ?hiqz3 (by kernel_rfl) (by kernel_rfl) (by kernel_rfl) ?hQqz3 ?hyqz3 (by assumption) ?_; (case hiqz3 => (simp only [List.getElem?_toArray, List.getElem?_cons_succ, List.getElem?_cons_zero]; try rfl)); (case hQqz3 => exact fun _ _ _ h => h)
            case hyqz3 => (refine Or.inl ⟨by rfl, ?_⟩; intro w' hSw; (try dsimp only at hSw); go_simp; try with_reducible rfl)
            try simp only [Act.put, List.setIfInBounds_toArray, List.set_cons_zero, List.set_cons_succ]
            refine wpAnyH_take (i := 4) (oi := ?oiqz4) (v := ?vqz4) ?hiqz4 (by kernel_rfl) (by kernel_rfl) (by kernel_rfl) ?hQqz4 ?hyqz4 (by assumption) ?_; (case hiqz4 => (simp only [List.getElem?_toArray, List.getElem?_cons_succ, List.getElem?_cons_zero]; try rfl)); (case hQqz4 => exact fun _ _ _ h => h)
            case hyqz4 => (refine Or.inl ⟨by rfl, ?_⟩; intro w' hSw; (try dsimp only at hSw); go_simp; try with_reducible rfl)
            try simp only [Act.put, List.setIfInBounds_toArray, List.set_cons_zero, List.set_cons_succ]
            refine wpAnyH_take (i := 5) (oi := ?oiqz5) (v := ?vqz5) ?hiqz5 (by kernel_rfl) (by kernel_rfl) (by kernel_rfl) ?hQqz5 ?hyqz5 (by assumption) ?_; (case hiqz5 => (simp only [List.getElem?_toArray, List.getElem?_cons_succ, List.getElem?_cons_zero]; try rfl)); (case hQqz5 => exact fun _ _ _ h => h)
            case hyqz5 => (refine Or.inl ⟨by rfl, ?_⟩; intro w' hSw; (try dsimp only at hSw); go_simp; try with_reducible rfl)
            try simp only [Act.put, List.setIfInBounds_toArray, List.set_cons_zero, List.set_cons_succ]
            refine wpAnyH_take (i := 6) (oi := ?oiqz6) (v := ?vqz6) ?hiqz6 (by kernel_rfl) (by kernel_rfl) (by kernel_rfl) ?hQqz6 ?hyqz6 (by assumption) ?_; (case hiqz6 => (simp only [List.getElem?_toArray, List.getElem?_cons_succ, List.getElem?_cons_zero]; try rfl)); (case hQqz6 => exact fun _ _ _ h => h)
            case hyqz6 => (refine Or.inl ⟨by rfl, ?_⟩; intro w' hSw; (try dsimp only at hSw); go_simp; try with_reducible rfl)
            try simp only [Act.put, List.setIfInBounds_toArray, List.set_cons_zero, List.set_cons_succ]
            refine wpAnyH_take (i := 7) (oi := ?oiqz7) (v := ?vqz7) ?hiqz7 (by kernel_rfl) (by kernel_rfl) (by kernel_rfl) ?hQqz7 ?hyqz7 (by assumption) ?_; (case hiqz7 => (simp only [List.getElem?_toArray, List.getElem?_cons_succ, List.getElem?_cons_zero]; try rfl)); (case hQqz7 => exact fun _ _ _ h => h)
            case hyqz7 => (refine Or.inl ⟨by rfl, ?_⟩; intro w' hSw; (try dsimp only at hSw); go_simp; try with_reducible rfl)
            try simp only [Act.put, List.setIfInBounds_toArray, List.set_cons_zero, List.set_cons_succ]
            refine wpAnyH_take (i := 8) (oi := ?oiqz8) (v := ?vqz8) ?hiqz8 (by kernel_rfl) (by kernel_rfl) (by kernel_rfl) ?hQqz8 ?hyqz8 (by assumption) ?_; (case hiqz8 => (simp only [List.getElem?_toArray, List.getElem?_cons_succ, List.getElem?_cons_zero]; try rfl)); (case hQqz8 => exact fun _ _ _ h => h)
            case hyqz8 => (refine Or.inl ⟨by rfl, ?_⟩; intro w' hSw; (try dsimp only at hSw); go_simp; try with_reducible rfl)
            try simp only [Act.put, List.setIfInBounds_toArray, List.set_cons_zero, List.set_cons_succ]
            refine wpAnyH_take (i := 9) (oi := ?oiqz9) (v := ?vqz9) ?hiqz9 (by kernel_rfl) (by kernel_rfl) (by kernel_rfl) ?hQqz9 ?hyqz9 (by assumption) ?_; (case hiqz9 => (simp only [List.getElem?_toArray, List.getElem?_cons_succ, List.getElem?_cons_zero]; try rfl)); (case hQqz9 => exact fun _ _ _ h => h)
            case hyqz9 => (refine Or.inl ⟨by rfl, ?_⟩; intro w' hSw; (try dsimp only at hSw); go_simp; try with_reducible rfl)
            try simp only [Act.put, List.setIfInBounds_toArray, List.set_cons_zero, List.set_cons_succ]
            refine wpAnyH_take (i := 10) (oi := ?oiqz10) (v := ?vqz10) ?hiqz10 (by kernel_rfl) (by kernel_rfl) (by kernel_rfl) ?hQqz10 ?hyqz10 (by assumption) ?_; (case hiqz10 => (simp only [List.getElem?_toArray, List.getElem?_cons_succ, List.getElem?_cons_zero]; try rfl)); (case hQqz10 => exact fun _ _ _ h => h)
            case hyqz10 => (refine Or.inl ⟨by rfl, ?_⟩; intro w' hSw; (try dsimp only at hSw); go_simp; try with_reducible rfl)
            try simp only [Act.put, List.setIfInBounds_toArray, List.set_cons_zero, List.set_cons_succ]
            refine wpAnyH_take (i := 11) (oi := ?oiqz11) (v := ?vqz11) ?hiqz11 (by kernel_rfl) (by kernel_rfl) (by kernel_rfl) ?hQqz11 ?hyqz11 (by assumption) ?_; (case hiqz11 => (simp only [List.getElem?_toArray, List.getElem?_cons_succ, List.getElem?_cons_zero]; try rfl)); (case hQqz11 => exact fun _ _ _ h => h)
            case hyqz11 => (refine Or.inl ⟨by rfl, ?_⟩; intro w' hSw; (try dsimp only at hSw); go_simp; try with_reducible rfl)
            try simp only [Act.put, List.setIfInBounds_toArray, List.set_cons_zero, List.set_cons_succ]
            refine wpAnyH_take (i := 12) (oi := ?oiqz12) (v := ?vqz12) ?hiqz12 (by kernel_rfl) (by kernel_rfl) (by kernel_rfl) ?hQqz12 ?hyqz12 (by assumption) ?_; (case hiqz12 => (simp only [List.getElem?_toArray, List.getElem?_cons_succ, List.getElem?_cons_zero]; try rfl)); (case hQqz12 => exact fun _ _ _ h => h)
            case hyqz12 => (refine Or.inl ⟨by rfl, ?_⟩; intro w' hSw; (try dsimp only at hSw); go_simp; try with_reducible rfl)
            try simp only [Act.put, List.setIfInBounds_toArray, List.set_cons_zero, List.set_cons_succ]
            refine wpAnyH_take (i := 13) (oi := ?oiqz13) (v := undef) ?hiqz13 (by kernel_rfl) (by kernel_rfl) (by kernel_rfl) ?hQqz13 ?hyqz13 (by assumption) ?_; (case hiqz13 => (simp only [List.getElem?_toArray, List.getElem?_cons_succ, List.getElem?_cons_zero]; try rfl)); (case hQqz13 => exact fun _ _ _ h => h)
            case hyqz13 => exact Or.inr ⟨by rfl, rfl⟩
            try simp only [Act.put, List.setIfInBounds_toArray, List.set_cons_zero, List.set_cons_succ]
            refine wpAnyH_take (i := 14) (oi := ?oiqz14) (v := undef) ?hiqz14 (by kernel_rfl) (by kernel_rfl) (by kernel_rfl) ?hQqz14 ?hyqz14 (by assumption) ?_; (case hiqz14 => (simp only [List.getElem?_toArray, List.getElem?_cons_succ, List.getElem?_cons_zero]; try rfl)); (case hQqz14 => exact fun _ _ _ h => h)
            case hyqz14 => exact Or.inr ⟨by rfl, rfl⟩
            try simp only [Act.put, List.setIfInBounds_toArray, List.set_cons_zero, List.set_cons_succ]
            refine wpAnyH_take (i := 15) (oi := ?oiqz15) (v := undef) ?hiqz15 (by kernel_rfl) (by kernel_rfl) (by kernel_rfl) ?hQqz15 ?hyqz15 (by assumption) ?_; (case hiqz15 => (simp only [List.getElem?_toArray, List.getElem?_cons_succ, List.getElem?_cons_zero]; try rfl)); (case hQqz15 => exact fun _ _ _ h => h)
            case hyqz15 => exact Or.inr ⟨by rfl, rfl⟩
            try simp only [Act.put, List.setIfInBounds_toArray, List.set_cons_zero, List.set_cons_succ]
            refine wpAnyH_take (i := 16) (oi := ?oiqz16) (v := undef) ?hiqz16 (by kernel_rfl) (by kernel_rfl) (by kernel_rfl) ?hQqz16 ?hyqz16 (by assumption) ?_; (case hiqz16 => (simp only [List.getElem?_toArray, List.getElem?_cons_succ, List.getElem?_cons_zero]; try rfl)); (case hQqz16 => exact fun _ _ _ h => h)
            case hyqz16 => exact Or.inr ⟨by rfl, rfl⟩
            try simp only [Act.put, List.setIfInBounds_toArray, List.set_cons_zero, List.set_cons_succ]
            refine wpAnyH_take (i := 17) (oi := ?oiqz17) (v := undef) ?hiqz17 (by kernel_rfl) (by kernel_rfl) (by kernel_rfl) ?hQqz17 ?hyqz17 (by assumption) ?_; (case hiqz17 => (simp only [List.getElem?_toArray, List.getElem?_cons_succ, List.getElem?_cons_zero]; try rfl)); (case hQqz17 => exact fun _ _ _ h => h)
            case hyqz17 => exact Or.inr ⟨by rfl, rfl⟩
            try simp only [Act.put, List.setIfInBounds_toArray, List.set_cons_zero, List.set_cons_succ]
            refine wpAnyH_take (i := 18) (oi := ?oiqz18) (v := undef) ?hiqz18 (by kernel_rfl) (by kernel_rfl) (by kernel_rfl) ?hQqz18 ?hyqz18 (by assumption) ?_; (case hiqz18 => (simp only [List.getElem?_toArray, List.getElem?_cons_succ, List.getElem?_cons_zero]; try rfl)); (case hQqz18 => exact fun _ _ _ h => h)
            case hyqz18 => exact Or.inr ⟨by rfl, rfl⟩
            try simp only [Act.put, List.setIfInBounds_toArray, List.set_cons_zero, List.set_cons_succ]
            refine wpAnyH_take (i := 19) (oi := ?oiqz19) (v := ?vqz19) ?hiqz19 (by kernel_rfl) (by kernel_rfl) (by kernel_rfl) ?hQqz19 ?hyqz19 (by assumption) ?_; (case hiqz19 => (simp only [List.getElem?_toArray, List.getElem?_cons_succ, List.getElem?_cons_zero]; try rfl)); (case hQqz19 => exact fun _ _ _ h => h)
            case hyqz19 => (refine Or.inl ⟨by rfl, ?_⟩; intro w' hSw; (try dsimp only at hSw); go_simp; try with_reducible rfl)
            try simp only [Act.put, List.setIfInBounds_toArray, List.set_cons_zero, List.set_cons_succ]
            refine wpAnyH_take (i := 20) (oi := ?oiqz20) (v := ?vqz20) ?hiqz20 (by kernel_rfl) (by kernel_rfl) (by kernel_rfl) ?hQqz20 ?hyqz20 (by assumption) ?_; (case hiqz20 => (simp only [List.getElem?_toArray, List.getElem?_cons_succ, List.getElem?_cons_zero]; try rfl)); (case hQqz20 => exact fun _ _ _ h => h)
            case hyqz20 => (refine Or.inl ⟨by rfl, ?_⟩; intro w' hSw; (try dsimp only at hSw); go_simp; try with_reducible rfl)
            try simp only [Act.put, List.setIfInBounds_toArray, List.set_cons_zero, List.set_cons_succ]
            refine wpAnyH_take (i := 21) (oi := ?oiqz21) (v := ?vqz21) ?hiqz21 (by kernel_rfl) (by kernel_rfl) (by kernel_rfl) ?hQqz21 ?hyqz21 (by assumption) ?_; (case hiqz21 => (simp only [List.getElem?_toArray, List.getElem?_cons_succ, List.getElem?_cons_zero]; try rfl)); (case hQqz21 => exact fun _ _ _ h => h)
            case hyqz21 => (refine Or.inl ⟨by rfl, ?_⟩; intro w' hSw; (try dsimp only at hSw); go_simp; try with_reducible rfl)
            try simp only [Act.put, List.setIfInBounds_toArray, List.set_cons_zero, List.set_cons_succ]
            refine wpAnyH_done (by kernel_rfl) ?_ _
            have HM6 := Lib.hid (HM5.out.below (Below.refl w5.heap.size w5).drew)
            have HK6 := Lib.hid (HK5.out.below (Below.refl w5.heap.size w5).drew HK5.out.lt)
            obtain ⟨mm, hmm⟩ : ∃ m, t3.p.h.n = m := ⟨_, rfl⟩
            have HMM := Lib.hid hmm
            have HSZ := Lib.hid HOK5.out.hg.sz
            clear hmm k0 k1 k2
            go_wp2_with fail
            (with_reducible refine (BS.dump HM6.out mm HMM.out).mono ?_)
            rintro e w7 ⟨gs, sn, cs, gd, cp, rfl, h1, h2, h3, h4⟩
            have HD := Lib.hid h2
            have HK7 := Lib.hid (HK6.out.below h4 HK6.out.lt)
            have HBE := Lib.hid (HM6.out.below h4).bel
            have HCP := Lib.hid h3
            clear h1 h2 h3 h4
            dsimp only
            go_wp2_with fail
            go_loopw [17, 20] (fun ok i wr => ∃ (b : Bool) (q : Nat), q ≤ mm ∧ ok = .bool b ∧ i = .int .i64 q ∧ Hid ((b = true ∧ t.p.nextE ⟨2, kn0, ks0⟩ = 0) ∨ (b = false ∧ (⟨2, kn0, ks0⟩ : V).k ≠ 0 ∧ ¬ t.p.inB ⟨2, kn0, ks0⟩ ∧ ∀ z, z < q → t.p.h.key z ≠ ⟨2, kn0, ks0⟩)) ∧ Hid (Below w7.heap.size w7 wr)) (fun _ i _ => mm - (intOf i).toNat)
            case atStart => exact ⟨_, 0, Nat.zero_le _, rfl, rfl, Lib.hid (HINV.out.imp (fun h => ⟨(by first | rfl | exact h.1), h.2⟩) (fun h => ⟨(by first | rfl | exact h.1), h.2⟩)), Lib.hid (Below.refl _ _)⟩
            case round =>
              clear HINV
              obtain ⟨b, q, hq, rfl, rfl, HINV, HBI⟩ := hrel
              by_cases hqm : q < mm
              · have dq : decide ((q : Int) < (mm : Int)) = true := by simp; omega
                have q1 : (q : Int) < (mm : Int) := by omega
                have q3 : (mm : Int) ≤ 9223372036854775807 := by have h1 := HMM.out; have h2 := HSZ.out; rw [HP3.out] at h1; omega
                have HQM := Lib.hid hqm
                cases b with
                | true =>
                  have HI2 : Hid (t.p.nextE ⟨2, kn0, ks0⟩ = 0) := Lib.hid (HINV.out.elim (fun h => h.2) (fun h => by simp at h))
                  go_wp2
                  go_quiet (fail)
                  go_wp2
                  go_roundw
                  case rel => exact ⟨true, q + 1, HQM.out, rfl, by go_num, Lib.hid (.inl ⟨rfl, HI2.out⟩), Lib.hid (below_drewN HBI.out _)⟩
                  case measure => have := HQM.out; simp [intOf]; omega
                | false =>
                  have hi := (HINV.out.resolve_left (fun h => by simp at h)).2
                  have HI := Lib.hid hi
                  have hd := HD.out q (by have := HMM.out; omega)
                  have hd2 := hd.below HBI.out hd.lt
                  obtain ⟨g0, g1, g2, -, -, -, -, -, -⟩ := hd2
                  rw [HP3.out] at g0 g1 g2
                  obtain ⟨y, hy⟩ : ∃ y, t.p.h.key q = y := ⟨_, rfl⟩
                  have HY := Lib.hid hy
                  rw [hy] at g0 g1 g2
                  obtain ⟨k0, k1, k2, -, -⟩ := HK7.out.below HBI.out HK7.out.lt
                  dsimp only at k0 k1 k2
                  simp only [Nat.zero_add] at k1 k2
                  clear hi hd hy hqm hq
                  by_cases e : y = ⟨2, kn0, ks0⟩
                  · subst e
                    have HI2 : Hid (t.p.nextE ⟨2, kn0, ks0⟩ = 0) := Lib.hid (keys_yes HOK5.out HOKV.out (.inr (.inr ⟨q, by have h1 := HMM.out; rw [HP3.out] at h1; have := HQM.out; omega, HY.out⟩)))
                    dsimp only at g0 g1 g2
                    go_wp2
                    go_quiet (fail)
                    go_wp2
                    go_roundw
                    case rel => exact ⟨true, q + 1, HQM.out, rfl, by go_num, Lib.hid (.inl ⟨rfl, HI2.out⟩), Lib.hid (below_drewN HBI.out _)⟩
                    case measure => have := HQM.out; simp [intOf]; omega
                  · have h3 := ne3 e
                    have HN2 : Hid (∀ z, z < q + 1 → t.p.h.key z ≠ ⟨2, kn0, ks0⟩) := Lib.hid (fun z hz => by
                      by_cases ez : z = q
                      · rw [ez, HY.out]; exact e
                      · exact HI.out.2.2 z (by omega))
                    obtain ⟨yk, yn, ys⟩ := y
                    dsimp only at h3 g0 g1 g2
                    clear e
                    rcases h3 with e1 | ⟨e0, e1⟩ | ⟨e0, e00, e1, e2⟩
                    rotate_left
                    subst e0
                    rotate_left
                    subst e0 e00
                    rotate_left
                    all_goals
                      go_wp2
                      go_quiet (fail)
                      go_wp2
                      go_roundw
                      case rel => exact ⟨false, q + 1, HQM.out, rfl, by go_num, Lib.hid (.inr ⟨rfl, HI.out.1, HI.out.2.1, HN2.out⟩), Lib.hid (below_drewN HBI.out _)⟩
                      case measure => have := HQM.out; simp [intOf]; omega
              · obtain rfl : q = mm := by omega
                have dq : decide ((q : Int) < (q : Int)) = false := by simp
                cases b with
                | true =>
                  have hI2 : t.p.nextE ⟨2, kn0, ks0⟩ = 0 := HINV.out.elim (fun h => h.2) (fun h => by simp at h)
                  obtain rfl : ee = 0 := by rw [← HEE.out]; exact hI2
                  clear hI2
                  go_wp2
                  go_ret
                  exact ⟨rfl, HBE.out.trans (HBI.out.mono HBE.out.size)⟩
                | false =>
                  have hi := (HINV.out.resolve_left (fun h => by simp at h)).2
                  obtain rfl : ee = 9 := by
                    rw [← HEE.out]
                    exact keys_no HOK5.out HOKV.out hi.1 hi.2.1 (fun z hz => hi.2.2 z (by have h1 := HMM.out; rw [HP3.out] at h1; omega))
                  clear hi
                  go_wp2
                  go_ret
                  exact ⟨rfl, HBE.out.trans (HBI.out.mono HBE.out.size)⟩
          · have HINV : Hid ((true = true ∧ t.p.nextE ⟨2, kn0, ks0⟩ = 0) ∨ (true = false ∧ (⟨2, kn0, ks0⟩ : V).k ≠ 0 ∧ ¬ t.p.inB ⟨2, kn0, ks0⟩ ∧ ∀ z, z < 0 → t.p.h.key z ≠ ⟨2, kn0, ks0⟩)) := Lib.hid (.inl ⟨rfl, keys_yes HOK5.out HOKV.out (.inr (.inl hnb))⟩)
            clear hnb
            go_wp2_with fail
            refine wp_region_held_drew (S := (fun w' => w'.cell? ⟨W.heap.size + 1, 0, none⟩ = some (.int .i64 2) ∧ w'.cell? ⟨W.heap.size + 1, 1, none⟩ = some (.int .i64 kn0) ∧ w'.cell? ⟨W.heap.size + 1, 2, none⟩ = some (.string ks0))) (by kernel_rfl) ?_ (fun hH0qu => ?_)
            · with_reducible exact HSS.out _ (Below.refl _ w5).drew
            refine wpAnyH_take (i := 0) (oi := ?oiqu0) (v := ?vqu0) ?hiqu0 (by kernel_rfl) (by kernel_rfl) (by kernel_rfl) ?hQqu0 ?hyqu0 (by assumption) ?_; (case hiqu0 => (simp only [List.getElem?_toArray, List.getElem?_cons_succ, List.getElem?_cons_zero]; try rfl)); (case hQqu0 => exact fun _ _ _ h => h)
            case hyqu0 => (refine Or.inl ⟨by rfl, ?_⟩; intro w' hSw; (try dsimp only at hSw); go_simp; try with_reducible rfl)
            try simp only [Act.put, List.setIfInBounds_toArray, List.set_cons_zero, List.set_cons_succ]
            refine wpAnyH_take (i := 1) (oi := ?oiqu1) (v := ?vqu1) ?hiqu1 (by kernel_rfl) (by kernel_rfl) (by kernel_rfl) ?hQqu1 ?hyqu1 (by assumption) ?_; (case hiqu1 => (simp only [List.getElem?_toArray, List.getElem?_cons_succ, List.getElem?_cons_zero]; try rfl)); (case hQqu1 => exact fun _ _ _ h => h)
            case hyqu1 => (refine Or.inl ⟨by rfl, ?_⟩; intro w' hSw; (try dsimp only at hSw); go_simp; try with_reducible rfl)
            try simp only [Act.put, List.setIfInBounds_toArray, List.set_cons_zero, List.set_cons_succ]
            refine wpAnyH_take (i := 2) (oi := ?oiqu2) (v := ?vqu2) ?hiqu2 (by kernel_rfl) (by kernel_rfl) (by kernel_rfl) ?hQqu2 ?hyqu2 (by assumption) ?_; (case hiqu2 => (simp only [List.getElem?_toArray, List.getElem?_cons_succ, List.getElem?_cons_zero]; try rfl)); (case hQqu2 => exact fun _ _ _ h => h)
            case hyqu2 => (refine Or.inl ⟨by rfl, ?_⟩; intro w' hSw; (try dsimp only at hSw); go_simp; try with_reducible rfl)
            try simp only [Act.put, List.setIfInBounds_toArray, List.set_cons_zero, List.set_cons_succ]
            refine wpAnyH_take (i := 3) (oi := ?oiqu3) (v := ?vqu3) ?hiqu3 (by kernel_rfl) (by kernel_rfl) (by kernel_rfl) ?hQqu3 ?hyqu3 (by assumption) ?_; (case hiqu3 => (simp only [List.getElem?_toArray, List.getElem?_cons_succ, List.getElem?_cons_zero]; try rfl)); (case hQqu3 => exact fun _ _ _ h => h)
            case hyqu3 => (refine Or.inl ⟨by rfl, ?_⟩; intro w' hSw; (try dsimp only at hSw); go_simp; try with_reducible rfl)
            try simp only [Act.put, List.setIfInBounds_toArray, List.set_cons_zero, List.set_cons_succ]
            refine wpAnyH_take (i := 4) (oi := ?oiqu4) (v := ?vqu4) ?hiqu4 (by kernel_rfl) (by kernel_rfl) (by kernel_rfl) ?hQqu4 ?hyqu4 (by assumption) ?_; (case hiqu4 => (simp only [List.getElem?_toArray, List.getElem?_cons_succ, List.getElem?_cons_zero]; try rfl)); (case hQqu4 => exact fun _ _ _ h => h)
            case hyqu4 => (refine Or.inl ⟨by rfl, ?_⟩; intro w' hSw; (try dsimp only at hSw); go_simp; try with_reducible rfl)
            try simp only [Act.put, List.setIfInBounds_toArray, List.set_cons_zero, List.set_cons_succ]
            refine wpAnyH_take (i := 5) (oi := ?oiqu5) (v := ?vqu5) ?hiqu5 (by kernel_rfl) (by kernel_rfl) (by kernel_rfl) ?hQqu5 ?hyqu5 (by assumption) ?_; (case hiqu5 => (simp only [List.getElem?_toArray, List.getElem?_cons_succ, List.getElem?_cons_zero]; try rfl)); (case hQqu5 => exact fun _ _ _ h => h)
            case hyqu5 => (refine Or.inl ⟨by rfl, ?_⟩; intro w' hSw; (try dsimp only at hSw); go_simp; try with_reducible rfl)
            try simp only [Act.put, List.setIfInBounds_toArray, List.set_cons_zero, List.set_cons_succ]
            refine wpAnyH_take (i := 6) (oi := ?oiqu6) (v := ?vqu6) ?hiqu6 (by kernel_rfl) (by kernel_rfl) (by kernel_rfl) ?hQqu6 ?hyqu6 (by assumption) ?_; (case hiqu6 => (simp only [List.getElem?_toArray, List.getElem?_cons_succ, List.getElem?_cons_zero]; try rfl)); (case hQqu6 => exact fun _ _ _ h => h)
            case hyqu6 => (refine Or.inl ⟨by rfl, ?_⟩; intro w' hSw; (try dsimp only at hSw); go_simp; try with_reducible rfl)
            try simp only [Act.put, List.setIfInBounds_toArray, List.set_cons_zero, List.set_cons_succ]
            refine wpAnyH_take (i := 7) (oi := ?oiqu7) (v := ?vqu7) ?hiqu7 (by kernel_rfl) (by kernel_rfl) (by kernel_rfl) ?hQqu7 ?hyqu7 (by assumption) ?_; (case hiqu7 => (simp only [List.getElem?_toArray, List.getElem?_cons_succ, List.getElem?_cons_zero]; try rfl)); (case hQqu7 => exact fun _ _ _ h => h)
            case hyqu7 => (refine Or.inl ⟨by rfl, ?_⟩; intro w' hSw; (try dsimp only at hSw); go_simp; try with_reducible rfl)
            try simp only [Act.put, List.setIfInBounds_toArray, List.set_cons_zero, List.set_cons_succ]
            refine wpAnyH_take (i := 8) (oi := ?oiqu8) (v := ?vqu8) ?hiqu8 (by kernel_rfl) (by kernel_rfl) (by kernel_rfl) ?hQqu8 ?hyqu8 (by assumption) ?_; (case hiqu8 => (simp only [List.getElem?_toArray, List.getElem?_cons_succ, List.getElem?_cons_zero]; try rfl)); (case hQqu8 => exact fun _ _ _ h => h)
            case hyqu8 => (refine Or.inl ⟨by rfl, ?_⟩; intro w' hSw; (try dsimp only at hSw); go_simp; try with_reducible rfl)
            try simp only [Act.put, List.setIfInBounds_toArray, List.set_cons_zero, List.set_cons_succ]
            refine wpAnyH_take (i := 9) (oi := ?oiqu9) (v := ?vqu9) ?hiqu9 (by kernel_rfl) (by kernel_rfl) (by kernel_rfl) ?hQqu9 ?hyqu9 (by assumption) ?_; (case hiqu9 => (simp only [List.getElem?_toArray, List.getElem?_cons_succ, List.getElem?_cons_zero]; try rfl)); (case hQqu9 => exact fun _ _ _ h => h)
            case hyqu9 => (refine Or.inl ⟨by rfl, ?_⟩; intro w' hSw; (try dsimp only at hSw); go_simp; try with_reducible rfl)
            try simp only [Act.put, List.setIfInBounds_toArray, List.set_cons_zero, List.set_cons_succ]
            refine wpAnyH_take (i := 10) (oi := ?oiqu10) (v := ?vqu10) ?hiqu10 (by kernel_rfl) (by kernel_rfl) (by kernel_rfl) ?hQqu10 ?hyqu10 (by assumption) ?_; (case hiqu10 => (simp only [List.getElem?_toArray, List.getElem?_cons_succ, List.getElem?_cons_zero]; try rfl)); (case hQqu10 => exact fun _ _ _ h => h)
            case hyqu10 => (refine Or.inl ⟨by rfl, ?_⟩; intro w' hSw; (try dsimp only at hSw); go_simp; try with_reducible rfl)
            try simp only [Act.put, List.setIfInBounds_toArray, List.set_cons_zero, List.set_cons_succ]
            refine wpAnyH_take (i := 11) (oi := ?oiqu11) (v := ?vqu11) ?hiqu11 (by kernel_rfl) (by kernel_rfl) (by kernel_rfl) ?hQqu11 ?hyqu11 (by assumption) ?_; (case hiqu11 => (simp only [List.getElem?_toArray, List.getElem?_cons_succ, List.getElem?_cons_zero]; try rfl)); (case hQqu11 => exact fun _ _ _ h => h)
            case hyqu11 => (refine Or.inl ⟨by rfl, ?_⟩; intro w' hSw; (try dsimp only at hSw); go_simp; try with_reducible rfl)
            try simp only [Act.put, List.setIfInBounds_toArray, List.set_cons_zero, List.set_cons_succ]
            refine wpAnyH_take (i := 12) (oi := ?oiqu12) (v := ?vqu12) ?hiqu12 (by kernel_rfl) (by kernel_rfl) (by kernel_rfl) ?hQqu12 ?hyqu12 (by assumption) ?_; (case hiqu12 => (simp only [List.getElem?_toArray, List.getElem?_cons_succ, List.getElem?_cons_zero]; try rfl)); (case hQqu12 => exact fun _ _ _ h => h)
            case hyqu12 => (refine Or.inl ⟨by rfl, ?_⟩; intro w' hSw; (try dsimp only at hSw); go_simp; try with_reducible rfl)
            try simp only [Act.put, List.setIfInBounds_toArray, List.set_cons_zero, List.set_cons_succ]
            refine wpAnyH_take (i := 13) (oi := ?oiqu13) (v := ?vqu13) ?hiqu13 (by kernel_rfl) (by kernel_rfl) (by kernel_rfl) ?hQqu13 ?hyqu13 (by assumption) ?_; (case hiqu13 => (simp only [List.getElem?_toArray, List.getElem?_cons_succ, List.getElem?_cons_zero]; try rfl)); (case hQqu13 => exact fun _ _ _ h => h)
            case hyqu13 => (refine Or.inl ⟨by rfl, ?_⟩; intro w' hSw; (try dsimp only at hSw); go_simp; try with_reducible rfl)
            try simp only [Act.put, List.setIfInBounds_toArray, List.set_cons_zero, List.set_cons_succ]
            refine wpAnyH_take (i := 14) (oi := ?oiqu14) (v := ?vqu14) ?hiqu14 (by kernel_rfl) (by kernel_rfl) (by kernel_rfl) ?hQqu14 ?hyqu14 (by assumption) ?_; (case hiqu14 => (simp only [List.getElem?_toArray, List.getElem?_cons_succ, List.getElem?_cons_zero]; try rfl)); (case hQqu14 => exact fun _ _ _ h => h)
            case hyqu14 => (refine Or.inl ⟨by rfl, ?_⟩; intro w' hSw; (try dsimp only at hSw); go_simp; try with_reducible rfl)
            try simp only [Act.put, List.setIfInBounds_toArray, List.set_cons_zero, List.set_cons_succ]
            refine wpAnyH_take (i := 15) (oi := ?oiqu15) (v := ?vqu15) ?hiqu15 (by kernel_rfl) (by kernel_rfl) (by kernel_rfl) ?hQqu15 ?hyqu15 (by assumption) ?_; (case hiqu15 => (simp only [List.getElem?_toArray, List.getElem?_cons_succ, List.getElem?_cons_zero]; try rfl)); (case hQqu15 => exact fun _ _ _ h => h)
            case hyqu15 => (refine Or.inl ⟨by rfl, ?_⟩; intro w' hSw; (try dsimp only at hSw); go_simp; try with_reducible rfl)
            try simp only [Act.put, List.setIfInBounds_toArray, List.set_cons_zero, List.set_cons_succ]
            refine wpAnyH_ready (rs := [16]) (by kernel_rfl) (by simp) ?_
            refine AllReadyH.cons (o := ?oqu16) ?hoqu16 (fun K hK => ?_) AllReadyH.nil
            case hoqu16 =>
              simp only [List.getElem?_toArray, List.getElem?_cons_succ, List.getElem?_cons_zero]
              try rfl
            go_simp
            (with_reducible refine (BS.stats (HM5.out.below (Below.refl _ w5).drew) N5 m5 f5 x5 HT5.out.1 HT5.out.2.1 HT5.out.2.2.1 HT5.out.2.2.2).mono ?_)
            rintro e wB ⟨rfl, hb⟩
            have HBB := Lib.hid (below_step (Below.refl w5.heap.size w5).drew hb)
            clear hb
            go_wp2_with fail
            refine hK.out _ _ ?_ (fun hH1qu => ?_)
            · with_reducible exact HSS.out _ HBB.out
            clear hK K hH0qu
            try simp only [Act.put, List.setIfInBounds_toArray, List.set_cons_zero, List.set_cons_succ]
            refine wpAnyH_take (i := 17) (oi := ?oiqu17) (v := ?vqu17) ?hiqu17 (by kernel_rfl) (by kernel_rfl) (by kernel_rfl) ?hQqu17 ?hyqu17 (by assumption) ?_; (case hiqu17 => (simp only [List.getElem?_toArray, List.getElem?_cons_succ, List.getElem?_cons_zero]; try rfl)); (case hQqu17 => exact fun _ _ _ h => h)
            case hyqu17 => (refine Or.inl ⟨by rfl, ?_⟩; intro w' hSw; (try dsimp only at hSw); go_simp; try with_reducible rfl)
            try simp only [Act.put, List.setIfInBounds_toArray, List.set_cons_zero, List.set_cons_succ]
            refine wpAnyH_take (i := 18) (oi := ?oiqu18) (v := ?vqu18) ?hiqu18 (by kernel_rfl) (by kernel_rfl) (by kernel_rfl) ?hQqu18 ?hyqu18 (by assumption) ?_; (case hiqu18 => (simp only [List.getElem?_toArray, List.getElem?_cons_succ, List.getElem?_cons_zero]; try rfl)); (case hQqu18 => exact fun _ _ _ h => h)
            case hyqu18 => (refine Or.inl ⟨by rfl, ?_⟩; intro w' hSw; (try dsimp only at hSw); go_simp; try with_reducible rfl)
            try simp only [Act.put, List.setIfInBounds_toArray, List.set_cons_zero, List.set_cons_succ]
            refine wpAnyH_take (i := 19) (oi := ?oiqu19) (v := ?vqu19) ?hiqu19 (by kernel_rfl) (by kernel_rfl) (by kernel_rfl) ?hQqu19 ?hyqu19 (by assumption) ?_; (case hiqu19 => (simp only [List.getElem?_toArray, List.getElem?_cons_succ, List.getElem?_cons_zero]; try rfl)); (case hQqu19 => exact fun _ _ _ h => h)
            case hyqu19 => (refine Or.inl ⟨by rfl, ?_⟩; intro w' hSw; (try dsimp only at hSw); go_simp; try with_reducible rfl)
            try simp only [Act.put, List.setIfInBounds_toArray, List.set_cons_zero, List.set_cons_succ]
            refine wpAnyH_take (i := 20) (oi := ?oiqu20) (v := ?vqu20) ?hiqu20 (by kernel_rfl) (by kernel_rfl) (by kernel_rfl) ?hQqu20 ?hyqu20 (by assumption) ?_; (case hiqu20 => (simp only [List.getElem?_toArray, List.getElem?_cons_succ, List.getElem?_cons_zero]; try rfl)); (case hQqu20 => exact fun _ _ _ h => h)
            case hyqu20 => (refine Or.inl ⟨by rfl, ?_⟩; intro w' hSw; (try dsimp only at hSw); go_simp; try with_reducible rfl)
            try simp only [Act.put, List.setIfInBounds_toArray, List.set_cons_zero, List.set_cons_succ]
            refine wpAnyH_take (i := 21) (oi := ?oiqu21) (v := ?vqu21) ?hiqu21 (by kernel_rfl) (by kernel_rfl) (by kernel_rfl) ?hQqu21 ?hyqu21 (by assumption) ?_; (case hiqu21 => (simp only [List.getElem?_toArray, List.getElem?_cons_succ, List.getElem?_cons_zero]; try rfl)); (case hQqu21 => exact fun _ _ _ h => h)
            case hyqu21 => (refine Or.inl ⟨by rfl, ?_⟩; intro w' hSw; (try dsimp only at hSw); go_simp; try with_reducible rfl)
            try simp only [Act.put, List.setIfInBounds_toArray, List.set_cons_zero, List.set_cons_succ]
            refine wpAnyH_done (by kernel_rfl) ?_ _
            have HM6 := Lib.hid (HM5.out.below HBB.out)
            have HK6 := Lib.hid (HK5.out.below HBB.out HK5.out.lt)
            obtain ⟨mm, hmm⟩ : ∃ m, t3.p.h.n = m := ⟨_, rfl⟩
            have HMM := Lib.hid hmm
            have HSZ := Lib.hid HOK5.out.hg.sz
            clear hmm k0 k1 k2
            go_wp2_with fail
            (with_reducible refine (BS.dump HM6.out mm HMM.out).mono ?_)
            rintro e w7 ⟨gs, sn, cs, gd, cp, rfl, h1, h2, h3, h4⟩
            have HD := Lib.hid h2
            have HK7 := Lib.hid (HK6.out.below h4 HK6.out.lt)
            have HBE := Lib.hid (HM6.out.below h4).bel
            have HCP := Lib.hid h3
            clear h1 h2 h3 h4
            dsimp only
            go_wp2_with fail
            go_loopw [17, 20] (fun ok i wr => ∃ (b : Bool) (q : Nat), q ≤ mm ∧ ok = .bool b ∧ i = .int .i64 q ∧ Hid ((b = true ∧ t.p.nextE ⟨2, kn0, ks0⟩ = 0) ∨ (b = false ∧ (⟨2, kn0, ks0⟩ : V).k ≠ 0 ∧ ¬ t.p.inB ⟨2, kn0, ks0⟩ ∧ ∀ z, z < q → t.p.h.key z ≠ ⟨2, kn0, ks0⟩)) ∧ Hid (Below w7.heap.size w7 wr)) (fun _ i _ => mm - (intOf i).toNat)
            case atStart => exact ⟨_, 0, Nat.zero_le _, rfl, rfl, Lib.hid (HINV.out.imp (fun h => ⟨(by first | rfl | exact h.1), h.2⟩) (fun h => ⟨(by first | rfl | exact h.1), h.2⟩)), Lib.hid (Below.refl _ _)⟩
            case round =>
              clear HINV
              obtain ⟨b, q, hq, rfl, rfl, HINV, HBI⟩ := hrel
              by_cases hqm : q < mm
              · have dq : decide ((q : Int) < (mm : Int)) = true := by simp; omega
                have q1 : (q : Int) < (mm : Int) := by omega
                have q3 : (mm : Int) ≤ 9223372036854775807 := by have h1 := HMM.out; have h2 := HSZ.out; rw [HP3.out] at h1; omega
                have HQM := Lib.hid hqm
                cases b with
                | true =>
                  have HI2 : Hid (t.p.nextE ⟨2, kn0, ks0⟩ = 0) := Lib.hid (HINV.out.elim (fun h => h.2) (fun h => by simp at h))
                  go_wp2
                  go_quiet (fail)
                  go_wp2
                  go_roundw
                  case rel => exact ⟨true, q + 1, HQM.out, rfl, by go_num, Lib.hid (.inl ⟨rfl, HI2.out⟩), Lib.hid (below_drewN HBI.out _)⟩
                  case measure => have := HQM.out; simp [intOf]; omega
                | false =>
                  have hi := (HINV.out.resolve_left (fun h => by simp at h)).2
                  have HI := Lib.hid hi
                  have hd := HD.out q (by have := HMM.out; omega)
                  have hd2 := hd.below HBI.out hd.lt
                  obtain ⟨g0, g1, g2, -, -, -, -, -, -⟩ := hd2
                  rw [HP3.out] at g0 g1 g2
                  obtain ⟨y, hy⟩ : ∃ y, t.p.h.key q = y := ⟨_, rfl⟩
                  have HY := Lib.hid hy
                  rw [hy] at g0 g1 g2
                  obtain ⟨k0, k1, k2, -, -⟩ := HK7.out.below HBI.out HK7.out.lt
                  dsimp only at k0 k1 k2
                  simp only [Nat.zero_add] at k1 k2
                  clear hi hd hy hqm hq
                  by_cases e : y = ⟨2, kn0, ks0⟩
                  · subst e
                    have HI2 : Hid (t.p.nextE ⟨2, kn0, ks0⟩ = 0) := Lib.hid (keys_yes HOK5.out HOKV.out (.inr (.inr ⟨q, by have h1 := HMM.out; rw [HP3.out] at h1; have := HQM.out; omega, HY.out⟩)))
                    dsimp only at g0 g1 g2
                    go_wp2
                    go_quiet (fail)
                    go_wp2
                    go_roundw
                    case rel => exact ⟨true, q + 1, HQM.out, rfl, by go_num, Lib.hid (.inl ⟨rfl, HI2.out⟩), Lib.hid (below_drewN HBI.out _)⟩
                    case measure => have := HQM.out; simp [intOf]; omega
                  · have h3 := ne3 e
                    have HN2 : Hid (∀ z, z < q + 1 → t.p.h.key z ≠ ⟨2, kn0, ks0⟩) := Lib.hid (fun z hz => by
                      by_cases ez : z = q
                      · rw [ez, HY.out]; exact e
                      · exact HI.out.2.2 z (by omega))
                    obtain ⟨yk, yn, ys⟩ := y
                    dsimp only at h3 g0 g1 g2
                    clear e
                    rcases h3 with e1 | ⟨e0, e1⟩ | ⟨e0, e00, e1, e2⟩
                    rotate_left
                    subst e0
                    rotate_left
                    subst e0 e00
                    rotate_left
                    all_goals
                      go_wp2
                      go_quiet (fail)
                      go_wp2
                      go_roundw
                      case rel => exact ⟨false, q + 1, HQM.out, rfl, by go_num, Lib.hid (.inr ⟨rfl, HI.out.1, HI.out.2.1, HN2.out⟩), Lib.hid (below_drewN HBI.out _)⟩
                      case measure => have := HQM.out; simp [intOf]; omega
              · obtain rfl : q = mm := by omega
                have dq : decide ((q : Int) < (q : Int)) = false := by simp
                cases b with
                | true =>
                  have hI2 : t.p.nextE ⟨2, kn0, ks0⟩ = 0 := HINV.out.elim (fun h => h.2) (fun h => by simp at h)
                  obtain rfl : ee = 0 := by rw [← HEE.out]; exact hI2
                  clear hI2
                  go_wp2
                  go_ret
                  exact ⟨rfl, HBE.out.trans (HBI.out.mono HBE.out.size)⟩
                | false =>
                  have hi := (HINV.out.resolve_left (fun h => by simp at h)).2
                  obtain rfl : ee = 9 := by
                    rw [← HEE.out]
                    exact keys_no HOK5.out HOKV.out hi.1 hi.2.1 (fun z hz => hi.2.2 z (by have h1 := HMM.out; rw [HP3.out] at h1; omega))
                  clear hi
                  go_wp2
                  go_ret
                  exact ⟨rfl, HBE.out.trans (HBI.out.mono HBE.out.size)⟩
          · have HINV : Hid ((false = true ∧ t.p.nextE ⟨2, kn0, ks0⟩ = 0) ∨ (false = false ∧ (⟨2, kn0, ks0⟩ : V).k ≠ 0 ∧ ¬ t.p.inB ⟨2, kn0, ks0⟩ ∧ ∀ z, z < 0 → t.p.h.key z ≠ ⟨2, kn0, ks0⟩)) := Lib.hid (.inr ⟨rfl, (by show (2 : Int) ≠ 0; decide), hnb, fun z hz => by omega⟩)
            clear hnb
            go_wp2_with fail
            refine wp_region_held_drew (S := (fun w' => w'.cell? ⟨W.heap.size + 1, 0, none⟩ = some (.int .i64 2) ∧ w'.cell? ⟨W.heap.size + 1, 1, none⟩ = some (.int .i64 kn0) ∧ w'.cell? ⟨W.heap.size + 1, 2, none⟩ = some (.string ks0))) (by kernel_rfl) ?_ (fun hH0qv => ?_)
            · with_reducible exact HSS.out _ (Below.refl _ w5).drew
            refine wpAnyH_take (i := 0) (oi := ?oiqv0) (v := ?vqv0) ?hiqv0 (by kernel_rfl) (by kernel_rfl) (by kernel_rfl) ?hQqv0 ?hyqv0 (by assumption) ?_; (case hiqv0 => (simp only [List.getElem?_toArray, List.getElem?_cons_succ, List.getElem?_cons_zero]; try rfl)); (case hQqv0 => exact fun _ _ _ h => h)
            case hyqv0 => (refine Or.inl ⟨by rfl, ?_⟩; intro w' hSw; (try dsimp only at hSw); go_simp; try with_reducible rfl)
            try simp only [Act.put, List.setIfInBounds_toArray, List.set_cons_zero, List.set_cons_succ]
            refine wpAnyH_take (i := 1) (oi := ?oiqv1) (v := ?vqv1) ?hiqv1 (by kernel_rfl) (by kernel_rfl) (by kernel_rfl) ?hQqv1 ?hyqv1 (by assumption) ?_; (case hiqv1 => (simp only [List.getElem?_toArray, List.getElem?_cons_succ, List.getElem?_cons_zero]; try rfl)); (case hQqv1 => exact fun _ _ _ h => h)
            case hyqv1 => (refine Or.inl ⟨by rfl, ?_⟩; intro w' hSw; (try dsimp only at hSw); go_simp; try with_reducible rfl)
            try simp only [Act.put, List.setIfInBounds_toArray, List.set_cons_zero, List.set_cons_succ]
            refine wpAnyH_take (i := 2) (oi := ?oiqv2) (v := ?vqv2) ?hiqv2 (by kernel_rfl) (by kernel_rfl) (by kernel_rfl) ?hQqv2 ?hyqv2 (by assumption) ?_; (case hiqv2 => (simp only [List.getElem?_toArray, List.getElem?_cons_succ, List.getElem?_cons_zero]; try rfl)); (case hQqv2 => exact fun _ _ _ h => h)
            case hyqv2 => (refine Or.inl ⟨by rfl, ?_⟩; intro w' hSw; (try dsimp only at hSw); go_simp; try with_reducible rfl)
            try simp only [Act.put, List.setIfInBounds_toArray, List.set_cons_zero, List.set_cons_succ]
            refine wpAnyH_take (i := 3) (oi := ?oiqv3) (v := ?vqv3) ?hiqv3 (by kernel_rfl) (by kernel_rfl) (by kernel_rfl) ?hQqv3 ?hyqv3 (by assumption) ?_; (case hiqv3 => (simp only [List.getElem?_toArray, List.getElem?_cons_succ, List.getElem?_cons_zero]; try rfl)); (case hQqv3 => exact fun _ _ _ h => h)
            case hyqv3 => (refine Or.inl ⟨by rfl, ?_⟩; intro w' hSw; (try dsimp only at hSw); go_simp; try with_reducible rfl)
            try simp only [Act.put, List.setIfInBounds_toArray, List.set_cons_zero, List.set_cons_succ]
            refine wpAnyH_take (i := 4) (oi := ?oiqv4) (v := ?vqv4) ?hiqv4 (by kernel_rfl) (by kernel_rfl) (by kernel_rfl) ?hQqv4 ?hyqv4 (by assumption) ?_; (case hiqv4 => (simp only [List.getElem?_toArray, List.getElem?_cons_succ, List.getElem?_cons_zero]; try rfl)); (case hQqv4 => exact fun _ _ _ h => h)
            case hyqv4 => (refine Or.inl ⟨by rfl, ?_⟩; intro w' hSw; (try dsimp only at hSw); go_simp; try with_reducible rfl)
            try simp only [Act.put, List.setIfInBounds_toArray, List.set_cons_zero, List.set_cons_succ]
            refine wpAnyH_take (i := 5) (oi := ?oiqv5) (v := ?vqv5) ?hiqv5 (by kernel_rfl) (by kernel_rfl) (by kernel_rfl) ?hQqv5 ?hyqv5 (by assumption) ?_; (case hiqv5 => (simp only [List.getElem?_toArray, List.getElem?_cons_succ, List.getElem?_cons_zero]; try rfl)); (case hQqv5 => exact fun _ _ _ h => h)
            case hyqv5 => (refine Or.inl ⟨by rfl, ?_⟩; intro w' hSw; (try dsimp only at hSw); go_simp; try with_reducible rfl)
            try simp only [Act.put, List.setIfInBounds_toArray, List.set_cons_zero, List.set_cons_succ]
            refine wpAnyH_take (i := 6) (oi := ?oiqv6) (v := ?vqv6) ?hiqv6 (by kernel_rfl) (by kernel_rfl) (by kernel_rfl) ?hQqv6 ?hyqv6 (by assumption) ?_; (case hiqv6 => (simp only [List.getElem?_toArray, List.getElem?_cons_succ, List.getElem?_cons_zero]; try rfl)); (case hQqv6 => exact fun _ _ _ h => h)
            case hyqv6 => (refine Or.inl ⟨by rfl, ?_⟩; intro w' hSw; (try dsimp only at hSw); go_simp; try with_reducible rfl)
            try simp only [Act.put, List.setIfInBounds_toArray, List.set_cons_zero, List.set_cons_succ]
            refine wpAnyH_take (i := 7) (oi := ?oiqv7) (v := ?vqv7) ?hiqv7 (by kernel_rfl) (by kernel_rfl) (by kernel_rfl) ?hQqv7 ?hyqv7 (by assumption) ?_; (case hiqv7 => (simp only [List.getElem?_toArray, List.getElem?_cons_succ, List.getElem?_cons_zero]; try rfl)); (case hQqv7 => exact fun _ _ _ h => h)
            case hyqv7 => (refine Or.inl ⟨by rfl, ?_⟩; intro w' hSw; (try dsimp only at hSw); go_simp; try with_reducible rfl)
            try simp only [Act.put, List.setIfInBounds_toArray, List.set_cons_zero, List.set_cons_succ]
            refine wpAnyH_take (i := 8) (oi := ?oiqv8) (v := ?vqv8) ?hiqv8 (by kernel_rfl) (by kernel_rfl) (by kernel_rfl) ?hQqv8 ?hyqv8 (by assumption) ?_; (case hiqv8 => (simp only [List.getElem?_toArray, List.getElem?_cons_succ, List.getElem?_cons_zero]; try rfl)); (case hQqv8 => exact fun _ _ _ h => h)
            case hyqv8 => (refine Or.inl ⟨by rfl, ?_⟩; intro w' hSw; (try dsimp only at hSw); go_simp; try with_reducible rfl)
            try simp only [Act.put, List.setIfInBounds_toArray, List.set_cons_zero, List.set_cons_succ]
            refine wpAnyH_take (i := 9) (oi := ?oiqv9) (v := ?vqv9) ?hiqv9 (by kernel_rfl) (by kernel_rfl) (by kernel_rfl) ?hQqv9 ?hyqv9 (by assumption) ?_; (case hiqv9 => (simp only [List.getElem?_toArray, List.getElem?_cons_succ, List.getElem?_cons_zero]; try rfl)); (case hQqv9 => exact fun _ _ _ h => h)
            case hyqv9 => (refine Or.inl ⟨by rfl, ?_⟩; intro w' hSw; (try dsimp only at hSw); go_simp; try with_reducible rfl)
            try simp only [Act.put, List.setIfInBounds_toArray, List.set_cons_zero, List.set_cons_succ]
            refine wpAnyH_take (i := 10) (oi := ?oiqv10) (v := ?vqv10) ?hiqv10 (by kernel_rfl) (by kernel_rfl) (by kernel_rfl) ?hQqv10 ?hyqv10 (by assumption) ?_; (case hiqv10 => (simp only [List.getElem?_toArray, List.getElem?_cons_succ, List.getElem?_cons_zero]; try rfl)); (case hQqv10 => exact fun _ _ _ h => h)
            case hyqv10 => (refine Or.inl ⟨by rfl, ?_⟩; intro w' hSw; (try dsimp only at hSw); go_simp; try with_reducible rfl)
            try simp only [Act.put, List.setIfInBounds_toArray, List.set_cons_zero, List.set_cons_succ]
            refine wpAnyH_take (i := 11) (oi := ?oiqv11) (v := ?vqv11) ?hiqv11 (by kernel_rfl) (by kernel_rfl) (by kernel_rfl) ?hQqv11 ?hyqv11 (by assumption) ?_; (case hiqv11 => (simp only [List.getElem?_toArray, List.getElem?_cons_succ, List.getElem?_cons_zero]; try rfl)); (case hQqv11 => exact fun _ _ _ h => h)
            case hyqv11 => (refine Or.inl ⟨by rfl, ?_⟩; intro w' hSw; (try dsimp only at hSw); go_simp; try with_reducible rfl)
            try simp only [Act.put, List.setIfInBounds_toArray, List.set_cons_zero, List.set_cons_succ]
            refine wpAnyH_take (i := 12) (oi := ?oiqv12) (v := ?vqv12) ?hiqv12 (by kernel_rfl) (by kernel_rfl) (by kernel_rfl) ?hQqv12 ?hyqv12 (by assumption) ?_; (case hiqv12 => (simp only [List.getElem?_toArray, List.getElem?_cons_succ, List.getElem?_cons_zero]; try rfl)); (case hQqv12 => exact fun _ _ _ h => h)
            case hyqv12 => (refine Or.inl ⟨by rfl, ?_⟩; intro w' hSw; (try dsimp only at hSw); go_simp; try with_reducible rfl)
            try simp only [Act.put, List.setIfInBounds_toArray, List.set_cons_zero, List.set_cons_succ]
            refine wpAnyH_take (i := 13) (oi := ?oiqv13) (v := ?vqv13) ?hiqv13 (by kernel_rfl) (by kernel_rfl) (by kernel_rfl) ?hQqv13 ?hyqv13 (by assumption) ?_; (case hiqv13 => (simp only [List.getElem?_toArray, List.getElem?_cons_succ, List.getElem?_cons_zero]; try rfl)); (case hQqv13 => exact fun _ _ _ h => h)
            case hyqv13 => (refine Or.inl ⟨by rfl, ?_⟩; intro w' hSw; (try dsimp only at hSw); go_simp; try with_reducible rfl)
            try simp only [Act.put, List.setIfInBounds_toArray, List.set_cons_zero, List.set_cons_succ]
            refine wpAnyH_take (i := 14) (oi := ?oiqv14) (v := ?vqv14) ?hiqv14 (by kernel_rfl) (by kernel_rfl) (by kernel_rfl) ?hQqv14 ?hyqv14 (by assumption) ?_; (case hiqv14 => (simp only [List.getElem?_toArray, List.getElem?_cons_succ, List.getElem?_cons_zero]; try rfl)); (case hQqv14 => exact fun _ _ _ h => h)
            case hyqv14 => (refine Or.inl ⟨by rfl, ?_⟩; intro w' hSw; (try dsimp only at hSw); go_simp; try with_reducible rfl)
            try simp only [Act.put, List.setIfInBounds_toArray, List.set_cons_zero, List.set_cons_succ]
            refine wpAnyH_take (i := 15) (oi := ?oiqv15) (v := ?vqv15) ?hiqv15 (by kernel_rfl) (by kernel_rfl) (by kernel_rfl) ?hQqv15 ?hyqv15 (by assumption) ?_; (case hiqv15 => (simp only [List.getElem?_toArray, List.getElem?_cons_succ, List.getElem?_cons_zero]; try rfl)); (case hQqv15 => exact fun _ _ _ h => h)
            case hyqv15 => (refine Or.inl ⟨by rfl, ?_⟩; intro w' hSw; (try dsimp only at hSw); go_simp; try with_reducible rfl)
            try simp only [Act.put, List.setIfInBounds_toArray, List.set_cons_zero, List.set_cons_succ]
            refine wpAnyH_ready (rs := [16]) (by kernel_rfl) (by simp) ?_
            refine AllReadyH.cons (o := ?oqv16) ?hoqv16 (fun K hK => ?_) AllReadyH.nil
            case hoqv16 =>
              simp only [List.getElem?_toArray, List.getElem?_cons_succ, List.getElem?_cons_zero]
              try rfl
            go_simp
            (with_reducible refine (BS.stats (HM5.out.below (Below.refl _ w5).drew) N5 m5 f5 x5 HT5.out.1 HT5.out.2.1 HT5.out.2.2.1 HT5.out.2.2.2).mono ?_)
            rintro e wB ⟨rfl, hb⟩
            have HBB := Lib.hid (below_step (Below.refl w5.heap.size w5).drew hb)
            clear hb
            go_wp2_with fail
            refine hK.out _ _ ?_ (fun hH1qv => ?_)
            · with_reducible exact HSS.out _ HBB.out
            clear hK K hH0qv
            try simp only [Act.put, List.setIfInBounds_toArray, List.set_cons_zero, List.set_cons_succ]
            refine wpAnyH_take (i := 17) (oi := ?oiqv17) (v := ?vqv17) ?hiqv17 (by kernel_rfl) (by kernel_rfl) (by kernel_rfl) ?hQqv17 ?hyqv17 (by assumption) ?_; (case hiqv17 => (simp only [List.getElem?_toArray, List.getElem?_cons_succ, List.getElem?_cons_zero]; try rfl)); (case hQqv17 => exact fun _ _ _ h => h)
            case hyqv17 => (refine Or.inl ⟨by rfl, ?_⟩; intro w' hSw; (try dsimp only at hSw); go_simp; try with_reducible rfl)
            try simp only [Act.put, List.setIfInBounds_toArray, List.set_cons_zero, List.set_cons_succ]
            refine wpAnyH_take (i := 18) (oi := ?oiqv18) (v := ?vqv18) ?hiqv18 (by kernel_rfl) (by kernel_rfl) (by kernel_rfl) ?hQqv18 ?hyqv18 (by assumption) ?_; (case hiqv18 => (simp only [List.getElem?_toArray, List.getElem?_cons_succ, List.getElem?_cons_zero]; try rfl)); (case hQqv18 => exact fun _ _ _ h => h)
            case hyqv18 => (refine Or.inl ⟨by rfl, ?_⟩; intro w' hSw; (try dsimp only at hSw); go_simp; try with_reducible rfl)
            try simp only [Act.put, List.setIfInBounds_toArray, List.set_cons_zero, List.set_cons_succ]
            refine wpAnyH_take (i := 19) (oi := ?oiqv19) (v := ?vqv19) ?hiqv19 (by kernel_rfl) (by kernel_rfl) (by kernel_rfl) ?hQqv19 ?hyqv19 (by assumption) ?_; (case hiqv19 => (simp only [List.getElem?_toArray, List.getElem?_cons_succ, List.getElem?_cons_zero]; try rfl)); (case hQqv19 => exact fun _ _ _ h => h)
            case hyqv19 => (refine Or.inl ⟨by rfl, ?_⟩; intro w' hSw; (try dsimp only at hSw); go_simp; try with_reducible rfl)
            try simp only [Act.put, List.setIfInBounds_toArray, List.set_cons_zero, List.set_cons_succ]
            refine wpAnyH_take (i := 20) (oi := ?oiqv20) (v := ?vqv20) ?hiqv20 (by kernel_rfl) (by kernel_rfl) (by kernel_rfl) ?hQqv20 ?hyqv20 (by assumption) ?_; (case hiqv20 => (simp only [List.getElem?_toArray, List.getElem?_cons_succ, List.getElem?_cons_zero]; try rfl)); (case hQqv20 => exact fun _ _ _ h => h)
            case hyqv20 => (refine Or.inl ⟨by rfl, ?_⟩; intro w' hSw; (try dsimp only at hSw); go_simp; try with_reducible rfl)
            try simp only [Act.put, List.setIfInBounds_toArray, List.set_cons_zero, List.set_cons_succ]
            refine wpAnyH_take (i := 21) (oi := ?oiqv21) (v := ?vqv21) ?hiqv21 (by kernel_rfl) (by kernel_rfl) (by kernel_rfl) ?hQqv21 ?hyqv21 (by assumption) ?_; (case hiqv21 => (simp only [List.getElem?_toArray, List.getElem?_cons_succ, List.getElem?_cons_zero]; try rfl)); (case hQqv21 => exact fun _ _ _ h => h)
            case hyqv21 => (refine Or.inl ⟨by rfl, ?_⟩; intro w' hSw; (try dsimp only at hSw); go_simp; try with_reducible rfl)
            try simp only [Act.put, List.setIfInBounds_toArray, List.set_cons_zero, List.set_cons_succ]
            refine wpAnyH_done (by kernel_rfl) ?_ _
            have HM6 := Lib.hid (HM5.out.below HBB.out)
            have HK6 := Lib.hid (HK5.out.below HBB.out HK5.out.lt)
            obtain ⟨mm, hmm⟩ : ∃ m, t3.p.h.n = m := ⟨_, rfl⟩
            have HMM := Lib.hid hmm
            have HSZ := Lib.hid HOK5.out.hg.sz
            clear hmm k0 k1 k2
            go_wp2_with fail
            (with_reducible refine (BS.dump HM6.out mm HMM.out).mono ?_)
            rintro e w7 ⟨gs, sn, cs, gd, cp, rfl, h1, h2, h3, h4⟩
            have HD := Lib.hid h2
            have HK7 := Lib.hid (HK6.out.below h4 HK6.out.lt)
            have HBE := Lib.hid (HM6.out.below h4).bel
            have HCP := Lib.hid h3
            clear h1 h2 h3 h4
            dsimp only
            go_wp2_with fail
            go_loopw [17, 20] (fun ok i wr => ∃ (b : Bool) (q : Nat), q ≤ mm ∧ ok = .bool b ∧ i = .int .i64 q ∧ Hid ((b = true ∧ t.p.nextE ⟨2, kn0, ks0⟩ = 0) ∨ (b = false ∧ (⟨2, kn0, ks0⟩ : V).k ≠ 0 ∧ ¬ t.p.inB ⟨2, kn0, ks0⟩ ∧ ∀ z, z < q → t.p.h.key z ≠ ⟨2, kn0, ks0⟩)) ∧ Hid (Below w7.heap.size w7 wr)) (fun _ i _ => mm - (intOf i).toNat)
            case atStart => exact ⟨_, 0, Nat.zero_le _, rfl, rfl, Lib.hid (HINV.out.imp (fun h => ⟨(by first | rfl | exact h.1), h.2⟩) (fun h => ⟨(by first | rfl | exact h.1), h.2⟩)), Lib.hid (Below.refl _ _)⟩
            case round =>
              clear HINV
              obtain ⟨b, q, hq, rfl, rfl, HINV, HBI⟩ := hrel
              by_cases hqm : q < mm
              · have dq : decide ((q : Int) < (mm : Int)) = true := by simp; omega
                have q1 : (q : Int) < (mm : Int) := by omega
                have q3 : (mm : Int) ≤ 9223372036854775807 := by have h1 := HMM.out; have h2 := HSZ.out; rw [HP3.out] at h1; omega
                have HQM := Lib.hid hqm
                cases b with
                | true =>
                  have HI2 : Hid (t.p.nextE ⟨2, kn0, ks0⟩ = 0) := Lib.hid (HINV.out.elim (fun h => h.2) (fun h => by simp at h))
                  go_wp2
                  go_quiet (fail)
                  go_wp2
                  go_roundw
                  case rel => exact ⟨true, q + 1, HQM.out, rfl, by go_num, Lib.hid (.inl ⟨rfl, HI2.out⟩), Lib.hid (below_drewN HBI.out _)⟩
                  case measure => have := HQM.out; simp [intOf]; omega
                | false =>
                  have hi := (HINV.out.resolve_left (fun h => by simp at h)).2
                  have HI := Lib.hid hi
                  have hd := HD.out q (by have := HMM.out; omega)
                  have hd2 := hd.below HBI.out hd.lt
                  obtain ⟨g0, g1, g2, -, -, -, -, -, -⟩ := hd2
                  rw [HP3.out] at g0 g1 g2
                  obtain ⟨y, hy⟩ : ∃ y, t.p.h.key q = y := ⟨_, rfl⟩
                  have HY := Lib.hid hy
                  rw [hy] at g0 g1 g2
                  obtain ⟨k0, k1, k2, -, -⟩ := HK7.out.below HBI.out HK7.out.lt
                  dsimp only at k0 k1 k2
                  simp only [Nat.zero_add] at k1 k2
                  clear hi hd hy hqm hq
                  by_cases e : y = ⟨2, kn0, ks0⟩
                  · subst e
                    have HI2 : Hid (t.p.nextE ⟨2, kn0, ks0⟩ = 0) := Lib.hid (keys_yes HOK5.out HOKV.out (.inr (.inr ⟨q, by have h1 := HMM.out; rw [HP3.out] at h1; have := HQM.out; omega, HY.out⟩)))
                    dsimp only at g0 g1 g2
                    go_wp2
                    go_quiet (fail)
                    go_wp2
                    go_roundw
                    case rel => exact ⟨true, q + 1, HQM.out, rfl, by go_num, Lib.hid (.inl ⟨rfl, HI2.out⟩), Lib.hid (below_drewN HBI.out _)⟩
                    case measure => have := HQM.out; simp [intOf]; omega
                  · have h3 := ne3 e
                    have HN2 : Hid (∀ z, z < q + 1 → t.p.h.key z ≠ ⟨2, kn0, ks0⟩) := Lib.hid (fun z hz => by
                      by_cases ez : z = q
                      · rw [ez, HY.out]; exact e
                      · exact HI.out.2.2 z (by omega))
                    obtain ⟨yk, yn, ys⟩ := y
                    dsimp only at h3 g0 g1 g2
                    clear e
                    rcases h3 with e1 | ⟨e0, e1⟩ | ⟨e0, e00, e1, e2⟩
                    rotate_left
                    subst e0
                    rotate_left
                    subst e0 e00
                    rotate_left
                    all_goals
                      go_wp2
                      go_quiet (fail)
                      go_wp2
                      go_roundw
                      case rel => exact ⟨false, q + 1, HQM.out, rfl, by go_num, Lib.hid (.inr ⟨rfl, HI.out.1, HI.out.2.1, HN2.out⟩), Lib.hid (below_drewN HBI.out _)⟩
                      case measure => have := HQM.out; simp [intOf]; omega
              · obtain rfl : q = mm := by omega
                have dq : decide ((q : Int) < (q : Int)) = false := by simp
                cases b with
                | true =>
                  have hI2 : t.p.nextE ⟨2, kn0, ks0⟩ = 0 := HINV.out.elim (fun h => h.2) (fun h => by simp at h)
                  obtain rfl : ee = 0 := by rw [← HEE.out]; exact hI2
                  clear hI2
                  go_wp2
                  go_ret
                  exact ⟨rfl, HBE.out.trans (HBI.out.mono HBE.out.size)⟩
                | false =>
                  have hi := (HINV.out.resolve_left (fun h => by simp at h)).2
                  obtain rfl : ee = 9 := by
                    rw [← HEE.out]
                    exact keys_no HOK5.out HOKV.out hi.1 hi.2.1 (fun z hz => hi.2.2 z (by have h1 := HMM.out; rw [HP3.out] at h1; omega))
                  clear hi
                  go_wp2
                  go_ret
                  exact ⟨rfl, HBE.out.trans (HBI.out.mono HBE.out.size)⟩
end Go.Proofs.YteheolefemlcgaaGreat
