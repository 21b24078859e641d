/- WalkWhole: the walk. -/
import Derived.Test.YteheolefemlcgaaWkU
import Derived.Test.YteheolefemlcgaaOpenY
import Derived.Test.YteheolefemlcgaaRefC
namespace Go.Proofs.Yteheolefemlcgaa
open Go.RowKit Go.Maps
set_option linter.unusedVariables false
set_option linter.unusedSimpArgs false

def noX (q : Nat) : Prop := False
def twX (b c : Nat) (q : Nat) : Prop := q = b ∨ q = c
def thX (b c d : Nat) (q : Nat) : Prop := q = b ∨ q = c ∨ q = d
theorem get_nil' (p : PT) : p.get nilV = nilV := by
  unfold PT.get
  rw [if_neg (fun h => by have := h.1; simp [nilV] at this)]
  unfold PH.get PH.findA
  rw [if_neg (fun h => h.2.2 rfl)]
theorem get_nx {p : PT} (H : p.ok) (lo : Nat) : p.get (p.pair ((p.nx lo : Nat) : Int)).1 = (p.pair ((p.nx lo : Nat) : Int)).2 := by
  by_cases h : p.nx lo = 0
  · rw [h, pair_zero]; exact get_nil' p
  · rcases nx_is p lo with ⟨h1, -⟩ | ⟨-, -, h3, -⟩
    · exact absurd h1 h
    · exact get_full H h3
theorem nx_key {p : PT} (H : p.ok) (lo : Nat) : p.nx lo = 0 ↔ (p.pair ((p.nx lo : Nat) : Int)).1.k = 0 := by
  constructor
  · intro h; rw [h, pair_zero]; rfl
  · intro h
    rcases nx_is p lo with ⟨h1, -⟩ | ⟨-, -, h3, -⟩
    · exact h1
    · exact absurd h (key_full H h3).1
theorem three_new (W : World) (k : V) (ty : TypeId) (j : Nat) (u : Value) (h : (vcells k)[j]? = some u) : (W.alloc (.cells #[.int .i64 k.k, .int .i64 k.n, .string k.s] ty)).cell? ((⟨W.heap.size, 0, none⟩ : Addr).add j) = some u := by
  match j, h with
  | 0, h => simp [vcells] at h; subst h; simp [go_sem, Addr.add]
  | 1, h => simp [vcells] at h; subst h; simp [go_sem, Addr.add]
  | 2, h => simp [vcells] at h; subst h; simp [go_sem, Addr.add]
theorem three_one (k : V) : ∀ u ∈ vcells k, u.oneCell' = true := by
  intro u hu
  simp only [vcells, List.mem_cons, List.not_mem_nil, or_false] at hu
  rcases hu with rfl | rfl | rfl <;> rfl
theorem first_at {base : Nat} {w : World} {A : Option Addr} {m c : Nat} {l : List (V × V)} (h : PRow base w (.slice A m c) l) (j : Nat) (hj : j < l.length) : ∃ g, A = some ⟨g, 0, none⟩ ∧ g < w.heap.size ∧ C6 w g (j * 6) (prAt l j) := by
  obtain ⟨g, cp, e, -, -, hgl, -, h⟩ := h.at_ (by omega)
  exact ⟨g, by simpa using (congrArg (fun v => match v with | Value.slice a _ _ => a | _ => none) e), hgl, h j hj⟩
theorem first_g {base : Nat} {w : World} {g m c : Nat} {l : List (V × V)} (h : PRow base w (.slice (some ⟨g, 0, none⟩) m c) l) (j : Nat) (hj : j < l.length) : C6 w g (j * 6) (prAt l j) := by
  obtain ⟨g', e, -, h⟩ := first_at h j hj
  simp only [Option.some.injEq, Addr.mk.injEq, and_true] at e
  rw [e]; exact h
theorem ref_Check_z (k n : Int) (s : ByteArray) (z : Int) (hz : errForm (okV ⟨k, n, s⟩) = z) (w : World) : Calls Try.prog 29 #[.agg #[.int .i64 k, .int .i64 n, .string s]] w fun e w' => e = .returned (.int .i64 z) ∧ Below w.heap.size w w' := by
  rw [← hz]; exact ref_Check ⟨k, n, s⟩ w
theorem umodB (n : Int) (m : Nat) (h0 : 0 < m) (h1 : m ≤ 131072) : ∃ N : Nat, N < m ∧ (IntKind.u64.wrap n).tmod (m : Int) = N ∧ wrap64 (N : Int) = N ∧ IntKind.u64.wrap (N : Int) = N ∧ IntKind.u64.wrap (m : Int) = m := by
  have h : 0 ≤ IntKind.u64.wrap n := by rw [IntKind.wrap_u64]; omega
  have h2 : 0 ≤ IntKind.u64.wrap n % (m : Int) := Int.emod_nonneg _ (by omega)
  have h3 : IntKind.u64.wrap n % (m : Int) < m := Int.emod_lt_of_pos _ (by omega)
  refine ⟨(IntKind.u64.wrap n % (m : Int)).toNat, by omega, ?_, ?_, ?_, ?_⟩
  · rw [Int.tmod_eq_emod_of_nonneg h]; omega
  · unfold wrap64; omega
  · rw [IntKind.wrap_u64]; omega
  · rw [IntKind.wrap_u64]; omega
theorem vRow_of {base : Nat} {w : World} {v : Value} {l : List V} {k : V} (h : w.ownsRow base 39 3 v (l.length + 1) (vCells l ++ vcells k)) : VRow base w v (l ++ [k]) := by
  unfold VRow
  rw [vCells_app, List.length_append]
  exact h
set_option maxRecDepth 100000 in
set_option maxHeartbeats 6400000 in
theorem rowWalkWhole {vx vt : Value} {W : World} (x : CXX) (y : OSl) (f : CSX W vx x) (fy : OSA W vt y) (w : World) : Calls Try.prog 9 #[vx, vt] W fun e w' => e = .returned (.bool true) ∧ Below W.heap.size W w' := by
  obtain ⟨yA, yc, yl⟩ := y
  have FC := Lib.hid f
  have FY := Lib.hid fy
  obtain ⟨i0, hi, hz0, hz1, hz2⟩ := info_parts Try.infoVal
  have HI0 := Lib.hid hi; have HZ0 := Lib.hid hz0; have HZ1 := Lib.hid hz1; have HZ2 := Lib.hid hz2
  clear hi hz0 hz1 hz2
  obtain rfl := f.e
  obtain rfl := fy.e
  have HBX := Lib.hid (CBX.new W x)
  have HB0 := Lib.hid ((Below.refl W.heap.size W).alloc (Nat.le_refl _) (.cells #[.int .i64 x.arr, .int .i64 x.hsh, .slice x.A x.l.length x.c] 70))
  clear f fy
  unfold CXX.val
  have hf0 : ∀ (a b c d : Int) (W : World), (Instr.field 51 (.agg #[.int .i64 a, .int .i64 b, .int .i64 c, .int .i64 d]) 0).run Try.prog W = .ok (.int .i64 a) W := fun a b c d W => by rfl
  have hfv : ∀ (a b : Int) (c : ByteArray) (W : World), (Instr.field 39 (.agg #[.int .i64 a, .int .i64 b, .string c]) 0).run Try.prog W = .ok (.int .i64 a) W := fun a b c W => by rfl
  go_enter Try.func9, Try.ntmps9
  go_wp2_with fail
  (with_reducible refine (law10_fixed _).mono ?_)
  rintro e w1 ⟨rfl, hb⟩
  have HX1 := Lib.hid (HBX.out.below hb)
  have HB1 := Lib.hid (below_step HB0.out hb)
  clear hb
  obtain ⟨p0, p1, p2, -⟩ := HX1.out
  go_wp2_with fail
  (with_reducible refine (law10_begin x.arr x.hsh x.A x.l.length x.c W _ (onlyX W.heap.size) (fun q hq => by have := HX1.out.lt; unfold onlyX at hq; omega) HB1.out).mono ?_)
  rintro e w2 ⟨N, M, hp, a, Q, -, rfl, hm, hk⟩
  have HM := Lib.hid hm
  have HX2 := Lib.hid (HX1.out.keep (hk _ rfl))
  clear hm hk p0 p1 p2
  generalize newT (HS.new 400000) N M = t0 at HM
  generalize newH (HS.new 400000) N M = hs0 at HM
  go_wp2_with fail
  go_loopw [8] (fun i wr => ∃ (j : Nat) (t : Tbl) (hs : HS), j ≤ x.l.length ∧ j ≤ 300 ∧ i = .int .i64 j ∧ Hid (BS W (onlyX W.heap.size) hp a t hs (3 + 2 * j) wr) ∧ Hid (CBX wr W.heap.size x)) (fun i _ => x.l.length - (intOf i).toNat)
  case atStart => exact ⟨0, t0, hs0, Nat.zero_le _, Nat.zero_le _, rfl, HM, HX2⟩
  case round =>
    clear HM HX2 HBX HB0 HX1 HB1
    obtain ⟨j, t, hs, hj, hj3, rfl, HM, HX⟩ := hrel
    obtain ⟨p0, p1, p2, -⟩ := HX.out
    by_cases hc : j < x.l.length ∧ j < 300
    · obtain ⟨h1, h2⟩ := hc
      have d1 : decide ((j : Int) < (x.l.length : Int)) = true := by simp; omega
      have j1 : (j : Int) < (x.l.length : Int) := by omega
      have lx : (x.l.length : Int) ≤ 9223372036854775807 := by have := FC.out.le; have := FC.out.mx; omega
      have d2 : decide ((j : Int) < 300) = true := by simp; omega
      have j3 : (j : Int) < 300 := by omega
      obtain ⟨bx, ox, eA, hbx, hcx⟩ := FC.out.ops (by omega)
      rw [eA] at p2
      have HEA := Lib.hid eA
      clear eA
      have HCX := Lib.hid (hcx j h1)
      have HIX := Lib.hid (FC.out.in64 j)
      clear hcx
      generalize opX x.l j = z at HCX HIX
      obtain ⟨kd, ⟨kk, kn, kst⟩, ⟨vk, vn, vst⟩⟩ := z
      have HIX : Hid (In64 kn) := Lib.hid (by have h := HIX.out; unfold OX.ok In64V at h; exact h.2.1.2)
      have HJ := Lib.hid h2
      obtain ⟨c0, c1, c2, c3, c4, c5, c6⟩ := HCX.out.bel HM.out.bel hbx
      dsimp only at c0 c1 c2 c3 c4 c5 c6
      go_wp2_with fail
      go_still_tail 13, (by kernel_rfl)
      change wpList _ _ _ _ _ wr.drew
      go_wp2_with fail
      (with_reducible refine ((HM.out.below (Below.refl _ wr).drew).set (by have := HJ.out; omega) kk kn kst vk vn vst HIX.out).mono ?_)
      rintro e w5 ⟨rfl, hx, hk⟩
      have HX5 := Lib.hid ((HX.out.below (Below.refl _ wr).drew).keep (hk _ rfl))
      have HM5 := Lib.hid hx
      clear hx hk c0 c1 c2 c3 c4 c5 c6 p0 p1 p2 HM HX
      generalize t.set hs ⟨kk, kn, kst⟩ ⟨vk, vn, vst⟩ = r5 at HM5
      obtain ⟨t5, hs5, er⟩ := r5
      dsimp only at HM5
      go_wp2_with fail
      go_roundw
      case rel => exact ⟨j + 1, t5, hs5, by omega, by omega, by go_num, Lib.hid (HM5.out.mono (by omega)), HX5⟩
      case measure => simp [intOf]; omega
    · by_cases h1 : j < x.l.length
      · have d1 : decide ((j : Int) < (x.l.length : Int)) = true := by simp; omega
        have d2 : decide ((j : Int) < 300) = false := by simp; omega
        clear hc
        go_wp2_with fail
        (with_reducible refine (BS.list HM.out _ rfl).mono ?_)
        rintro e w3 ⟨v1, rfl, hr, hb⟩
        have HR1 : Hid (PRow W.heap.size w3 v1 t.p.prs) := Lib.hid (ownsRow_mono hr HM.out.bel.size)
        have HM3 := Lib.hid (HM.out.reserve (S' := fun q => v1.ownBlock = some q) hb (fun q hq => ⟨(hr.lt q hq).2, .inr (hr.lt q hq).1⟩))
        clear hb hr p0 p1 p2 HX h1 HM
        have HOK := Lib.hid HM3.out.ok
        have HJ300 := Lib.hid hj3
        obtain ⟨A1, c1, hv1⟩ := HR1.out.slice
        obtain ⟨m, hm⟩ : ∃ m, t.p.prs.length = m := ⟨_, rfl⟩
        rw [hm] at hv1
        subst hv1
        have HMN := Lib.hid hm
        have HSM : Hid (m ≤ 131072) := Lib.hid (by
          rw [prs_len] at hm
          have h1 := pos_len t.p 0 t.p.tot
          have h2 := HOK.out.sz
          have h3 := HOK.out.hg.sz
          have h4 : t.p.tot = t.p.sn + t.p.h.n := rfl
          unfold PT.cnt at hm
          omega)
        have hb4 := (Below.refl w3.heap.size w3).alloc (Nat.le_refl _) (.cells #[.int .i64 0, .int .i64 0, .string ⟨#[]⟩] 39)
        have hkb := C3.new w3 0 0 ⟨#[]⟩
        have HS0 : Hid (WS W w3.heap.size noX (.slice A1 m c1) t.p.prs hp a (.slice none 0 0) (.slice none 0 0) [] [] t hs (3 + 2 * j) (t.p.pair ((0 : Nat) : Int)).1 (w3.alloc (.cells #[.int .i64 0, .int .i64 0, .string ⟨#[]⟩] 39))) := Lib.hid ⟨⟨fun q => q = w3.heap.size ∨ (Value.slice A1 m c1).ownBlock = some q, HM3.out.reserve hb4 (fun q hq => by
            rcases hq with rfl | h
            · exact ⟨hkb.lt, .inr (Nat.le_refl _)⟩
            · exact ⟨Nat.lt_of_lt_of_le (HR1.out.lt q h).2 hb4.size, .inl h⟩), .inl rfl, fun q h => h.elim, fun q h => .inr h, fun q h => by simp [Value.ownBlock] at h, fun q h => by simp [Value.ownBlock] at h⟩, by rw [pair_zero]; exact hkb, HM3.out.bel.size, HR1.out.keep (fun q hq => hb4.block q (HR1.out.lt q hq).2), VRow.nil _ _, VRow.nil _ _, fun q h => by simp [Value.ownBlock] at h, fun q h => by simp [Value.ownBlock] at h, fun e => by have := (HR1.out.lt _ e).2; omega, fun q h => h.elim⟩
        obtain ⟨hs3, hhs3⟩ : ∃ h3, hs = h3 := ⟨_, rfl⟩
        clear hb4 hkb HM3 HR1 hm
        go_wp2_with fail
        generalize w3.alloc (.cells #[.int .i64 0, .int .i64 0, .string ⟨#[]⟩] 39) = w4 at HS0 ⊢
        generalize w3.heap.size = kb at HS0 ⊢
        have HWW := Lib.hid (WW.start t.p)
        obtain ⟨p0, hp0⟩ : ∃ p0, t.p = p0 := ⟨_, rfl⟩
        have HPP := Lib.hid hp0
        have HOK0 : Hid p0.ok := Lib.hid (by rw [← hp0]; exact HOK.out)
        have HMN0 : Hid (p0.prs.length = m) := Lib.hid (by rw [← hp0]; exact HMN.out)
        have HWW0 : Hid (WW p0 t.p 0 0 [] []) := Lib.hid (by have h := HWW.out; rw [hp0] at h ⊢; exact h)
        have HS1 : Hid (WS W kb noX (.slice A1 m c1) p0.prs hp a (.slice none 0 0) (.slice none 0 0) [] [] t hs (3 + 2 * j) (p0.pair ((0 : Nat) : Int)).1 w4) := Lib.hid (by have h := HS0.out; rw [hp0] at h; exact h)
        clear hp0 HS0 HOK HMN HWW HPP hhs3
        go_loopw [9, 10, 13] (fun vg vc i wr => ∃ (gv cv : Value) (q cur : Nat) (t' : Tbl) (G C : List V), q ≤ m ∧ vg = gv ∧ vc = cv ∧ i = .int .i64 q ∧ Hid (WW p0 t'.p cur q G C) ∧ Hid (G.length ≤ q) ∧ Hid (WS W kb noX (.slice A1 m c1) p0.prs hp a gv cv G C t' hs (3 + 2 * j + 2 * q) (p0.pair (cur : Int)).1 wr)) (fun _ _ i _ => m + 1 - (intOf i).toNat)
        case atStart => exact ⟨_, _, 0, 0, t, [], [], Nat.zero_le _, rfl, rfl, rfl, HWW0, Lib.hid (Nat.le_refl _), Lib.hid HS1.out⟩
        case round =>
          clear HS1 HWW0
          obtain ⟨gv, cv, q, cur, t', G, C, hq, rfl, rfl, rfl, HW, HGL, HS⟩ := hrel
          have d3 : decide ((q : Int) ≤ (m : Int)) = true := by simp; omega
          have q1 : (q : Int) ≤ (m : Int) := by omega
          have lx : (m : Int) ≤ 9223372036854775807 := by have := HSM.out; omega
          have HQM := Lib.hid hq
          obtain ⟨ky, hky⟩ : ∃ k, (p0.pair (cur : Int)).1 = k := ⟨_, rfl⟩
          have hN := HW.out.next HS.out.ok HOK0.out
          rw [hky] at hN HS
          have hgx := get_nx HS.out.ok cur
          have hkx := nx_key HS.out.ok cur
          have hok2 := val_ok HS.out.ok (t'.p.nx cur)
          obtain ⟨zp, hzp⟩ : ∃ z, t'.p.pair ((t'.p.nx cur : Nat) : Int) = z := ⟨_, rfl⟩
          have HZP := Lib.hid hzp
          rw [hzp] at hN hgx hkx hok2
          obtain ⟨kk, kn, ks⟩ := ky
          obtain ⟨⟨nk, nn, ns⟩, ⟨vk, vn, vs⟩⟩ := zp
          have HN := Lib.hid hN; have HGX := Lib.hid hgx; have HKX := Lib.hid hkx
          obtain ⟨k0, k1, k2, -, -⟩ := HS.out.kc
          dsimp only at k0 k1 k2
          simp only [Nat.zero_add] at k1 k2
          clear hN hgx hkx hzp hky hok2 hq
          go_wp2_with fail
          (with_reducible refine (WS.next HS.out kk kn ks (⟨nk, nn, ns⟩, ⟨vk, vn, vs⟩) 0 HN.out.2 HN.out.1).mono ?_)
          rintro e w5 ⟨t5, rfl, hp5, hx, -⟩
          have HP5 := Lib.hid hp5
          have hb6 := ((Below.refl w5.heap.size w5).alloc (Nat.le_refl _) (.cells #[.int .i64 nk, .int .i64 nn, .string ns] 39)).alloc (by rw [World.size_alloc]; omega) (.cells #[.int .i64 vk, .int .i64 vn, .string vs] 39)
          have HNB := Lib.hid ((C3.new w5 nk nn ns).alloc (.cells #[.int .i64 vk, .int .i64 vn, .string vs] 39))
          have HVB : Hid (C3 ((w5.alloc (.cells #[.int .i64 nk, .int .i64 nn, .string ns] 39)).alloc (.cells #[.int .i64 vk, .int .i64 vn, .string vs] 39)) (w5.heap.size + 1) 0 ⟨vk, vn, vs⟩) := Lib.hid (by
            have h := C3.new (w5.alloc (.cells #[.int .i64 nk, .int .i64 nn, .string ns] 39)) vk vn vs
            rw [World.size_alloc] at h; exact h)
          have HS6 := Lib.hid (hx.hold (K' := twX w5.heap.size (w5.heap.size + 1)) hb6 (fun z hz => by
            rcases hz with rfl | rfl
            · exact ⟨HNB.out.lt, .inr (Nat.le_refl _)⟩
            · exact ⟨HVB.out.lt, .inr (by omega)⟩))
          clear hx hp5 hb6 k0 k1 k2 HS
          dsimp only
          go_wp2_with fail
          generalize ((w5.alloc (.cells #[.int .i64 nk, .int .i64 nn, .string ns] 39)).alloc (.cells #[.int .i64 vk, .int .i64 vn, .string vs] 39)) = w6 at HS6 HNB HVB ⊢
          generalize w5.heap.size + 1 = vb at HS6 HVB ⊢
          generalize w5.heap.size = nb at HS6 HNB ⊢
          have HGT : Hid (t5.get ⟨nk, nn, ns⟩ = ⟨vk, vn, vs⟩) := Lib.hid (by unfold Tbl.get; rw [HP5.out]; exact HGX.out)
          have HD6 : Hid (∀ z, twX nb vb z → w6.drew.heap[z]? = w6.heap[z]?) := Lib.hid (fun _ _ => rfl)
          have HSS : Hid (∀ w' : World, (∀ z, twX nb vb z → w'.heap[z]? = w6.heap[z]?) → (w'.cell? ⟨nb, 0, none⟩ = some (.int .i64 nk) ∧ w'.cell? ⟨nb, 1, none⟩ = some (.int .i64 nn) ∧ w'.cell? ⟨nb, 2, none⟩ = some (.string ns)) ∧ (w'.cell? ⟨vb, 0, none⟩ = some (.int .i64 vk) ∧ w'.cell? ⟨vb, 1, none⟩ = some (.int .i64 vn) ∧ w'.cell? ⟨vb, 2, none⟩ = some (.string vs))) := Lib.hid (fun w' h => by
            obtain ⟨a0, a1, a2, -, -⟩ := HNB.out.keep (h nb (.inl rfl))
            obtain ⟨b0, b1, b2, -, -⟩ := HVB.out.keep (h vb (.inr rfl))
            exact ⟨⟨a0, a1, a2⟩, ⟨b0, b1, b2⟩⟩)
          go_region_held3 (fun w' => (w'.cell? ⟨nb, 0, none⟩ = some (.int .i64 nk) ∧ w'.cell? ⟨nb, 1, none⟩ = some (.int .i64 nn) ∧ w'.cell? ⟨nb, 2, none⟩ = some (.string ns)) ∧ (w'.cell? ⟨vb, 0, none⟩ = some (.int .i64 vk) ∧ w'.cell? ⟨vb, 1, none⟩ = some (.int .i64 vn) ∧ w'.cell? ⟨vb, 2, none⟩ = some (.string vs)))
            (first | with_reducible exact HSS.out _ HD6.out | with_reducible exact HSS.out _ HK7.out | with_reducible assumption)
            (first | (go_at_call 25; (with_reducible refine (WS.get (HS6.out.below (Below.refl _ w6).drew) nk nn ns ⟨vk, vn, vs⟩ HGT.out).mono ?_); rintro e w7 ⟨t7, rfl, hp7, hx, hk7⟩; have HS7 := Lib.hid hx; have HP7 := Lib.hid hp7; have HK7 : Hid (∀ z, twX nb vb z → w7.heap[z]? = w6.heap[z]?) := Lib.hid (fun z h => (hk7 z h).trans (HD6.out z h)); clear hx hp7 hk7))
          have HNB7 := Lib.hid (HNB.out.keep (HK7.out nb (.inl rfl)))
          have HVB7 := Lib.hid (HVB.out.keep (HK7.out vb (.inr rfl)))
          have HP7' : Hid (t7.p = t'.p) := Lib.hid (HP7.out.trans HP5.out)
          clear HSS HD6 HK7 HS6 HNB HVB HP7 HP5
          obtain ⟨a0, a1, a2, -, -⟩ := HNB7.out
          obtain ⟨b0, b1, b2, -, -⟩ := HVB7.out
          dsimp only at a0 a1 a2 b0 b1 b2
          simp only [Nat.zero_add] at a1 a2 b1 b2
          have HCL : Hid (C.length = q) := Lib.hid (by
            obtain ⟨L, e, hl, -⟩ := HW.out.cm
            rw [e, List.length_map]; exact hl)
          by_cases hnk : nk = 0
          · have dk : (nk == 0) = true := by simpa using hnk
            have HF := Lib.hid (HW.out.done (HKX.out.2 hnk))
            go_wp2_with fail
            (with_reducible refine (law_all W.heap.size W.heap.size W.heap.size _ _ _ p0.prs G C (by rw [HMN0.out]; have := HSM.out; omega) (by have := HGL.out; have := HQM.out; have := HSM.out; omega) (by have := HCL.out; have := HQM.out; have := HSM.out; omega) _ HS7.out.pr HS7.out.gr HS7.out.cr HF.out.1 HF.out.2).mono ?_)
            rintro e w8 ⟨rfl, hb⟩
            have HBB := Lib.hid (HS7.out.below hb).bel
            clear hb
            go_wp2
            go_ret
            exact ⟨rfl, HBB.out⟩
          · have dk : (nk == 0) = false := by simpa using hnk
            have hst := HW.out.step HOK0.out (fun h => hnk (HKX.out.1 h))
            rw [HZP.out] at hst
            obtain ⟨s1, s2, s3, s4⟩ := hst
            have s5 : vk ≠ 0 := by
              unfold PT.full at s1
              rw [HZP.out] at s1
              exact s1
            have dv : (vk == 0) = false := by simpa using s5
            have HHB : Hid (hasB C ⟨nk, nn, ns⟩ = false) := Lib.hid (decide_eq_false s2)
            have HQL : Hid (q < m) := Lib.hid (by rw [← HMN0.out, prs_len]; exact s3)
            have HW2 := Lib.hid s4
            have HPK : Hid ((p0.pair ((t'.p.nx cur : Nat) : Int)).1 = ⟨nk, nn, ns⟩) := Lib.hid (by rw [← HW.out.key, HZP.out])
            clear s1 s2 s3 s4 s5 hnk
            generalize t'.p.nx cur = cu2 at HW2 HPK HZP HN HKX HGX
            go_wp2_with fail
            (with_reducible refine (law_has W.heap.size _ C (by have := HCL.out; have := HQM.out; have := HSM.out; omega) nk nn ns _ HS7.out.cr).mono ?_)
            rintro e w8 ⟨rfl, hb⟩
            rw [HHB.out]
            have HS8 := Lib.hid (HS7.out.below hb)
            have HNB8 := Lib.hid (HNB7.out.below hb HNB7.out.lt)
            clear hb a0 a1 a2 b0 b1 b2 HNB7 HVB7 HS7
            have HS8a := Lib.hid (HS8.out.below ((Below.refl w8.heap.size w8).alloc (Nat.le_refl _) (.cells #[.int .i64 nk, .int .i64 nn, .string ns] 39)))
            have HNB8a := Lib.hid (HNB8.out.alloc (.cells #[.int .i64 nk, .int .i64 nn, .string ns] 39))
            have HNEW := Lib.hid (three_new w8 ⟨nk, nn, ns⟩ 39)
            have HONE := Lib.hid (three_one ⟨nk, nn, ns⟩)
            have HLN : Hid (C.length + 1 ≤ maxLen ∧ (C.length + 1) * 32 ≤ 140737488355328) := Lib.hid ⟨by have := HCL.out; have := HQM.out; have := HSM.out; unfold maxLen; omega, by have := HCL.out; have := HQM.out; have := HSM.out; omega⟩
            have HLN2 : Hid (W.heap.size ≤ (w8.alloc (.cells #[.int .i64 nk, .int .i64 nn, .string ns] 39)).heap.size) := Lib.hid HS8a.out.bel.size
            obtain ⟨a0, a1, a2, -, -⟩ := HNB8.out
            dsimp only at a0 a1 a2
            simp only [Nat.zero_add] at a1 a2
            have q2 : (q : Int) < (m : Int) := by have := HQL.out; omega
            by_cases hturn : q < yl.length
            · have d5 : decide ((q : Int) < (yl.length : Int)) = true := by simp; omega
              have d6 : decide ((0 : Int) < (m : Int)) = true := by have := HQL.out; simp; omega
              have hopz : ∃ bx ox, yA = some ⟨bx, ox, none⟩ ∧ bx < W.heap.size ∧ COX W bx (ox + q * 7) (opX yl q) := by
                obtain ⟨bx, ox, e1, e2, e3⟩ := FY.out.ops (by show 0 < yl.length; omega)
                exact ⟨bx, ox, e1, e2, e3 q hturn⟩
              obtain ⟨bx, ox, rfl, hbx, hcx⟩ := hopz
              have HCO := Lib.hid hcx
              have HBX2 := Lib.hid hbx
              have hin := FY.out.in64 q
              dsimp only at hin
              obtain ⟨⟨kd, ⟨xk, xn, xs⟩, ⟨uk, un, us⟩⟩, hop⟩ : ∃ z, opX yl q = z := ⟨_, rfl⟩
              rw [hop] at HCO hin
              have HIN := Lib.hid hin
              have q4 : (q : Int) < (yl.length : Int) := by omega
              have q5 : (yl.length : Int) ≤ 9223372036854775807 := by have h1 := FY.out.le; have h2 := FY.out.mx; dsimp only at h1 h2; omega
              obtain ⟨N2, hN2, e2, e3, e4, e5⟩ := umodB xn m (Nat.lt_of_le_of_lt (Nat.zero_le _) HQL.out) HSM.out
              obtain ⟨g1, rfl, -, -⟩ := first_at HS8a.out.pr N2 (by rw [HMN0.out]; exact hN2)
              have n1 : ¬ bx = kb := by have := HS8a.out.kw; omega
              have n2' : ¬ kb = bx := fun e => n1 e.symm
              have n3 : ¬ g1 = kb := fun e => HS8a.out.d3 (by rw [← e]; rfl)
              have n4 : ¬ kb = g1 := fun e => n3 e.symm
              obtain ⟨⟨⟨pk, pn, ps⟩, pv⟩, hpf⟩ : ∃ z, prAt p0.prs N2 = z := ⟨_, rfl⟩
              have HPF := Lib.hid hpf
              clear hcx hbx hin hop hturn hpf
              have HN2 := Lib.hid hN2
              have n5 : ¬ nb = kb := HS8a.out.d4 nb (.inl rfl)
              have n6 : ¬ kb = nb := fun e => n5 e.symm
              by_cases hkd : kd = 3
              · have d7 : (kd == 3) = true := by simpa using hkd
                clear hkd
                go_wp2_with (at_builtin; refine wpList_append_own_at _ rfl (Operand.tmp 93) (Operand.tmp 95) 46 rfl W.heap.size 39 i0 (.agg #[.int .i64 0, .int .i64 0, .string ⟨#[]⟩]) 3 32 Try.underlying46 HI0.out HZ0.out HZ1.out HZ2.out rfl (by decide) _ C.length (vCells C) rfl HS8a.out.cr ⟨w8.heap.size, 0, none⟩ 1 1 (vcells ⟨nk, nn, ns⟩) rfl rfl HNEW.out HONE.out HLN.out.1 HLN.out.2 HLN2.out ?_; intro cv2 w9 hown' hgrow _ hat; have hap := HS8a.out.appC (cv' := cv2) (C' := C ++ [⟨nk, nn, ns⟩]) (vRow_of hown') hgrow hat; have HS9 := Lib.hid hap.1; have HNB9 := Lib.hid (HNB8a.out.keep (hap.2 nb (.inl rfl))); clear hap hown' hgrow hat; obtain ⟨n0, n1, n2, -, -⟩ := HNB9.out; obtain ⟨k0, k1, k2, kf, -⟩ := HS9.out.kc; dsimp only at n0 n1 n2 k0 k1 k2; simp only [Nat.zero_add] at n1 n2 k1 k2; have kf0 := kf 0; have kf1 := kf 1; have kf2 := kf 2; clear kf; obtain ⟨o0, o1, o2, o3, o4, o5, o6⟩ := HCO.out.bel HS9.out.bel HBX2.out; dsimp only at o0 o1 o2 o3 o4 o5 o6; have hc6 := first_g HS9.out.pr N2 (by rw [HMN0.out]; exact HN2.out); rw [HPF.out] at hc6; obtain ⟨f0, f1, f2, -, -, -⟩ := hc6; dsimp only at f0 f1 f2; have hbl : bx < w9.heap.size := Nat.lt_of_lt_of_le HBX2.out HS9.out.bel.size; have hkl := HS9.out.kc.lt; have hnl := HNB9.out.lt)
                have HSA := Lib.hid (HS9.out.key nk nn ns)
                have hsz : (((w9.setCell ⟨kb, 0, none⟩ (.int .i64 nk)).setCell ⟨kb, 1, none⟩ (.int .i64 nn)).setCell ⟨kb, 2, none⟩ (.string ns)).heap.size = w9.heap.size := by simp
                have hbA := (Below.refl _ (((w9.setCell ⟨kb, 0, none⟩ (.int .i64 nk)).setCell ⟨kb, 1, none⟩ (.int .i64 nn)).setCell ⟨kb, 2, none⟩ (.string ns))).alloc (Nat.le_refl _) (.cells #[.int .i64 nk, .int .i64 nn, .string ns] 39)
                have hpb := C3.new (((w9.setCell ⟨kb, 0, none⟩ (.int .i64 nk)).setCell ⟨kb, 1, none⟩ (.int .i64 nn)).setCell ⟨kb, 2, none⟩ (.string ns)) nk nn ns
                rw [hsz] at hpb
                have HPB := Lib.hid hpb
                have HSB := Lib.hid (HSA.out.1.hold (K' := onlyX w9.heap.size) hbA (fun z hz => by
                  have e : z = w9.heap.size := hz
                  rw [e]; exact ⟨hpb.lt, .inr (by rw [hsz]; exact Nat.le_refl _)⟩))
                clear hbA hpb hsz HSA n0 n1 n2 k0 k1 k2 kf0 kf1 kf2 f0 f1 f2 hbl hkl hnl o0 o1 o2 o3 o4 o5 o6
                generalize (((w9.setCell ⟨kb, 0, none⟩ (.int .i64 nk)).setCell ⟨kb, 1, none⟩ (.int .i64 nn)).setCell ⟨kb, 2, none⟩ (.string ns)).alloc (.cells #[.int .i64 nk, .int .i64 nn, .string ns] 39) = wA at HPB HSB ⊢
                generalize w9.heap.size = pb at HPB HSB ⊢
                obtain ⟨⟨rk, rn, rs⟩, hrg⟩ : ∃ v, t7.get ⟨nk, nn, ns⟩ = v := ⟨_, rfl⟩
                have HRG := Lib.hid hrg
                clear hrg
                obtain ⟨b0, b1, b2, -, -⟩ := HPB.out
                dsimp only at b0 b1 b2
                simp only [Nat.zero_add] at b1 b2
                (with_reducible refine (WS.get HSB.out nk nn ns ⟨rk, rn, rs⟩ HRG.out).mono ?_)
                rintro e wB ⟨tB, rfl, hpB, hx, hk⟩
                have HSC := Lib.hid hx
                have HPC := Lib.hid (HPB.out.keep (hk pb rfl))
                have HTB : Hid (tB.p = t'.p) := Lib.hid (hpB.trans HP7'.out)
                have HRG' : Hid ((t'.p.get ⟨nk, nn, ns⟩).k = rk) := Lib.hid (by have h := HRG.out; unfold Tbl.get at h; rw [HP7'.out] at h; rw [h])
                clear hx hk hpB b0 b1 b2
                obtain ⟨o0, o1, o2, o3, o4, o5, o6⟩ := HCO.out.bel HSC.out.bel HBX2.out
                dsimp only at o0 o1 o2 o3 o4 o5 o6
                by_cases hrk : rk = 0
                · have dr : (rk != 0) = false := by simpa using hrk
                  clear hrk
                  go_wp2_with fail
                  go_roundw
                  case rel => exact ⟨_, _, q + 1, cu2, tB, G, C ++ [⟨nk, nn, ns⟩], HQL.out, rfl, rfl, by go_num, Lib.hid (by rw [HTB.out]; exact HW2.out), Lib.hid (Nat.le_succ_of_le HGL.out), Lib.hid (by rw [HPK.out]; exact (HSC.out.hold (K' := noX) (Below.refl _ _) (fun z hz => (show False from hz).elim)).mono (by omega))⟩
                  case measure => have := HQL.out; simp [intOf]; omega
                · have dr : (rk != 0) = true := by simpa using hrk
                  obtain ⟨z, hz⟩ : ∃ z, errForm (okV ⟨uk, un, us⟩) = z := ⟨_, rfl⟩
                  have HZZ := Lib.hid hz
                  have HRK := Lib.hid hrk
                  clear hrk hz
                  go_wp2_with fail
                  (with_reducible refine (ref_Check_z uk un us z HZZ.out _).mono ?_)
                  rintro e wC ⟨rfl, hb⟩
                  have HSD := Lib.hid (HSC.out.below hb)
                  have HPD := Lib.hid (HPC.out.below hb HPC.out.lt)
                  clear hb o0 o1 o2 o3 o4 o5 o6
                  obtain ⟨o0, o1, o2, o3, o4, o5, o6⟩ := HCO.out.bel HSD.out.bel HBX2.out
                  dsimp only at o0 o1 o2 o3 o4 o5 o6
                  by_cases hu : okV ⟨uk, un, us⟩ = true
                  · obtain rfl : z = 0 := by rw [← HZZ.out, hu]; rfl
                    have HU := Lib.hid hu
                    have hset := HW2.out.set (v := ⟨uk, un, us⟩) (by rw [← HP7'.out]; exact HS9.out.ok) hu (by rw [HRG'.out]; exact HRK.out)
                    obtain ⟨z1, z2, z3, z4⟩ := hset
                    have HZ1' := Lib.hid z1; have HZ2' := Lib.hid z2; have HZ3' := Lib.hid z3; have HZ4' := Lib.hid z4
                    clear z1 z2 z3 z4 hu
                    obtain ⟨b0, b1, b2, -, -⟩ := HPD.out
                    dsimp only at b0 b1 b2
                    simp only [Nat.zero_add] at b1 b2
                    go_wp2_with fail
                    go_still_tail 7, (by kernel_rfl)
                    change wpList _ _ _ _ _ wC.drew
                    go_wp2_with fail
                    (with_reducible refine (WS.set (HSD.out.below (Below.refl _ wC).drew) (by have := HQM.out; have := HSM.out; have := HJ300.out; omega) nk nn ns uk un us HZ3'.out HZ2'.out HU.out (by rw [HTB.out]; exact HZ1'.out)).mono ?_)
                    rintro e wD ⟨tD, rfl, hpD, hx, hk⟩
                    have HSE := Lib.hid hx
                    have HPE := Lib.hid (HPD.out.keep ((hk pb rfl).trans rfl))
                    have HTD : Hid (tD.p = (t'.p.put ⟨nk, nn, ns⟩ ⟨uk, un, us⟩).1) := Lib.hid (by rw [hpD, HTB.out])
                    clear hx hk hpD b0 b1 b2 o0 o1 o2 o3 o4 o5 o6
                    obtain ⟨o0, o1, o2, o3, o4, o5, o6⟩ := HCO.out.bel HSE.out.bel HBX2.out
                    dsimp only at o0 o1 o2 o3 o4 o5 o6
                    by_cases huk : uk = 0
                    · have du : (uk == 0) = true := by simpa using huk
                      have HWN : Hid (WW p0 tD.p cu2 (q + 1) (G ++ [⟨nk, nn, ns⟩]) (C ++ [⟨nk, nn, ns⟩])) := Lib.hid (by have h := HZ4'.out; rw [if_pos (show (⟨uk, un, us⟩ : V).k = 0 from huk)] at h; rw [HTD.out]; exact h)
                      have HSEa := Lib.hid (HSE.out.below ((Below.refl wD.heap.size wD).alloc (Nat.le_refl _) (.cells #[.int .i64 nk, .int .i64 nn, .string ns] 39)))
                      have HNEW2 := Lib.hid (three_new wD ⟨nk, nn, ns⟩ 39)
                      have HONE2 := Lib.hid (three_one ⟨nk, nn, ns⟩)
                      have HLG : Hid (G.length + 1 ≤ maxLen ∧ (G.length + 1) * 32 ≤ 140737488355328) := Lib.hid ⟨by have := HGL.out; have := HQM.out; have := HSM.out; unfold maxLen; omega, by have := HGL.out; have := HQM.out; have := HSM.out; omega⟩
                      have HLG2 : Hid (W.heap.size ≤ (wD.alloc (.cells #[.int .i64 nk, .int .i64 nn, .string ns] 39)).heap.size) := Lib.hid HSEa.out.bel.size
                      obtain ⟨b0, b1, b2, -, -⟩ := HPE.out
                      dsimp only at b0 b1 b2
                      simp only [Nat.zero_add] at b1 b2
                      clear huk
                      go_wp2_with (at_builtin; refine wpList_append_own_at _ rfl (Operand.tmp 159) (Operand.tmp 161) 46 rfl W.heap.size 39 i0 (.agg #[.int .i64 0, .int .i64 0, .string ⟨#[]⟩]) 3 32 Try.underlying46 HI0.out HZ0.out HZ1.out HZ2.out rfl (by decide) _ G.length (vCells G) rfl HSEa.out.gr ⟨wD.heap.size, 0, none⟩ 1 1 (vcells ⟨nk, nn, ns⟩) rfl rfl HNEW2.out HONE2.out HLG.out.1 HLG.out.2 HLG2.out ?_; intro gv2 wE hown' hgrow _ hat; have hap := HSEa.out.appG (gv' := gv2) (G' := G ++ [⟨nk, nn, ns⟩]) (vRow_of hown') hgrow hat; have HSF := Lib.hid hap.1; clear hap hown' hgrow hat)
                      go_roundw
                      case rel => exact ⟨_, _, q + 1, cu2, tD, G ++ [⟨nk, nn, ns⟩], C ++ [⟨nk, nn, ns⟩], HQL.out, rfl, rfl, by go_num, Lib.hid (HWN.out), Lib.hid (by rw [List.length_append]; exact Nat.succ_le_succ HGL.out), Lib.hid (by rw [HPK.out]; exact (HSF.out.hold (K' := noX) (Below.refl _ _) (fun z hz => (show False from hz).elim)).mono (by omega))⟩
                      case measure => have := HQL.out; simp [intOf]; omega
                    · have du : (uk == 0) = false := by simpa using huk
                      have HWN : Hid (WW p0 tD.p cu2 (q + 1) G (C ++ [⟨nk, nn, ns⟩])) := Lib.hid (by have h := HZ4'.out; rw [if_neg (show ¬ (⟨uk, un, us⟩ : V).k = 0 from huk)] at h; rw [HTD.out]; exact h)
                      clear huk
                      go_wp2_with fail
                      go_roundw
                      case rel => exact ⟨_, _, q + 1, cu2, tD, G, C ++ [⟨nk, nn, ns⟩], HQL.out, rfl, rfl, by go_num, Lib.hid (HWN.out), Lib.hid (Nat.le_succ_of_le HGL.out), Lib.hid (by rw [HPK.out]; exact (HSE.out.hold (K' := noX) (Below.refl _ _) (fun z hz => (show False from hz).elim)).mono (by omega))⟩
                      case measure => have := HQL.out; simp [intOf]; omega
                  · obtain rfl : z = 2 := by
                      have hu' : okV ⟨uk, un, us⟩ = false := by simpa using hu
                      rw [← HZZ.out, hu']; rfl
                    clear hu
                    go_wp2_with fail
                    go_roundw
                    case rel => exact ⟨_, _, q + 1, cu2, tB, G, C ++ [⟨nk, nn, ns⟩], HQL.out, rfl, rfl, by go_num, Lib.hid (by rw [HTB.out]; exact HW2.out), Lib.hid (Nat.le_succ_of_le HGL.out), Lib.hid (by rw [HPK.out]; exact (HSD.out.hold (K' := noX) (Below.refl _ _) (fun z hz => (show False from hz).elim)).mono (by omega))⟩
                    case measure => have := HQL.out; simp [intOf]; omega
              · have d7 : (kd == 3) = false := by simpa using hkd
                clear hkd
                go_wp2_with (at_builtin; refine wpList_append_own_at _ rfl (Operand.tmp 93) (Operand.tmp 95) 46 rfl W.heap.size 39 i0 (.agg #[.int .i64 0, .int .i64 0, .string ⟨#[]⟩]) 3 32 Try.underlying46 HI0.out HZ0.out HZ1.out HZ2.out rfl (by decide) _ C.length (vCells C) rfl HS8a.out.cr ⟨w8.heap.size, 0, none⟩ 1 1 (vcells ⟨nk, nn, ns⟩) rfl rfl HNEW.out HONE.out HLN.out.1 HLN.out.2 HLN2.out ?_; intro cv2 w9 hown' hgrow _ hat; have hap := HS8a.out.appC (cv' := cv2) (C' := C ++ [⟨nk, nn, ns⟩]) (vRow_of hown') hgrow hat; have HS9 := Lib.hid hap.1; have HNB9 := Lib.hid (HNB8a.out.keep (hap.2 nb (.inl rfl))); clear hap hown' hgrow hat; obtain ⟨n0, n1, n2, -, -⟩ := HNB9.out; obtain ⟨k0, k1, k2, kf, -⟩ := HS9.out.kc; dsimp only at n0 n1 n2 k0 k1 k2; simp only [Nat.zero_add] at n1 n2 k1 k2; have kf0 := kf 0; have kf1 := kf 1; have kf2 := kf 2; clear kf; obtain ⟨o0, o1, o2, o3, o4, o5, o6⟩ := HCO.out.bel HS9.out.bel HBX2.out; dsimp only at o0 o1 o2 o3 o4 o5 o6; have hc6 := first_g HS9.out.pr N2 (by rw [HMN0.out]; exact HN2.out); rw [HPF.out] at hc6; obtain ⟨f0, f1, f2, -, -, -⟩ := hc6; dsimp only at f0 f1 f2; have hbl : bx < w9.heap.size := Nat.lt_of_lt_of_le HBX2.out HS9.out.bel.size; have hkl := HS9.out.kc.lt; have hnl := HNB9.out.lt)
                have HSA := Lib.hid (HS9.out.key nk nn ns)
                have hsz : (((w9.setCell ⟨kb, 0, none⟩ (.int .i64 nk)).setCell ⟨kb, 1, none⟩ (.int .i64 nn)).setCell ⟨kb, 2, none⟩ (.string ns)).heap.size = w9.heap.size := by simp
                have hbA := (Below.refl _ (((w9.setCell ⟨kb, 0, none⟩ (.int .i64 nk)).setCell ⟨kb, 1, none⟩ (.int .i64 nn)).setCell ⟨kb, 2, none⟩ (.string ns))).alloc (Nat.le_refl _) (.cells #[.int .i64 pk, .int .i64 pn, .string ps] 39)
                have hpb := C3.new (((w9.setCell ⟨kb, 0, none⟩ (.int .i64 nk)).setCell ⟨kb, 1, none⟩ (.int .i64 nn)).setCell ⟨kb, 2, none⟩ (.string ns)) pk pn ps
                rw [hsz] at hpb
                have HPB := Lib.hid hpb
                have HSB := Lib.hid (HSA.out.1.hold (K' := onlyX w9.heap.size) hbA (fun z hz => by
                  have e : z = w9.heap.size := hz
                  rw [e]; exact ⟨hpb.lt, .inr (by rw [hsz]; exact Nat.le_refl _)⟩))
                clear hbA hpb hsz HSA n0 n1 n2 k0 k1 k2 kf0 kf1 kf2 f0 f1 f2 hbl hkl hnl o0 o1 o2 o3 o4 o5 o6
                generalize (((w9.setCell ⟨kb, 0, none⟩ (.int .i64 nk)).setCell ⟨kb, 1, none⟩ (.int .i64 nn)).setCell ⟨kb, 2, none⟩ (.string ns)).alloc (.cells #[.int .i64 pk, .int .i64 pn, .string ps] 39) = wA at HPB HSB ⊢
                generalize w9.heap.size = pb at HPB HSB ⊢
                obtain ⟨⟨rk, rn, rs⟩, hrg⟩ : ∃ v, t7.get ⟨pk, pn, ps⟩ = v := ⟨_, rfl⟩
                have HRG := Lib.hid hrg
                clear hrg
                obtain ⟨b0, b1, b2, -, -⟩ := HPB.out
                dsimp only at b0 b1 b2
                simp only [Nat.zero_add] at b1 b2
                (with_reducible refine (WS.get HSB.out pk pn ps ⟨rk, rn, rs⟩ HRG.out).mono ?_)
                rintro e wB ⟨tB, rfl, hpB, hx, hk⟩
                have HSC := Lib.hid hx
                have HPC := Lib.hid (HPB.out.keep (hk pb rfl))
                have HTB : Hid (tB.p = t'.p) := Lib.hid (hpB.trans HP7'.out)
                have HRG' : Hid ((t'.p.get ⟨pk, pn, ps⟩).k = rk) := Lib.hid (by have h := HRG.out; unfold Tbl.get at h; rw [HP7'.out] at h; rw [h])
                clear hx hk hpB b0 b1 b2
                obtain ⟨o0, o1, o2, o3, o4, o5, o6⟩ := HCO.out.bel HSC.out.bel HBX2.out
                dsimp only at o0 o1 o2 o3 o4 o5 o6
                by_cases hrk : rk = 0
                · have dr : (rk != 0) = false := by simpa using hrk
                  clear hrk
                  go_wp2_with fail
                  go_roundw
                  case rel => exact ⟨_, _, q + 1, cu2, tB, G, C ++ [⟨nk, nn, ns⟩], HQL.out, rfl, rfl, by go_num, Lib.hid (by rw [HTB.out]; exact HW2.out), Lib.hid (Nat.le_succ_of_le HGL.out), Lib.hid (by rw [HPK.out]; exact (HSC.out.hold (K' := noX) (Below.refl _ _) (fun z hz => (show False from hz).elim)).mono (by omega))⟩
                  case measure => have := HQL.out; simp [intOf]; omega
                · have dr : (rk != 0) = true := by simpa using hrk
                  obtain ⟨z, hz⟩ : ∃ z, errForm (okV ⟨uk, un, us⟩) = z := ⟨_, rfl⟩
                  have HZZ := Lib.hid hz
                  have HRK := Lib.hid hrk
                  clear hrk hz
                  go_wp2_with fail
                  (with_reducible refine (ref_Check_z uk un us z HZZ.out _).mono ?_)
                  rintro e wC ⟨rfl, hb⟩
                  have HSD := Lib.hid (HSC.out.below hb)
                  have HPD := Lib.hid (HPC.out.below hb HPC.out.lt)
                  clear hb o0 o1 o2 o3 o4 o5 o6
                  obtain ⟨o0, o1, o2, o3, o4, o5, o6⟩ := HCO.out.bel HSD.out.bel HBX2.out
                  dsimp only at o0 o1 o2 o3 o4 o5 o6
                  by_cases hu : okV ⟨uk, un, us⟩ = true
                  · obtain rfl : z = 0 := by rw [← HZZ.out, hu]; rfl
                    have HU := Lib.hid hu
                    have hset := HW2.out.set (v := ⟨uk, un, us⟩) (by rw [← HP7'.out]; exact HS9.out.ok) hu (by rw [HRG'.out]; exact HRK.out)
                    obtain ⟨z1, z2, z3, z4⟩ := hset
                    have HZ1' := Lib.hid z1; have HZ2' := Lib.hid z2; have HZ3' := Lib.hid z3; have HZ4' := Lib.hid z4
                    clear z1 z2 z3 z4 hu
                    obtain ⟨b0, b1, b2, -, -⟩ := HPD.out
                    dsimp only at b0 b1 b2
                    simp only [Nat.zero_add] at b1 b2
                    go_wp2_with fail
                    go_still_tail 7, (by kernel_rfl)
                    change wpList _ _ _ _ _ wC.drew
                    go_wp2_with fail
                    (with_reducible refine (WS.set (HSD.out.below (Below.refl _ wC).drew) (by have := HQM.out; have := HSM.out; have := HJ300.out; omega) pk pn ps uk un us HZ3'.out HZ2'.out HU.out (by rw [HTB.out]; exact HZ1'.out)).mono ?_)
                    rintro e wD ⟨tD, rfl, hpD, hx, hk⟩
                    have HSE := Lib.hid hx
                    have HPE := Lib.hid (HPD.out.keep ((hk pb rfl).trans rfl))
                    have HTD : Hid (tD.p = (t'.p.put ⟨pk, pn, ps⟩ ⟨uk, un, us⟩).1) := Lib.hid (by rw [hpD, HTB.out])
                    clear hx hk hpD b0 b1 b2 o0 o1 o2 o3 o4 o5 o6
                    obtain ⟨o0, o1, o2, o3, o4, o5, o6⟩ := HCO.out.bel HSE.out.bel HBX2.out
                    dsimp only at o0 o1 o2 o3 o4 o5 o6
                    by_cases huk : uk = 0
                    · have du : (uk == 0) = true := by simpa using huk
                      have HWN : Hid (WW p0 tD.p cu2 (q + 1) (G ++ [⟨pk, pn, ps⟩]) (C ++ [⟨nk, nn, ns⟩])) := Lib.hid (by have h := HZ4'.out; rw [if_pos (show (⟨uk, un, us⟩ : V).k = 0 from huk)] at h; rw [HTD.out]; exact h)
                      have HSEa := Lib.hid (HSE.out.below ((Below.refl wD.heap.size wD).alloc (Nat.le_refl _) (.cells #[.int .i64 pk, .int .i64 pn, .string ps] 39)))
                      have HNEW2 := Lib.hid (three_new wD ⟨pk, pn, ps⟩ 39)
                      have HONE2 := Lib.hid (three_one ⟨pk, pn, ps⟩)
                      have HLG : Hid (G.length + 1 ≤ maxLen ∧ (G.length + 1) * 32 ≤ 140737488355328) := Lib.hid ⟨by have := HGL.out; have := HQM.out; have := HSM.out; unfold maxLen; omega, by have := HGL.out; have := HQM.out; have := HSM.out; omega⟩
                      have HLG2 : Hid (W.heap.size ≤ (wD.alloc (.cells #[.int .i64 pk, .int .i64 pn, .string ps] 39)).heap.size) := Lib.hid HSEa.out.bel.size
                      obtain ⟨b0, b1, b2, -, -⟩ := HPE.out
                      dsimp only at b0 b1 b2
                      simp only [Nat.zero_add] at b1 b2
                      clear huk
                      go_wp2_with (at_builtin; refine wpList_append_own_at _ rfl (Operand.tmp 159) (Operand.tmp 161) 46 rfl W.heap.size 39 i0 (.agg #[.int .i64 0, .int .i64 0, .string ⟨#[]⟩]) 3 32 Try.underlying46 HI0.out HZ0.out HZ1.out HZ2.out rfl (by decide) _ G.length (vCells G) rfl HSEa.out.gr ⟨wD.heap.size, 0, none⟩ 1 1 (vcells ⟨pk, pn, ps⟩) rfl rfl HNEW2.out HONE2.out HLG.out.1 HLG.out.2 HLG2.out ?_; intro gv2 wE hown' hgrow _ hat; have hap := HSEa.out.appG (gv' := gv2) (G' := G ++ [⟨pk, pn, ps⟩]) (vRow_of hown') hgrow hat; have HSF := Lib.hid hap.1; clear hap hown' hgrow hat)
                      go_roundw
                      case rel => exact ⟨_, _, q + 1, cu2, tD, G ++ [⟨pk, pn, ps⟩], C ++ [⟨nk, nn, ns⟩], HQL.out, rfl, rfl, by go_num, Lib.hid (HWN.out), Lib.hid (by rw [List.length_append]; exact Nat.succ_le_succ HGL.out), Lib.hid (by rw [HPK.out]; exact (HSF.out.hold (K' := noX) (Below.refl _ _) (fun z hz => (show False from hz).elim)).mono (by omega))⟩
                      case measure => have := HQL.out; simp [intOf]; omega
                    · have du : (uk == 0) = false := by simpa using huk
                      have HWN : Hid (WW p0 tD.p cu2 (q + 1) G (C ++ [⟨nk, nn, ns⟩])) := Lib.hid (by have h := HZ4'.out; rw [if_neg (show ¬ (⟨uk, un, us⟩ : V).k = 0 from huk)] at h; rw [HTD.out]; exact h)
                      clear huk
                      go_wp2_with fail
                      go_roundw
                      case rel => exact ⟨_, _, q + 1, cu2, tD, G, C ++ [⟨nk, nn, ns⟩], HQL.out, rfl, rfl, by go_num, Lib.hid (HWN.out), Lib.hid (Nat.le_succ_of_le HGL.out), Lib.hid (by rw [HPK.out]; exact (HSE.out.hold (K' := noX) (Below.refl _ _) (fun z hz => (show False from hz).elim)).mono (by omega))⟩
                      case measure => have := HQL.out; simp [intOf]; omega
                  · obtain rfl : z = 2 := by
                      have hu' : okV ⟨uk, un, us⟩ = false := by simpa using hu
                      rw [← HZZ.out, hu']; rfl
                    clear hu
                    go_wp2_with fail
                    go_roundw
                    case rel => exact ⟨_, _, q + 1, cu2, tB, G, C ++ [⟨nk, nn, ns⟩], HQL.out, rfl, rfl, by go_num, Lib.hid (by rw [HTB.out]; exact HW2.out), Lib.hid (Nat.le_succ_of_le HGL.out), Lib.hid (by rw [HPK.out]; exact (HSD.out.hold (K' := noX) (Below.refl _ _) (fun z hz => (show False from hz).elim)).mono (by omega))⟩
                    case measure => have := HQL.out; simp [intOf]; omega
            · have d5 : decide ((q : Int) < (yl.length : Int)) = false := by simp; omega
              go_wp2_with (at_builtin; refine wpList_append_own_at _ rfl (Operand.tmp 93) (Operand.tmp 95) 46 rfl W.heap.size 39 i0 (.agg #[.int .i64 0, .int .i64 0, .string ⟨#[]⟩]) 3 32 Try.underlying46 HI0.out HZ0.out HZ1.out HZ2.out rfl (by decide) _ C.length (vCells C) rfl HS8a.out.cr ⟨w8.heap.size, 0, none⟩ 1 1 (vcells ⟨nk, nn, ns⟩) rfl rfl HNEW.out HONE.out HLN.out.1 HLN.out.2 HLN2.out ?_; intro cv2 w9 hown' hgrow _ hat; have hap := HS8a.out.appC (cv' := cv2) (C' := C ++ [⟨nk, nn, ns⟩]) (vRow_of hown') hgrow hat; have HS9 := Lib.hid hap.1; have HNB9 := Lib.hid (HNB8a.out.keep (hap.2 nb (.inl rfl))); clear hap hown' hgrow hat; obtain ⟨n0, n1, n2, -, -⟩ := HNB9.out; obtain ⟨k0, k1, k2, kf, -⟩ := HS9.out.kc; dsimp only at n0 n1 n2 k0 k1 k2; simp only [Nat.zero_add] at n1 n2 k1 k2; have kf0 := kf 0; have kf1 := kf 1; have kf2 := kf 2; clear kf)
              go_roundw
              case rel => exact ⟨_, _, q + 1, cu2, t7, G, C ++ [⟨nk, nn, ns⟩], HQL.out, rfl, rfl, by go_num, Lib.hid (by rw [HP7'.out]; exact HW2.out), Lib.hid (Nat.le_succ_of_le HGL.out), Lib.hid (by rw [HPK.out]; exact ((HS9.out.key nk nn ns).1.hold (K' := noX) (Below.refl _ _) (fun z hz => (show False from hz).elim)).mono (by omega))⟩
              case measure => have := HQL.out; simp [intOf]; omega
      · have d1 : decide ((j : Int) < (x.l.length : Int)) = false := by simp; omega
        clear hc
        go_wp2_with fail
        (with_reducible refine (BS.list HM.out _ rfl).mono ?_)
        rintro e w3 ⟨v1, rfl, hr, hb⟩
        have HR1 : Hid (PRow W.heap.size w3 v1 t.p.prs) := Lib.hid (ownsRow_mono hr HM.out.bel.size)
        have HM3 := Lib.hid (HM.out.reserve (S' := fun q => v1.ownBlock = some q) hb (fun q hq => ⟨(hr.lt q hq).2, .inr (hr.lt q hq).1⟩))
        clear hb hr p0 p1 p2 HX h1 HM
        have HOK := Lib.hid HM3.out.ok
        have HJ300 := Lib.hid hj3
        obtain ⟨A1, c1, hv1⟩ := HR1.out.slice
        obtain ⟨m, hm⟩ : ∃ m, t.p.prs.length = m := ⟨_, rfl⟩
        rw [hm] at hv1
        subst hv1
        have HMN := Lib.hid hm
        have HSM : Hid (m ≤ 131072) := Lib.hid (by
          rw [prs_len] at hm
          have h1 := pos_len t.p 0 t.p.tot
          have h2 := HOK.out.sz
          have h3 := HOK.out.hg.sz
          have h4 : t.p.tot = t.p.sn + t.p.h.n := rfl
          unfold PT.cnt at hm
          omega)
        have hb4 := (Below.refl w3.heap.size w3).alloc (Nat.le_refl _) (.cells #[.int .i64 0, .int .i64 0, .string ⟨#[]⟩] 39)
        have hkb := C3.new w3 0 0 ⟨#[]⟩
        have HS0 : Hid (WS W w3.heap.size noX (.slice A1 m c1) t.p.prs hp a (.slice none 0 0) (.slice none 0 0) [] [] t hs (3 + 2 * j) (t.p.pair ((0 : Nat) : Int)).1 (w3.alloc (.cells #[.int .i64 0, .int .i64 0, .string ⟨#[]⟩] 39))) := Lib.hid ⟨⟨fun q => q = w3.heap.size ∨ (Value.slice A1 m c1).ownBlock = some q, HM3.out.reserve hb4 (fun q hq => by
            rcases hq with rfl | h
            · exact ⟨hkb.lt, .inr (Nat.le_refl _)⟩
            · exact ⟨Nat.lt_of_lt_of_le (HR1.out.lt q h).2 hb4.size, .inl h⟩), .inl rfl, fun q h => h.elim, fun q h => .inr h, fun q h => by simp [Value.ownBlock] at h, fun q h => by simp [Value.ownBlock] at h⟩, by rw [pair_zero]; exact hkb, HM3.out.bel.size, HR1.out.keep (fun q hq => hb4.block q (HR1.out.lt q hq).2), VRow.nil _ _, VRow.nil _ _, fun q h => by simp [Value.ownBlock] at h, fun q h => by simp [Value.ownBlock] at h, fun e => by have := (HR1.out.lt _ e).2; omega, fun q h => h.elim⟩
        obtain ⟨hs3, hhs3⟩ : ∃ h3, hs = h3 := ⟨_, rfl⟩
        clear hb4 hkb HM3 HR1 hm
        go_wp2_with fail
        generalize w3.alloc (.cells #[.int .i64 0, .int .i64 0, .string ⟨#[]⟩] 39) = w4 at HS0 ⊢
        generalize w3.heap.size = kb at HS0 ⊢
        have HWW := Lib.hid (WW.start t.p)
        obtain ⟨p0, hp0⟩ : ∃ p0, t.p = p0 := ⟨_, rfl⟩
        have HPP := Lib.hid hp0
        have HOK0 : Hid p0.ok := Lib.hid (by rw [← hp0]; exact HOK.out)
        have HMN0 : Hid (p0.prs.length = m) := Lib.hid (by rw [← hp0]; exact HMN.out)
        have HWW0 : Hid (WW p0 t.p 0 0 [] []) := Lib.hid (by have h := HWW.out; rw [hp0] at h ⊢; exact h)
        have HS1 : Hid (WS W kb noX (.slice A1 m c1) p0.prs hp a (.slice none 0 0) (.slice none 0 0) [] [] t hs (3 + 2 * j) (p0.pair ((0 : Nat) : Int)).1 w4) := Lib.hid (by have h := HS0.out; rw [hp0] at h; exact h)
        clear hp0 HS0 HOK HMN HWW HPP hhs3
        go_loopw [9, 10, 13] (fun vg vc i wr => ∃ (gv cv : Value) (q cur : Nat) (t' : Tbl) (G C : List V), q ≤ m ∧ vg = gv ∧ vc = cv ∧ i = .int .i64 q ∧ Hid (WW p0 t'.p cur q G C) ∧ Hid (G.length ≤ q) ∧ Hid (WS W kb noX (.slice A1 m c1) p0.prs hp a gv cv G C t' hs (3 + 2 * j + 2 * q) (p0.pair (cur : Int)).1 wr)) (fun _ _ i _ => m + 1 - (intOf i).toNat)
        case atStart => exact ⟨_, _, 0, 0, t, [], [], Nat.zero_le _, rfl, rfl, rfl, HWW0, Lib.hid (Nat.le_refl _), Lib.hid HS1.out⟩
        case round =>
          clear HS1 HWW0
          obtain ⟨gv, cv, q, cur, t', G, C, hq, rfl, rfl, rfl, HW, HGL, HS⟩ := hrel
          have d3 : decide ((q : Int) ≤ (m : Int)) = true := by simp; omega
          have q1 : (q : Int) ≤ (m : Int) := by omega
          have lx : (m : Int) ≤ 9223372036854775807 := by have := HSM.out; omega
          have HQM := Lib.hid hq
          obtain ⟨ky, hky⟩ : ∃ k, (p0.pair (cur : Int)).1 = k := ⟨_, rfl⟩
          have hN := HW.out.next HS.out.ok HOK0.out
          rw [hky] at hN HS
          have hgx := get_nx HS.out.ok cur
          have hkx := nx_key HS.out.ok cur
          have hok2 := val_ok HS.out.ok (t'.p.nx cur)
          obtain ⟨zp, hzp⟩ : ∃ z, t'.p.pair ((t'.p.nx cur : Nat) : Int) = z := ⟨_, rfl⟩
          have HZP := Lib.hid hzp
          rw [hzp] at hN hgx hkx hok2
          obtain ⟨kk, kn, ks⟩ := ky
          obtain ⟨⟨nk, nn, ns⟩, ⟨vk, vn, vs⟩⟩ := zp
          have HN := Lib.hid hN; have HGX := Lib.hid hgx; have HKX := Lib.hid hkx
          obtain ⟨k0, k1, k2, -, -⟩ := HS.out.kc
          dsimp only at k0 k1 k2
          simp only [Nat.zero_add] at k1 k2
          clear hN hgx hkx hzp hky hok2 hq
          go_wp2_with fail
          (with_reducible refine (WS.next HS.out kk kn ks (⟨nk, nn, ns⟩, ⟨vk, vn, vs⟩) 0 HN.out.2 HN.out.1).mono ?_)
          rintro e w5 ⟨t5, rfl, hp5, hx, -⟩
          have HP5 := Lib.hid hp5
          have hb6 := ((Below.refl w5.heap.size w5).alloc (Nat.le_refl _) (.cells #[.int .i64 nk, .int .i64 nn, .string ns] 39)).alloc (by rw [World.size_alloc]; omega) (.cells #[.int .i64 vk, .int .i64 vn, .string vs] 39)
          have HNB := Lib.hid ((C3.new w5 nk nn ns).alloc (.cells #[.int .i64 vk, .int .i64 vn, .string vs] 39))
          have HVB : Hid (C3 ((w5.alloc (.cells #[.int .i64 nk, .int .i64 nn, .string ns] 39)).alloc (.cells #[.int .i64 vk, .int .i64 vn, .string vs] 39)) (w5.heap.size + 1) 0 ⟨vk, vn, vs⟩) := Lib.hid (by
            have h := C3.new (w5.alloc (.cells #[.int .i64 nk, .int .i64 nn, .string ns] 39)) vk vn vs
            rw [World.size_alloc] at h; exact h)
          have HS6 := Lib.hid (hx.hold (K' := twX w5.heap.size (w5.heap.size + 1)) hb6 (fun z hz => by
            rcases hz with rfl | rfl
            · exact ⟨HNB.out.lt, .inr (Nat.le_refl _)⟩
            · exact ⟨HVB.out.lt, .inr (by omega)⟩))
          clear hx hp5 hb6 k0 k1 k2 HS
          dsimp only
          go_wp2_with fail
          generalize ((w5.alloc (.cells #[.int .i64 nk, .int .i64 nn, .string ns] 39)).alloc (.cells #[.int .i64 vk, .int .i64 vn, .string vs] 39)) = w6 at HS6 HNB HVB ⊢
          generalize w5.heap.size + 1 = vb at HS6 HVB ⊢
          generalize w5.heap.size = nb at HS6 HNB ⊢
          have HGT : Hid (t5.get ⟨nk, nn, ns⟩ = ⟨vk, vn, vs⟩) := Lib.hid (by unfold Tbl.get; rw [HP5.out]; exact HGX.out)
          have HD6 : Hid (∀ z, twX nb vb z → w6.drew.heap[z]? = w6.heap[z]?) := Lib.hid (fun _ _ => rfl)
          have HSS : Hid (∀ w' : World, (∀ z, twX nb vb z → w'.heap[z]? = w6.heap[z]?) → (w'.cell? ⟨nb, 0, none⟩ = some (.int .i64 nk) ∧ w'.cell? ⟨nb, 1, none⟩ = some (.int .i64 nn) ∧ w'.cell? ⟨nb, 2, none⟩ = some (.string ns)) ∧ (w'.cell? ⟨vb, 0, none⟩ = some (.int .i64 vk) ∧ w'.cell? ⟨vb, 1, none⟩ = some (.int .i64 vn) ∧ w'.cell? ⟨vb, 2, none⟩ = some (.string vs))) := Lib.hid (fun w' h => by
            obtain ⟨a0, a1, a2, -, -⟩ := HNB.out.keep (h nb (.inl rfl))
            obtain ⟨b0, b1, b2, -, -⟩ := HVB.out.keep (h vb (.inr rfl))
            exact ⟨⟨a0, a1, a2⟩, ⟨b0, b1, b2⟩⟩)
          go_region_held3 (fun w' => (w'.cell? ⟨nb, 0, none⟩ = some (.int .i64 nk) ∧ w'.cell? ⟨nb, 1, none⟩ = some (.int .i64 nn) ∧ w'.cell? ⟨nb, 2, none⟩ = some (.string ns)) ∧ (w'.cell? ⟨vb, 0, none⟩ = some (.int .i64 vk) ∧ w'.cell? ⟨vb, 1, none⟩ = some (.int .i64 vn) ∧ w'.cell? ⟨vb, 2, none⟩ = some (.string vs)))
            (first | with_reducible exact HSS.out _ HD6.out | with_reducible exact HSS.out _ HK7.out | with_reducible assumption)
            (first | (go_at_call 25; (with_reducible refine (WS.get (HS6.out.below (Below.refl _ w6).drew) nk nn ns ⟨vk, vn, vs⟩ HGT.out).mono ?_); rintro e w7 ⟨t7, rfl, hp7, hx, hk7⟩; have HS7 := Lib.hid hx; have HP7 := Lib.hid hp7; have HK7 : Hid (∀ z, twX nb vb z → w7.heap[z]? = w6.heap[z]?) := Lib.hid (fun z h => (hk7 z h).trans (HD6.out z h)); clear hx hp7 hk7))
          have HNB7 := Lib.hid (HNB.out.keep (HK7.out nb (.inl rfl)))
          have HVB7 := Lib.hid (HVB.out.keep (HK7.out vb (.inr rfl)))
          have HP7' : Hid (t7.p = t'.p) := Lib.hid (HP7.out.trans HP5.out)
          clear HSS HD6 HK7 HS6 HNB HVB HP7 HP5
          obtain ⟨a0, a1, a2, -, -⟩ := HNB7.out
          obtain ⟨b0, b1, b2, -, -⟩ := HVB7.out
          dsimp only at a0 a1 a2 b0 b1 b2
          simp only [Nat.zero_add] at a1 a2 b1 b2
          have HCL : Hid (C.length = q) := Lib.hid (by
            obtain ⟨L, e, hl, -⟩ := HW.out.cm
            rw [e, List.length_map]; exact hl)
          by_cases hnk : nk = 0
          · have dk : (nk == 0) = true := by simpa using hnk
            have HF := Lib.hid (HW.out.done (HKX.out.2 hnk))
            go_wp2_with fail
            (with_reducible refine (law_all W.heap.size W.heap.size W.heap.size _ _ _ p0.prs G C (by rw [HMN0.out]; have := HSM.out; omega) (by have := HGL.out; have := HQM.out; have := HSM.out; omega) (by have := HCL.out; have := HQM.out; have := HSM.out; omega) _ HS7.out.pr HS7.out.gr HS7.out.cr HF.out.1 HF.out.2).mono ?_)
            rintro e w8 ⟨rfl, hb⟩
            have HBB := Lib.hid (HS7.out.below hb).bel
            clear hb
            go_wp2
            go_ret
            exact ⟨rfl, HBB.out⟩
          · have dk : (nk == 0) = false := by simpa using hnk
            have hst := HW.out.step HOK0.out (fun h => hnk (HKX.out.1 h))
            rw [HZP.out] at hst
            obtain ⟨s1, s2, s3, s4⟩ := hst
            have s5 : vk ≠ 0 := by
              unfold PT.full at s1
              rw [HZP.out] at s1
              exact s1
            have dv : (vk == 0) = false := by simpa using s5
            have HHB : Hid (hasB C ⟨nk, nn, ns⟩ = false) := Lib.hid (decide_eq_false s2)
            have HQL : Hid (q < m) := Lib.hid (by rw [← HMN0.out, prs_len]; exact s3)
            have HW2 := Lib.hid s4
            have HPK : Hid ((p0.pair ((t'.p.nx cur : Nat) : Int)).1 = ⟨nk, nn, ns⟩) := Lib.hid (by rw [← HW.out.key, HZP.out])
            clear s1 s2 s3 s4 s5 hnk
            generalize t'.p.nx cur = cu2 at HW2 HPK HZP HN HKX HGX
            go_wp2_with fail
            (with_reducible refine (law_has W.heap.size _ C (by have := HCL.out; have := HQM.out; have := HSM.out; omega) nk nn ns _ HS7.out.cr).mono ?_)
            rintro e w8 ⟨rfl, hb⟩
            rw [HHB.out]
            have HS8 := Lib.hid (HS7.out.below hb)
            have HNB8 := Lib.hid (HNB7.out.below hb HNB7.out.lt)
            clear hb a0 a1 a2 b0 b1 b2 HNB7 HVB7 HS7
            have HS8a := Lib.hid (HS8.out.below ((Below.refl w8.heap.size w8).alloc (Nat.le_refl _) (.cells #[.int .i64 nk, .int .i64 nn, .string ns] 39)))
            have HNB8a := Lib.hid (HNB8.out.alloc (.cells #[.int .i64 nk, .int .i64 nn, .string ns] 39))
            have HNEW := Lib.hid (three_new w8 ⟨nk, nn, ns⟩ 39)
            have HONE := Lib.hid (three_one ⟨nk, nn, ns⟩)
            have HLN : Hid (C.length + 1 ≤ maxLen ∧ (C.length + 1) * 32 ≤ 140737488355328) := Lib.hid ⟨by have := HCL.out; have := HQM.out; have := HSM.out; unfold maxLen; omega, by have := HCL.out; have := HQM.out; have := HSM.out; omega⟩
            have HLN2 : Hid (W.heap.size ≤ (w8.alloc (.cells #[.int .i64 nk, .int .i64 nn, .string ns] 39)).heap.size) := Lib.hid HS8a.out.bel.size
            obtain ⟨a0, a1, a2, -, -⟩ := HNB8.out
            dsimp only at a0 a1 a2
            simp only [Nat.zero_add] at a1 a2
            have q2 : (q : Int) < (m : Int) := by have := HQL.out; omega
            by_cases hturn : q < yl.length
            · have d5 : decide ((q : Int) < (yl.length : Int)) = true := by simp; omega
              have d6 : decide ((0 : Int) < (m : Int)) = true := by have := HQL.out; simp; omega
              have hopz : ∃ bx ox, yA = some ⟨bx, ox, none⟩ ∧ bx < W.heap.size ∧ COX W bx (ox + q * 7) (opX yl q) := by
                obtain ⟨bx, ox, e1, e2, e3⟩ := FY.out.ops (by show 0 < yl.length; omega)
                exact ⟨bx, ox, e1, e2, e3 q hturn⟩
              obtain ⟨bx, ox, rfl, hbx, hcx⟩ := hopz
              have HCO := Lib.hid hcx
              have HBX2 := Lib.hid hbx
              have hin := FY.out.in64 q
              dsimp only at hin
              obtain ⟨⟨kd, ⟨xk, xn, xs⟩, ⟨uk, un, us⟩⟩, hop⟩ : ∃ z, opX yl q = z := ⟨_, rfl⟩
              rw [hop] at HCO hin
              have HIN := Lib.hid hin
              have q4 : (q : Int) < (yl.length : Int) := by omega
              have q5 : (yl.length : Int) ≤ 9223372036854775807 := by have h1 := FY.out.le; have h2 := FY.out.mx; dsimp only at h1 h2; omega
              obtain ⟨N2, hN2, e2, e3, e4, e5⟩ := umodB xn m (Nat.lt_of_le_of_lt (Nat.zero_le _) HQL.out) HSM.out
              obtain ⟨g1, rfl, -, -⟩ := first_at HS8a.out.pr N2 (by rw [HMN0.out]; exact hN2)
              have n1 : ¬ bx = kb := by have := HS8a.out.kw; omega
              have n2' : ¬ kb = bx := fun e => n1 e.symm
              have n3 : ¬ g1 = kb := fun e => HS8a.out.d3 (by rw [← e]; rfl)
              have n4 : ¬ kb = g1 := fun e => n3 e.symm
              obtain ⟨⟨⟨pk, pn, ps⟩, pv⟩, hpf⟩ : ∃ z, prAt p0.prs N2 = z := ⟨_, rfl⟩
              have HPF := Lib.hid hpf
              clear hcx hbx hin hop hturn hpf
              have HN2 := Lib.hid hN2
              have n5 : ¬ nb = kb := HS8a.out.d4 nb (.inl rfl)
              have n6 : ¬ kb = nb := fun e => n5 e.symm
              by_cases hkd : kd = 3
              · have d7 : (kd == 3) = true := by simpa using hkd
                clear hkd
                go_wp2_with (at_builtin; refine wpList_append_own_at _ rfl (Operand.tmp 93) (Operand.tmp 95) 46 rfl W.heap.size 39 i0 (.agg #[.int .i64 0, .int .i64 0, .string ⟨#[]⟩]) 3 32 Try.underlying46 HI0.out HZ0.out HZ1.out HZ2.out rfl (by decide) _ C.length (vCells C) rfl HS8a.out.cr ⟨w8.heap.size, 0, none⟩ 1 1 (vcells ⟨nk, nn, ns⟩) rfl rfl HNEW.out HONE.out HLN.out.1 HLN.out.2 HLN2.out ?_; intro cv2 w9 hown' hgrow _ hat; have hap := HS8a.out.appC (cv' := cv2) (C' := C ++ [⟨nk, nn, ns⟩]) (vRow_of hown') hgrow hat; have HS9 := Lib.hid hap.1; have HNB9 := Lib.hid (HNB8a.out.keep (hap.2 nb (.inl rfl))); clear hap hown' hgrow hat; obtain ⟨n0, n1, n2, -, -⟩ := HNB9.out; obtain ⟨k0, k1, k2, kf, -⟩ := HS9.out.kc; dsimp only at n0 n1 n2 k0 k1 k2; simp only [Nat.zero_add] at n1 n2 k1 k2; have kf0 := kf 0; have kf1 := kf 1; have kf2 := kf 2; clear kf; obtain ⟨o0, o1, o2, o3, o4, o5, o6⟩ := HCO.out.bel HS9.out.bel HBX2.out; dsimp only at o0 o1 o2 o3 o4 o5 o6; have hc6 := first_g HS9.out.pr N2 (by rw [HMN0.out]; exact HN2.out); rw [HPF.out] at hc6; obtain ⟨f0, f1, f2, -, -, -⟩ := hc6; dsimp only at f0 f1 f2; have hbl : bx < w9.heap.size := Nat.lt_of_lt_of_le HBX2.out HS9.out.bel.size; have hkl := HS9.out.kc.lt; have hnl := HNB9.out.lt)
                have HSA := Lib.hid (HS9.out.key nk nn ns)
                have hsz : (((w9.setCell ⟨kb, 0, none⟩ (.int .i64 nk)).setCell ⟨kb, 1, none⟩ (.int .i64 nn)).setCell ⟨kb, 2, none⟩ (.string ns)).heap.size = w9.heap.size := by simp
                have hbA := (Below.refl _ (((w9.setCell ⟨kb, 0, none⟩ (.int .i64 nk)).setCell ⟨kb, 1, none⟩ (.int .i64 nn)).setCell ⟨kb, 2, none⟩ (.string ns))).alloc (Nat.le_refl _) (.cells #[.int .i64 nk, .int .i64 nn, .string ns] 39)
                have hpb := C3.new (((w9.setCell ⟨kb, 0, none⟩ (.int .i64 nk)).setCell ⟨kb, 1, none⟩ (.int .i64 nn)).setCell ⟨kb, 2, none⟩ (.string ns)) nk nn ns
                rw [hsz] at hpb
                have HPB := Lib.hid hpb
                have HSB := Lib.hid (HSA.out.1.hold (K' := onlyX w9.heap.size) hbA (fun z hz => by
                  have e : z = w9.heap.size := hz
                  rw [e]; exact ⟨hpb.lt, .inr (by rw [hsz]; exact Nat.le_refl _)⟩))
                clear hbA hpb hsz HSA n0 n1 n2 k0 k1 k2 kf0 kf1 kf2 f0 f1 f2 hbl hkl hnl o0 o1 o2 o3 o4 o5 o6
                generalize (((w9.setCell ⟨kb, 0, none⟩ (.int .i64 nk)).setCell ⟨kb, 1, none⟩ (.int .i64 nn)).setCell ⟨kb, 2, none⟩ (.string ns)).alloc (.cells #[.int .i64 nk, .int .i64 nn, .string ns] 39) = wA at HPB HSB ⊢
                generalize w9.heap.size = pb at HPB HSB ⊢
                obtain ⟨⟨rk, rn, rs⟩, hrg⟩ : ∃ v, t7.get ⟨nk, nn, ns⟩ = v := ⟨_, rfl⟩
                have HRG := Lib.hid hrg
                clear hrg
                obtain ⟨b0, b1, b2, -, -⟩ := HPB.out
                dsimp only at b0 b1 b2
                simp only [Nat.zero_add] at b1 b2
                (with_reducible refine (WS.get HSB.out nk nn ns ⟨rk, rn, rs⟩ HRG.out).mono ?_)
                rintro e wB ⟨tB, rfl, hpB, hx, hk⟩
                have HSC := Lib.hid hx
                have HPC := Lib.hid (HPB.out.keep (hk pb rfl))
                have HTB : Hid (tB.p = t'.p) := Lib.hid (hpB.trans HP7'.out)
                have HRG' : Hid ((t'.p.get ⟨nk, nn, ns⟩).k = rk) := Lib.hid (by have h := HRG.out; unfold Tbl.get at h; rw [HP7'.out] at h; rw [h])
                clear hx hk hpB b0 b1 b2
                obtain ⟨o0, o1, o2, o3, o4, o5, o6⟩ := HCO.out.bel HSC.out.bel HBX2.out
                dsimp only at o0 o1 o2 o3 o4 o5 o6
                by_cases hrk : rk = 0
                · have dr : (rk != 0) = false := by simpa using hrk
                  clear hrk
                  go_wp2_with fail
                  go_roundw
                  case rel => exact ⟨_, _, q + 1, cu2, tB, G, C ++ [⟨nk, nn, ns⟩], HQL.out, rfl, rfl, by go_num, Lib.hid (by rw [HTB.out]; exact HW2.out), Lib.hid (Nat.le_succ_of_le HGL.out), Lib.hid (by rw [HPK.out]; exact (HSC.out.hold (K' := noX) (Below.refl _ _) (fun z hz => (show False from hz).elim)).mono (by omega))⟩
                  case measure => have := HQL.out; simp [intOf]; omega
                · have dr : (rk != 0) = true := by simpa using hrk
                  obtain ⟨z, hz⟩ : ∃ z, errForm (okV ⟨uk, un, us⟩) = z := ⟨_, rfl⟩
                  have HZZ := Lib.hid hz
                  have HRK := Lib.hid hrk
                  clear hrk hz
                  go_wp2_with fail
                  (with_reducible refine (ref_Check_z uk un us z HZZ.out _).mono ?_)
                  rintro e wC ⟨rfl, hb⟩
                  have HSD := Lib.hid (HSC.out.below hb)
                  have HPD := Lib.hid (HPC.out.below hb HPC.out.lt)
                  clear hb o0 o1 o2 o3 o4 o5 o6
                  obtain ⟨o0, o1, o2, o3, o4, o5, o6⟩ := HCO.out.bel HSD.out.bel HBX2.out
                  dsimp only at o0 o1 o2 o3 o4 o5 o6
                  by_cases hu : okV ⟨uk, un, us⟩ = true
                  · obtain rfl : z = 0 := by rw [← HZZ.out, hu]; rfl
                    have HU := Lib.hid hu
                    have hset := HW2.out.set (v := ⟨uk, un, us⟩) (by rw [← HP7'.out]; exact HS9.out.ok) hu (by rw [HRG'.out]; exact HRK.out)
                    obtain ⟨z1, z2, z3, z4⟩ := hset
                    have HZ1' := Lib.hid z1; have HZ2' := Lib.hid z2; have HZ3' := Lib.hid z3; have HZ4' := Lib.hid z4
                    clear z1 z2 z3 z4 hu
                    obtain ⟨b0, b1, b2, -, -⟩ := HPD.out
                    dsimp only at b0 b1 b2
                    simp only [Nat.zero_add] at b1 b2
                    go_wp2_with fail
                    go_still_tail 7, (by kernel_rfl)
                    change wpList _ _ _ _ _ wC.drew
                    go_wp2_with fail
                    (with_reducible refine (WS.set (HSD.out.below (Below.refl _ wC).drew) (by have := HQM.out; have := HSM.out; have := HJ300.out; omega) nk nn ns uk un us HZ3'.out HZ2'.out HU.out (by rw [HTB.out]; exact HZ1'.out)).mono ?_)
                    rintro e wD ⟨tD, rfl, hpD, hx, hk⟩
                    have HSE := Lib.hid hx
                    have HPE := Lib.hid (HPD.out.keep ((hk pb rfl).trans rfl))
                    have HTD : Hid (tD.p = (t'.p.put ⟨nk, nn, ns⟩ ⟨uk, un, us⟩).1) := Lib.hid (by rw [hpD, HTB.out])
                    clear hx hk hpD b0 b1 b2 o0 o1 o2 o3 o4 o5 o6
                    obtain ⟨o0, o1, o2, o3, o4, o5, o6⟩ := HCO.out.bel HSE.out.bel HBX2.out
                    dsimp only at o0 o1 o2 o3 o4 o5 o6
                    by_cases huk : uk = 0
                    · have du : (uk == 0) = true := by simpa using huk
                      have HWN : Hid (WW p0 tD.p cu2 (q + 1) (G ++ [⟨nk, nn, ns⟩]) (C ++ [⟨nk, nn, ns⟩])) := Lib.hid (by have h := HZ4'.out; rw [if_pos (show (⟨uk, un, us⟩ : V).k = 0 from huk)] at h; rw [HTD.out]; exact h)
                      have HSEa := Lib.hid (HSE.out.below ((Below.refl wD.heap.size wD).alloc (Nat.le_refl _) (.cells #[.int .i64 nk, .int .i64 nn, .string ns] 39)))
                      have HNEW2 := Lib.hid (three_new wD ⟨nk, nn, ns⟩ 39)
                      have HONE2 := Lib.hid (three_one ⟨nk, nn, ns⟩)
                      have HLG : Hid (G.length + 1 ≤ maxLen ∧ (G.length + 1) * 32 ≤ 140737488355328) := Lib.hid ⟨by have := HGL.out; have := HQM.out; have := HSM.out; unfold maxLen; omega, by have := HGL.out; have := HQM.out; have := HSM.out; omega⟩
                      have HLG2 : Hid (W.heap.size ≤ (wD.alloc (.cells #[.int .i64 nk, .int .i64 nn, .string ns] 39)).heap.size) := Lib.hid HSEa.out.bel.size
                      obtain ⟨b0, b1, b2, -, -⟩ := HPE.out
                      dsimp only at b0 b1 b2
                      simp only [Nat.zero_add] at b1 b2
                      clear huk
                      go_wp2_with (at_builtin; refine wpList_append_own_at _ rfl (Operand.tmp 159) (Operand.tmp 161) 46 rfl W.heap.size 39 i0 (.agg #[.int .i64 0, .int .i64 0, .string ⟨#[]⟩]) 3 32 Try.underlying46 HI0.out HZ0.out HZ1.out HZ2.out rfl (by decide) _ G.length (vCells G) rfl HSEa.out.gr ⟨wD.heap.size, 0, none⟩ 1 1 (vcells ⟨nk, nn, ns⟩) rfl rfl HNEW2.out HONE2.out HLG.out.1 HLG.out.2 HLG2.out ?_; intro gv2 wE hown' hgrow _ hat; have hap := HSEa.out.appG (gv' := gv2) (G' := G ++ [⟨nk, nn, ns⟩]) (vRow_of hown') hgrow hat; have HSF := Lib.hid hap.1; clear hap hown' hgrow hat)
                      go_roundw
                      case rel => exact ⟨_, _, q + 1, cu2, tD, G ++ [⟨nk, nn, ns⟩], C ++ [⟨nk, nn, ns⟩], HQL.out, rfl, rfl, by go_num, Lib.hid (HWN.out), Lib.hid (by rw [List.length_append]; exact Nat.succ_le_succ HGL.out), Lib.hid (by rw [HPK.out]; exact (HSF.out.hold (K' := noX) (Below.refl _ _) (fun z hz => (show False from hz).elim)).mono (by omega))⟩
                      case measure => have := HQL.out; simp [intOf]; omega
                    · have du : (uk == 0) = false := by simpa using huk
                      have HWN : Hid (WW p0 tD.p cu2 (q + 1) G (C ++ [⟨nk, nn, ns⟩])) := Lib.hid (by have h := HZ4'.out; rw [if_neg (show ¬ (⟨uk, un, us⟩ : V).k = 0 from huk)] at h; rw [HTD.out]; exact h)
                      clear huk
                      go_wp2_with fail
                      go_roundw
                      case rel => exact ⟨_, _, q + 1, cu2, tD, G, C ++ [⟨nk, nn, ns⟩], HQL.out, rfl, rfl, by go_num, Lib.hid (HWN.out), Lib.hid (Nat.le_succ_of_le HGL.out), Lib.hid (by rw [HPK.out]; exact (HSE.out.hold (K' := noX) (Below.refl _ _) (fun z hz => (show False from hz).elim)).mono (by omega))⟩
                      case measure => have := HQL.out; simp [intOf]; omega
                  · obtain rfl : z = 2 := by
                      have hu' : okV ⟨uk, un, us⟩ = false := by simpa using hu
                      rw [← HZZ.out, hu']; rfl
                    clear hu
                    go_wp2_with fail
                    go_roundw
                    case rel => exact ⟨_, _, q + 1, cu2, tB, G, C ++ [⟨nk, nn, ns⟩], HQL.out, rfl, rfl, by go_num, Lib.hid (by rw [HTB.out]; exact HW2.out), Lib.hid (Nat.le_succ_of_le HGL.out), Lib.hid (by rw [HPK.out]; exact (HSD.out.hold (K' := noX) (Below.refl _ _) (fun z hz => (show False from hz).elim)).mono (by omega))⟩
                    case measure => have := HQL.out; simp [intOf]; omega
              · have d7 : (kd == 3) = false := by simpa using hkd
                clear hkd
                go_wp2_with (at_builtin; refine wpList_append_own_at _ rfl (Operand.tmp 93) (Operand.tmp 95) 46 rfl W.heap.size 39 i0 (.agg #[.int .i64 0, .int .i64 0, .string ⟨#[]⟩]) 3 32 Try.underlying46 HI0.out HZ0.out HZ1.out HZ2.out rfl (by decide) _ C.length (vCells C) rfl HS8a.out.cr ⟨w8.heap.size, 0, none⟩ 1 1 (vcells ⟨nk, nn, ns⟩) rfl rfl HNEW.out HONE.out HLN.out.1 HLN.out.2 HLN2.out ?_; intro cv2 w9 hown' hgrow _ hat; have hap := HS8a.out.appC (cv' := cv2) (C' := C ++ [⟨nk, nn, ns⟩]) (vRow_of hown') hgrow hat; have HS9 := Lib.hid hap.1; have HNB9 := Lib.hid (HNB8a.out.keep (hap.2 nb (.inl rfl))); clear hap hown' hgrow hat; obtain ⟨n0, n1, n2, -, -⟩ := HNB9.out; obtain ⟨k0, k1, k2, kf, -⟩ := HS9.out.kc; dsimp only at n0 n1 n2 k0 k1 k2; simp only [Nat.zero_add] at n1 n2 k1 k2; have kf0 := kf 0; have kf1 := kf 1; have kf2 := kf 2; clear kf; obtain ⟨o0, o1, o2, o3, o4, o5, o6⟩ := HCO.out.bel HS9.out.bel HBX2.out; dsimp only at o0 o1 o2 o3 o4 o5 o6; have hc6 := first_g HS9.out.pr N2 (by rw [HMN0.out]; exact HN2.out); rw [HPF.out] at hc6; obtain ⟨f0, f1, f2, -, -, -⟩ := hc6; dsimp only at f0 f1 f2; have hbl : bx < w9.heap.size := Nat.lt_of_lt_of_le HBX2.out HS9.out.bel.size; have hkl := HS9.out.kc.lt; have hnl := HNB9.out.lt)
                have HSA := Lib.hid (HS9.out.key nk nn ns)
                have hsz : (((w9.setCell ⟨kb, 0, none⟩ (.int .i64 nk)).setCell ⟨kb, 1, none⟩ (.int .i64 nn)).setCell ⟨kb, 2, none⟩ (.string ns)).heap.size = w9.heap.size := by simp
                have hbA := (Below.refl _ (((w9.setCell ⟨kb, 0, none⟩ (.int .i64 nk)).setCell ⟨kb, 1, none⟩ (.int .i64 nn)).setCell ⟨kb, 2, none⟩ (.string ns))).alloc (Nat.le_refl _) (.cells #[.int .i64 pk, .int .i64 pn, .string ps] 39)
                have hpb := C3.new (((w9.setCell ⟨kb, 0, none⟩ (.int .i64 nk)).setCell ⟨kb, 1, none⟩ (.int .i64 nn)).setCell ⟨kb, 2, none⟩ (.string ns)) pk pn ps
                rw [hsz] at hpb
                have HPB := Lib.hid hpb
                have HSB := Lib.hid (HSA.out.1.hold (K' := onlyX w9.heap.size) hbA (fun z hz => by
                  have e : z = w9.heap.size := hz
                  rw [e]; exact ⟨hpb.lt, .inr (by rw [hsz]; exact Nat.le_refl _)⟩))
                clear hbA hpb hsz HSA n0 n1 n2 k0 k1 k2 kf0 kf1 kf2 f0 f1 f2 hbl hkl hnl o0 o1 o2 o3 o4 o5 o6
                generalize (((w9.setCell ⟨kb, 0, none⟩ (.int .i64 nk)).setCell ⟨kb, 1, none⟩ (.int .i64 nn)).setCell ⟨kb, 2, none⟩ (.string ns)).alloc (.cells #[.int .i64 pk, .int .i64 pn, .string ps] 39) = wA at HPB HSB ⊢
                generalize w9.heap.size = pb at HPB HSB ⊢
                obtain ⟨⟨rk, rn, rs⟩, hrg⟩ : ∃ v, t7.get ⟨pk, pn, ps⟩ = v := ⟨_, rfl⟩
                have HRG := Lib.hid hrg
                clear hrg
                obtain ⟨b0, b1, b2, -, -⟩ := HPB.out
                dsimp only at b0 b1 b2
                simp only [Nat.zero_add] at b1 b2
                (with_reducible refine (WS.get HSB.out pk pn ps ⟨rk, rn, rs⟩ HRG.out).mono ?_)
                rintro e wB ⟨tB, rfl, hpB, hx, hk⟩
                have HSC := Lib.hid hx
                have HPC := Lib.hid (HPB.out.keep (hk pb rfl))
                have HTB : Hid (tB.p = t'.p) := Lib.hid (hpB.trans HP7'.out)
                have HRG' : Hid ((t'.p.get ⟨pk, pn, ps⟩).k = rk) := Lib.hid (by have h := HRG.out; unfold Tbl.get at h; rw [HP7'.out] at h; rw [h])
                clear hx hk hpB b0 b1 b2
                obtain ⟨o0, o1, o2, o3, o4, o5, o6⟩ := HCO.out.bel HSC.out.bel HBX2.out
                dsimp only at o0 o1 o2 o3 o4 o5 o6
                by_cases hrk : rk = 0
                · have dr : (rk != 0) = false := by simpa using hrk
                  clear hrk
                  go_wp2_with fail
                  go_roundw
                  case rel => exact ⟨_, _, q + 1, cu2, tB, G, C ++ [⟨nk, nn, ns⟩], HQL.out, rfl, rfl, by go_num, Lib.hid (by rw [HTB.out]; exact HW2.out), Lib.hid (Nat.le_succ_of_le HGL.out), Lib.hid (by rw [HPK.out]; exact (HSC.out.hold (K' := noX) (Below.refl _ _) (fun z hz => (show False from hz).elim)).mono (by omega))⟩
                  case measure => have := HQL.out; simp [intOf]; omega
                · have dr : (rk != 0) = true := by simpa using hrk
                  obtain ⟨z, hz⟩ : ∃ z, errForm (okV ⟨uk, un, us⟩) = z := ⟨_, rfl⟩
                  have HZZ := Lib.hid hz
                  have HRK := Lib.hid hrk
                  clear hrk hz
                  go_wp2_with fail
                  (with_reducible refine (ref_Check_z uk un us z HZZ.out _).mono ?_)
                  rintro e wC ⟨rfl, hb⟩
                  have HSD := Lib.hid (HSC.out.below hb)
                  have HPD := Lib.hid (HPC.out.below hb HPC.out.lt)
                  clear hb o0 o1 o2 o3 o4 o5 o6
                  obtain ⟨o0, o1, o2, o3, o4, o5, o6⟩ := HCO.out.bel HSD.out.bel HBX2.out
                  dsimp only at o0 o1 o2 o3 o4 o5 o6
                  by_cases hu : okV ⟨uk, un, us⟩ = true
                  · obtain rfl : z = 0 := by rw [← HZZ.out, hu]; rfl
                    have HU := Lib.hid hu
                    have hset := HW2.out.set (v := ⟨uk, un, us⟩) (by rw [← HP7'.out]; exact HS9.out.ok) hu (by rw [HRG'.out]; exact HRK.out)
                    obtain ⟨z1, z2, z3, z4⟩ := hset
                    have HZ1' := Lib.hid z1; have HZ2' := Lib.hid z2; have HZ3' := Lib.hid z3; have HZ4' := Lib.hid z4
                    clear z1 z2 z3 z4 hu
                    obtain ⟨b0, b1, b2, -, -⟩ := HPD.out
                    dsimp only at b0 b1 b2
                    simp only [Nat.zero_add] at b1 b2
                    go_wp2_with fail
                    go_still_tail 7, (by kernel_rfl)
                    change wpList _ _ _ _ _ wC.drew
                    go_wp2_with fail
                    (with_reducible refine (WS.set (HSD.out.below (Below.refl _ wC).drew) (by have := HQM.out; have := HSM.out; have := HJ300.out; omega) pk pn ps uk un us HZ3'.out HZ2'.out HU.out (by rw [HTB.out]; exact HZ1'.out)).mono ?_)
                    rintro e wD ⟨tD, rfl, hpD, hx, hk⟩
                    have HSE := Lib.hid hx
                    have HPE := Lib.hid (HPD.out.keep ((hk pb rfl).trans rfl))
                    have HTD : Hid (tD.p = (t'.p.put ⟨pk, pn, ps⟩ ⟨uk, un, us⟩).1) := Lib.hid (by rw [hpD, HTB.out])
                    clear hx hk hpD b0 b1 b2 o0 o1 o2 o3 o4 o5 o6
                    obtain ⟨o0, o1, o2, o3, o4, o5, o6⟩ := HCO.out.bel HSE.out.bel HBX2.out
                    dsimp only at o0 o1 o2 o3 o4 o5 o6
                    by_cases huk : uk = 0
                    · have du : (uk == 0) = true := by simpa using huk
                      have HWN : Hid (WW p0 tD.p cu2 (q + 1) (G ++ [⟨pk, pn, ps⟩]) (C ++ [⟨nk, nn, ns⟩])) := Lib.hid (by have h := HZ4'.out; rw [if_pos (show (⟨uk, un, us⟩ : V).k = 0 from huk)] at h; rw [HTD.out]; exact h)
                      have HSEa := Lib.hid (HSE.out.below ((Below.refl wD.heap.size wD).alloc (Nat.le_refl _) (.cells #[.int .i64 pk, .int .i64 pn, .string ps] 39)))
                      have HNEW2 := Lib.hid (three_new wD ⟨pk, pn, ps⟩ 39)
                      have HONE2 := Lib.hid (three_one ⟨pk, pn, ps⟩)
                      have HLG : Hid (G.length + 1 ≤ maxLen ∧ (G.length + 1) * 32 ≤ 140737488355328) := Lib.hid ⟨by have := HGL.out; have := HQM.out; have := HSM.out; unfold maxLen; omega, by have := HGL.out; have := HQM.out; have := HSM.out; omega⟩
                      have HLG2 : Hid (W.heap.size ≤ (wD.alloc (.cells #[.int .i64 pk, .int .i64 pn, .string ps] 39)).heap.size) := Lib.hid HSEa.out.bel.size
                      obtain ⟨b0, b1, b2, -, -⟩ := HPE.out
                      dsimp only at b0 b1 b2
                      simp only [Nat.zero_add] at b1 b2
                      clear huk
                      go_wp2_with (at_builtin; refine wpList_append_own_at _ rfl (Operand.tmp 159) (Operand.tmp 161) 46 rfl W.heap.size 39 i0 (.agg #[.int .i64 0, .int .i64 0, .string ⟨#[]⟩]) 3 32 Try.underlying46 HI0.out HZ0.out HZ1.out HZ2.out rfl (by decide) _ G.length (vCells G) rfl HSEa.out.gr ⟨wD.heap.size, 0, none⟩ 1 1 (vcells ⟨pk, pn, ps⟩) rfl rfl HNEW2.out HONE2.out HLG.out.1 HLG.out.2 HLG2.out ?_; intro gv2 wE hown' hgrow _ hat; have hap := HSEa.out.appG (gv' := gv2) (G' := G ++ [⟨pk, pn, ps⟩]) (vRow_of hown') hgrow hat; have HSF := Lib.hid hap.1; clear hap hown' hgrow hat)
                      go_roundw
                      case rel => exact ⟨_, _, q + 1, cu2, tD, G ++ [⟨pk, pn, ps⟩], C ++ [⟨nk, nn, ns⟩], HQL.out, rfl, rfl, by go_num, Lib.hid (HWN.out), Lib.hid (by rw [List.length_append]; exact Nat.succ_le_succ HGL.out), Lib.hid (by rw [HPK.out]; exact (HSF.out.hold (K' := noX) (Below.refl _ _) (fun z hz => (show False from hz).elim)).mono (by omega))⟩
                      case measure => have := HQL.out; simp [intOf]; omega
                    · have du : (uk == 0) = false := by simpa using huk
                      have HWN : Hid (WW p0 tD.p cu2 (q + 1) G (C ++ [⟨nk, nn, ns⟩])) := Lib.hid (by have h := HZ4'.out; rw [if_neg (show ¬ (⟨uk, un, us⟩ : V).k = 0 from huk)] at h; rw [HTD.out]; exact h)
                      clear huk
                      go_wp2_with fail
                      go_roundw
                      case rel => exact ⟨_, _, q + 1, cu2, tD, G, C ++ [⟨nk, nn, ns⟩], HQL.out, rfl, rfl, by go_num, Lib.hid (HWN.out), Lib.hid (Nat.le_succ_of_le HGL.out), Lib.hid (by rw [HPK.out]; exact (HSE.out.hold (K' := noX) (Below.refl _ _) (fun z hz => (show False from hz).elim)).mono (by omega))⟩
                      case measure => have := HQL.out; simp [intOf]; omega
                  · obtain rfl : z = 2 := by
                      have hu' : okV ⟨uk, un, us⟩ = false := by simpa using hu
                      rw [← HZZ.out, hu']; rfl
                    clear hu
                    go_wp2_with fail
                    go_roundw
                    case rel => exact ⟨_, _, q + 1, cu2, tB, G, C ++ [⟨nk, nn, ns⟩], HQL.out, rfl, rfl, by go_num, Lib.hid (by rw [HTB.out]; exact HW2.out), Lib.hid (Nat.le_succ_of_le HGL.out), Lib.hid (by rw [HPK.out]; exact (HSD.out.hold (K' := noX) (Below.refl _ _) (fun z hz => (show False from hz).elim)).mono (by omega))⟩
                    case measure => have := HQL.out; simp [intOf]; omega
            · have d5 : decide ((q : Int) < (yl.length : Int)) = false := by simp; omega
              go_wp2_with (at_builtin; refine wpList_append_own_at _ rfl (Operand.tmp 93) (Operand.tmp 95) 46 rfl W.heap.size 39 i0 (.agg #[.int .i64 0, .int .i64 0, .string ⟨#[]⟩]) 3 32 Try.underlying46 HI0.out HZ0.out HZ1.out HZ2.out rfl (by decide) _ C.length (vCells C) rfl HS8a.out.cr ⟨w8.heap.size, 0, none⟩ 1 1 (vcells ⟨nk, nn, ns⟩) rfl rfl HNEW.out HONE.out HLN.out.1 HLN.out.2 HLN2.out ?_; intro cv2 w9 hown' hgrow _ hat; have hap := HS8a.out.appC (cv' := cv2) (C' := C ++ [⟨nk, nn, ns⟩]) (vRow_of hown') hgrow hat; have HS9 := Lib.hid hap.1; have HNB9 := Lib.hid (HNB8a.out.keep (hap.2 nb (.inl rfl))); clear hap hown' hgrow hat; obtain ⟨n0, n1, n2, -, -⟩ := HNB9.out; obtain ⟨k0, k1, k2, kf, -⟩ := HS9.out.kc; dsimp only at n0 n1 n2 k0 k1 k2; simp only [Nat.zero_add] at n1 n2 k1 k2; have kf0 := kf 0; have kf1 := kf 1; have kf2 := kf 2; clear kf)
              go_roundw
              case rel => exact ⟨_, _, q + 1, cu2, t7, G, C ++ [⟨nk, nn, ns⟩], HQL.out, rfl, rfl, by go_num, Lib.hid (by rw [HP7'.out]; exact HW2.out), Lib.hid (Nat.le_succ_of_le HGL.out), Lib.hid (by rw [HPK.out]; exact ((HS9.out.key nk nn ns).1.hold (K' := noX) (Below.refl _ _) (fun z hz => (show False from hz).elim)).mono (by omega))⟩
              case measure => have := HQL.out; simp [intOf]; omega
end Go.Proofs.Yteheolefemlcgaa
