/- WalkLists: the walk. -/
import Derived.Test.YteheolefemlcgaaWkY
namespace Go.Proofs.Yteheolefemlcgaa
open Go.RowKit Go.Maps
set_option linter.unusedVariables false
set_option linter.unusedSimpArgs false

def triX (b c d : Nat) (q : Nat) : Prop := q = b ∨ q = c ∨ q = d
def fivX (b c d e f : Nat) (q : Nat) : Prop := q = b ∨ q = c ∨ q = d ∨ q = e ∨ q = f
theorem next_at {p : PT} (H : p.ok) (i : Nat) (h : i < p.cnt) : p.nextE (p.pair ((p.ahead i : Nat) : Int)).1 = 0 ∧ p.nextP (p.pair ((p.ahead i : Nat) : Int)).1 = p.pair ((p.at_ i : Nat) : Int) := by
  have hk : p.ahead i = 0 ∨ p.keyed (p.ahead i) := by
    unfold PT.ahead
    split
    · exact .inl rfl
    · exact .inr (keyed_full H (at_full (i - 1) (by omega)).2.2)
  obtain ⟨h1, h2⟩ := next_key H hk
  exact ⟨h1, by rw [h2, nx_at i h]⟩
theorem next_last {p : PT} (H : p.ok) : p.nextE (p.pair ((p.ahead p.cnt : Nat) : Int)).1 = 0 ∧ p.nextP (p.pair ((p.ahead p.cnt : Nat) : Int)).1 = (⟨0, 0, ⟨#[]⟩⟩, ⟨0, 0, ⟨#[]⟩⟩) := by
  have hk : p.ahead p.cnt = 0 ∨ p.keyed (p.ahead p.cnt) := by
    unfold PT.ahead
    split
    · exact .inl rfl
    · exact .inr (keyed_full H (at_full (p.cnt - 1) (by omega)).2.2)
  obtain ⟨h1, h2⟩ := next_key H hk
  exact ⟨h1, by rw [h2, nx_end]; exact pair_zero⟩
theorem ahead_zero (p : PT) : p.pair ((p.ahead 0 : Nat) : Int) = (⟨0, 0, ⟨#[]⟩⟩, ⟨0, 0, ⟨#[]⟩⟩) := by
  have : p.ahead 0 = 0 := rfl
  rw [this]; exact pair_zero
theorem ownsRow_set' {w : World} {base : Nat} {e : TypeId} {size g n cap : Nat} {xs : List Value} (h : w.ownsRow base e size (.slice (some ⟨g, 0, none⟩) n cap) n xs) (i : Nat) (hi : i < n * size) (u : Value) : (w.setCell ⟨g, i, none⟩ u).ownsRow base e size (.slice (some ⟨g, 0, none⟩) n cap) n (xs.set i u) := by
  refine ⟨by rw [List.length_set]; exact h.1, ?_⟩
  rcases h.2 with ⟨e1, -⟩ | ⟨g', cap', cur, e1, hb, hg, h3, h4, h5, h6⟩
  · simp at e1
  · simp only [Value.slice.injEq, Option.some.injEq, Addr.mk.injEq, and_true, true_and] at e1
    obtain ⟨rfl, rfl⟩ := e1
    refine .inr ⟨g, cap, cur.setIfInBounds i u, rfl, hb, ?_, h3, h4, by simpa using h5, ?_⟩
    · rw [heap_setCell_same w g i cur _ u hg]
    · rw [← h6, Array.toList_setIfInBounds, List.take_set]
/-- A pair of the row is set. -/
theorem PRow.set {base : Nat} {w : World} {g cap : Nat} {l : List (V × V)} (h : PRow base w (.slice (some ⟨g, 0, none⟩) l.length cap) l) (j : Nat) (hj : j < l.length) (x : V × V) :
    PRow base ((((((w.setCell ⟨g, j * 6, none⟩ (.int .i64 x.1.k)).setCell ⟨g, j * 6 + 1, none⟩ (.int .i64 x.1.n)).setCell ⟨g, j * 6 + 2, none⟩ (.string x.1.s)).setCell ⟨g, j * 6 + 3, none⟩ (.int .i64 x.2.k)).setCell ⟨g, j * 6 + 4, none⟩ (.int .i64 x.2.n)).setCell ⟨g, j * 6 + 5, none⟩ (.string x.2.s)) (.slice (some ⟨g, 0, none⟩) l.length cap) (l.set j x) := by
  have := ownsRow_set' (ownsRow_set' (ownsRow_set' (ownsRow_set' (ownsRow_set' (ownsRow_set' h (j * 6) (by omega) (.int .i64 x.1.k)) (j * 6 + 1) (by omega) (.int .i64 x.1.n)) (j * 6 + 2) (by omega) (.string x.1.s)) (j * 6 + 3) (by omega) (.int .i64 x.2.k)) (j * 6 + 4) (by omega) (.int .i64 x.2.n)) (j * 6 + 5) (by omega) (.string x.2.s)
  rw [pCells_set l x j hj] at this
  unfold PRow
  rw [List.length_set]
  exact this
theorem prAt_set {l : List (V × V)} {j i : Nat} (x : V × V) (h : i ≠ j) : prAt (l.set j x) i = prAt l i := by
  unfold prAt
  rw [List.getD_eq_getElem?_getD, List.getD_eq_getElem?_getD, List.getElem?_set_ne (by omega)]
theorem kp3 (w : World) (a : Nat) (v0 v1 v2 : Value) : Kp (fun q => q = a) w (((w.setCell ⟨a, 0, none⟩ v0).setCell ⟨a, 1, none⟩ v1).setCell ⟨a, 2, none⟩ v2) := (((Kp.refl (fun q => q = a) w).set ⟨a, 0, none⟩ (.inl rfl) v0).set ⟨a, 1, none⟩ (.inl rfl) v1).set ⟨a, 2, none⟩ (.inl rfl) v2
theorem kp6 (w : World) (a o : Nat) (v0 v1 v2 v3 v4 v5 : Value) : Kp (fun q => q = a) w ((((((w.setCell ⟨a, o, none⟩ v0).setCell ⟨a, o + 1, none⟩ v1).setCell ⟨a, o + 2, none⟩ v2).setCell ⟨a, o + 3, none⟩ v3).setCell ⟨a, o + 4, none⟩ v4).setCell ⟨a, o + 5, none⟩ v5) :=
  ((((((Kp.refl (fun q => q = a) w).set ⟨a, o, none⟩ (.inl rfl) v0).set ⟨a, o + 1, none⟩ (.inl rfl) v1).set ⟨a, o + 2, none⟩ (.inl rfl) v2).set ⟨a, o + 3, none⟩ (.inl rfl) v3).set ⟨a, o + 4, none⟩ (.inl rfl) v4).set ⟨a, o + 5, none⟩ (.inl rfl) v5
set_option maxRecDepth 100000 in
set_option maxHeartbeats 3200000 in
theorem rowWalkLists {vx : Value} {W : World} (x : CXX) (f : CSX W vx x) (w : World) : Calls Try.prog 10 #[vx] W fun e w' => e = .returned (.bool true) ∧ Below W.heap.size W w' := by
  have FC := Lib.hid f
  obtain rfl := f.e
  have HBX := Lib.hid (CBX.new W x)
  have HB0 := Lib.hid ((Below.refl W.heap.size W).alloc (Nat.le_refl _) (.cells #[.int .i64 x.arr, .int .i64 x.hsh, .slice x.A x.l.length x.c] 70))
  clear f
  unfold CXX.val
  have hf0 : ∀ (a b c d : Int) (W : World), (Instr.field 51 (.agg #[.int .i64 a, .int .i64 b, .int .i64 c, .int .i64 d]) 0).run Try.prog W = .ok (.int .i64 a) W := fun a b c d W => by rfl
  go_enter Try.func10, Try.ntmps10
  go_wp2_with fail
  (with_reducible refine (law10_fixed _).mono ?_)
  rintro e w1 ⟨rfl, hb⟩
  have HX1 := Lib.hid (HBX.out.below hb)
  have HB1 := Lib.hid (below_step HB0.out hb)
  clear hb
  obtain ⟨p0, p1, p2, -⟩ := HX1.out
  go_wp2_with fail
  (with_reducible refine (law10_begin x.arr x.hsh x.A x.l.length x.c W _ (onlyX W.heap.size) (fun q hq => by have := HX1.out.lt; unfold onlyX at hq; omega) HB1.out).mono ?_)
  rintro e w2 ⟨N, M, hp, a, Q, -, rfl, hm, hk⟩
  have HM := Lib.hid hm
  have HX2 := Lib.hid (HX1.out.keep (hk _ rfl))
  clear hm hk p0 p1 p2
  generalize newT (HS.new 400000) N M = t0 at HM
  generalize newH (HS.new 400000) N M = hs0 at HM
  go_wp2_with fail
  go_loopw [6] (fun i wr => ∃ (j : Nat) (t : Tbl) (hs : HS), j ≤ x.l.length ∧ j ≤ 300 ∧ i = .int .i64 j ∧ Hid (BS W (onlyX W.heap.size) hp a t hs (3 + 2 * j) wr) ∧ Hid (CBX wr W.heap.size x)) (fun i _ => x.l.length - (intOf i).toNat)
  case atStart => exact ⟨0, t0, hs0, Nat.zero_le _, Nat.zero_le _, rfl, HM, HX2⟩
  case round =>
    clear HM HX2 HBX HB0 HX1 HB1
    obtain ⟨j, t, hs, hj, hj3, rfl, HM, HX⟩ := hrel
    obtain ⟨p0, p1, p2, -⟩ := HX.out
    by_cases hc : j < x.l.length ∧ j < 300
    · obtain ⟨h1, h2⟩ := hc
      have d1 : decide ((j : Int) < (x.l.length : Int)) = true := by simp; omega
      have j1 : (j : Int) < (x.l.length : Int) := by omega
      have lx : (x.l.length : Int) ≤ 9223372036854775807 := by have := FC.out.le; have := FC.out.mx; omega
      have d2 : decide ((j : Int) < 300) = true := by simp; omega
      have j3 : (j : Int) < 300 := by omega
      obtain ⟨bx, ox, eA, hbx, hcx⟩ := FC.out.ops (by omega)
      rw [eA] at p2
      have HEA := Lib.hid eA
      clear eA
      have HCX := Lib.hid (hcx j h1)
      have HIX := Lib.hid (FC.out.in64 j)
      clear hcx
      generalize opX x.l j = z at HCX HIX
      obtain ⟨kd, ⟨kk, kn, kst⟩, ⟨vk, vn, vst⟩⟩ := z
      have HIX : Hid (In64 kn) := Lib.hid (by have h := HIX.out; unfold OX.ok In64V at h; exact h.2.1.2)
      have HJ := Lib.hid h2
      obtain ⟨c0, c1, c2, c3, c4, c5, c6⟩ := HCX.out.bel HM.out.bel hbx
      dsimp only at c0 c1 c2 c3 c4 c5 c6
      go_wp2_with fail
      go_still_tail 13, (by kernel_rfl)
      change wpList _ _ _ _ _ wr.drew
      go_wp2_with fail
      (with_reducible refine ((HM.out.below (Below.refl _ wr).drew).set (by have := HJ.out; omega) kk kn kst vk vn vst HIX.out).mono ?_)
      rintro e w5 ⟨rfl, hx, hk⟩
      have HX5 := Lib.hid ((HX.out.below (Below.refl _ wr).drew).keep (hk _ rfl))
      have HM5 := Lib.hid hx
      clear hx hk c0 c1 c2 c3 c4 c5 c6 p0 p1 p2 HM HX
      generalize t.set hs ⟨kk, kn, kst⟩ ⟨vk, vn, vst⟩ = r5 at HM5
      obtain ⟨t5, hs5, er⟩ := r5
      dsimp only at HM5
      go_wp2_with fail
      go_roundw
      case rel => exact ⟨j + 1, t5, hs5, by omega, by omega, by go_num, Lib.hid (HM5.out.mono (by omega)), HX5⟩
      case measure => simp [intOf]; omega
    · by_cases h1 : j < x.l.length
      have d1 : decide ((j : Int) < (x.l.length : Int)) = true := by simp; omega
      have d2 : decide ((j : Int) < 300) = false := by simp; omega
      rotate_left
      have d1 : decide ((j : Int) < (x.l.length : Int)) = false := by simp; omega
      rotate_left
      all_goals
        clear hc
        go_wp2_with fail
        (with_reducible refine (BS.list HM.out _ rfl).mono ?_)
        rintro e w3 ⟨v1, rfl, hr, hb⟩
        have HR1 := Lib.hid hr
        have HM3 := Lib.hid (HM.out.reserve (S' := fun q => v1.ownBlock = some q) hb (fun q hq => ⟨(hr.lt q hq).2, .inr (hr.lt q hq).1⟩))
        clear hb hr p0 p1 p2 HX h1
        have HWB := Lib.hid HM.out.bel.size
        obtain ⟨B1, hB1⟩ : ∃ B, wr.heap.size = B := ⟨_, rfl⟩
        rw [hB1] at HWB
        rw [hB1] at HR1
        clear hB1 HM
        go_wp2_with fail
        (with_reducible refine (BS.list HM3.out _ rfl).mono ?_)
        rintro e w4 ⟨v2, rfl, hr, hb⟩
        have HR2 := Lib.hid hr
        have HR1' := Lib.hid (HR1.out.keep (fun q hq => hb.block q (HR1.out.lt q hq).2))
        have HM4 := Lib.hid (HM3.out.reserve (S' := fun q => v1.ownBlock = some q ∨ v2.ownBlock = some q) hb (fun q hq => by
          rcases hq with h | h
          · exact ⟨Nat.lt_of_lt_of_le (HR1.out.lt q h).2 hb.size, .inl h⟩
          · exact ⟨(hr.lt q h).2, .inr (hr.lt q h).1⟩))
        have HDJ : Hid (∀ q, v1.ownBlock = some q → v2.ownBlock = some q → False) := Lib.hid (fun q h1 h2 => by have := (HR1.out.lt q h1).2; have := (hr.lt q h2).1; omega)
        have hc1 := HR1'.out.cases
        have hc2 := hr.cases
        have hb5 := (Below.refl w4.heap.size w4).alloc (Nat.le_refl _) (.cells #[.int .i64 0, .int .i64 0, .string ⟨#[]⟩] 39)
        have HB5 := Lib.hid hb5
        have HKB := Lib.hid (C3.new w4 0 0 ⟨#[]⟩)
        clear hb hr HM3 HR1 hb5
        have HOK := Lib.hid HM4.out.ok
        by_cases hl : t.p.prs = []
        · obtain ⟨A1, c1', rfl⟩ := HR1'.out.slice
          obtain ⟨A2, c2', rfl⟩ := HR2.out.slice
          rw [show t.p.prs.length = 0 by rw [hl]; rfl]
          have HCN : Hid (t.p.cnt = 0) := Lib.hid (by rw [← prs_len, hl]; rfl)
          have HNE : Hid (t.p.nextE ⟨0, 0, ⟨#[]⟩⟩ = 0 ∧ t.p.nextP ⟨0, 0, ⟨#[]⟩⟩ = (⟨0, 0, ⟨#[]⟩⟩, ⟨0, 0, ⟨#[]⟩⟩)) := Lib.hid (by
            have h := next_last HOK.out
            rw [HCN.out, ahead_zero] at h
            exact h)
          have HM5 : Hid (BS W (onlyX w4.heap.size) hp a t hs (3 + 2 * j) (w4.alloc (.cells #[.int .i64 0, .int .i64 0, .string ⟨#[]⟩] 39))) := Lib.hid (HM4.out.reserve HB5.out (fun q hq => by unfold onlyX at hq; rw [hq]; exact ⟨HKB.out.lt, .inr (Nat.le_refl _)⟩))
          clear hl hc1 hc2 HR2 HR1' HDJ HM4
          go_wp2_with fail
          generalize w4.alloc (.cells #[.int .i64 0, .int .i64 0, .string ⟨#[]⟩] 39) = w5 at HM5 HKB ⊢
          generalize w4.heap.size = kb at HM5 HKB ⊢
          clear HB5
          go_loopw [10] (fun i wr => i = .int .i64 0 ∧ w5 = wr) (fun _ _ => 0)
          case atStart => exact ⟨rfl, rfl⟩
          case round =>
            obtain ⟨rfl, rfl⟩ := hrel
            obtain ⟨k0, k1, k2, -, -⟩ := HKB.out
            dsimp only at k0 k1 k2
            simp only [Nat.zero_add] at k1 k2
            go_wp2_with fail
            (with_reducible refine (BS.next HM5.out 0 0 ⟨#[]⟩ (⟨0, 0, ⟨#[]⟩⟩, ⟨0, 0, ⟨#[]⟩⟩) 0 HNE.out.2 HNE.out.1).mono ?_)
            rintro e wz ⟨tz, ⟨rfl, -⟩, -, hx, -⟩
            have HMZ := Lib.hid ((hx.below ((Below.refl _ wz).alloc (Nat.le_refl _) (.cells #[.int .i64 0, .int .i64 0, .string ⟨#[]⟩] 39))).below ((Below.refl _ _).alloc (Nat.le_refl _) (.cells #[.int .i64 0, .int .i64 0, .string ⟨#[]⟩] 39)))
            clear hx k0 k1 k2
            dsimp only
            go_wp2
            go_ret
            exact ⟨rfl, HMZ.out.bel⟩
        · obtain ⟨g1, cap1, rfl, hcap1, hbg1, hgl1⟩ := hc1.resolve_left (fun h => hl h.1)
          obtain ⟨g2, cap2, rfl, hcap2, hbg2, hgl2⟩ := hc2.resolve_left (fun h => hl h.1)
          obtain ⟨m, hm⟩ : ∃ m, t.p.cnt = m := ⟨_, rfl⟩
          rw [prs_len, hm]
          have HMN := Lib.hid hm
          have HSM : Hid (m ≤ 131072) := Lib.hid (by
            have h1 := pos_len t.p 0 t.p.tot
            have h2 := HOK.out.sz
            have h3 := HOK.out.hg.sz
            have h4 : t.p.tot = t.p.sn + t.p.h.n := rfl
            unfold PT.cnt at hm
            omega)
          have HG12 : Hid (g1 ≠ g2) := Lib.hid (fun e => HDJ.out g1 rfl (by rw [e]; rfl))
          have HM5 : Hid (BS W (triX w4.heap.size g1 g2) hp a t hs (3 + 2 * j) (w4.alloc (.cells #[.int .i64 0, .int .i64 0, .string ⟨#[]⟩] 39))) := Lib.hid (HM4.out.reserve HB5.out (fun q hq => by
            rcases hq with rfl | rfl | rfl
            · exact ⟨HKB.out.lt, .inr (Nat.le_refl _)⟩
            · exact ⟨Nat.lt_of_lt_of_le hgl1 HB5.out.size, .inl (.inl rfl)⟩
            · exact ⟨Nat.lt_of_lt_of_le hgl2 HB5.out.size, .inl (.inr rfl)⟩))
          have HRA : Hid (PRow B1 (w4.alloc (.cells #[.int .i64 0, .int .i64 0, .string ⟨#[]⟩] 39)) (.slice (some ⟨g1, 0, none⟩) m cap1) t.p.prs) := Lib.hid (by
            have h := HR1'.out.keep (fun q hq => HB5.out.block q (HR1'.out.lt q hq).2)
            rw [prs_len, hm] at h; exact h)
          have HRB : Hid (PRow w3.heap.size (w4.alloc (.cells #[.int .i64 0, .int .i64 0, .string ⟨#[]⟩] 39)) (.slice (some ⟨g2, 0, none⟩) m cap2) t.p.prs) := Lib.hid (by
            have h := HR2.out.keep (fun q hq => HB5.out.block q (HR2.out.lt q hq).2)
            rw [prs_len, hm] at h; exact h)
          have HKG : Hid (g1 < w4.heap.size ∧ g2 < w4.heap.size) := Lib.hid ⟨hgl1, hgl2⟩
          have HWG : Hid (W.heap.size ≤ g1 ∧ W.heap.size ≤ w4.heap.size) := Lib.hid ⟨Nat.le_trans HWB.out hbg1, HM4.out.bel.size⟩
          clear hcap1 hbg1 hgl1 hcap2 hbg2 hgl2 hm hc1 hc2 HR1' HR2 HDJ HM4
          go_wp2_with fail
          have HKN : Hid (w4.heap.size ≠ g1 ∧ w4.heap.size ≠ g2) := Lib.hid ⟨by have := HKG.out.1; omega, by have := HKG.out.2; omega⟩
          generalize w4.alloc (.cells #[.int .i64 0, .int .i64 0, .string ⟨#[]⟩] 39) = w5 at HM5 HKB HRA HRB ⊢
          generalize w4.heap.size = kb at HM5 HKB HKN HWG ⊢
          obtain ⟨B2, hB2⟩ : ∃ B, w3.heap.size = B := ⟨_, rfl⟩
          rw [hB2] at HRB
          clear HB5 hB2 HKG HWB
          go_loopw [10] (fun i wr => ∃ (k : Nat) (t' : Tbl) (L : List (V × V)), k ≤ m ∧ i = .int .i64 k ∧ Hid (t'.p = t.p) ∧ Hid (L.length = m ∧ ∀ i, k ≤ i → prAt L i = prAt t.p.prs i) ∧ Hid (BS W (triX kb g1 g2) hp a t' hs (3 + 2 * j) wr) ∧ Hid (C3 wr kb 0 (t.p.pair ((t.p.ahead k : Nat) : Int)).1) ∧ Hid (PRow B1 wr (.slice (some ⟨g1, 0, none⟩) m cap1) L) ∧ Hid (PRow B2 wr (.slice (some ⟨g2, 0, none⟩) m cap2) t.p.prs)) (fun i _ => m - (intOf i).toNat)
          case atStart => exact ⟨0, t, t.p.prs, Nat.zero_le _, rfl, Lib.hid rfl, Lib.hid ⟨by rw [prs_len]; exact HMN.out, fun _ _ => rfl⟩, HM5, Lib.hid (by rw [ahead_zero]; exact HKB.out), HRA, HRB⟩
          case round =>
            clear HM5 HKB HRA HRB
            obtain ⟨k, t', L, hk, rfl, HP, HL, HM5, HKB, HRA, HRB⟩ := hrel
            by_cases hlt : k < m
            · have d1 : decide ((k : Int) < (m : Int)) = true := by simp; omega
              have j1 : (k : Int) < (m : Int) := by omega
              have lx : (m : Int) ≤ 9223372036854775807 := by have := HSM.out; omega
              have HLT := Lib.hid hlt
              have hnx := next_at HOK.out k (by rw [HMN.out]; exact hlt)
              have hfu := at_full k (by rw [HMN.out]; exact hlt)
              have hgf := get_full HOK.out hfu.2.2
              have hpa := prs_at (p := t.p) k (by rw [HMN.out]; exact hlt)
              have has := ahead_succ (p := t.p) k
              obtain ⟨ky, hky⟩ : ∃ q, (t.p.pair ((t.p.ahead k : Nat) : Int)).1 = q := ⟨_, rfl⟩
              obtain ⟨q, hq⟩ : ∃ q, t.p.pair ((t.p.at_ k : Nat) : Int) = q := ⟨_, rfl⟩
              obtain ⟨kk, kn, ks⟩ := ky
              obtain ⟨⟨ak, an, az⟩, ⟨bk, bn, bs⟩⟩ := q
              rw [hky] at hnx HKB
              rw [hq] at hnx hgf hpa
              have HNX := Lib.hid hnx
              have HGF : Hid (t.p.get ⟨ak, an, az⟩ = ⟨bk, bn, bs⟩) := Lib.hid hgf
              have HAS : Hid ((t.p.pair ((t.p.ahead (k + 1) : Nat) : Int)).1 = ⟨ak, an, az⟩) := Lib.hid (by rw [has, hq])
              have HCA : Hid (C6 wr g1 (k * 6) (⟨ak, an, az⟩, ⟨bk, bn, bs⟩)) := Lib.hid (by
                obtain ⟨g', cap', e, -, -, -, -, h⟩ := HRA.out.at_ (by rw [HL.out.1]; omega)
                simp only [Value.slice.injEq, Option.some.injEq, Addr.mk.injEq, and_true, true_and] at e
                have h2 := h k (by rw [HL.out.1]; exact hlt)
                rw [HL.out.2 k (Nat.le_refl _), show prAt t.p.prs k = _ from hpa] at h2
                rw [e.1]; exact h2)
              have HCB : Hid (C6 wr g2 (k * 6) (⟨ak, an, az⟩, ⟨bk, bn, bs⟩)) := Lib.hid (by
                obtain ⟨g', cap', e, -, -, -, -, h⟩ := HRB.out.at_ (by rw [prs_len, HMN.out]; omega)
                simp only [Value.slice.injEq, Option.some.injEq, Addr.mk.injEq, and_true, true_and] at e
                have h2 := h k (by rw [prs_len, HMN.out]; exact hlt)
                rw [show prAt t.p.prs k = _ from hpa] at h2
                rw [e.1]; exact h2)
              obtain ⟨k0, k1, k2, -, -⟩ := HKB.out
              dsimp only at k0 k1 k2
              simp only [Nat.zero_add] at k1 k2
              clear hnx hfu hgf hpa has hky hq hlt hk
              go_wp2_with fail
              (with_reducible refine (BS.next HM5.out kk kn ks (⟨ak, an, az⟩, ⟨bk, bn, bs⟩) 0 (by rw [HP.out]; exact HNX.out.2) (by rw [HP.out]; exact HNX.out.1)).mono ?_)
              rintro e w6 ⟨t6, ⟨rfl, -⟩, hp6, hx, hkk⟩
              have HM6 := Lib.hid hx
              have HP6 : Hid (t6.p = t.p) := Lib.hid (hp6.trans HP.out)
              have HKB6 := Lib.hid (HKB.out.keep (hkk _ (.inl rfl)))
              have HCA6 := Lib.hid (HCA.out.keep (hkk _ (.inr (.inl rfl))))
              have HCB6 := Lib.hid (HCB.out.keep (hkk _ (.inr (.inr rfl))))
              have HRA6 := Lib.hid (HRA.out.keep (fun q hq => hkk q (.inr (.inl (by simpa [Value.ownBlock] using hq.symm)))))
              have HRB6 := Lib.hid (HRB.out.keep (fun q hq => hkk q (.inr (.inr (by simpa [Value.ownBlock] using hq.symm)))))
              have hb7 := ((Below.refl w6.heap.size w6).alloc (Nat.le_refl _) (.cells #[.int .i64 ak, .int .i64 an, .string az] 39)).alloc (by rw [World.size_alloc]; omega) (.cells #[.int .i64 bk, .int .i64 bn, .string bs] 39)
              have HB7 := Lib.hid hb7
              have HAB := Lib.hid ((C3.new w6 ak an az).alloc (.cells #[.int .i64 bk, .int .i64 bn, .string bs] 39))
              have HBB : Hid (C3 ((w6.alloc (.cells #[.int .i64 ak, .int .i64 an, .string az] 39)).alloc (.cells #[.int .i64 bk, .int .i64 bn, .string bs] 39)) (w6.heap.size + 1) 0 ⟨bk, bn, bs⟩) := Lib.hid (by
                have h := C3.new (w6.alloc (.cells #[.int .i64 ak, .int .i64 an, .string az] 39)) bk bn bs
                rw [World.size_alloc] at h; exact h)
              have HM7 : Hid (BS W (fivX kb g1 g2 w6.heap.size (w6.heap.size + 1)) hp a t6 hs (3 + 2 * j) ((w6.alloc (.cells #[.int .i64 ak, .int .i64 an, .string az] 39)).alloc (.cells #[.int .i64 bk, .int .i64 bn, .string bs] 39))) := Lib.hid (HM6.out.reserve HB7.out (fun q hq => by
                rcases hq with rfl | rfl | rfl | rfl | rfl
                · exact ⟨Nat.lt_of_lt_of_le (HM6.out.keepS _ (.inl rfl)) HB7.out.size, .inl (.inl rfl)⟩
                · exact ⟨Nat.lt_of_lt_of_le (HM6.out.keepS _ (.inr (.inl rfl))) HB7.out.size, .inl (.inr (.inl rfl))⟩
                · exact ⟨Nat.lt_of_lt_of_le (HM6.out.keepS _ (.inr (.inr rfl))) HB7.out.size, .inl (.inr (.inr rfl))⟩
                · exact ⟨HAB.out.lt, .inr (Nat.le_refl _)⟩
                · exact ⟨HBB.out.lt, .inr (by omega)⟩))
              have HKB7 := Lib.hid (HKB6.out.below HB7.out HKB6.out.lt)
              have HCA7 := Lib.hid (HCA6.out.keep (HB7.out.block _ (lt_cell HCA6.out.c0)))
              have HCB7 := Lib.hid (HCB6.out.keep (HB7.out.block _ (lt_cell HCB6.out.c0)))
              have HRA7 := Lib.hid (HRA6.out.keep (fun q hq => HB7.out.block q (HRA6.out.lt q hq).2))
              have HRB7 := Lib.hid (HRB6.out.keep (fun q hq => HB7.out.block q (HRB6.out.lt q hq).2))
              clear hx hp6 hkk hb7 k0 k1 k2 HM6 HKB6 HCA6 HCB6 HRA6 HRB6 HM5 HKB HCA HCB HRA HRB
              dsimp only
              go_wp2_with fail
              generalize ((w6.alloc (.cells #[.int .i64 ak, .int .i64 an, .string az] 39)).alloc (.cells #[.int .i64 bk, .int .i64 bn, .string bs] 39)) = w7 at HM7 HAB HBB HKB7 HCA7 HCB7 HRA7 HRB7 ⊢
              generalize w6.heap.size + 1 = bb at HM7 HBB ⊢
              generalize w6.heap.size = ab at HM7 HAB ⊢
              clear HB7
              have HD7 : Hid (∀ q, fivX kb g1 g2 ab bb q → w7.drew.heap[q]? = w7.heap[q]?) := Lib.hid (fun _ _ => rfl)
              have HGT : Hid (t6.get ⟨ak, an, az⟩ = ⟨bk, bn, bs⟩) := Lib.hid (by unfold Tbl.get; rw [HP6.out]; exact HGF.out)
              have HSS : Hid (∀ w' : World, (∀ q, fivX kb g1 g2 ab bb q → w'.heap[q]? = w7.heap[q]?) → (w'.cell? ⟨ab, 0, none⟩ = some (.int .i64 ak) ∧ w'.cell? ⟨ab, 1, none⟩ = some (.int .i64 an) ∧ w'.cell? ⟨ab, 2, none⟩ = some (.string az)) ∧ (w'.cell? ⟨bb, 0, none⟩ = some (.int .i64 bk) ∧ w'.cell? ⟨bb, 1, none⟩ = some (.int .i64 bn) ∧ w'.cell? ⟨bb, 2, none⟩ = some (.string bs)) ∧ (w'.cell? ⟨g1, k * 6, none⟩ = some (.int .i64 ak) ∧ w'.cell? ⟨g1, k * 6 + 1, none⟩ = some (.int .i64 an) ∧ w'.cell? ⟨g1, k * 6 + 2, none⟩ = some (.string az) ∧ w'.cell? ⟨g1, k * 6 + 3, none⟩ = some (.int .i64 bk) ∧ w'.cell? ⟨g1, k * 6 + 4, none⟩ = some (.int .i64 bn) ∧ w'.cell? ⟨g1, k * 6 + 5, none⟩ = some (.string bs)) ∧ (w'.cell? ⟨g2, k * 6, none⟩ = some (.int .i64 ak) ∧ w'.cell? ⟨g2, k * 6 + 1, none⟩ = some (.int .i64 an) ∧ w'.cell? ⟨g2, k * 6 + 2, none⟩ = some (.string az) ∧ w'.cell? ⟨g2, k * 6 + 3, none⟩ = some (.int .i64 bk) ∧ w'.cell? ⟨g2, k * 6 + 4, none⟩ = some (.int .i64 bn) ∧ w'.cell? ⟨g2, k * 6 + 5, none⟩ = some (.string bs))) := Lib.hid (fun w' h => by
                obtain ⟨a0, a1, a2, -, -⟩ := HAB.out.keep (h ab (.inr (.inr (.inr (.inl rfl)))))
                obtain ⟨b0, b1, b2, -, -⟩ := HBB.out.keep (h bb (.inr (.inr (.inr (.inr rfl)))))
                obtain ⟨c0, c1, c2, c3, c4, c5⟩ := HCA7.out.keep (h g1 (.inr (.inl rfl)))
                obtain ⟨e0, e1, e2, e3, e4, e5⟩ := HCB7.out.keep (h g2 (.inr (.inr (.inl rfl))))
                exact ⟨⟨a0, a1, a2⟩, ⟨b0, b1, b2⟩, ⟨c0, c1, c2, c3, c4, c5⟩, ⟨e0, e1, e2, e3, e4, e5⟩⟩)
              go_region_held3 (fun w' => (w'.cell? ⟨ab, 0, none⟩ = some (.int .i64 ak) ∧ w'.cell? ⟨ab, 1, none⟩ = some (.int .i64 an) ∧ w'.cell? ⟨ab, 2, none⟩ = some (.string az)) ∧ (w'.cell? ⟨bb, 0, none⟩ = some (.int .i64 bk) ∧ w'.cell? ⟨bb, 1, none⟩ = some (.int .i64 bn) ∧ w'.cell? ⟨bb, 2, none⟩ = some (.string bs)) ∧ (w'.cell? ⟨g1, k * 6, none⟩ = some (.int .i64 ak) ∧ w'.cell? ⟨g1, k * 6 + 1, none⟩ = some (.int .i64 an) ∧ w'.cell? ⟨g1, k * 6 + 2, none⟩ = some (.string az) ∧ w'.cell? ⟨g1, k * 6 + 3, none⟩ = some (.int .i64 bk) ∧ w'.cell? ⟨g1, k * 6 + 4, none⟩ = some (.int .i64 bn) ∧ w'.cell? ⟨g1, k * 6 + 5, none⟩ = some (.string bs)) ∧ (w'.cell? ⟨g2, k * 6, none⟩ = some (.int .i64 ak) ∧ w'.cell? ⟨g2, k * 6 + 1, none⟩ = some (.int .i64 an) ∧ w'.cell? ⟨g2, k * 6 + 2, none⟩ = some (.string az) ∧ w'.cell? ⟨g2, k * 6 + 3, none⟩ = some (.int .i64 bk) ∧ w'.cell? ⟨g2, k * 6 + 4, none⟩ = some (.int .i64 bn) ∧ w'.cell? ⟨g2, k * 6 + 5, none⟩ = some (.string bs)))
                (first | with_reducible exact HSS.out _ HD7.out | with_reducible exact HSS.out _ HKP8.out | with_reducible assumption)
                (first | (go_at_call 25; (with_reducible refine (BS.get (HM7.out.below (Below.refl _ w7).drew) ak an az ⟨bk, bn, bs⟩ HGT.out).mono ?_); rintro e w8 ⟨t8, ⟨rfl, -⟩, hp8, hx, hk8⟩; have HM8 := Lib.hid hx; have HP8 := Lib.hid hp8; have HKP8 : Hid (∀ q, fivX kb g1 g2 ab bb q → w8.heap[q]? = w7.heap[q]?) := Lib.hid (fun q h => (hk8 q h).trans (HD7.out q h)); clear hx hp8 hk8))
              have HKB8 := Lib.hid (HKB7.out.keep (HKP8.out kb (.inl rfl)))
              have HAB8 := Lib.hid (HAB.out.keep (HKP8.out ab (.inr (.inr (.inr (.inl rfl))))))
              have HRA8 := Lib.hid (HRA7.out.keep (fun q hq => HKP8.out q (.inr (.inl (by simpa [Value.ownBlock] using hq.symm)))))
              have HRB8 := Lib.hid (HRB7.out.keep (fun q hq => HKP8.out q (.inr (.inr (.inl (by simpa [Value.ownBlock] using hq.symm))))))
              have HP8' : Hid (t8.p = t.p) := Lib.hid (HP8.out.trans HP6.out)
              obtain ⟨a0, a1, a2, -, -⟩ := HAB8.out
              obtain ⟨k0, k1, k2, kf, -⟩ := HKB8.out
              dsimp only at a0 a1 a2 k0 k1 k2
              simp only [Nat.zero_add] at a1 a2 k1 k2
              have kf0 := kf 0; have kf1 := kf 1; have kf2 := kf 2
              have HKO := Lib.hid (HKB8.out.over ak an az)
              have HKK := Lib.hid (kp3 w8 kb (.int .i64 ak) (.int .i64 an) (.string az))
              clear kf HSS HD7 HKP8 HM7 HAB HBB HKB7 HCA7 HCB7 HRA7 HRB7 HP8
              go_wp2_with fail
              (with_reducible refine (ref3_S _ _).mono ?_)
              rintro e w9 ⟨rfl, hb⟩
              have HM9 := Lib.hid ((HM8.out.kpS HKK.out (fun q hq => ⟨.inl hq, by rw [hq]; exact HWG.out.2⟩)).below hb)
              have HKB9 := Lib.hid (HKO.out.below hb HKO.out.lt)
              have HRA9 := Lib.hid (HRA8.out.keep (fun q hq => (hb.block q (Nat.lt_of_lt_of_le (HRA8.out.lt q hq).2 HKK.out.size)).trans (HKK.out.block q (HRA8.out.lt q hq).2 (fun e => by
                have e2 : g1 = q := by simpa [Value.ownBlock] using hq
                exact HKN.out.1 (by rw [e2, e])))))
              have HRB9 := Lib.hid (HRB8.out.keep (fun q hq => (hb.block q (Nat.lt_of_lt_of_le (HRB8.out.lt q hq).2 HKK.out.size)).trans (HKK.out.block q (HRB8.out.lt q hq).2 (fun e => by
                have e2 : g2 = q := by simpa [Value.ownBlock] using hq
                exact HKN.out.2 (by rw [e2, e])))))
              clear hb a0 a1 a2 k0 k1 k2 kf0 kf1 kf2 HM8 HKB8 HAB8 HRA8 HRB8 HKO HKK
              obtain ⟨zz, hzz⟩ : ∃ z, prAt L k = z := ⟨_, rfl⟩
              have hat := HRA9.out.at_ (by rw [HL.out.1]; have := HLT.out; omega)
              obtain ⟨g', cap', e, -, -, -, hfr, hcc⟩ := hat
              simp only [Value.slice.injEq, Option.some.injEq, Addr.mk.injEq, and_true, true_and] at e
              rw [← e.1] at hfr hcc
              have hcc := hcc k (by rw [HL.out.1]; exact HLT.out)
              rw [hzz] at hcc
              obtain ⟨⟨zk, zn, zs⟩, ⟨yk, yn, ys⟩⟩ := zz
              obtain ⟨c0, c1, c2, c3, c4, c5⟩ := hcc
              dsimp only at c0 c1 c2 c3 c4 c5
              have f0 := hfr (k * 6); have f1 := hfr (k * 6 + 1); have f2 := hfr (k * 6 + 2); have f3 := hfr (k * 6 + 3); have f4 := hfr (k * 6 + 4); have f5 := hfr (k * 6 + 5)
              have d1 : decide ((k : Int) < (m : Int)) = true := by have := HLT.out; simp; omega
              have j1 : (k : Int) < (m : Int) := by have := HLT.out; omega
              have lx : (m : Int) ≤ 9223372036854775807 := by have := HSM.out; omega
              have hset : PRow B1 ((((((w9.setCell ⟨g1, k * 6, none⟩ (.int .i64 3)).setCell ⟨g1, k * 6 + 1, none⟩ (.int .i64 0)).setCell ⟨g1, k * 6 + 2, none⟩ (.string { data := #[33] })).setCell ⟨g1, k * 6 + 3, none⟩ (.int .i64 0)).setCell ⟨g1, k * 6 + 4, none⟩ (.int .i64 0)).setCell ⟨g1, k * 6 + 5, none⟩ (.string { data := #[] })) (.slice (some ⟨g1, 0, none⟩) m cap1) (L.set k (⟨3, 0, { data := #[33] }⟩, ⟨0, 0, { data := #[] }⟩)) := by
                have h := HRA9.out
                have h2 : PRow B1 w9 (.slice (some ⟨g1, 0, none⟩) L.length cap1) L := by rw [HL.out.1]; exact h
                have h3 := h2.set k (by rw [HL.out.1]; exact HLT.out) (⟨3, 0, { data := #[33] }⟩, ⟨0, 0, { data := #[] }⟩)
                rw [HL.out.1] at h3
                exact h3
              have HST := Lib.hid hset
              have HK6 := Lib.hid (kp6 w9 g1 (k * 6) (.int .i64 3) (.int .i64 0) (.string { data := #[33] }) (.int .i64 0) (.int .i64 0) (.string { data := #[] }))
              clear hset hfr e hzz
              go_wp2_with fail
              go_roundw
              case rel =>
                refine ⟨k + 1, t8, L.set k (⟨3, 0, { data := #[33] }⟩, ⟨0, 0, { data := #[] }⟩), HLT.out, by go_num, HP8', Lib.hid ⟨by rw [List.length_set]; exact HL.out.1, fun i hi => by rw [prAt_set _ (by omega)]; exact HL.out.2 i (by omega)⟩, Lib.hid ((HM9.out.kpS HK6.out (fun q hq => ⟨.inr (.inl hq), by rw [hq]; exact HWG.out.1⟩)).reserve (Below.refl _ _) (fun q hq => ?_)), Lib.hid (by rw [HAS.out]; exact HKB9.out.keep (HK6.out.block _ HKB9.out.lt HKN.out.1)), HST, Lib.hid (HRB9.out.keep (fun q hq => HK6.out.block q (HRB9.out.lt q hq).2 (fun e => by
                  have e2 : g2 = q := by simpa [Value.ownBlock] using hq
                  exact HG12.out (by rw [e2, e]))))⟩
                have hS : fivX kb g1 g2 ab bb q := by
                  rcases hq with h | h | h
                  · exact .inl h
                  · exact .inr (.inl h)
                  · exact .inr (.inr (.inl h))
                exact ⟨Nat.lt_of_lt_of_le (HM9.out.keepS q hS) HK6.out.size, .inl hS⟩
              case measure => have := HLT.out; simp [intOf]; omega
            · obtain rfl : k = m := by omega
              have d1 : decide ((k : Int) < (k : Int)) = false := by simp
              have HNE := Lib.hid (next_last HOK.out)
              rw [HMN.out] at HNE
              obtain ⟨ky, hky⟩ : ∃ q, (t.p.pair ((t.p.ahead k : Nat) : Int)).1 = q := ⟨_, rfl⟩
              rw [hky] at HNE HKB
              have HNE' : Hid (t'.p.nextE ky = 0 ∧ t'.p.nextP ky = (⟨0, 0, ⟨#[]⟩⟩, ⟨0, 0, ⟨#[]⟩⟩)) := Lib.hid (by rw [HP.out]; exact HNE.out)
              obtain ⟨kk, kn, ks⟩ := ky
              clear hky HNE HRA HRB HL
              obtain ⟨k0, k1, k2, -, -⟩ := HKB.out
              dsimp only at k0 k1 k2
              simp only [Nat.zero_add] at k1 k2
              go_wp2_with fail
              (with_reducible refine (BS.next HM5.out kk kn ks (⟨0, 0, ⟨#[]⟩⟩, ⟨0, 0, ⟨#[]⟩⟩) 0 HNE'.out.2 HNE'.out.1).mono ?_)
              rintro e wz ⟨tz, ⟨rfl, -⟩, -, hx, -⟩
              have HMZ := Lib.hid ((hx.below ((Below.refl _ wz).alloc (Nat.le_refl _) (.cells #[.int .i64 0, .int .i64 0, .string ⟨#[]⟩] 39))).below ((Below.refl _ _).alloc (Nat.le_refl _) (.cells #[.int .i64 0, .int .i64 0, .string ⟨#[]⟩] 39)))
              clear hx k0 k1 k2
              dsimp only
              go_wp2
              go_ret
              exact ⟨rfl, HMZ.out.bel⟩
end Go.Proofs.Yteheolefemlcgaa
