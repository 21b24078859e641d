/- BorderRow. -/
import Derived.Test.YteheolefemlcgaaStkW
namespace Go.Proofs.Yteheolefemlcgaa
open Go.RowKit Go.Maps
set_option linter.unusedVariables false
set_option linter.unusedSimpArgs false

/-- The table holds just the numbers from lo + 1 to hi. -/
structure Seg (t : Tbl) (lo hi : Nat) : Prop where
  has : ∀ i : Nat, lo < i → i ≤ hi → (t.get (iV i)).k ≠ 0
  only : ∀ k, (t.get k).k ≠ 0 → ∃ i : Nat, lo < i ∧ i ≤ hi ∧ k = iV i
theorem Seg.list {t : Tbl} {lo hi : Nat} (H : Seg t lo hi) : ∀ k, (t.get k).k ≠ 0 → k ∈ (List.range hi).map fun i : Nat => iV ((i + 1 : Nat) : Int) := fun k hk => by
  obtain ⟨i, i1, i2, rfl⟩ := H.only k hk
  exact List.mem_map.2 ⟨i - 1, List.mem_range.2 (by omega), by rw [show i - 1 + 1 = i by omega]⟩
theorem Seg.same {t t' : Tbl} {lo hi : Nat} (H : Seg t lo hi) (h : t'.p = t.p) : Seg t' lo hi := by
  have e : ∀ k, t'.get k = t.get k := fun k => by unfold Tbl.get; rw [h]
  exact ⟨fun i i1 i2 => by rw [e]; exact H.has i i1 i2, fun k hk => H.only k (by rw [← e]; exact hk)⟩
theorem Seg.up {t t' : Tbl} {lo hi : Nat} {v : V} (hlh : lo ≤ hi) (H : Seg t lo hi) (hv : v.k ≠ 0) (h : ∀ k, t'.get k = if k = iV ((hi + 1 : Nat) : Int) then v else t.get k) : Seg t' lo (hi + 1) := by
  refine ⟨fun i i1 i2 => ?_, fun k hk => ?_⟩
  · rw [h]
    split
    · exact hv
    · rename_i hne
      refine H.has i i1 ?_
      apply Decidable.byContradiction
      intro h3
      exact hne (by rw [show i = hi + 1 by omega])
  · rw [h] at hk
    split at hk
    · rename_i e; exact ⟨hi + 1, by omega, Nat.le_refl _, e⟩
    · obtain ⟨i, i1, i2, e⟩ := H.only k hk
      exact ⟨i, i1, by omega, e⟩
theorem Seg.down {t t' : Tbl} {lo hi : Nat} {v : V} (hlh : lo + 1 ≤ hi) (H : Seg t (lo + 1) hi) (hv : v.k ≠ 0) (h : ∀ k, t'.get k = if k = iV ((lo + 1 : Nat) : Int) then v else t.get k) : Seg t' lo hi := by
  refine ⟨fun i i1 i2 => ?_, fun k hk => ?_⟩
  · rw [h]
    split
    · exact hv
    · rename_i hne
      refine H.has i ?_ i2
      apply Decidable.byContradiction
      intro h3
      exact hne (by rw [show i = lo + 1 by omega])
  · rw [h] at hk
    split at hk
    · rename_i e; exact ⟨lo + 1, by omega, hlh, e⟩
    · obtain ⟨i, i1, i2, e⟩ := H.only k hk
      exact ⟨i, by omega, i2, e⟩
theorem Seg.up' {t t' : Tbl} {lo j : Nat} {v : V} (h1 : 1 ≤ j) (hlh : lo ≤ j - 1) (H : Seg t lo (j - 1)) (hv : v.k ≠ 0) (h : ∀ k, t'.get k = if k = iV ((j : Nat) : Int) then v else t.get k) : Seg t' lo j := by
  obtain ⟨i, rfl⟩ : ∃ i, j = i + 1 := ⟨j - 1, by omega⟩
  exact H.up hlh hv h
theorem Seg.down' {t t' : Tbl} {c hi : Nat} {v : V} (h1 : 1 ≤ c) (hlh : c ≤ hi) (H : Seg t c hi) (hv : v.k ≠ 0) (h : ∀ k, t'.get k = if k = iV ((c : Nat) : Int) then v else t.get k) : Seg t' (c - 1) hi := by
  obtain ⟨i, rfl⟩ : ∃ i, c = i + 1 := ⟨c - 1, by omega⟩
  exact H.down hlh hv h
/-- Of the numbers above 0 the table holds just those up to m. -/
def Rw (t : Tbl) (m : Nat) : Prop := ∀ i : Nat, 1 ≤ i → ((t.get (iV i)).k ≠ 0 ↔ i ≤ m)
theorem Seg.rw {t : Tbl} {m : Nat} (H : Seg t 0 m) : Rw t m := fun i i1 => ⟨fun h => by
  obtain ⟨q, -, q2, e⟩ := H.only _ h
  have := iV_inj e; omega, fun h => H.has i (by omega) h⟩
theorem Rw.border {t : Tbl} {m : Nat} (H : Rw t m) (hm : m ≤ 1000) {n : Int} (h : isB t n) : n = m := by
  obtain ⟨m0, m1, m2, m3⟩ := h
  have hle : n ≤ m := by
    rcases m2 with e | e
    · omega
    · by_cases e0 : n = 0
      · omega
      · have h2 := (H n.toNat (by omega)).1 (by rw [show ((n.toNat : Nat) : Int) = n by omega]; unfold hasT at e; simpa using e)
        omega
  have hge : (m : Int) ≤ n := by
    apply Decidable.byContradiction
    intro hlt
    have h1 := m3.resolve_left (by omega)
    have h2 := (H (n + 1).toNat (by omega)).2 (by omega)
    rw [show (((n + 1).toNat : Nat) : Int) = n + 1 by omega] at h2
    unfold hasT at h1
    simp at h1
    exact h2 h1
  omega
theorem Rw.same {t t' : Tbl} {m : Nat} (H : Rw t m) (h : t'.p = t.p) : Rw t' m := fun i i1 => by
  have e : t'.get (iV i) = t.get (iV i) := by unfold Tbl.get; rw [h]
  rw [e]; exact H i i1
/-- A Set of another key. -/
theorem Rw.set {t : Tbl} {hs : HS} {m : Nat} (H : Rw t m) (hok : t.p.ok) {k v : V} (h64 : In64 k.n) (hk : ¬ k.k = 2 ∨ k.n ≤ 0) : Rw (t.set hs k v).1 m := fun i i1 => by
  obtain ⟨-, s2, s3⟩ := @Tbl.set_is t hs hok k v h64
  have hne : iV (i : Int) ≠ k := fun e => by
    subst e
    rcases hk with h | h
    · exact h rfl
    · have h' : (i : Int) ≤ 0 := h
      omega
  have e : (t.set hs k v).1.get (iV i) = t.get (iV i) := by
    by_cases h0 : (t.set hs k v).2.2 = 0
    · rw [s2 h0, if_neg hne]
    · exact s3 h0 _
  rw [e]; exact H i i1
theorem Rw.is {t : Tbl} {m : Nat} (H : Rw t m) (hm : m ≤ 1000) (hB : isB t (lenP t)) : isP t (m : Int) = true ∧ (m ≠ 0 → isP t ((m : Int) - 1) = false) := by
  have e := H.border hm hB
  rw [e] at hB
  refine ⟨isB_is hB, fun h0 => ?_⟩
  cases e2 : isP t ((m : Int) - 1) with
  | false => rfl
  | true =>
    have := H.border hm (is_isB (by unfold In64; omega) e2)
    omega
set_option maxRecDepth 100000 in
set_option maxHeartbeats 1600000 in
theorem walk_BorderRow {vx : Value} {W : World} (x : CY) (mm : Int) (down : Bool) (f : CSB W vx x) (w : World) : Calls Try.prog 13 #[vx, .int .i64 mm, .bool down] W fun e w' => e = .returned (.bool true) ∧ Below W.heap.size W w' := by
  have FC := Lib.hid f
  obtain rfl := f.e
  obtain ⟨m, hm, n1, n2, n3⟩ := umod mm 200 (by decide) (by decide)
  have HM200 := Lib.hid (show m < 200 by omega)
  have HBX := Lib.hid (CBY.new W x)
  have HB0 := Lib.hid ((Below.refl W.heap.size W).alloc (Nat.le_refl _) (.cells #[.int .i64 x.arr, .int .i64 x.hsh, .slice x.A x.l.length x.c] 88))
  clear f hm
  unfold CY.val
  go_enter Try.func13, Try.ntmps13
  go_wp2_with fail
  (with_reducible refine (law09_fixed _).mono ?_)
  rintro e w1 ⟨rfl, hb⟩
  have HX1 := Lib.hid (HBX.out.below hb)
  have HB1 := Lib.hid (below_step HB0.out hb)
  clear hb
  obtain ⟨p0, p1, p2, -⟩ := HX1.out
  go_wp2_with fail
  (with_reducible refine (law09_begin x.arr x.hsh x.A x.l.length x.c W _ (onlyB W.heap.size) (fun q hq => by have := HX1.out.lt; unfold onlyB at hq; omega) HB1.out).mono ?_)
  rintro e w2 ⟨N, M, hp, a, Q, hNM, rfl, hmm, hk⟩
  have hok0 := hmm.ok
  have HX2 := Lib.hid (HX1.out.keep (hk _ rfl))
  have HQ0 : Hid (BQ W (onlyB W.heap.size) hp a (newT (HS.new 400000) N M) (newH (HS.new 400000) N M) 3 w2) := Lib.hid ⟨hmm, (newT_cells (HS.new 400000) N M hNM.1 hNM.2.1).2, (newT_cells (HS.new 400000) N M hNM.1 hNM.2.1).1⟩
  have hnil : ∀ k, (newT (HS.new 400000) N M).get k = nilV := newT_get _ _ _ hok0
  have HNIL := Lib.hid hnil
  clear hmm hNM hok0 hk p0 p1 p2 hnil
  generalize newT (HS.new 400000) N M = t0 at HQ0 HNIL
  generalize newH (HS.new 400000) N M = hs0 at HQ0
  go_wp2_with fail
  rw [n2]
  clear n1 n2 n3
  go_loopw [10] (fun i wr => ∃ (j : Nat) (t : Tbl) (hs : HS) (lo hi : Nat), 1 ≤ j ∧ j ≤ m + 1 ∧ i = .int .i64 j ∧ Hid (lo = (if down = true then m + 1 - j else 0) ∧ hi = (if down = true then m else j - 1)) ∧ Hid (Seg t lo hi) ∧ Hid (BQ W (onlyB W.heap.size) hp a t hs (3 + 2 * j) wr) ∧ Hid (CBY wr W.heap.size x)) (fun i _ => m + 1 - (intOf i).toNat)
  case atStart => exact ⟨1, t0, hs0, _, _, by omega, by omega, rfl, Lib.hid ⟨rfl, rfl⟩, Lib.hid ⟨fun i i1 i2 => by cases down <;> simp at i1 i2 <;> (try omega), fun k hk => by rw [HNIL.out] at hk; exact absurd rfl hk⟩, Lib.hid (HQ0.out.mono (by omega)), HX2⟩
  case round =>
    clear HQ0 HNIL HX2 HBX HB0 HX1 HB1
    obtain ⟨j, t, hs, lo, hi, hj1, hj, rfl, HLH, HS, HQ, HX⟩ := hrel
    by_cases h1 : j ≤ m
    · have d1 : decide ((j : Int) ≤ (m : Int)) = true := by simp; omega
      have j1 : (j : Int) ≤ (m : Int) := by omega
      have j3 : (j : Int) < 300 := by have := HM200.out; omega
      have HJ : Hid (1 ≤ j ∧ j ≤ m) := Lib.hid ⟨hj1, h1⟩
      cases down with
      | false =>
        have elo : lo = 0 := HLH.out.1
        have ehi : hi = j - 1 := HLH.out.2
        subst elo; subst ehi
        clear HLH
        go_wp2_with fail
        (with_reducible refine (ref3_I _ _).mono ?_)
        rintro e w3 ⟨rfl, hb⟩
        have HQ1 := Lib.hid (HQ.out.below hb)
        have HX1 := Lib.hid (HX.out.below hb)
        clear hb
        go_wp2_with fail
        (with_reducible refine (ref3_I _ _).mono ?_)
        rintro e w4 ⟨rfl, hb⟩
        have HQ2 := Lib.hid (HQ1.out.below hb)
        have HX2 := Lib.hid (HX1.out.below hb)
        clear hb
        go_wp2_with fail
        (with_reducible refine (BQ.set HQ2.out (by have := HJ.out; have := HM200.out; omega) HS.out.list (by rw [List.length_map, List.length_range]; have := HJ.out; have := HM200.out; omega) (j : Int) 2 (j : Int) ⟨#[]⟩ (okV2 _) (by have := HJ.out; have := HM200.out; unfold In64; omega)).mono ?_)
        rintro e w5 ⟨t5, hs5, rfl, hx, hget, hkk⟩
        have HQ5 := Lib.hid hx
        have HX5 := Lib.hid (HX2.out.keep (hkk _ rfl))
        have HS5 : Hid (Seg t5 0 j) := Lib.hid (HS.out.up' HJ.out.1 (Nat.zero_le _) (v := ⟨2, (j : Int), ⟨#[]⟩⟩) (by show (2 : Int) ≠ 0; decide) (fun k => hget k))
        clear hx hget hkk
        by_cases h3 : (j : Int) % 3 = 0
        · have d5 : ((j : Int) % 3 == 0) = true := by rw [h3]; rfl
          clear h3
          go_wp2_with fail
          (with_reducible refine (BS.len HQ5.out.bs).mono ?_)
          rintro e w6 ⟨t6, ⟨rfl, -⟩, hpe, hx, hkk⟩
          have HQ6 := Lib.hid (HQ5.out.turned hpe hx)
          have HX6 := Lib.hid (HX5.out.keep (hkk _ rfl))
          have HS6 := Lib.hid (HS5.out.same hpe)
          clear hpe hx hkk
          go_wp2_with fail
          go_roundw
          case rel => exact ⟨j + 1, t6, hs5, _, _, by omega, by have := HJ.out; omega, by go_num, Lib.hid (by have := HJ.out; simp), HS6, Lib.hid (HQ6.out.mono (by omega)), HX6⟩
          case measure => simp [intOf]; omega
        · have d5 : ((j : Int) % 3 == 0) = false := beq_eq_false_iff_ne.2 h3
          clear h3
          go_wp2_with fail
          go_roundw
          case rel => exact ⟨j + 1, t5, hs5, _, _, by omega, by have := HJ.out; omega, by go_num, Lib.hid (by have := HJ.out; simp), HS5, Lib.hid (HQ5.out.mono (by omega)), HX5⟩
          case measure => simp [intOf]; omega
      | true =>
        obtain ⟨c, hc⟩ : ∃ c : Nat, c + j = m + 1 := ⟨m + 1 - j, by omega⟩
        have elo : lo = c := by rw [HLH.out.1]; simp; omega
        have ehi : m = hi := HLH.out.2.symm
        subst elo; subst ehi
        have HC := Lib.hid hc
        have m5 : wrap64 ((m : Int) + 1) = (m : Int) + 1 := wrap64_id (by have := HM200.out; unfold In64; omega)
        have m6 : wrap64 ((m : Int) + 1 - (j : Int)) = (lo : Int) := by rw [wrap64_id (by have := HM200.out; unfold In64; omega)]; omega
        clear HLH hc
        go_wp2_with fail
        (with_reducible refine (ref3_I _ _).mono ?_)
        rintro e w3 ⟨rfl, hb⟩
        have HQ1 := Lib.hid (HQ.out.below hb)
        have HX1 := Lib.hid (HX.out.below hb)
        clear hb
        go_wp2_with fail
        (with_reducible refine (ref3_I _ _).mono ?_)
        rintro e w4 ⟨rfl, hb⟩
        have HQ2 := Lib.hid (HQ1.out.below hb)
        have HX2 := Lib.hid (HX1.out.below hb)
        clear hb
        go_wp2_with fail
        (with_reducible refine (BQ.set HQ2.out (by have := HJ.out; have := HM200.out; omega) HS.out.list (by rw [List.length_map, List.length_range]; have := HJ.out; have := HM200.out; omega) (lo : Int) 2 (j : Int) ⟨#[]⟩ (okV2 _) (by have := HJ.out; have := HM200.out; have := HC.out; unfold In64; omega)).mono ?_)
        rintro e w5 ⟨t5, hs5, rfl, hx, hget, hkk⟩
        have HQ5 := Lib.hid hx
        have HX5 := Lib.hid (HX2.out.keep (hkk _ rfl))
        have HS5 : Hid (Seg t5 (lo - 1) m) := Lib.hid (HS.out.down' (by have := HJ.out; have := HC.out; omega) (by have := HJ.out; have := HC.out; omega) (v := ⟨2, (j : Int), ⟨#[]⟩⟩) (by show (2 : Int) ≠ 0; decide) (fun k => hget k))
        clear hx hget hkk
        by_cases h3 : (j : Int) % 3 = 0
        · have d5 : ((j : Int) % 3 == 0) = true := by rw [h3]; rfl
          clear h3
          go_wp2_with fail
          (with_reducible refine (BS.len HQ5.out.bs).mono ?_)
          rintro e w6 ⟨t6, ⟨rfl, -⟩, hpe, hx, hkk⟩
          have HQ6 := Lib.hid (HQ5.out.turned hpe hx)
          have HX6 := Lib.hid (HX5.out.keep (hkk _ rfl))
          have HS6 := Lib.hid (HS5.out.same hpe)
          clear hpe hx hkk
          go_wp2_with fail
          go_roundw
          case rel => exact ⟨j + 1, t6, hs5, _, _, by omega, by have := HJ.out; omega, by go_num, Lib.hid (by have := HJ.out; have := HC.out; simp; omega), HS6, Lib.hid (HQ6.out.mono (by omega)), HX6⟩
          case measure => simp [intOf]; omega
        · have d5 : ((j : Int) % 3 == 0) = false := beq_eq_false_iff_ne.2 h3
          clear h3
          go_wp2_with fail
          go_roundw
          case rel => exact ⟨j + 1, t5, hs5, _, _, by omega, by have := HJ.out; omega, by go_num, Lib.hid (by have := HJ.out; have := HC.out; simp; omega), HS5, Lib.hid (HQ5.out.mono (by omega)), HX5⟩
          case measure => simp [intOf]; omega
    · have d1 : decide ((j : Int) ≤ (m : Int)) = false := by simp; omega
      have ej : j = m + 1 := by omega
      have HR : Hid (Rw t m) := Lib.hid (by
        have e1 : lo = 0 := by rw [HLH.out.1]; cases down <;> simp; omega
        have e2 : hi = m := by rw [HLH.out.2]; cases down <;> simp; omega
        have := HS.out
        rw [e1, e2] at this
        exact this.rw)
      have HQ2 : Hid (BQ W (onlyB W.heap.size) hp a t hs 600 wr) := Lib.hid (HQ.out.mono (by have := HM200.out; omega))
      clear HLH HS HQ hj hj1 h1
      go_wp2_with fail
      clear d1 ej
      go_loopw [12] (fun i wr => ∃ (j : Nat) (t : Tbl) (hs : HS), j ≤ x.l.length ∧ j ≤ 300 ∧ i = .int .i64 j ∧ Hid (Rw t m) ∧ Hid (BS W (onlyB W.heap.size) hp a t hs (600 + 2 * j) wr) ∧ Hid (CBY wr W.heap.size x)) (fun i _ => x.l.length - (intOf i).toNat)
      case atStart => exact ⟨0, t, hs, Nat.zero_le _, Nat.zero_le _, rfl, HR, Lib.hid HQ2.out.bs, HX⟩
      case round =>
        clear HQ2 HX HR
        obtain ⟨j, t, hs, hj, hj3, rfl, HR, HM, HX⟩ := hrel
        obtain ⟨p0, p1, p2, -⟩ := HX.out
        by_cases h1 : j < x.l.length
        · have d1 : decide ((j : Int) < (x.l.length : Int)) = true := by simp; omega
          have j1 : (j : Int) < (x.l.length : Int) := by omega
          have lx : (x.l.length : Int) ≤ 9223372036854775807 := by have := FC.out.le; have := FC.out.mx; omega
          by_cases h2 : j < 300
          · have d2 : decide ((j : Int) < 300) = true := by simp; omega
            have j3 : (j : Int) < 300 := by omega
            obtain ⟨bx, ox, eA, hbx, hcx⟩ := FC.out.ops (by omega)
            rw [eA] at p2
            have HEA := Lib.hid eA
            clear eA
            have HCX := Lib.hid (hcx j h1)
            have HIX := Lib.hid (FC.out.in64 j)
            clear hcx
            generalize op9 x.l j = z at HCX HIX
            obtain ⟨kd, ⟨kk, kn, kst⟩, ⟨vk, vn, vst⟩, nn⟩ := z
            have HIZ : Hid (In64 kn ∧ In64 nn) := Lib.hid (by have h := HIX.out; unfold O9.ok In64V at h; exact ⟨h.2.1.2, h.2.2.2⟩)
            have HJ := Lib.hid h2
            have HBXX := Lib.hid hbx
            obtain ⟨c0, c1, c2, c3, c4, c5, c6, c7⟩ := HCX.out.bel HM.out.bel hbx
            dsimp only at c0 c1 c2 c3 c4 c5 c6 c7
            by_cases h5 : kk = 2 ∧ 0 < kn
            · obtain ⟨rfl, h6⟩ := h5
              go_wp2_with fail
              go_roundw
              case rel => exact ⟨j + 1, t, hs, by omega, by omega, by go_num, HR, Lib.hid ((HM.out.below ((Below.refl _ wr).alloc (Nat.le_refl _) _)).mono (by omega)), Lib.hid (HX.out.below ((Below.refl _ wr).alloc (Nat.le_refl _) _))⟩
              case measure => simp [intOf]; omega
            · by_cases h6 : kk = 2
              · subst h6
                have h7 : ¬ 0 < kn := by omega
                have HK5 : Hid (kn ≤ 0) := Lib.hid (by omega)
                clear h5
                go_wp2_with fail
                have hb1 := (Below.refl wr.heap.size wr).alloc (Nat.le_refl _) (.cells #[.int .i64 2, .int .i64 kn, .string kst] 39)
                have HMA := Lib.hid (HM.out.below hb1)
                have HXA := Lib.hid (HX.out.below hb1)
                have HC1 := Lib.hid (C3.new wr 2 kn kst)
                clear hb1 c0 c1 c2 c3 c4 c5 c6 c7 p0 p1 p2
                generalize wr.alloc (.cells #[.int .i64 2, .int .i64 kn, .string kst] 39) = wa at HMA HXA HC1 ⊢
                have hkb := HC1.out.lt
                generalize wr.heap.size = kb at HC1 hkb ⊢
                obtain ⟨p0, p1, p2, -⟩ := HXA.out
                rw [HEA.out] at p2
                obtain ⟨c0, c1, c2, c3, c4, c5, c6, c7⟩ := HCX.out.bel HMA.out.bel HBXX.out
                dsimp only at c0 c1 c2 c3 c4 c5 c6 c7
                obtain ⟨b0, b1, b2, bf, -⟩ := HC1.out
                go_still_tail 8, (by kernel_rfl)
                change wpList _ _ _ _ _ wa.drew
                go_wp2_with fail
                (with_reducible refine ((HMA.out.below (Below.refl _ wa).drew).set (by have := HJ.out; omega) 2 kn kst vk vn vst HIZ.out.1).mono ?_)
                rintro e w5 ⟨rfl, hx, hk⟩
                have HX5 := Lib.hid ((HXA.out.below (Below.refl _ wa).drew).keep (hk _ rfl))
                have HM5 := Lib.hid hx
                have HR5 := Lib.hid (HR.out.set (hs := hs) (v := ⟨vk, vn, vst⟩) HM.out.ok (k := ⟨2, kn, kst⟩) HIZ.out.1 (Or.inr HK5.out))
                clear hx hk c0 c1 c2 c3 c4 c5 c6 c7 p0 p1 p2 HMA HXA
                generalize t.set hs ⟨2, kn, kst⟩ ⟨vk, vn, vst⟩ = r5 at HM5 HR5 ⊢
                obtain ⟨t5, hs5, er⟩ := r5
                dsimp only at HM5 HR5
                go_wp2_with fail
                go_roundw
                case rel => exact ⟨j + 1, t5, hs5, by omega, by omega, by go_num, HR5, Lib.hid (HM5.out.mono (by omega)), HX5⟩
                case measure => simp [intOf]; omega
              · clear h5
                have HK5 := Lib.hid h6
                go_wp2_with fail
                have hb1 := (Below.refl wr.heap.size wr).alloc (Nat.le_refl _) (.cells #[.int .i64 kk, .int .i64 kn, .string kst] 39)
                have HMA := Lib.hid (HM.out.below hb1)
                have HXA := Lib.hid (HX.out.below hb1)
                have HC1 := Lib.hid (C3.new wr kk kn kst)
                clear hb1 c0 c1 c2 c3 c4 c5 c6 c7 p0 p1 p2
                generalize wr.alloc (.cells #[.int .i64 kk, .int .i64 kn, .string kst] 39) = wa at HMA HXA HC1 ⊢
                have hkb := HC1.out.lt
                generalize wr.heap.size = kb at HC1 hkb ⊢
                obtain ⟨p0, p1, p2, -⟩ := HXA.out
                rw [HEA.out] at p2
                obtain ⟨c0, c1, c2, c3, c4, c5, c6, c7⟩ := HCX.out.bel HMA.out.bel HBXX.out
                dsimp only at c0 c1 c2 c3 c4 c5 c6 c7
                obtain ⟨b0, b1, b2, bf, -⟩ := HC1.out
                go_still_tail 8, (by kernel_rfl)
                change wpList _ _ _ _ _ wa.drew
                go_wp2_with fail
                (with_reducible refine ((HMA.out.below (Below.refl _ wa).drew).set (by have := HJ.out; omega) kk kn kst vk vn vst HIZ.out.1).mono ?_)
                rintro e w5 ⟨rfl, hx, hk⟩
                have HX5 := Lib.hid ((HXA.out.below (Below.refl _ wa).drew).keep (hk _ rfl))
                have HM5 := Lib.hid hx
                have HR5 := Lib.hid (HR.out.set (hs := hs) (v := ⟨vk, vn, vst⟩) HM.out.ok (k := ⟨kk, kn, kst⟩) HIZ.out.1 (Or.inl HK5.out))
                clear hx hk c0 c1 c2 c3 c4 c5 c6 c7 p0 p1 p2 HMA HXA
                generalize t.set hs ⟨kk, kn, kst⟩ ⟨vk, vn, vst⟩ = r5 at HM5 HR5 ⊢
                obtain ⟨t5, hs5, er⟩ := r5
                dsimp only at HM5 HR5
                go_wp2_with fail
                go_roundw
                case rel => exact ⟨j + 1, t5, hs5, by omega, by omega, by go_num, HR5, Lib.hid (HM5.out.mono (by omega)), HX5⟩
                case measure => simp [intOf]; omega
          · have d2 : decide ((j : Int) < 300) = false := by simp; omega
            have HM200' := HM200.out
            have HL := Lib.hid (HR.out.border (by omega) (len_is HM.out.ok HM.out.h0 HM.out.h1))
            have HI := Lib.hid (HR.out.is (by omega) (len_is HM.out.ok HM.out.h0 HM.out.h1))
            clear HM200'
            go_wp2_with fail
            clear p0 p1 p2 HX h1 h2 
            (with_reducible refine (BS.len HM.out).mono ?_)
            rintro e w6 ⟨t6, ⟨rfl, -⟩, hpe, hx, -⟩
            have HM6 := Lib.hid hx
            have HP6 := Lib.hid hpe
            clear hpe hx
            rw [HL.out]
            go_wp2_with fail
            (with_reducible refine (BS.is HM6.out (m : Int) (by have := HM200.out; unfold In64; omega)).mono ?_)
            rintro e w7 ⟨t7, ⟨rfl, -⟩, hpe, hx, -⟩
            have HM7 := Lib.hid hx
            have HP7 := Lib.hid (hpe.trans HP6.out)
            clear hpe hx
            rw [isP_p HP6.out, HI.out.1]
            by_cases h9 : m = 0
            · subst h9
              go_wp2
              go_ret
              exact ⟨rfl, HM7.out.bel⟩
            · have d9 : ((m : Int) == 0) = false := beq_eq_false_iff_ne.2 (by omega)
              have m9 : wrap64 ((m : Int) - 1) = (m : Int) - 1 := wrap64_id (by have := HM200.out; unfold In64; omega)
              have HI9 := Lib.hid (HI.out.2 h9)
              clear h9
              go_wp2_with fail
              (with_reducible refine (BS.is HM7.out ((m : Int) - 1) (by have := HM200.out; unfold In64; omega)).mono ?_)
              rintro e w8 ⟨t8, ⟨rfl, -⟩, hpe, hx, -⟩
              rw [isP_p HP7.out, HI9.out]
              have HB8 := Lib.hid hx.bel
              clear hpe hx
              go_wp2
              go_ret
              exact ⟨rfl, HB8.out⟩
        · have d1 : decide ((j : Int) < (x.l.length : Int)) = false := by simp; omega
          have HM200' := HM200.out
          have HL := Lib.hid (HR.out.border (by omega) (len_is HM.out.ok HM.out.h0 HM.out.h1))
          have HI := Lib.hid (HR.out.is (by omega) (len_is HM.out.ok HM.out.h0 HM.out.h1))
          clear HM200'
          go_wp2_with fail
          clear p0 p1 p2 HX h1 
          (with_reducible refine (BS.len HM.out).mono ?_)
          rintro e w6 ⟨t6, ⟨rfl, -⟩, hpe, hx, -⟩
          have HM6 := Lib.hid hx
          have HP6 := Lib.hid hpe
          clear hpe hx
          rw [HL.out]
          go_wp2_with fail
          (with_reducible refine (BS.is HM6.out (m : Int) (by have := HM200.out; unfold In64; omega)).mono ?_)
          rintro e w7 ⟨t7, ⟨rfl, -⟩, hpe, hx, -⟩
          have HM7 := Lib.hid hx
          have HP7 := Lib.hid (hpe.trans HP6.out)
          clear hpe hx
          rw [isP_p HP6.out, HI.out.1]
          by_cases h9 : m = 0
          · subst h9
            go_wp2
            go_ret
            exact ⟨rfl, HM7.out.bel⟩
          · have d9 : ((m : Int) == 0) = false := beq_eq_false_iff_ne.2 (by omega)
            have m9 : wrap64 ((m : Int) - 1) = (m : Int) - 1 := wrap64_id (by have := HM200.out; unfold In64; omega)
            have HI9 := Lib.hid (HI.out.2 h9)
            clear h9
            go_wp2_with fail
            (with_reducible refine (BS.is HM7.out ((m : Int) - 1) (by have := HM200.out; unfold In64; omega)).mono ?_)
            rintro e w8 ⟨t8, ⟨rfl, -⟩, hpe, hx, -⟩
            rw [isP_p HP7.out, HI9.out]
            have HB8 := Lib.hid hx.bel
            clear hpe hx
            go_wp2
            go_ret
            exact ⟨rfl, HB8.out⟩
theorem rowBorderRow {vx : Value} {W : World} (x : CY) (mm : Int) (down : Bool) (f : CSB W vx x) (hm : In64 mm) (w : World) : Calls Try.prog 13 #[vx, .int .i64 mm, .bool down] W fun e w' => e = .returned (.bool true) ∧ Below W.heap.size W w' :=
  walk_BorderRow x mm down f w
end Go.Proofs.Yteheolefemlcgaa
