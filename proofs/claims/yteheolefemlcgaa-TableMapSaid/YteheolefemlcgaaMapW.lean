/- TableMap: the walk. -/
import Derived.Test.YteheolefemlcgaaMapP
import Derived.Test.YteheolefemlcgaaBegin
import Derived.Deep.RegionHeldLaw
namespace Go.Proofs.Yteheolefemlcgaa
open Go.RowKit Go.Maps
set_option linter.unusedVariables false
set_option linter.unusedSimpArgs false

theorem Tbl.read_p (t : Tbl) (k : V) : (t.read k).p = t.p := by unfold Tbl.read; split <;> rfl
def oneB (b : Nat) (q : Nat) : Prop := q = b
set_option maxRecDepth 100000 in
set_option maxHeartbeats 1600000 in
theorem walk_TableMap {vx : Value} {W : World} (x : CX) (f : CSA W vx x) (w : World) : Calls Try.prog 4 #[vx] W fun e w' => e = .returned (.bool true) ∧ Below W.heap.size W w' := by
  have hcx := fun w => law08_cut f w
  have fc := f.cut
  have hx3 : x.cut.l.length ≤ 300 := by show (x.l.take 300).length ≤ 300; rw [List.length_take]; omega
  obtain rfl := f.e
  generalize x.cut = x2 at hcx fc hx3
  unfold CX.val at hcx
  have FC := Lib.hid fc; have HCX := Lib.hid hcx; have HL3 := Lib.hid hx3
  have HBX := Lib.hid (show CB (W.alloc (.cells #[.int .i64 x.lim, .int .i64 x.arr, .int .i64 x.hsh, .slice x.A x.l.length x.c] 24)) W.heap.size x from C4.new W _ _ _ _ _)
  have HB0 := Lib.hid (((Below.refl _ W).alloc (Nat.le_refl _) (.cells #[.int .i64 x.lim, .int .i64 x.arr, .int .i64 x.hsh, .slice x.A x.l.length x.c] 24)))
  clear f fc hcx hx3
  unfold CX.val
  go_enter Try.func4, Try.ntmps4
  go_wp2_with fail
  (with_reducible refine (law08_fixed _).mono ?_)
  rintro e w1 ⟨rfl, hb⟩
  have HBX1 := Lib.hid (show CB w1 W.heap.size x from HBX.out.below hb)
  have HB1 := Lib.hid (below_step HB0.out hb)
  clear hb
  obtain ⟨p0, p1, p2, p3, pf, -⟩ := HBX1.out
  have pf0 := pf 0; have pf1 := pf 1; have pf2 := pf 2; have pf3 := pf 3
  go_wp2_with fail
  (with_reducible refine (HCX.out _).mono ?_)
  rintro e w2 ⟨rfl, hb⟩
  have HBX2 := Lib.hid (show CB w2 W.heap.size x from HBX1.out.below hb)
  have HB2 := Lib.hid (below_step HB1.out hb)
  clear hb p0 p1 p2 p3 pf pf0 pf1 pf2 pf3
  obtain ⟨p0, p1, p2, p3, pf, -⟩ := HBX2.out
  have pf0 := pf 0; have pf1 := pf 1; have pf2 := pf 2; have pf3 := pf 3
  go_wp2_with fail
  have HXC := Lib.hid (show CB ((((w2.setCell ⟨W.heap.size, 0, none⟩ (.int .i64 x2.lim)).setCell ⟨W.heap.size, 1, none⟩ (.int .i64 x2.arr)).setCell ⟨W.heap.size, 2, none⟩ (.int .i64 x2.hsh)).setCell ⟨W.heap.size, 3, none⟩ (.slice x2.A x2.l.length x2.c)) W.heap.size x2 from C4.over HBX2.out _ _ _ _)
  have HBC := Lib.hid ((((HB2.out.setCell (p := ⟨W.heap.size, 0, none⟩) (Nat.le_refl _) (.int .i64 x2.lim)).setCell (p := ⟨W.heap.size, 1, none⟩) (Nat.le_refl _) (.int .i64 x2.arr)).setCell (p := ⟨W.heap.size, 2, none⟩) (Nat.le_refl _) (.int .i64 x2.hsh)).setCell (p := ⟨W.heap.size, 3, none⟩) (Nat.le_refl _) (.slice x2.A x2.l.length x2.c))
  clear p0 p1 p2 p3 pf pf0 pf1 pf2 pf3
  by_cases hlim : x2.lim < 0 ∨ 400000 < x2.lim
  · (with_reducible refine (law08_begin_no FC.out hlim _).mono ?_)
    rintro e w3 ⟨rfl, hb⟩
    have HB3 := Lib.hid (below_step HBC.out hb)
    clear hb
    go_wp2
    go_ret
    exact ⟨rfl, HB3.out⟩
  · have hl2 : 0 ≤ x2.lim ∧ x2.lim ≤ 400000 := by omega
    (with_reducible refine (law08_begin_yes FC.out hl2.1 hl2.2 W _ (oneB W.heap.size) (fun q hq => by have := HXC.out.lt; unfold oneB at hq; omega) HBC.out).mono ?_)
    rintro e w3 ⟨A, hs0, hp, P, Q, rfl, hP, hT, hA, hk⟩
    have HX3 := Lib.hid (HXC.out.keep (hk _ rfl))
    have HT := Lib.hid hT; have HA := Lib.hid hA
    clear hT hA hk
    cases A with
    | none =>
      obtain rfl : none = P := by simpa [OT.ptr] using hP
      clear hP
      go_wp2
      go_ret
      exact ⟨rfl, HT.out.bel⟩
    | some y =>
      obtain ⟨a, t0⟩ := y
      obtain rfl : some ⟨a, 0, none⟩ = P := by simpa [OT.ptr] using hP
      have HM : Hid (MM W W.heap.size x2 (fun _ => False) hp a (.slice none 0 0) (.slice none 0 0) [] [] t0 hs0 w3) := Lib.hid ⟨⟨_, HT.out, rfl, fun q h => h.elim, fun q h => by simp [Value.ownBlock] at h, fun q h => by simp [Value.ownBlock] at h⟩, HX3.out, VRow.nil _ _, VRow.nil _ _, fun q h => by simp [Value.ownBlock] at h, fun q h => by simp [Value.ownBlock] at h⟩
      clear hP HT HX3 HXC HBC HBX HBX1 HBX2 HB0 HB1 HB2 HCX hlim hl2
      go_wp2_with fail
      go_loopw [7, 8, 9] (fun kv vv i wr => ∃ (j : Nat) (ks vs : List V) (t : Tbl) (hs : HS), j ≤ x2.l.length ∧ i = .int .i64 j ∧ ks.length ≤ j ∧ Hid (MM W W.heap.size x2 (fun _ => False) hp a kv vv ks vs t hs wr) ∧ Hid (Acc (some (a, t)) none hs (3 + 2 * j)) ∧ Hid (KV t ks vs)) (fun _ _ i _ => x2.l.length - (intOf i).toNat)
      case atStart => exact ⟨0, [], [], t0, hs0, Nat.zero_le _, rfl, Nat.zero_le _, HM, HA, Lib.hid (KV.nil t0)⟩
      case round =>
        clear HM HA
        obtain ⟨j, ks, vs, t, hs, hj, rfl, hkj, HM, HA, HK⟩ := hrel
        obtain ⟨-, -, -, a3, -, -⟩ := HM.out.cb
        by_cases h1 : j < x2.l.length
        · have d1 : decide ((j : Int) < (x2.l.length : Int)) = true := by simp; omega
          have j1 : (j : Int) < (x2.l.length : Int) := by omega
          have lx : (x2.l.length : Int) ≤ 300 := by have := HL3.out; omega
          obtain ⟨bx, ox, eA, hbx, hcx⟩ := FC.out.ops (by omega)
          rw [eA] at a3
          have HEA := Lib.hid eA
          clear eA
          have HCX := Lib.hid (hcx j h1)
          have HIX := Lib.hid (FC.out.in64 j)
          clear hcx
          generalize opAt x2.l j = zx at HCX HIX
          obtain ⟨⟨kk, kn, kst⟩, vk, vn, vst⟩ := zx
          have HJ := Lib.hid (show j < 300 by have := HL3.out; omega)
          have HBX := Lib.hid hbx
          obtain ⟨c0, c1, c2, c3, c4, c5⟩ := HCX.out.bel HM.out.bel hbx
          go_wp2_with fail
          have hb1 := (Below.refl wr.heap.size wr).alloc (Nat.le_refl _) (.cells #[.int .i64 kk, .int .i64 kn, .string kst] 39)
          have HMK := Lib.hid (HM.out.hold (K' := oneB wr.heap.size) hb1 (fun q hq => by unfold oneB at hq; rw [hq, World.size_alloc]; omega))
          have HC1 := Lib.hid (C3.new wr kk kn kst)
          have HSZ : Hid (hs.sizes.length ≤ 800000) := Lib.hid (by have := HA.out.sz; have := HJ.out; omega)
          clear hb1 c0 c1 c2 c3 c4 c5 a3
          generalize wr.alloc (.cells #[.int .i64 kk, .int .i64 kn, .string kst] 39) = wa at HMK HC1 ⊢
          have hkb := HC1.out.lt
          generalize wr.heap.size = kb at HMK HC1 hkb ⊢
          obtain ⟨-, -, -, a3, -, -⟩ := HMK.out.cb
          rw [HEA.out] at a3
          obtain ⟨c0, c1, c2, c3, c4, c5⟩ := HCX.out.bel HMK.out.bel HBX.out
          obtain ⟨b0, b1, b2, bf, -⟩ := HC1.out
          go_still_tail 8, (by kernel_rfl)
          change wpList _ _ _ _ _ wa.drew
          go_wp2_with fail
          (with_reducible refine ((HMK.out.below ((Below.refl _ _).drew)).set HA.out.fit HSZ.out kk kn kst vk vn vst HIX.out).mono ?_)
          rintro e w4 ⟨rfl, hM, hk⟩
          have HS := (HA.out.a _ rfl).1
          have HST := Lib.hid (@Tbl.set_is t hs HS ⟨kk, kn, kst⟩ ⟨vk, vn, vst⟩ HIX.out)
          have HA4 : Hid (Acc (some (a, (t.set hs ⟨kk, kn, kst⟩ ⟨vk, vn, vst⟩).1)) none (t.set hs ⟨kk, kn, kst⟩ ⟨vk, vn, vst⟩).2.1 (3 + 2 * j + 2)) := Lib.hid (HA.out.set (by have := HJ.out; omega) ⟨kk, kn, kst⟩ ⟨vk, vn, vst⟩ HIX.out)
          have HM4 := Lib.hid hM
          have HC4 : Hid (C3 w4 kb 0 ⟨kk, kn, kst⟩) := Lib.hid (by
            have h1 := HC1.out
            have hc : ∀ i, w4.cell? ⟨kb, i, none⟩ = wa.cell? ⟨kb, i, none⟩ := fun i => (World.cell?_of_block (a := ⟨kb, i, none⟩) (hk kb rfl)).trans rfl
            exact ⟨(hc _).trans h1.c0, (hc _).trans h1.c1, (hc _).trans h1.c2, fun i => (World.frozen?_of_block (a := ⟨kb, i, none⟩) (hk kb rfl)).trans (h1.fz i), HM4.out.Klt rfl⟩)
          clear hM hk HS HM HMK HA HC1 a3 c0 c1 c2 c3 c4 c5 b0 b1 b2 bf HSZ
          generalize t.set hs ⟨kk, kn, kst⟩ ⟨vk, vn, vst⟩ = r4 at HST HA4 HM4 ⊢
          obtain ⟨t4, hs4, er⟩ := r4
          dsimp only at HST HA4 HM4 ⊢
          by_cases her : er = 0
          · subst her
            have hget := HST.out.2.1 rfl
            have HGE := Lib.hid hget
            clear hget HST
            obtain ⟨kA, kc, hks⟩ := HM4.out.kr.slice
            subst hks
            go_wp2_with fail
            go_loopw [11, 12] (fun at_ i wi => ∃ q : Nat, q ≤ ks.length ∧ at_ = .int .i64 (atK ks ⟨kk, kn, kst⟩ q) ∧ i = .int .i64 q ∧ Hid (Below w4.heap.size w4 wi)) (fun _ i _ => ks.length - (intOf i).toNat)
            case atStart => exact ⟨0, Nat.zero_le _, rfl, rfl, Lib.hid (Below.refl _ _)⟩
            case round =>
              obtain ⟨q, hq, rfl, rfl, HBi⟩ := hrel
              by_cases hql : q < ks.length
              · have d2 : decide ((q : Int) < (ks.length : Int)) = true := by simp; omega
                have q1 : (q : Int) < (ks.length : Int) := by omega
                have HMi := Lib.hid (HM4.out.below HBi.out)
                have HCi := Lib.hid (HC4.out.below HBi.out HC4.out.lt)
                obtain ⟨g, cp, eA2, -, hgf, hgc⟩ := HMi.out.kr.at_ (by omega)
                obtain ⟨rfl, rfl⟩ : kA = some ⟨g, 0, none⟩ ∧ kc = cp := by simpa using eA2
                obtain ⟨g0, g1, g2⟩ := hgc q hql
                obtain ⟨b0, b1, b2, bf, -⟩ := HCi.out
                have HAT : Hid (atK ks ⟨kk, kn, kst⟩ (q + 1) = if ks.getD q nilV = ⟨kk, kn, kst⟩ then (q : Int) else atK ks ⟨kk, kn, kst⟩ q) := Lib.hid rfl
                generalize atK ks ⟨kk, kn, kst⟩ q = at0 at HAT ⊢
                generalize ks.getD q nilV = y at g0 g1 g2 HAT
                have q3 : (q : Int) < 300 := by have := HJ.out; omega
                clear hgf hgc eA2
                by_cases e : y = ⟨kk, kn, kst⟩
                · subst e
                  rw [if_pos rfl] at HAT
                  go_wp2
                  go_quiet (fail)
                  go_wp2
                  exact ⟨⟨q + 1, hql, by rw [HAT.out], by simp, Lib.hid (below_drewN HBi.out _)⟩, by simp [intOf]; omega⟩
                · rw [if_neg e] at HAT
                  have h3 := ne3 e
                  obtain ⟨yk, yn, ys⟩ := y
                  dsimp only at h3 g0 g1 g2
                  clear e
                  rcases h3 with e1 | ⟨rfl, e1⟩ | ⟨rfl, rfl, e1, e2⟩
                  · go_wp2
                    go_quiet (fail)
                    go_wp2
                    exact ⟨⟨q + 1, hql, by rw [HAT.out], by simp, Lib.hid (below_drewN HBi.out _)⟩, by simp [intOf]; omega⟩
                  · go_wp2
                    go_quiet (fail)
                    go_wp2
                    exact ⟨⟨q + 1, hql, by rw [HAT.out], by simp, Lib.hid (below_drewN HBi.out _)⟩, by simp [intOf]; omega⟩
                  · go_wp2
                    go_quiet (fail)
                    go_wp2
                    exact ⟨⟨q + 1, hql, by rw [HAT.out], by simp, Lib.hid (below_drewN HBi.out _)⟩, by simp [intOf]; omega⟩
              · obtain rfl : ks.length = q := by omega
                have d2 : decide ((ks.length : Int) < (ks.length : Int)) = false := by simp
                have HMi := Lib.hid (HM4.out.below HBi.out)
                have HCi := Lib.hid (HC4.out.below HBi.out HC4.out.lt)
                clear HM4 HC4 HBi
                obtain ⟨-, -, -, a3, -, -⟩ := HMi.out.cb
                rw [HEA.out] at a3
                obtain ⟨c0, c1, c2, c3, c4, c5⟩ := HCX.out.bel HMi.out.bel HBX.out
                obtain ⟨b0, b1, b2, bf, -⟩ := HCi.out
                rcases atK_is ks ⟨kk, kn, kst⟩ ks.length with ⟨e, hno⟩ | ⟨q, hq2, e, hat⟩
                · rw [e]
                  have HNO := Lib.hid hno
                  clear hno e
                  have HS0 : Hid (∀ w', Below wr.heap.size wr w' → w'.cell? ⟨kb, 0, none⟩ = some (.int .i64 kk) ∧ w'.cell? ⟨kb, 1, none⟩ = some (.int .i64 kn) ∧ w'.cell? ⟨kb, 2, none⟩ = some (.string kst) ∧ w'.cell? ⟨W.heap.size, 3, none⟩ = some (.slice (some ⟨bx, ox, none⟩) x2.l.length x2.c) ∧ w'.cell? ⟨bx, ox + j * 8 + 4, none⟩ = some (.int .i64 vk) ∧ w'.cell? ⟨bx, ox + j * 8 + 5, none⟩ = some (.int .i64 vn) ∧ w'.cell? ⟨bx, ox + j * 8 + 6, none⟩ = some (.string vst)) := Lib.hid (fun w' hb => by
                    have hC := HCi.out.below hb HCi.out.lt
                    have hX := (HMi.out.below hb)
                    have hO := HCX.out.bel hX.bel HBX.out
                    have h3 := hX.cb.c3
                    rw [HEA.out] at h3
                    exact ⟨hC.c0, hC.c1, hC.c2, h3, hO.v0, hO.v1, hO.v2⟩)
                  have HB32 : Hid ((ks.length + 1) * 32 ≤ 140737488355328) := Lib.hid (by have := HJ.out; omega)
                  have HOWN : Hid (∀ q, wr.heap.size ≤ q → some q ≠ (Value.slice kA ks.length kc).ownBlock) := Lib.hid (fun q h e => by have := (HMi.out.kr.lt q e.symm).2; omega)
                  have HB33 : Hid ((vs.length + 1) * 32 ≤ 140737488355328) := Lib.hid (by have := HJ.out; have := HK.out.len; omega)
                  have HAF2 : Hid (∀ (wc w6 : World) (kv' vv' : Value) (ks' vs' : List V), MM W W.heap.size x2 (oneB kb) hp a kv' vv' ks' vs' t4 hs4 w6 → wc.grownBy w6 u8.ownBlock → kb < wc.heap.size → (wc.cell? ⟨kb, 0, none⟩ = some (.int .i64 kk) ∧ wc.cell? ⟨kb, 1, none⟩ = some (.int .i64 kn) ∧ wc.cell? ⟨kb, 2, none⟩ = some (.string kst) ∧ wc.cell? ⟨W.heap.size, 3, none⟩ = some (.slice (some ⟨bx, ox, none⟩) x2.l.length x2.c) ∧ wc.cell? ⟨bx, ox + j * 8 + 4, none⟩ = some (.int .i64 vk) ∧ wc.cell? ⟨bx, ox + j * 8 + 5, none⟩ = some (.int .i64 vn) ∧ wc.cell? ⟨bx, ox + j * 8 + 6, none⟩ = some (.string vst)) → w6.cell? ⟨kb, 0, none⟩ = some (.int .i64 kk) ∧ w6.cell? ⟨kb, 1, none⟩ = some (.int .i64 kn) ∧ w6.cell? ⟨kb, 2, none⟩ = some (.string kst) ∧ w6.cell? ⟨W.heap.size, 3, none⟩ = some (.slice (some ⟨bx, ox, none⟩) x2.l.length x2.c) ∧ w6.cell? ⟨bx, ox + j * 8 + 4, none⟩ = some (.int .i64 vk) ∧ w6.cell? ⟨bx, ox + j * 8 + 5, none⟩ = some (.int .i64 vn) ∧ w6.cell? ⟨bx, ox + j * 8 + 6, none⟩ = some (.string vst)) := Lib.hid (fun wc w6 kv' vv' ks' vs' hM6 hg hlt hS => by
                    have hne : some kb ≠ u8.ownBlock := fun e => (HMi.out.vx kb e.symm).2 rfl
                    have hc : ∀ i, w6.cell? ⟨kb, i, none⟩ = wc.cell? ⟨kb, i, none⟩ := fun i => hg.cell_far ⟨kb, i, none⟩ hlt hne
                    have hO := HCX.out.bel hM6.bel HBX.out
                    have h3 := hM6.cb.c3
                    rw [HEA.out] at h3
                    exact ⟨(hc 0).trans hS.1, (hc 1).trans hS.2.1, (hc 2).trans hS.2.2.1, h3, hO.v0, hO.v1, hO.v2⟩)
                  have HAFT : Hid (∀ (wc w5 : World) (g5 c5 : Nat), Below wr.heap.size wr wc → VRow W.heap.size w5 (.slice (some ⟨g5, 0, none⟩) (ks.length + 1 : Nat) c5) (ks ++ [⟨kk, kn, kst⟩]) → wc.grownBy w5 (Value.slice kA ks.length kc).ownBlock → ((Value.slice kA ks.length kc).ownBlock = some g5 ∨ g5 = wc.heap.size) → ∀ w', Below w5.heap.size w5 w' → w'.cell? ⟨kb, 0, none⟩ = some (.int .i64 kk) ∧ w'.cell? ⟨kb, 1, none⟩ = some (.int .i64 kn) ∧ w'.cell? ⟨kb, 2, none⟩ = some (.string kst) ∧ w'.cell? ⟨W.heap.size, 3, none⟩ = some (.slice (some ⟨bx, ox, none⟩) x2.l.length x2.c) ∧ w'.cell? ⟨bx, ox + j * 8 + 4, none⟩ = some (.int .i64 vk) ∧ w'.cell? ⟨bx, ox + j * 8 + 5, none⟩ = some (.int .i64 vn) ∧ w'.cell? ⟨bx, ox + j * 8 + 6, none⟩ = some (.string vst)) := Lib.hid (fun wc w5 g5 c5 hb ho hg ha w' hb' => by
                    have hM5 := ((HMi.out.below hb).appK ho hg ha).below hb'
                    have hC0 := HCi.out.below hb HCi.out.lt
                    have hne : some kb ≠ (Value.slice kA ks.length kc).ownBlock := fun e => (HMi.out.kx kb e.symm).2.1 rfl
                    have hc : ∀ i, w'.cell? ⟨kb, i, none⟩ = wc.cell? ⟨kb, i, none⟩ := fun i => (hb'.cell (p := ⟨kb, i, none⟩) (Nat.lt_of_lt_of_le hC0.lt hg.size)).trans (hg.cell_far ⟨kb, i, none⟩ hC0.lt hne)
                    have hO := HCX.out.bel hM5.bel HBX.out
                    have h3 := hM5.cb.c3
                    rw [HEA.out] at h3
                    exact ⟨(hc 0).trans hC0.c0, (hc 1).trans hC0.c1, (hc 2).trans hC0.c2, h3, hO.v0, hO.v1, hO.v2⟩)
                  clear a3 c0 c1 c2 c3 c4 c5 b0 b1 b2 bf
                  go_wp2_with fail
                  go_region_held_law (fun w' => w'.cell? ⟨kb, 0, none⟩ = some (.int .i64 kk) ∧ w'.cell? ⟨kb, 1, none⟩ = some (.int .i64 kn) ∧ w'.cell? ⟨kb, 2, none⟩ = some (.string kst) ∧ w'.cell? ⟨W.heap.size, 3, none⟩ = some (.slice (some ⟨bx, ox, none⟩) x2.l.length x2.c) ∧ w'.cell? ⟨bx, ox + j * 8 + 4, none⟩ = some (.int .i64 vk) ∧ w'.cell? ⟨bx, ox + j * 8 + 5, none⟩ = some (.int .i64 vn) ∧ w'.cell? ⟨bx, ox + j * 8 + 6, none⟩ = some (.string vst))
                    (first | (refine HS0.out _ ?_; (repeat (first | exact Below.refl _ wr | refine Below.drew ?_ | refine Below.alloc ?_ (by simp [go_sem]) _)); done) | (refine HS5.out _ ?_; (repeat (first | exact Below.refl _ w5 | refine Below.drew ?_ | refine Below.alloc ?_ (by simp [go_sem]) _)); done) | exact HS6.out | assumption)
                    (first
                        | ((refine step_vals rfl (.tmp 70) (.tmp 72) rfl (HMi.out.below (by (repeat (first | exact Below.refl _ wr | refine Below.drew ?_ | refine Below.alloc ?_ (by simp [go_sem]) _)))).kr (by simp [Act.eval, Act.put]) _ 1 _ rfl rfl ⟨kk, kn, kst⟩ (by simp [Addr.add, go_sem]) (by simp [Addr.add, go_sem]) (by simp [Addr.add, go_sem]) HB32.out (by have := HMi.out.bel.size; simp [go_sem]; omega) ?_); intro g5 c5 w5 hown5 hg5 hat5; have HS5 := Lib.hid (HAFT.out _ _ _ _ (by (repeat (first | exact Below.refl _ wr | refine Below.drew ?_ | refine Below.alloc ?_ (by simp [go_sem]) _))) hown5 hg5 hat5); have HF5 := Lib.hid (fun q i (h : wr.heap.size ≤ q) h2 => hg5.cell_far ⟨q, i, none⟩ h2 (HOWN.out q h)); have HM5 := Lib.hid ((HMi.out.below (by (repeat (first | exact Below.refl _ wr | refine Below.drew ?_ | refine Below.alloc ?_ (by simp [go_sem]) _)))).appK hown5 hg5 hat5); clear hown5 hg5 hat5)
                        | ((refine step_vals rfl (.tmp 74) (.tmp 81) rfl (HM5.out.below (by (repeat (first | exact Below.refl _ w5 | refine Below.drew ?_ | refine Below.alloc ?_ (by simp [go_sem]) _)))).vr (by simp [Act.eval, Act.put]) _ 1 _ rfl rfl ⟨vk, vn, vst⟩ (by first | (simp [Addr.add, go_sem]; done) | exact (HF5.out _ 0 (by simp [go_sem]) (by simp [go_sem])).trans (by simp [go_sem])) (by first | (simp [Addr.add, go_sem]; done) | exact (HF5.out _ 1 (by simp [go_sem]) (by simp [go_sem])).trans (by simp [go_sem])) (by first | (simp [Addr.add, go_sem]; done) | exact (HF5.out _ 2 (by simp [go_sem]) (by simp [go_sem])).trans (by simp [go_sem])) HB33.out (by have := HM5.out.bel.size; simp [go_sem]; omega) ?_); intro g6 c6 w6 hown6 hg6 hat6; have HM6 := Lib.hid ((HM5.out.below (by (repeat (first | exact Below.refl _ w5 | refine Below.drew ?_ | refine Below.alloc ?_ (by simp [go_sem]) _)))).appV hown6 hg6 hat6); have HS6 := Lib.hid (HAF2.out _ _ _ _ _ _ HM6.out hg6 ((HM5.out.below (by (repeat (first | exact Below.refl _ w5 | refine Below.drew ?_ | refine Below.alloc ?_ (by simp [go_sem]) _)))).Klt rfl) (HS5.out _ (by (repeat (first | exact Below.refl _ w5 | refine Below.drew ?_ | refine Below.alloc ?_ (by simp [go_sem]) _))))); clear hown6 hg6 hat6)
                        | fail)
                  all_goals clear HS0 HS5 HS6 HF5 HAFT HAF2 HOWN
                  all_goals go_wp2_with fail
                  all_goals go_roundw
                  all_goals first
                    | exact ⟨j + 1, ks ++ [⟨kk, kn, kst⟩], vs ++ [⟨vk, vn, vst⟩], t4, hs4, by omega, by go_num, by simp; omega, Lib.hid HM6.out.drop, Lib.hid (HA4.out.mono (by omega)), Lib.hid (HK.out.more HGE.out HNO.out)⟩
                    | (simp [intOf]; omega)
                · rw [e]
                  have dq : decide ((q : Int) < 0) = false := by simp
                  have HQ := Lib.hid hat
                  have hlen := HK.out.len
                  obtain ⟨g, cp, eB, -, hgf, hgc⟩ := HMi.out.vr.at_ (by omega)
                  subst eB
                  obtain ⟨g0, g1, g2⟩ := hgc q (by omega)
                  have gf0 := hgf (q * 3); have gf1 := hgf (q * 3 + 1); have gf2 := hgf (q * 3 + 2)
                  generalize vs.getD q nilV = y at g0 g1 g2
                  have q1 : (q : Int) < (vs.length : Int) := by omega
                  have HQL : Hid (q < vs.length) := Lib.hid (by omega)
                  have HQK := Lib.hid hq2
                  clear hat e hgc hgf hlen
                  go_wp2_with fail
                  go_roundw
                  case rel => exact ⟨j + 1, ks, vs.set q ⟨vk, vn, vst⟩, t4, hs4, by omega, by go_num, by omega, Lib.hid (HMi.out.store q HQL.out ⟨vk, vn, vst⟩).drop, Lib.hid (HA4.out.mono (by omega)), Lib.hid (HK.out.over HGE.out HQK.out HQ.out)⟩
                  case measure => simp [intOf]; omega
          · have d2 : (er != 0) = true := by simpa using her
            have HSAME := Lib.hid (HST.out.2.2 her)
            go_wp2_with fail
            go_roundw
            case rel => exact ⟨j + 1, ks, vs, t4, hs4, by omega, by go_num, by omega, Lib.hid HM4.out.drop, Lib.hid (HA4.out.mono (by omega)), Lib.hid (HK.out.same HSAME.out)⟩
            case measure => simp [intOf]; omega
        · obtain rfl : x2.l.length = j := by omega
          have d1 : decide ((x2.l.length : Int) < (x2.l.length : Int)) = false := by simp
          have HOK := Lib.hid (HA.out.a _ rfl).1
          obtain ⟨kA, kc, hks⟩ := HM.out.kr.slice
          subst hks
          obtain ⟨vA, vc, hvs⟩ := HM.out.vr.slice
          subst hvs
          go_wp2_with fail
          clear HA a3
          go_loopw [13] (fun i wi => ∃ (q : Nat) (t5 : Tbl), q ≤ ks.length ∧ i = .int .i64 q ∧ Hid (MM W W.heap.size x2 (fun _ => False) hp a (.slice kA ks.length kc) (.slice vA vs.length vc) ks vs t5 hs wi) ∧ Hid t5.p.ok ∧ Hid (∀ k, t5.get k = t.get k)) (fun i _ => ks.length - (intOf i).toNat)
          case atStart => exact ⟨0, t, Nat.zero_le _, rfl, HM, HOK, Lib.hid (fun _ => rfl)⟩
          case round =>
            clear HM HOK d1
            obtain ⟨q, t5, hq, rfl, HM, HOK, HSAME⟩ := hrel
            by_cases hql : q < ks.length
            · have d2 : decide ((q : Int) < (ks.length : Int)) = true := by simp; omega
              have q1 : (q : Int) < (ks.length : Int) := by omega
              have hlen := HK.out.len
              have q2 : (q : Int) < (vs.length : Int) := by omega
              have hget := HK.out.at_ q hql
              rw [← HSAME.out] at hget
              obtain ⟨g, cp, eA2, -, -, -⟩ := HM.out.kr.at_ (by omega)
              obtain ⟨rfl, rfl⟩ : kA = some ⟨g, 0, none⟩ ∧ kc = cp := by simpa using eA2
              obtain ⟨g', cp', eB2, -, -, -⟩ := HM.out.vr.at_ (by omega)
              obtain ⟨rfl, rfl⟩ : vA = some ⟨g', 0, none⟩ ∧ vc = cp' := by simpa using eB2
              have HS0 : Hid (∀ w' t', MM W W.heap.size x2 (fun _ => False) hp a (.slice (some ⟨g, 0, none⟩) ks.length kc) (.slice (some ⟨g', 0, none⟩) vs.length vc) ks vs t' hs w' → (w'.cell? ⟨g, q * 3, none⟩ = some (.int .i64 (ks.getD q nilV).k) ∧ w'.cell? ⟨g, q * 3 + 1, none⟩ = some (.int .i64 (ks.getD q nilV).n) ∧ w'.cell? ⟨g, q * 3 + 2, none⟩ = some (.string (ks.getD q nilV).s)) ∧ (w'.cell? ⟨g', q * 3, none⟩ = some (.int .i64 (vs.getD q nilV).k) ∧ w'.cell? ⟨g', q * 3 + 1, none⟩ = some (.int .i64 (vs.getD q nilV).n) ∧ w'.cell? ⟨g', q * 3 + 2, none⟩ = some (.string (vs.getD q nilV).s))) := Lib.hid (fun w' t' hM => by
                obtain ⟨h, c, e1, -, -, e2⟩ := hM.kr.at_ (by omega)
                obtain ⟨h', c', e3, -, -, e4⟩ := hM.vr.at_ (by omega)
                obtain ⟨rfl, rfl⟩ : g = h ∧ kc = c := by simpa using e1
                obtain ⟨rfl, rfl⟩ : g' = h' ∧ vc = c' := by simpa using e3
                exact ⟨e2 q hql, e4 q (by omega)⟩)
              generalize ks.getD q nilV = y at hget HS0
              generalize vs.getD q nilV = z at hget HS0
              obtain ⟨yk, yn, ys⟩ := y
              obtain ⟨zk, zn, zs⟩ := z
              dsimp only at HS0
              have HGET := Lib.hid (fun w' (h : MM W W.heap.size x2 (fun _ => False) hp a (.slice (some ⟨g, 0, none⟩) ks.length kc) (.slice (some ⟨g', 0, none⟩) vs.length vc) ks vs t5 hs w') => h.get HOK.out yk yn ys ⟨zk, zn, zs⟩ hget)
              have q3 : (q : Int) < 300 := by have := HL3.out; omega
              clear eA2 eB2 hget hlen
              go_wp2_with fail
              go_region_held3 (fun w' => (w'.cell? ⟨g, q * 3, none⟩ = some (.int .i64 yk) ∧ w'.cell? ⟨g, q * 3 + 1, none⟩ = some (.int .i64 yn) ∧ w'.cell? ⟨g, q * 3 + 2, none⟩ = some (.string ys)) ∧ (w'.cell? ⟨g', q * 3, none⟩ = some (.int .i64 zk) ∧ w'.cell? ⟨g', q * 3 + 1, none⟩ = some (.int .i64 zn) ∧ w'.cell? ⟨g', q * 3 + 2, none⟩ = some (.string zs)))
                (first | exact HS0.out _ _ (HM.out.below (Below.refl _ wr).drew) | exact HS0.out _ _ HG5.out | assumption)
                (first | (go_at_call 25; (with_reducible refine (HGET.out _ (HM.out.below (Below.refl _ wr).drew)).mono ?_); rintro e w5 ⟨rfl, hm⟩; have HG5 := Lib.hid hm; clear hm))
              have HP : Hid ((t5.read ⟨yk, yn, ys⟩).p = t5.p) := Lib.hid (Tbl.read_p _ _)
              go_wp2_with fail
              go_roundw
              case rel => exact ⟨q + 1, t5.read ⟨yk, yn, ys⟩, by omega, by go_num, HG5, Lib.hid (by rw [HP.out]; exact HOK.out), Lib.hid (fun k => by unfold Tbl.get; rw [HP.out]; exact HSAME.out k)⟩
              case measure => simp [intOf]; omega
            · obtain rfl : ks.length = q := by omega
              have d2 : decide ((ks.length : Int) < (ks.length : Int)) = false := by simp
              go_wp2
              go_ret
              exact ⟨rfl, HM.out.bel⟩
theorem rowTableMap {vx : Value} {W : World} (x : CX) (f : CSA W vx x) (w : World) : Calls Try.prog 4 #[vx] W fun e w' => e = .returned (.bool true) ∧ Below W.heap.size W w' :=
  walk_TableMap x f w
end Go.Proofs.Yteheolefemlcgaa
