/- WalkOrder: the walk. -/
import Derived.Test.YteheolefemlcgaaWkY
namespace Go.Proofs.Yteheolefemlcgaa
open Go.RowKit Go.Maps
set_option linter.unusedVariables false
set_option linter.unusedSimpArgs false

/-- What the check of one key comes to. -/
theorem order_key {p : PT} (H : p.ok) {j : Nat} (h : p.full j) {kk kn : Int} {ks : ByteArray} {n : Int} (hn : (p.sn : Int) = n) (hk : (p.pair (j : Int)).1 = ⟨kk, kn, ks⟩) :
    (decide ((j : Int) ≤ n) = true ∧ kk = 2 ∧ kn = (j : Int)) ∨ (decide ((j : Int) ≤ n) = false ∧ (((kk == 2) = false) ∨ (kk = 2 ∧ (kn == (j : Int)) = false) ∨ (kk = 2 ∧ kn = (j : Int)))) := by
  subst hn
  obtain ⟨h1, h2⟩ := full_in h
  by_cases hl : j ≤ p.sn
  · left
    rw [pair_lo h1 hl] at hk
    have e1 : (iV (j : Int)) = ⟨kk, kn, ks⟩ := hk
    exact ⟨by simp; omega, by have h := congrArg V.k e1; simpa [iV] using h.symm, by have h := congrArg V.n e1; simpa [iV] using h.symm⟩
  · right
    refine ⟨by simp; omega, ?_⟩
    by_cases e1 : kk = 2
    · by_cases e2 : kn = (j : Int)
      · exact .inr (.inr ⟨e1, e2⟩)
      · exact .inr (.inl ⟨e1, by simpa using e2⟩)
    · exact .inl (by simpa using e1)
set_option maxRecDepth 100000 in
set_option maxHeartbeats 3200000 in
theorem rowWalkOrder {vx : Value} {W : World} (x : CXX) (f : CSX W vx x) (w : World) : Calls Try.prog 8 #[vx] W fun e w' => e = .returned (.bool true) ∧ Below W.heap.size W w' := by
  have FC := Lib.hid f
  obtain rfl := f.e
  have HBX := Lib.hid (CBX.new W x)
  have HB0 := Lib.hid ((Below.refl W.heap.size W).alloc (Nat.le_refl _) (.cells #[.int .i64 x.arr, .int .i64 x.hsh, .slice x.A x.l.length x.c] 70))
  clear f
  unfold CXX.val
  have hf0 : ∀ (a b c d : Int) (W : World), (Instr.field 51 (.agg #[.int .i64 a, .int .i64 b, .int .i64 c, .int .i64 d]) 0).run Try.prog W = .ok (.int .i64 a) W := fun a b c d W => by rfl
  go_enter Try.func8, Try.ntmps8
  go_wp2_with fail
  (with_reducible refine (law10_fixed _).mono ?_)
  rintro e w1 ⟨rfl, hb⟩
  have HX1 := Lib.hid (HBX.out.below hb)
  have HB1 := Lib.hid (below_step HB0.out hb)
  clear hb
  obtain ⟨p0, p1, p2, -⟩ := HX1.out
  go_wp2_with fail
  (with_reducible refine (law10_begin x.arr x.hsh x.A x.l.length x.c W _ (onlyX W.heap.size) (fun q hq => by have := HX1.out.lt; unfold onlyX at hq; omega) HB1.out).mono ?_)
  rintro e w2 ⟨N, M, hp, a, Q, -, rfl, hm, hk⟩
  have HM := Lib.hid hm
  have HX2 := Lib.hid (HX1.out.keep (hk _ rfl))
  clear hm hk p0 p1 p2
  generalize newT (HS.new 400000) N M = t0 at HM
  generalize newH (HS.new 400000) N M = hs0 at HM
  go_wp2_with fail
  go_loopw [6] (fun i wr => ∃ (j : Nat) (t : Tbl) (hs : HS), j ≤ x.l.length ∧ j ≤ 300 ∧ i = .int .i64 j ∧ Hid (BS W (onlyX W.heap.size) hp a t hs (3 + 2 * j) wr) ∧ Hid (CBX wr W.heap.size x)) (fun i _ => x.l.length - (intOf i).toNat)
  case atStart => exact ⟨0, t0, hs0, Nat.zero_le _, Nat.zero_le _, rfl, HM, HX2⟩
  case round =>
    clear HM HX2 HBX HB0 HX1 HB1
    obtain ⟨j, t, hs, hj, hj3, rfl, HM, HX⟩ := hrel
    obtain ⟨p0, p1, p2, -⟩ := HX.out
    by_cases hc : j < x.l.length ∧ j < 300
    · obtain ⟨h1, h2⟩ := hc
      have d1 : decide ((j : Int) < (x.l.length : Int)) = true := by simp; omega
      have j1 : (j : Int) < (x.l.length : Int) := by omega
      have lx : (x.l.length : Int) ≤ 9223372036854775807 := by have := FC.out.le; have := FC.out.mx; omega
      have d2 : decide ((j : Int) < 300) = true := by simp; omega
      have j3 : (j : Int) < 300 := by omega
      obtain ⟨bx, ox, eA, hbx, hcx⟩ := FC.out.ops (by omega)
      rw [eA] at p2
      have HEA := Lib.hid eA
      clear eA
      have HCX := Lib.hid (hcx j h1)
      have HIX := Lib.hid (FC.out.in64 j)
      clear hcx
      generalize opX x.l j = z at HCX HIX
      obtain ⟨kd, ⟨kk, kn, kst⟩, ⟨vk, vn, vst⟩⟩ := z
      have HIX : Hid (In64 kn) := Lib.hid (by have h := HIX.out; unfold OX.ok In64V at h; exact h.2.1.2)
      have HJ := Lib.hid h2
      obtain ⟨c0, c1, c2, c3, c4, c5, c6⟩ := HCX.out.bel HM.out.bel hbx
      dsimp only at c0 c1 c2 c3 c4 c5 c6
      go_wp2_with fail
      go_still_tail 13, (by kernel_rfl)
      change wpList _ _ _ _ _ wr.drew
      go_wp2_with fail
      (with_reducible refine ((HM.out.below (Below.refl _ wr).drew).set (by have := HJ.out; omega) kk kn kst vk vn vst HIX.out).mono ?_)
      rintro e w5 ⟨rfl, hx, hk⟩
      have HX5 := Lib.hid ((HX.out.below (Below.refl _ wr).drew).keep (hk _ rfl))
      have HM5 := Lib.hid hx
      clear hx hk c0 c1 c2 c3 c4 c5 c6 p0 p1 p2 HM HX
      generalize t.set hs ⟨kk, kn, kst⟩ ⟨vk, vn, vst⟩ = r5 at HM5
      obtain ⟨t5, hs5, er⟩ := r5
      dsimp only at HM5
      go_wp2_with fail
      go_roundw
      case rel => exact ⟨j + 1, t5, hs5, by omega, by omega, by go_num, Lib.hid (HM5.out.mono (by omega)), HX5⟩
      case measure => simp [intOf]; omega
    · by_cases h1 : j < x.l.length
      · have d1 : decide ((j : Int) < (x.l.length : Int)) = true := by simp; omega
        have d2 : decide ((j : Int) < 300) = false := by simp; omega
        clear hc
        go_wp2_with fail
        (with_reducible refine (BS.list HM.out _ rfl).mono ?_)
        rintro e w3 ⟨v, rfl, hr, hb⟩
        have HR := Lib.hid hr
        have HM3 := Lib.hid (HM.out.reserve (S' := fun q => v.ownBlock = some q) hb (fun q hq => ⟨(hr.lt q hq).2, .inr (hr.lt q hq).1⟩))
        have hcs := hr.cases
        clear hb hr p0 p1 p2 HX
        rcases hcs with ⟨hl, rfl⟩ | ⟨g, cap, rfl, hcap, hbg, hgl⟩
        · go_wp2_with fail
          go_loopw [8, 9] (fun u i wr => u = .int .i64 0 ∧ i = .int .i64 0 ∧ w3 = wr) (fun _ _ _ => 0)
          case atStart => exact ⟨rfl, rfl, rfl⟩
          case round =>
            obtain ⟨rfl, rfl, rfl⟩ := hrel
            go_wp2
            go_ret
            exact ⟨rfl, HM3.out.bel⟩
        · obtain ⟨m, hm⟩ : ∃ m, t.p.cnt = m := ⟨_, rfl⟩
          rw [prs_len, hm] at hcap ⊢
          have HMN := Lib.hid hm
          have hsm : m ≤ 131072 := by
            have h1 := pos_len t.p 0 t.p.tot
            have h2 := HM3.out.ok.sz
            have h3 := HM3.out.ok.hg.sz
            have h4 : t.p.tot = t.p.sn + t.p.h.n := rfl
            unfold PT.cnt at hm
            omega
          have HSM := Lib.hid hsm
          have HCAP := Lib.hid hcap
          obtain ⟨B, hB⟩ : ∃ B, wr.heap.size = B := ⟨_, rfl⟩
          rw [hB] at HR
          have HRW : Hid (PRow B w3 (.slice (some ⟨g, 0, none⟩) m cap) t.p.prs) := Lib.hid (by have h := HR.out; rw [prs_len, hm] at h; exact h)
          have HM4 : Hid (BS W (onlyX g) hp a t hs (3 + 2 * j) w3) := Lib.hid (HM3.out.reserve (Below.refl _ _) (fun q hq => ⟨by unfold onlyX at hq; omega, .inl (by unfold onlyX at hq; rw [hq]; rfl)⟩))
          clear hsm hcap HR hB hbg hgl hm HM3 HM
          go_wp2_with fail
          go_loopw [8, 9] (fun u i wr => ∃ (k : Nat) (t' : Tbl), k ≤ m ∧ u = .int .i64 (t.p.ahead k : Nat) ∧ i = .int .i64 k ∧ Hid (t'.p = t.p) ∧ Hid (BS W (onlyX g) hp a t' hs (3 + 2 * j) wr) ∧ Hid (PRow B wr (.slice (some ⟨g, 0, none⟩) m cap) t.p.prs)) (fun _ i _ => m - (intOf i).toNat)
          case atStart => exact ⟨0, t, Nat.zero_le _, rfl, rfl, Lib.hid rfl, HM4, HRW⟩
          case round =>
            clear HM4 HRW
            obtain ⟨k, t', hk, rfl, rfl, HP, HM4, HRW⟩ := hrel
            by_cases hlt : k < m
            · have d1 : decide ((k : Int) < (m : Int)) = true := by simp; omega
              have j1 : (k : Int) < (m : Int) := by omega
              have lx : (m : Int) ≤ 9223372036854775807 := by have := HSM.out; omega
              have HLT := Lib.hid hlt
              obtain ⟨z, hz⟩ : ∃ z, t.p.at_ k = z := ⟨_, rfl⟩
              obtain ⟨y, hy⟩ : ∃ y, t.p.ahead k = y := ⟨_, rfl⟩
              obtain ⟨T, hT⟩ : ∃ T : Int, ((t.p.tot : Nat) : Int) = T := ⟨_, rfl⟩
              obtain ⟨N5, hN5⟩ : ∃ N5 : Int, (t.p.sn : Int) = N5 := ⟨_, rfl⟩
              obtain ⟨q, hq⟩ : ∃ q, t.p.pair (z : Int) = q := ⟨_, rfl⟩
              obtain ⟨⟨kk, kn, ks⟩, ⟨vk, vn, vst⟩⟩ := q
              have hfu := at_full k (by rw [HMN.out]; exact hlt)
              have hah := ahead_lt k (by rw [HMN.out]; exact hlt)
              rw [hz] at hfu hah
              rw [hy] at hah
              have HAS : Hid (t.p.ahead (k + 1) = z) := Lib.hid (by rw [ahead_succ]; exact hz)
              have HOK : Hid t.p.ok := Lib.hid (by rw [← HP.out]; exact HM4.out.ok)
              have HPL : Hid (t'.p.place ⟨kk, kn, ks⟩ = (z : Int)) := Lib.hid (by have h := place_full HOK.out hfu.2.2; rw [hq] at h; rw [HP.out]; exact h)
              have HPA : Hid (prAt t.p.prs k = (⟨kk, kn, ks⟩, ⟨vk, vn, vst⟩)) := Lib.hid (by have h := prs_at (p := t.p) k (by rw [HMN.out]; exact hlt); rw [hz, hq] at h; exact h)
              have HC6 : Hid (C6 wr g (k * 6) (⟨kk, kn, ks⟩, ⟨vk, vn, vst⟩)) := Lib.hid (by
                obtain ⟨g', cap', e, -, -, -, -, h⟩ := HRW.out.at_ (by rw [prs_len, HMN.out]; omega)
                simp only [Value.slice.injEq, Option.some.injEq, Addr.mk.injEq, and_true, true_and] at e
                rw [e.1, ← HPA.out]; exact h k (by rw [prs_len, HMN.out]; exact hlt))
              have hok := order_key HOK.out hfu.2.2 hN5 (show (t.p.pair (z : Int)).1 = ⟨kk, kn, ks⟩ by rw [hq])
              obtain ⟨zi, hzi⟩ : ∃ zi : Int, (z : Int) = zi := ⟨_, rfl⟩
              obtain ⟨yi, hyi⟩ : ∃ yi : Int, (y : Int) = yi := ⟨_, rfl⟩
              have q1 : decide (zi ≤ yi) = false := by simp; omega
              have q2 : decide (T < zi) = false := by have := hfu.2.1; simp; omega
              have HZI := Lib.hid hzi
              rw [hzi] at hok
              have HPL : Hid (t'.p.place ⟨kk, kn, ks⟩ = zi) := Lib.hid (HPL.out.trans hzi)
              have HTT : Hid (((t'.p.tot : Nat) : Int) = T) := Lib.hid (by rw [HP.out]; exact hT)
              have HN5 : Hid ((t.p.sn : Int) = N5) := Lib.hid hN5
              have HLT := Lib.hid hlt
              rw [hy, hyi]
              obtain ⟨c0, c1, c2, -, -, -⟩ := HC6.out
              dsimp only at c0 c1 c2
              clear hz hy hT hN5 hq hfu hah hlt hk hzi hyi
              go_wp2_with fail
              (with_reducible refine (BS.place HM4.out kk kn ks).mono ?_)
              rintro e w5 ⟨t5, ⟨rfl, -⟩, hpe, hx, hk⟩
              rw [HPL.out]
              have HM5 := Lib.hid hx
              have HP5 : Hid (t5.p = t.p) := Lib.hid (hpe.trans HP.out)
              have HTT5 : Hid (((t5.p.tot : Nat) : Int) = T) := Lib.hid (by rw [hpe]; exact HTT.out)
              have HR5 : Hid (PRow B w5 (.slice (some ⟨g, 0, none⟩) m cap) t.p.prs) := Lib.hid (HRW.out.keep (fun q hq => hk q (by simpa [Value.ownBlock, onlyX] using hq.symm)))
              have HC5 := Lib.hid (HC6.out.keep (hk g rfl))
              have HSS : Hid (∀ w', Below w5.heap.size w5 w' → w'.cell? ⟨g, k * 6, none⟩ = some (.int .i64 kk) ∧ w'.cell? ⟨g, k * 6 + 1, none⟩ = some (.int .i64 kn)) := Lib.hid (fun w' hb => by
                have h := HC5.out.keep (hb.block g (lt_cell HC5.out.c0))
                exact ⟨h.c0, h.c1⟩)
              clear hx hpe hk c0 c1 c2
              obtain ⟨m5, hm5⟩ : ∃ m5 : Int, (t5.p.h.n : Int) = m5 := ⟨_, rfl⟩
              obtain ⟨f5, hf5⟩ : ∃ f5 : Int, (t5.p.h.free : Int) = f5 := ⟨_, rfl⟩
              obtain ⟨x5, hx5⟩ : ∃ x5 : Int, t5.hint = x5 := ⟨_, rfl⟩
              have HST : Hid ((t5.p.sn : Int) = N5 ∧ (t5.p.h.n : Int) = m5 ∧ (t5.p.h.free : Int) = f5 ∧ t5.hint = x5) := Lib.hid ⟨by rw [HP5.out]; exact HN5.out, hm5, hf5, hx5⟩
              clear hm5 hf5 hx5
              rcases hok with ⟨q3, rfl, rfl⟩ | ⟨q3, q4 | ⟨rfl, q5⟩ | ⟨rfl, rfl⟩⟩
              · go_wp2_with fail
                go_region_held3 (fun w' => w'.cell? ⟨g, k * 6, none⟩ = some (.int .i64 2) ∧ w'.cell? ⟨g, k * 6 + 1, none⟩ = some (.int .i64 kn))
                  (first | with_reducible exact HSS.out _ (Below.refl _ w5).drew | with_reducible exact HSS.out _ HBA.out | with_reducible exact HSS.out _ HBB.out | with_reducible exact HSS.out _ HBC.out | with_reducible assumption)
                  (first
                    | (go_at_call 32; (with_reducible refine (BS.places (HM5.out.below (Below.refl _ w5).drew) T HTT5.out).mono ?_); rintro e wA ⟨rfl, hb⟩; have HBA := Lib.hid (below_step (Below.refl w5.heap.size w5).drew hb); clear hb)
                    | (go_at_call 28; (with_reducible refine (BS.stats (HM5.out.below HBA.out) N5 m5 f5 x5 HST.out.1 HST.out.2.1 HST.out.2.2.1 HST.out.2.2.2).mono ?_); rintro e wB ⟨rfl, hb⟩; have HBB := Lib.hid (below_step HBA.out hb); clear hb)
                    | (go_at_call 28; (with_reducible refine (BS.stats (HM5.out.below HBB.out) N5 m5 f5 x5 HST.out.1 HST.out.2.1 HST.out.2.2.1 HST.out.2.2.2).mono ?_); rintro e wC ⟨rfl, hb⟩; have HBC := Lib.hid (below_step HBB.out hb); clear hb))
                have HM6 := Lib.hid (HM5.out.below HBC.out)
                have HR6 := Lib.hid (HR5.out.keep (fun q hq => HBC.out.block q (HR5.out.lt q hq).2))
                go_wp2_with fail
                go_roundw
                case rel => exact ⟨k + 1, t5, HLT.out, by rw [HAS.out, HZI.out], by go_num, HP5, HM6, HR6⟩
                case measure => have := HLT.out; simp [intOf]; omega
              · go_wp2_with fail
                refine wp_region_held_drew (S := (fun w' => w'.cell? ⟨g, k * 6, none⟩ = some (.int .i64 kk) ∧ w'.cell? ⟨g, k * 6 + 1, none⟩ = some (.int .i64 kn))) (by kernel_rfl) ?_ (fun hH0b => ?_)
                · with_reducible exact HSS.out _ (Below.refl _ w5).drew
                refine wpAnyH_take (i := 0) (oi := ?oibp0) (v := ?vbp0) ?hibp0 (by kernel_rfl) (by kernel_rfl) (by kernel_rfl) ?hQbp0 ?hybp0 (by assumption) ?_
                case hibp0 =>
                  simp only [List.getElem?_toArray, List.getElem?_cons_succ, List.getElem?_cons_zero]
                  try rfl
                case hQbp0 => exact fun _ _ _ h => h
                case hybp0 =>
                  refine Or.inl ⟨by rfl, ?_⟩
                  intro w' hSw
                  try dsimp only at hSw
                  go_simp
                  try with_reducible rfl
                try simp only [Act.put, List.setIfInBounds_toArray, List.set_cons_zero, List.set_cons_succ]
                refine wpAnyH_take (i := 1) (oi := ?oibp1) (v := ?vbp1) ?hibp1 (by kernel_rfl) (by kernel_rfl) (by kernel_rfl) ?hQbp1 ?hybp1 (by assumption) ?_
                case hibp1 =>
                  simp only [List.getElem?_toArray, List.getElem?_cons_succ, List.getElem?_cons_zero]
                  try rfl
                case hQbp1 => exact fun _ _ _ h => h
                case hybp1 =>
                  refine Or.inl ⟨by rfl, ?_⟩
                  intro w' hSw
                  try dsimp only at hSw
                  go_simp
                  try with_reducible rfl
                try simp only [Act.put, List.setIfInBounds_toArray, List.set_cons_zero, List.set_cons_succ]
                refine wpAnyH_take (i := 2) (oi := ?oibp2) (v := ?vbp2) ?hibp2 (by kernel_rfl) (by kernel_rfl) (by kernel_rfl) ?hQbp2 ?hybp2 (by assumption) ?_
                case hibp2 =>
                  simp only [List.getElem?_toArray, List.getElem?_cons_succ, List.getElem?_cons_zero]
                  try rfl
                case hQbp2 => exact fun _ _ _ h => h
                case hybp2 =>
                  refine Or.inl ⟨by rfl, ?_⟩
                  intro w' hSw
                  try dsimp only at hSw
                  go_simp
                  try with_reducible rfl
                try simp only [Act.put, List.setIfInBounds_toArray, List.set_cons_zero, List.set_cons_succ]
                refine wpAnyH_take (i := 3) (oi := ?oibp3) (v := ?vbp3) ?hibp3 (by kernel_rfl) (by kernel_rfl) (by kernel_rfl) ?hQbp3 ?hybp3 (by assumption) ?_
                case hibp3 =>
                  simp only [List.getElem?_toArray, List.getElem?_cons_succ, List.getElem?_cons_zero]
                  try rfl
                case hQbp3 => exact fun _ _ _ h => h
                case hybp3 =>
                  refine Or.inl ⟨by rfl, ?_⟩
                  intro w' hSw
                  try dsimp only at hSw
                  go_simp
                  try with_reducible rfl
                try simp only [Act.put, List.setIfInBounds_toArray, List.set_cons_zero, List.set_cons_succ]
                refine wpAnyH_take (i := 4) (oi := ?oibp4) (v := ?vbp4) ?hibp4 (by kernel_rfl) (by kernel_rfl) (by kernel_rfl) ?hQbp4 ?hybp4 (by assumption) ?_
                case hibp4 =>
                  simp only [List.getElem?_toArray, List.getElem?_cons_succ, List.getElem?_cons_zero]
                  try rfl
                case hQbp4 => exact fun _ _ _ h => h
                case hybp4 =>
                  refine Or.inl ⟨by rfl, ?_⟩
                  intro w' hSw
                  try dsimp only at hSw
                  go_simp
                  try with_reducible rfl
                try simp only [Act.put, List.setIfInBounds_toArray, List.set_cons_zero, List.set_cons_succ]
                refine wpAnyH_take (i := 5) (oi := ?oibp5) (v := ?vbp5) ?hibp5 (by kernel_rfl) (by kernel_rfl) (by kernel_rfl) ?hQbp5 ?hybp5 (by assumption) ?_
                case hibp5 =>
                  simp only [List.getElem?_toArray, List.getElem?_cons_succ, List.getElem?_cons_zero]
                  try rfl
                case hQbp5 => exact fun _ _ _ h => h
                case hybp5 =>
                  refine Or.inl ⟨by rfl, ?_⟩
                  intro w' hSw
                  try dsimp only at hSw
                  go_simp
                  try with_reducible rfl
                try simp only [Act.put, List.setIfInBounds_toArray, List.set_cons_zero, List.set_cons_succ]
                refine wpAnyH_ready (rs := [6]) (by kernel_rfl) (by simp) ?_
                refine AllReadyH.cons (o := ?obp6) ?hobp6 (fun K hK => ?_) AllReadyH.nil
                case hobp6 =>
                  simp only [List.getElem?_toArray, List.getElem?_cons_succ, List.getElem?_cons_zero]
                  try rfl
                go_simp
                (with_reducible refine (BS.places (HM5.out.below (Below.refl _ w5).drew) T HTT5.out).mono ?_)
                rintro e wA ⟨rfl, hb⟩
                have HBA := Lib.hid (below_step (Below.refl w5.heap.size w5).drew hb)
                clear hb
                go_wp2_with fail
                refine hK.out _ _ ?_ (fun hH1b => ?_)
                · with_reducible exact HSS.out _ HBA.out
                clear hK K hH0b
                try simp only [Act.put, List.setIfInBounds_toArray, List.set_cons_zero, List.set_cons_succ]
                refine wpAnyH_take (i := 7) (oi := ?oibp7) (v := ?vbp7) ?hibp7 (by kernel_rfl) (by kernel_rfl) (by kernel_rfl) ?hQbp7 ?hybp7 (by assumption) ?_
                case hibp7 =>
                  simp only [List.getElem?_toArray, List.getElem?_cons_succ, List.getElem?_cons_zero]
                  try rfl
                case hQbp7 => exact fun _ _ _ h => h
                case hybp7 =>
                  refine Or.inl ⟨by rfl, ?_⟩
                  intro w' hSw
                  try dsimp only at hSw
                  go_simp
                  try with_reducible rfl
                try simp only [Act.put, List.setIfInBounds_toArray, List.set_cons_zero, List.set_cons_succ]
                refine wpAnyH_take (i := 8) (oi := ?oibp8) (v := ?vbp8) ?hibp8 (by kernel_rfl) (by kernel_rfl) (by kernel_rfl) ?hQbp8 ?hybp8 (by assumption) ?_
                case hibp8 =>
                  simp only [List.getElem?_toArray, List.getElem?_cons_succ, List.getElem?_cons_zero]
                  try rfl
                case hQbp8 => exact fun _ _ _ h => h
                case hybp8 =>
                  refine Or.inl ⟨by rfl, ?_⟩
                  intro w' hSw
                  try dsimp only at hSw
                  go_simp
                  try with_reducible rfl
                try simp only [Act.put, List.setIfInBounds_toArray, List.set_cons_zero, List.set_cons_succ]
                refine wpAnyH_take (i := 9) (oi := ?oibp9) (v := ?vbp9) ?hibp9 (by kernel_rfl) (by kernel_rfl) (by kernel_rfl) ?hQbp9 ?hybp9 (by assumption) ?_
                case hibp9 =>
                  simp only [List.getElem?_toArray, List.getElem?_cons_succ, List.getElem?_cons_zero]
                  try rfl
                case hQbp9 => exact fun _ _ _ h => h
                case hybp9 =>
                  refine Or.inl ⟨by rfl, ?_⟩
                  intro w' hSw
                  try dsimp only at hSw
                  go_simp
                  try with_reducible rfl
                try simp only [Act.put, List.setIfInBounds_toArray, List.set_cons_zero, List.set_cons_succ]
                refine wpAnyH_take (i := 10) (oi := ?oibp10) (v := ?vbp10) ?hibp10 (by kernel_rfl) (by kernel_rfl) (by kernel_rfl) ?hQbp10 ?hybp10 (by assumption) ?_
                case hibp10 =>
                  simp only [List.getElem?_toArray, List.getElem?_cons_succ, List.getElem?_cons_zero]
                  try rfl
                case hQbp10 => exact fun _ _ _ h => h
                case hybp10 =>
                  refine Or.inl ⟨by rfl, ?_⟩
                  intro w' hSw
                  try dsimp only at hSw
                  go_simp
                  try with_reducible rfl
                try simp only [Act.put, List.setIfInBounds_toArray, List.set_cons_zero, List.set_cons_succ]
                refine wpAnyH_take (i := 11) (oi := ?oibp11) (v := ?vbp11) ?hibp11 (by kernel_rfl) (by kernel_rfl) (by kernel_rfl) ?hQbp11 ?hybp11 (by assumption) ?_
                case hibp11 =>
                  simp only [List.getElem?_toArray, List.getElem?_cons_succ, List.getElem?_cons_zero]
                  try rfl
                case hQbp11 => exact fun _ _ _ h => h
                case hybp11 =>
                  refine Or.inl ⟨by rfl, ?_⟩
                  intro w' hSw
                  try dsimp only at hSw
                  go_simp
                  try with_reducible rfl
                try simp only [Act.put, List.setIfInBounds_toArray, List.set_cons_zero, List.set_cons_succ]
                refine wpAnyH_take (i := 15) (oi := ?oibp15) (v := ?vbp15) ?hibp15 (by kernel_rfl) (by kernel_rfl) (by kernel_rfl) ?hQbp15 ?hybp15 (by assumption) ?_
                case hibp15 =>
                  simp only [List.getElem?_toArray, List.getElem?_cons_succ, List.getElem?_cons_zero]
                  try rfl
                case hQbp15 => exact fun _ _ _ h => h
                case hybp15 =>
                  refine Or.inl ⟨by rfl, ?_⟩
                  intro w' hSw
                  try dsimp only at hSw
                  go_simp
                  try with_reducible rfl
                try simp only [Act.put, List.setIfInBounds_toArray, List.set_cons_zero, List.set_cons_succ]
                refine wpAnyH_take (i := 16) (oi := ?oibp16) (v := ?vbp16) ?hibp16 (by kernel_rfl) (by kernel_rfl) (by kernel_rfl) ?hQbp16 ?hybp16 (by assumption) ?_
                case hibp16 =>
                  simp only [List.getElem?_toArray, List.getElem?_cons_succ, List.getElem?_cons_zero]
                  try rfl
                case hQbp16 => exact fun _ _ _ h => h
                case hybp16 =>
                  refine Or.inl ⟨by rfl, ?_⟩
                  intro w' hSw
                  try dsimp only at hSw
                  go_simp
                  try with_reducible rfl
                try simp only [Act.put, List.setIfInBounds_toArray, List.set_cons_zero, List.set_cons_succ]
                refine wpAnyH_take (i := 17) (oi := ?oibp17) (v := ?vbp17) ?hibp17 (by kernel_rfl) (by kernel_rfl) (by kernel_rfl) ?hQbp17 ?hybp17 (by assumption) ?_
                case hibp17 =>
                  simp only [List.getElem?_toArray, List.getElem?_cons_succ, List.getElem?_cons_zero]
                  try rfl
                case hQbp17 => exact fun _ _ _ h => h
                case hybp17 =>
                  refine Or.inl ⟨by rfl, ?_⟩
                  intro w' hSw
                  try dsimp only at hSw
                  go_simp
                  try with_reducible rfl
                try simp only [Act.put, List.setIfInBounds_toArray, List.set_cons_zero, List.set_cons_succ]
                refine wpAnyH_take (i := 18) (oi := ?oibp18) (v := ?vbp18) ?hibp18 (by kernel_rfl) (by kernel_rfl) (by kernel_rfl) ?hQbp18 ?hybp18 (by assumption) ?_
                case hibp18 =>
                  simp only [List.getElem?_toArray, List.getElem?_cons_succ, List.getElem?_cons_zero]
                  try rfl
                case hQbp18 => exact fun _ _ _ h => h
                case hybp18 =>
                  refine Or.inl ⟨by rfl, ?_⟩
                  intro w' hSw
                  try dsimp only at hSw
                  go_simp
                  try with_reducible rfl
                try simp only [Act.put, List.setIfInBounds_toArray, List.set_cons_zero, List.set_cons_succ]
                refine wpAnyH_take (i := 19) (oi := ?oibp19) (v := ?vbp19) ?hibp19 (by kernel_rfl) (by kernel_rfl) (by kernel_rfl) ?hQbp19 ?hybp19 (by assumption) ?_
                case hibp19 =>
                  simp only [List.getElem?_toArray, List.getElem?_cons_succ, List.getElem?_cons_zero]
                  try rfl
                case hQbp19 => exact fun _ _ _ h => h
                case hybp19 =>
                  refine Or.inl ⟨by rfl, ?_⟩
                  intro w' hSw
                  try dsimp only at hSw
                  go_simp
                  try with_reducible rfl
                try simp only [Act.put, List.setIfInBounds_toArray, List.set_cons_zero, List.set_cons_succ]
                refine wpAnyH_take (i := 20) (oi := ?oibp20) (v := ?vbp20) ?hibp20 (by kernel_rfl) (by kernel_rfl) (by kernel_rfl) ?hQbp20 ?hybp20 (by assumption) ?_
                case hibp20 =>
                  simp only [List.getElem?_toArray, List.getElem?_cons_succ, List.getElem?_cons_zero]
                  try rfl
                case hQbp20 => exact fun _ _ _ h => h
                case hybp20 =>
                  refine Or.inl ⟨by rfl, ?_⟩
                  intro w' hSw
                  try dsimp only at hSw
                  go_simp
                  try with_reducible rfl
                try simp only [Act.put, List.setIfInBounds_toArray, List.set_cons_zero, List.set_cons_succ]
                refine wpAnyH_take (i := 21) (oi := ?oibp21) (v := ?vbp21) ?hibp21 (by kernel_rfl) (by kernel_rfl) (by kernel_rfl) ?hQbp21 ?hybp21 (by assumption) ?_
                case hibp21 =>
                  simp only [List.getElem?_toArray, List.getElem?_cons_succ, List.getElem?_cons_zero]
                  try rfl
                case hQbp21 => exact fun _ _ _ h => h
                case hybp21 =>
                  refine Or.inl ⟨by rfl, ?_⟩
                  intro w' hSw
                  try dsimp only at hSw
                  go_simp
                  try with_reducible rfl
                try simp only [Act.put, List.setIfInBounds_toArray, List.set_cons_zero, List.set_cons_succ]
                refine wpAnyH_ready (rs := [12]) (by kernel_rfl) (by simp) ?_
                refine AllReadyH.cons (o := ?obp12) ?hobp12 (fun K hK => ?_) AllReadyH.nil
                case hobp12 =>
                  simp only [List.getElem?_toArray, List.getElem?_cons_succ, List.getElem?_cons_zero]
                  try rfl
                go_simp
                (with_reducible refine (BS.stats (HM5.out.below HBA.out) N5 m5 f5 x5 HST.out.1 HST.out.2.1 HST.out.2.2.1 HST.out.2.2.2).mono ?_)
                rintro e wB ⟨rfl, hb⟩
                have HBB := Lib.hid (below_step HBA.out hb)
                clear hb
                go_wp2_with fail
                refine hK.out _ _ ?_ (fun hH2b => ?_)
                · with_reducible exact HSS.out _ HBB.out
                clear hK K hH1b
                try simp only [Act.put, List.setIfInBounds_toArray, List.set_cons_zero, List.set_cons_succ]
                refine wpAnyH_take (i := 13) (oi := ?oibp13) (v := ?vbp13) ?hibp13 (by kernel_rfl) (by kernel_rfl) (by kernel_rfl) ?hQbp13 ?hybp13 (by assumption) ?_
                case hibp13 =>
                  simp only [List.getElem?_toArray, List.getElem?_cons_succ, List.getElem?_cons_zero]
                  try rfl
                case hQbp13 => exact fun _ _ _ h => h
                case hybp13 =>
                  refine Or.inl ⟨by rfl, ?_⟩
                  intro w' hSw
                  try dsimp only at hSw
                  go_simp
                  try with_reducible rfl
                try simp only [Act.put, List.setIfInBounds_toArray, List.set_cons_zero, List.set_cons_succ]
                refine wpAnyH_take (i := 14) (oi := ?oibp14) (v := ?vbp14) ?hibp14 (by kernel_rfl) (by kernel_rfl) (by kernel_rfl) ?hQbp14 ?hybp14 (by assumption) ?_
                case hibp14 =>
                  simp only [List.getElem?_toArray, List.getElem?_cons_succ, List.getElem?_cons_zero]
                  try rfl
                case hQbp14 => exact fun _ _ _ h => h
                case hybp14 =>
                  refine Or.inl ⟨by rfl, ?_⟩
                  intro w' hSw
                  try dsimp only at hSw
                  go_simp
                  try with_reducible rfl
                try simp only [Act.put, List.setIfInBounds_toArray, List.set_cons_zero, List.set_cons_succ]
                refine wpAnyH_take (i := 22) (oi := ?oibp22) (v := ?vbp22) ?hibp22 (by kernel_rfl) (by kernel_rfl) (by kernel_rfl) ?hQbp22 ?hybp22 (by assumption) ?_
                case hibp22 =>
                  simp only [List.getElem?_toArray, List.getElem?_cons_succ, List.getElem?_cons_zero]
                  try rfl
                case hQbp22 => exact fun _ _ _ h => h
                case hybp22 =>
                  refine Or.inl ⟨by rfl, ?_⟩
                  intro w' hSw
                  try dsimp only at hSw
                  go_simp
                  try with_reducible rfl
                try simp only [Act.put, List.setIfInBounds_toArray, List.set_cons_zero, List.set_cons_succ]
                refine wpAnyH_take (i := 23) (oi := ?oibp23) (v := undef) ?hibp23 (by kernel_rfl) (by kernel_rfl) (by kernel_rfl) ?hQbp23 ?hybp23 (by assumption) ?_
                case hibp23 =>
                  simp only [List.getElem?_toArray, List.getElem?_cons_succ, List.getElem?_cons_zero]
                  try rfl
                case hQbp23 => exact fun _ _ _ h => h
                case hybp23 => exact Or.inr ⟨by rfl, rfl⟩
                try simp only [Act.put, List.setIfInBounds_toArray, List.set_cons_zero, List.set_cons_succ]
                refine wpAnyH_take (i := 24) (oi := ?oibp24) (v := undef) ?hibp24 (by kernel_rfl) (by kernel_rfl) (by kernel_rfl) ?hQbp24 ?hybp24 (by assumption) ?_
                case hibp24 =>
                  simp only [List.getElem?_toArray, List.getElem?_cons_succ, List.getElem?_cons_zero]
                  try rfl
                case hQbp24 => exact fun _ _ _ h => h
                case hybp24 => exact Or.inr ⟨by rfl, rfl⟩
                try simp only [Act.put, List.setIfInBounds_toArray, List.set_cons_zero, List.set_cons_succ]
                refine wpAnyH_take (i := 25) (oi := ?oibp25) (v := undef) ?hibp25 (by kernel_rfl) (by kernel_rfl) (by kernel_rfl) ?hQbp25 ?hybp25 (by assumption) ?_
                case hibp25 =>
                  simp only [List.getElem?_toArray, List.getElem?_cons_succ, List.getElem?_cons_zero]
                  try rfl
                case hQbp25 => exact fun _ _ _ h => h
                case hybp25 => exact Or.inr ⟨by rfl, rfl⟩
                try simp only [Act.put, List.setIfInBounds_toArray, List.set_cons_zero, List.set_cons_succ]
                refine wpAnyH_take (i := 26) (oi := ?oibp26) (v := undef) ?hibp26 (by kernel_rfl) (by kernel_rfl) (by kernel_rfl) ?hQbp26 ?hybp26 (by assumption) ?_
                case hibp26 =>
                  simp only [List.getElem?_toArray, List.getElem?_cons_succ, List.getElem?_cons_zero]
                  try rfl
                case hQbp26 => exact fun _ _ _ h => h
                case hybp26 => exact Or.inr ⟨by rfl, rfl⟩
                try simp only [Act.put, List.setIfInBounds_toArray, List.set_cons_zero, List.set_cons_succ]
                refine wpAnyH_take (i := 27) (oi := ?oibp27) (v := undef) ?hibp27 (by kernel_rfl) (by kernel_rfl) (by kernel_rfl) ?hQbp27 ?hybp27 (by assumption) ?_
                case hibp27 =>
                  simp only [List.getElem?_toArray, List.getElem?_cons_succ, List.getElem?_cons_zero]
                  try rfl
                case hQbp27 => exact fun _ _ _ h => h
                case hybp27 => exact Or.inr ⟨by rfl, rfl⟩
                try simp only [Act.put, List.setIfInBounds_toArray, List.set_cons_zero, List.set_cons_succ]
                refine wpAnyH_take (i := 28) (oi := ?oibp28) (v := undef) ?hibp28 (by kernel_rfl) (by kernel_rfl) (by kernel_rfl) ?hQbp28 ?hybp28 (by assumption) ?_
                case hibp28 =>
                  simp only [List.getElem?_toArray, List.getElem?_cons_succ, List.getElem?_cons_zero]
                  try rfl
                case hQbp28 => exact fun _ _ _ h => h
                case hybp28 => exact Or.inr ⟨by rfl, rfl⟩
                try simp only [Act.put, List.setIfInBounds_toArray, List.set_cons_zero, List.set_cons_succ]
                refine wpAnyH_take (i := 29) (oi := ?oibp29) (v := undef) ?hibp29 (by kernel_rfl) (by kernel_rfl) (by kernel_rfl) ?hQbp29 ?hybp29 (by assumption) ?_
                case hibp29 =>
                  simp only [List.getElem?_toArray, List.getElem?_cons_succ, List.getElem?_cons_zero]
                  try rfl
                case hQbp29 => exact fun _ _ _ h => h
                case hybp29 => exact Or.inr ⟨by rfl, rfl⟩
                try simp only [Act.put, List.setIfInBounds_toArray, List.set_cons_zero, List.set_cons_succ]
                refine wpAnyH_take (i := 30) (oi := ?oibp30) (v := undef) ?hibp30 (by kernel_rfl) (by kernel_rfl) (by kernel_rfl) ?hQbp30 ?hybp30 (by assumption) ?_
                case hibp30 =>
                  simp only [List.getElem?_toArray, List.getElem?_cons_succ, List.getElem?_cons_zero]
                  try rfl
                case hQbp30 => exact fun _ _ _ h => h
                case hybp30 => exact Or.inr ⟨by rfl, rfl⟩
                try simp only [Act.put, List.setIfInBounds_toArray, List.set_cons_zero, List.set_cons_succ]
                refine wpAnyH_take (i := 31) (oi := ?oibp31) (v := ?vbp31) ?hibp31 (by kernel_rfl) (by kernel_rfl) (by kernel_rfl) ?hQbp31 ?hybp31 (by assumption) ?_
                case hibp31 =>
                  simp only [List.getElem?_toArray, List.getElem?_cons_succ, List.getElem?_cons_zero]
                  try rfl
                case hQbp31 => exact fun _ _ _ h => h
                case hybp31 =>
                  refine Or.inl ⟨by rfl, ?_⟩
                  intro w' hSw
                  try dsimp only at hSw
                  go_simp
                  try with_reducible rfl
                try simp only [Act.put, List.setIfInBounds_toArray, List.set_cons_zero, List.set_cons_succ]
                refine wpAnyH_take (i := 32) (oi := ?oibp32) (v := ?vbp32) ?hibp32 (by kernel_rfl) (by kernel_rfl) (by kernel_rfl) ?hQbp32 ?hybp32 (by assumption) ?_
                case hibp32 =>
                  simp only [List.getElem?_toArray, List.getElem?_cons_succ, List.getElem?_cons_zero]
                  try rfl
                case hQbp32 => exact fun _ _ _ h => h
                case hybp32 =>
                  refine Or.inl ⟨by rfl, ?_⟩
                  intro w' hSw
                  try dsimp only at hSw
                  go_simp
                  try with_reducible rfl
                try simp only [Act.put, List.setIfInBounds_toArray, List.set_cons_zero, List.set_cons_succ]
                refine wpAnyH_take (i := 33) (oi := ?oibp33) (v := undef) ?hibp33 (by kernel_rfl) (by kernel_rfl) (by kernel_rfl) ?hQbp33 ?hybp33 (by assumption) ?_
                case hibp33 =>
                  simp only [List.getElem?_toArray, List.getElem?_cons_succ, List.getElem?_cons_zero]
                  try rfl
                case hQbp33 => exact fun _ _ _ h => h
                case hybp33 => exact Or.inr ⟨by rfl, rfl⟩
                try simp only [Act.put, List.setIfInBounds_toArray, List.set_cons_zero, List.set_cons_succ]
                refine wpAnyH_take (i := 34) (oi := ?oibp34) (v := undef) ?hibp34 (by kernel_rfl) (by kernel_rfl) (by kernel_rfl) ?hQbp34 ?hybp34 (by assumption) ?_
                case hibp34 =>
                  simp only [List.getElem?_toArray, List.getElem?_cons_succ, List.getElem?_cons_zero]
                  try rfl
                case hQbp34 => exact fun _ _ _ h => h
                case hybp34 => exact Or.inr ⟨by rfl, rfl⟩
                try simp only [Act.put, List.setIfInBounds_toArray, List.set_cons_zero, List.set_cons_succ]
                refine wpAnyH_take (i := 35) (oi := ?oibp35) (v := undef) ?hibp35 (by kernel_rfl) (by kernel_rfl) (by kernel_rfl) ?hQbp35 ?hybp35 (by assumption) ?_
                case hibp35 =>
                  simp only [List.getElem?_toArray, List.getElem?_cons_succ, List.getElem?_cons_zero]
                  try rfl
                case hQbp35 => exact fun _ _ _ h => h
                case hybp35 => exact Or.inr ⟨by rfl, rfl⟩
                try simp only [Act.put, List.setIfInBounds_toArray, List.set_cons_zero, List.set_cons_succ]
                refine wpAnyH_take (i := 36) (oi := ?oibp36) (v := undef) ?hibp36 (by kernel_rfl) (by kernel_rfl) (by kernel_rfl) ?hQbp36 ?hybp36 (by assumption) ?_
                case hibp36 =>
                  simp only [List.getElem?_toArray, List.getElem?_cons_succ, List.getElem?_cons_zero]
                  try rfl
                case hQbp36 => exact fun _ _ _ h => h
                case hybp36 => exact Or.inr ⟨by rfl, rfl⟩
                try simp only [Act.put, List.setIfInBounds_toArray, List.set_cons_zero, List.set_cons_succ]
                refine wpAnyH_take (i := 37) (oi := ?oibp37) (v := undef) ?hibp37 (by kernel_rfl) (by kernel_rfl) (by kernel_rfl) ?hQbp37 ?hybp37 (by assumption) ?_
                case hibp37 =>
                  simp only [List.getElem?_toArray, List.getElem?_cons_succ, List.getElem?_cons_zero]
                  try rfl
                case hQbp37 => exact fun _ _ _ h => h
                case hybp37 => exact Or.inr ⟨by rfl, rfl⟩
                try simp only [Act.put, List.setIfInBounds_toArray, List.set_cons_zero, List.set_cons_succ]
                refine wpAnyH_take (i := 38) (oi := ?oibp38) (v := ?vbp38) ?hibp38 (by kernel_rfl) (by kernel_rfl) (by kernel_rfl) ?hQbp38 ?hybp38 (by assumption) ?_
                case hibp38 =>
                  simp only [List.getElem?_toArray, List.getElem?_cons_succ, List.getElem?_cons_zero]
                  try rfl
                case hQbp38 => exact fun _ _ _ h => h
                case hybp38 =>
                  refine Or.inl ⟨by rfl, ?_⟩
                  intro w' hSw
                  try dsimp only at hSw
                  go_simp
                  try with_reducible rfl
                try simp only [Act.put, List.setIfInBounds_toArray, List.set_cons_zero, List.set_cons_succ]
                refine wpAnyH_take (i := 39) (oi := ?oibp39) (v := ?vbp39) ?hibp39 (by kernel_rfl) (by kernel_rfl) (by kernel_rfl) ?hQbp39 ?hybp39 (by assumption) ?_
                case hibp39 =>
                  simp only [List.getElem?_toArray, List.getElem?_cons_succ, List.getElem?_cons_zero]
                  try rfl
                case hQbp39 => exact fun _ _ _ h => h
                case hybp39 =>
                  refine Or.inl ⟨by rfl, ?_⟩
                  intro w' hSw
                  try dsimp only at hSw
                  go_simp
                  try with_reducible rfl
                try simp only [Act.put, List.setIfInBounds_toArray, List.set_cons_zero, List.set_cons_succ]
                refine wpAnyH_take (i := 40) (oi := ?oibp40) (v := ?vbp40) ?hibp40 (by kernel_rfl) (by kernel_rfl) (by kernel_rfl) ?hQbp40 ?hybp40 (by assumption) ?_
                case hibp40 =>
                  simp only [List.getElem?_toArray, List.getElem?_cons_succ, List.getElem?_cons_zero]
                  try rfl
                case hQbp40 => exact fun _ _ _ h => h
                case hybp40 =>
                  refine Or.inl ⟨by rfl, ?_⟩
                  intro w' hSw
                  try dsimp only at hSw
                  go_simp
                  try with_reducible rfl
                try simp only [Act.put, List.setIfInBounds_toArray, List.set_cons_zero, List.set_cons_succ]
                refine wpAnyH_done (by kernel_rfl) ?_ _
                have HM6 := Lib.hid (HM5.out.below HBB.out)
                have HR6 := Lib.hid (HR5.out.keep (fun q hq => HBB.out.block q (HR5.out.lt q hq).2))
                go_wp2_with fail
                go_roundw
                case rel => exact ⟨k + 1, t5, HLT.out, by rw [HAS.out, HZI.out], by go_num, HP5, HM6, HR6⟩
                case measure => have := HLT.out; simp [intOf]; omega
              · go_wp2_with fail
                refine wp_region_held_drew (S := (fun w' => w'.cell? ⟨g, k * 6, none⟩ = some (.int .i64 2) ∧ w'.cell? ⟨g, k * 6 + 1, none⟩ = some (.int .i64 kn))) (by kernel_rfl) ?_ (fun hH0d => ?_)
                · with_reducible exact HSS.out _ (Below.refl _ w5).drew
                refine wpAnyH_take (i := 0) (oi := ?oidp0) (v := ?vdp0) ?hidp0 (by kernel_rfl) (by kernel_rfl) (by kernel_rfl) ?hQdp0 ?hydp0 (by assumption) ?_
                case hidp0 =>
                  simp only [List.getElem?_toArray, List.getElem?_cons_succ, List.getElem?_cons_zero]
                  try rfl
                case hQdp0 => exact fun _ _ _ h => h
                case hydp0 =>
                  refine Or.inl ⟨by rfl, ?_⟩
                  intro w' hSw
                  try dsimp only at hSw
                  go_simp
                  try with_reducible rfl
                try simp only [Act.put, List.setIfInBounds_toArray, List.set_cons_zero, List.set_cons_succ]
                refine wpAnyH_take (i := 1) (oi := ?oidp1) (v := ?vdp1) ?hidp1 (by kernel_rfl) (by kernel_rfl) (by kernel_rfl) ?hQdp1 ?hydp1 (by assumption) ?_
                case hidp1 =>
                  simp only [List.getElem?_toArray, List.getElem?_cons_succ, List.getElem?_cons_zero]
                  try rfl
                case hQdp1 => exact fun _ _ _ h => h
                case hydp1 =>
                  refine Or.inl ⟨by rfl, ?_⟩
                  intro w' hSw
                  try dsimp only at hSw
                  go_simp
                  try with_reducible rfl
                try simp only [Act.put, List.setIfInBounds_toArray, List.set_cons_zero, List.set_cons_succ]
                refine wpAnyH_take (i := 2) (oi := ?oidp2) (v := ?vdp2) ?hidp2 (by kernel_rfl) (by kernel_rfl) (by kernel_rfl) ?hQdp2 ?hydp2 (by assumption) ?_
                case hidp2 =>
                  simp only [List.getElem?_toArray, List.getElem?_cons_succ, List.getElem?_cons_zero]
                  try rfl
                case hQdp2 => exact fun _ _ _ h => h
                case hydp2 =>
                  refine Or.inl ⟨by rfl, ?_⟩
                  intro w' hSw
                  try dsimp only at hSw
                  go_simp
                  try with_reducible rfl
                try simp only [Act.put, List.setIfInBounds_toArray, List.set_cons_zero, List.set_cons_succ]
                refine wpAnyH_take (i := 3) (oi := ?oidp3) (v := ?vdp3) ?hidp3 (by kernel_rfl) (by kernel_rfl) (by kernel_rfl) ?hQdp3 ?hydp3 (by assumption) ?_
                case hidp3 =>
                  simp only [List.getElem?_toArray, List.getElem?_cons_succ, List.getElem?_cons_zero]
                  try rfl
                case hQdp3 => exact fun _ _ _ h => h
                case hydp3 =>
                  refine Or.inl ⟨by rfl, ?_⟩
                  intro w' hSw
                  try dsimp only at hSw
                  go_simp
                  try with_reducible rfl
                try simp only [Act.put, List.setIfInBounds_toArray, List.set_cons_zero, List.set_cons_succ]
                refine wpAnyH_take (i := 4) (oi := ?oidp4) (v := ?vdp4) ?hidp4 (by kernel_rfl) (by kernel_rfl) (by kernel_rfl) ?hQdp4 ?hydp4 (by assumption) ?_
                case hidp4 =>
                  simp only [List.getElem?_toArray, List.getElem?_cons_succ, List.getElem?_cons_zero]
                  try rfl
                case hQdp4 => exact fun _ _ _ h => h
                case hydp4 =>
                  refine Or.inl ⟨by rfl, ?_⟩
                  intro w' hSw
                  try dsimp only at hSw
                  go_simp
                  try with_reducible rfl
                try simp only [Act.put, List.setIfInBounds_toArray, List.set_cons_zero, List.set_cons_succ]
                refine wpAnyH_take (i := 5) (oi := ?oidp5) (v := ?vdp5) ?hidp5 (by kernel_rfl) (by kernel_rfl) (by kernel_rfl) ?hQdp5 ?hydp5 (by assumption) ?_
                case hidp5 =>
                  simp only [List.getElem?_toArray, List.getElem?_cons_succ, List.getElem?_cons_zero]
                  try rfl
                case hQdp5 => exact fun _ _ _ h => h
                case hydp5 =>
                  refine Or.inl ⟨by rfl, ?_⟩
                  intro w' hSw
                  try dsimp only at hSw
                  go_simp
                  try with_reducible rfl
                try simp only [Act.put, List.setIfInBounds_toArray, List.set_cons_zero, List.set_cons_succ]
                refine wpAnyH_ready (rs := [6]) (by kernel_rfl) (by simp) ?_
                refine AllReadyH.cons (o := ?odp6) ?hodp6 (fun K hK => ?_) AllReadyH.nil
                case hodp6 =>
                  simp only [List.getElem?_toArray, List.getElem?_cons_succ, List.getElem?_cons_zero]
                  try rfl
                go_simp
                (with_reducible refine (BS.places (HM5.out.below (Below.refl _ w5).drew) T HTT5.out).mono ?_)
                rintro e wA ⟨rfl, hb⟩
                have HBA := Lib.hid (below_step (Below.refl w5.heap.size w5).drew hb)
                clear hb
                go_wp2_with fail
                refine hK.out _ _ ?_ (fun hH1d => ?_)
                · with_reducible exact HSS.out _ HBA.out
                clear hK K hH0d
                try simp only [Act.put, List.setIfInBounds_toArray, List.set_cons_zero, List.set_cons_succ]
                refine wpAnyH_take (i := 7) (oi := ?oidp7) (v := ?vdp7) ?hidp7 (by kernel_rfl) (by kernel_rfl) (by kernel_rfl) ?hQdp7 ?hydp7 (by assumption) ?_
                case hidp7 =>
                  simp only [List.getElem?_toArray, List.getElem?_cons_succ, List.getElem?_cons_zero]
                  try rfl
                case hQdp7 => exact fun _ _ _ h => h
                case hydp7 =>
                  refine Or.inl ⟨by rfl, ?_⟩
                  intro w' hSw
                  try dsimp only at hSw
                  go_simp
                  try with_reducible rfl
                try simp only [Act.put, List.setIfInBounds_toArray, List.set_cons_zero, List.set_cons_succ]
                refine wpAnyH_take (i := 8) (oi := ?oidp8) (v := ?vdp8) ?hidp8 (by kernel_rfl) (by kernel_rfl) (by kernel_rfl) ?hQdp8 ?hydp8 (by assumption) ?_
                case hidp8 =>
                  simp only [List.getElem?_toArray, List.getElem?_cons_succ, List.getElem?_cons_zero]
                  try rfl
                case hQdp8 => exact fun _ _ _ h => h
                case hydp8 =>
                  refine Or.inl ⟨by rfl, ?_⟩
                  intro w' hSw
                  try dsimp only at hSw
                  go_simp
                  try with_reducible rfl
                try simp only [Act.put, List.setIfInBounds_toArray, List.set_cons_zero, List.set_cons_succ]
                refine wpAnyH_take (i := 9) (oi := ?oidp9) (v := ?vdp9) ?hidp9 (by kernel_rfl) (by kernel_rfl) (by kernel_rfl) ?hQdp9 ?hydp9 (by assumption) ?_
                case hidp9 =>
                  simp only [List.getElem?_toArray, List.getElem?_cons_succ, List.getElem?_cons_zero]
                  try rfl
                case hQdp9 => exact fun _ _ _ h => h
                case hydp9 =>
                  refine Or.inl ⟨by rfl, ?_⟩
                  intro w' hSw
                  try dsimp only at hSw
                  go_simp
                  try with_reducible rfl
                try simp only [Act.put, List.setIfInBounds_toArray, List.set_cons_zero, List.set_cons_succ]
                refine wpAnyH_take (i := 10) (oi := ?oidp10) (v := ?vdp10) ?hidp10 (by kernel_rfl) (by kernel_rfl) (by kernel_rfl) ?hQdp10 ?hydp10 (by assumption) ?_
                case hidp10 =>
                  simp only [List.getElem?_toArray, List.getElem?_cons_succ, List.getElem?_cons_zero]
                  try rfl
                case hQdp10 => exact fun _ _ _ h => h
                case hydp10 =>
                  refine Or.inl ⟨by rfl, ?_⟩
                  intro w' hSw
                  try dsimp only at hSw
                  go_simp
                  try with_reducible rfl
                try simp only [Act.put, List.setIfInBounds_toArray, List.set_cons_zero, List.set_cons_succ]
                refine wpAnyH_take (i := 11) (oi := ?oidp11) (v := ?vdp11) ?hidp11 (by kernel_rfl) (by kernel_rfl) (by kernel_rfl) ?hQdp11 ?hydp11 (by assumption) ?_
                case hidp11 =>
                  simp only [List.getElem?_toArray, List.getElem?_cons_succ, List.getElem?_cons_zero]
                  try rfl
                case hQdp11 => exact fun _ _ _ h => h
                case hydp11 =>
                  refine Or.inl ⟨by rfl, ?_⟩
                  intro w' hSw
                  try dsimp only at hSw
                  go_simp
                  try with_reducible rfl
                try simp only [Act.put, List.setIfInBounds_toArray, List.set_cons_zero, List.set_cons_succ]
                refine wpAnyH_take (i := 15) (oi := ?oidp15) (v := ?vdp15) ?hidp15 (by kernel_rfl) (by kernel_rfl) (by kernel_rfl) ?hQdp15 ?hydp15 (by assumption) ?_
                case hidp15 =>
                  simp only [List.getElem?_toArray, List.getElem?_cons_succ, List.getElem?_cons_zero]
                  try rfl
                case hQdp15 => exact fun _ _ _ h => h
                case hydp15 =>
                  refine Or.inl ⟨by rfl, ?_⟩
                  intro w' hSw
                  try dsimp only at hSw
                  go_simp
                  try with_reducible rfl
                try simp only [Act.put, List.setIfInBounds_toArray, List.set_cons_zero, List.set_cons_succ]
                refine wpAnyH_take (i := 16) (oi := ?oidp16) (v := ?vdp16) ?hidp16 (by kernel_rfl) (by kernel_rfl) (by kernel_rfl) ?hQdp16 ?hydp16 (by assumption) ?_
                case hidp16 =>
                  simp only [List.getElem?_toArray, List.getElem?_cons_succ, List.getElem?_cons_zero]
                  try rfl
                case hQdp16 => exact fun _ _ _ h => h
                case hydp16 =>
                  refine Or.inl ⟨by rfl, ?_⟩
                  intro w' hSw
                  try dsimp only at hSw
                  go_simp
                  try with_reducible rfl
                try simp only [Act.put, List.setIfInBounds_toArray, List.set_cons_zero, List.set_cons_succ]
                refine wpAnyH_take (i := 17) (oi := ?oidp17) (v := ?vdp17) ?hidp17 (by kernel_rfl) (by kernel_rfl) (by kernel_rfl) ?hQdp17 ?hydp17 (by assumption) ?_
                case hidp17 =>
                  simp only [List.getElem?_toArray, List.getElem?_cons_succ, List.getElem?_cons_zero]
                  try rfl
                case hQdp17 => exact fun _ _ _ h => h
                case hydp17 =>
                  refine Or.inl ⟨by rfl, ?_⟩
                  intro w' hSw
                  try dsimp only at hSw
                  go_simp
                  try with_reducible rfl
                try simp only [Act.put, List.setIfInBounds_toArray, List.set_cons_zero, List.set_cons_succ]
                refine wpAnyH_take (i := 18) (oi := ?oidp18) (v := ?vdp18) ?hidp18 (by kernel_rfl) (by kernel_rfl) (by kernel_rfl) ?hQdp18 ?hydp18 (by assumption) ?_
                case hidp18 =>
                  simp only [List.getElem?_toArray, List.getElem?_cons_succ, List.getElem?_cons_zero]
                  try rfl
                case hQdp18 => exact fun _ _ _ h => h
                case hydp18 =>
                  refine Or.inl ⟨by rfl, ?_⟩
                  intro w' hSw
                  try dsimp only at hSw
                  go_simp
                  try with_reducible rfl
                try simp only [Act.put, List.setIfInBounds_toArray, List.set_cons_zero, List.set_cons_succ]
                refine wpAnyH_take (i := 19) (oi := ?oidp19) (v := ?vdp19) ?hidp19 (by kernel_rfl) (by kernel_rfl) (by kernel_rfl) ?hQdp19 ?hydp19 (by assumption) ?_
                case hidp19 =>
                  simp only [List.getElem?_toArray, List.getElem?_cons_succ, List.getElem?_cons_zero]
                  try rfl
                case hQdp19 => exact fun _ _ _ h => h
                case hydp19 =>
                  refine Or.inl ⟨by rfl, ?_⟩
                  intro w' hSw
                  try dsimp only at hSw
                  go_simp
                  try with_reducible rfl
                try simp only [Act.put, List.setIfInBounds_toArray, List.set_cons_zero, List.set_cons_succ]
                refine wpAnyH_take (i := 20) (oi := ?oidp20) (v := ?vdp20) ?hidp20 (by kernel_rfl) (by kernel_rfl) (by kernel_rfl) ?hQdp20 ?hydp20 (by assumption) ?_
                case hidp20 =>
                  simp only [List.getElem?_toArray, List.getElem?_cons_succ, List.getElem?_cons_zero]
                  try rfl
                case hQdp20 => exact fun _ _ _ h => h
                case hydp20 =>
                  refine Or.inl ⟨by rfl, ?_⟩
                  intro w' hSw
                  try dsimp only at hSw
                  go_simp
                  try with_reducible rfl
                try simp only [Act.put, List.setIfInBounds_toArray, List.set_cons_zero, List.set_cons_succ]
                refine wpAnyH_take (i := 21) (oi := ?oidp21) (v := ?vdp21) ?hidp21 (by kernel_rfl) (by kernel_rfl) (by kernel_rfl) ?hQdp21 ?hydp21 (by assumption) ?_
                case hidp21 =>
                  simp only [List.getElem?_toArray, List.getElem?_cons_succ, List.getElem?_cons_zero]
                  try rfl
                case hQdp21 => exact fun _ _ _ h => h
                case hydp21 =>
                  refine Or.inl ⟨by rfl, ?_⟩
                  intro w' hSw
                  try dsimp only at hSw
                  go_simp
                  try with_reducible rfl
                try simp only [Act.put, List.setIfInBounds_toArray, List.set_cons_zero, List.set_cons_succ]
                refine wpAnyH_ready (rs := [12]) (by kernel_rfl) (by simp) ?_
                refine AllReadyH.cons (o := ?odp12) ?hodp12 (fun K hK => ?_) AllReadyH.nil
                case hodp12 =>
                  simp only [List.getElem?_toArray, List.getElem?_cons_succ, List.getElem?_cons_zero]
                  try rfl
                go_simp
                (with_reducible refine (BS.stats (HM5.out.below HBA.out) N5 m5 f5 x5 HST.out.1 HST.out.2.1 HST.out.2.2.1 HST.out.2.2.2).mono ?_)
                rintro e wB ⟨rfl, hb⟩
                have HBB := Lib.hid (below_step HBA.out hb)
                clear hb
                go_wp2_with fail
                refine hK.out _ _ ?_ (fun hH2d => ?_)
                · with_reducible exact HSS.out _ HBB.out
                clear hK K hH1d
                try simp only [Act.put, List.setIfInBounds_toArray, List.set_cons_zero, List.set_cons_succ]
                refine wpAnyH_take (i := 13) (oi := ?oidp13) (v := ?vdp13) ?hidp13 (by kernel_rfl) (by kernel_rfl) (by kernel_rfl) ?hQdp13 ?hydp13 (by assumption) ?_
                case hidp13 =>
                  simp only [List.getElem?_toArray, List.getElem?_cons_succ, List.getElem?_cons_zero]
                  try rfl
                case hQdp13 => exact fun _ _ _ h => h
                case hydp13 =>
                  refine Or.inl ⟨by rfl, ?_⟩
                  intro w' hSw
                  try dsimp only at hSw
                  go_simp
                  try with_reducible rfl
                try simp only [Act.put, List.setIfInBounds_toArray, List.set_cons_zero, List.set_cons_succ]
                refine wpAnyH_take (i := 14) (oi := ?oidp14) (v := ?vdp14) ?hidp14 (by kernel_rfl) (by kernel_rfl) (by kernel_rfl) ?hQdp14 ?hydp14 (by assumption) ?_
                case hidp14 =>
                  simp only [List.getElem?_toArray, List.getElem?_cons_succ, List.getElem?_cons_zero]
                  try rfl
                case hQdp14 => exact fun _ _ _ h => h
                case hydp14 =>
                  refine Or.inl ⟨by rfl, ?_⟩
                  intro w' hSw
                  try dsimp only at hSw
                  go_simp
                  try with_reducible rfl
                try simp only [Act.put, List.setIfInBounds_toArray, List.set_cons_zero, List.set_cons_succ]
                refine wpAnyH_take (i := 22) (oi := ?oidp22) (v := ?vdp22) ?hidp22 (by kernel_rfl) (by kernel_rfl) (by kernel_rfl) ?hQdp22 ?hydp22 (by assumption) ?_
                case hidp22 =>
                  simp only [List.getElem?_toArray, List.getElem?_cons_succ, List.getElem?_cons_zero]
                  try rfl
                case hQdp22 => exact fun _ _ _ h => h
                case hydp22 =>
                  refine Or.inl ⟨by rfl, ?_⟩
                  intro w' hSw
                  try dsimp only at hSw
                  go_simp
                  try with_reducible rfl
                try simp only [Act.put, List.setIfInBounds_toArray, List.set_cons_zero, List.set_cons_succ]
                refine wpAnyH_take (i := 23) (oi := ?oidp23) (v := ?vdp23) ?hidp23 (by kernel_rfl) (by kernel_rfl) (by kernel_rfl) ?hQdp23 ?hydp23 (by assumption) ?_
                case hidp23 =>
                  simp only [List.getElem?_toArray, List.getElem?_cons_succ, List.getElem?_cons_zero]
                  try rfl
                case hQdp23 => exact fun _ _ _ h => h
                case hydp23 =>
                  refine Or.inl ⟨by rfl, ?_⟩
                  intro w' hSw
                  try dsimp only at hSw
                  go_simp
                  try with_reducible rfl
                try simp only [Act.put, List.setIfInBounds_toArray, List.set_cons_zero, List.set_cons_succ]
                refine wpAnyH_take (i := 24) (oi := ?oidp24) (v := ?vdp24) ?hidp24 (by kernel_rfl) (by kernel_rfl) (by kernel_rfl) ?hQdp24 ?hydp24 (by assumption) ?_
                case hidp24 =>
                  simp only [List.getElem?_toArray, List.getElem?_cons_succ, List.getElem?_cons_zero]
                  try rfl
                case hQdp24 => exact fun _ _ _ h => h
                case hydp24 =>
                  refine Or.inl ⟨by rfl, ?_⟩
                  intro w' hSw
                  try dsimp only at hSw
                  go_simp
                  try with_reducible rfl
                try simp only [Act.put, List.setIfInBounds_toArray, List.set_cons_zero, List.set_cons_succ]
                refine wpAnyH_take (i := 25) (oi := ?oidp25) (v := ?vdp25) ?hidp25 (by kernel_rfl) (by kernel_rfl) (by kernel_rfl) ?hQdp25 ?hydp25 (by assumption) ?_
                case hidp25 =>
                  simp only [List.getElem?_toArray, List.getElem?_cons_succ, List.getElem?_cons_zero]
                  try rfl
                case hQdp25 => exact fun _ _ _ h => h
                case hydp25 =>
                  refine Or.inl ⟨by rfl, ?_⟩
                  intro w' hSw
                  try dsimp only at hSw
                  go_simp
                  try with_reducible rfl
                try simp only [Act.put, List.setIfInBounds_toArray, List.set_cons_zero, List.set_cons_succ]
                refine wpAnyH_take (i := 26) (oi := ?oidp26) (v := ?vdp26) ?hidp26 (by kernel_rfl) (by kernel_rfl) (by kernel_rfl) ?hQdp26 ?hydp26 (by assumption) ?_
                case hidp26 =>
                  simp only [List.getElem?_toArray, List.getElem?_cons_succ, List.getElem?_cons_zero]
                  try rfl
                case hQdp26 => exact fun _ _ _ h => h
                case hydp26 =>
                  refine Or.inl ⟨by rfl, ?_⟩
                  intro w' hSw
                  try dsimp only at hSw
                  go_simp
                  try with_reducible rfl
                try simp only [Act.put, List.setIfInBounds_toArray, List.set_cons_zero, List.set_cons_succ]
                refine wpAnyH_take (i := 27) (oi := ?oidp27) (v := ?vdp27) ?hidp27 (by kernel_rfl) (by kernel_rfl) (by kernel_rfl) ?hQdp27 ?hydp27 (by assumption) ?_
                case hidp27 =>
                  simp only [List.getElem?_toArray, List.getElem?_cons_succ, List.getElem?_cons_zero]
                  try rfl
                case hQdp27 => exact fun _ _ _ h => h
                case hydp27 =>
                  refine Or.inl ⟨by rfl, ?_⟩
                  intro w' hSw
                  try dsimp only at hSw
                  go_simp
                  try with_reducible rfl
                try simp only [Act.put, List.setIfInBounds_toArray, List.set_cons_zero, List.set_cons_succ]
                refine wpAnyH_take (i := 28) (oi := ?oidp28) (v := ?vdp28) ?hidp28 (by kernel_rfl) (by kernel_rfl) (by kernel_rfl) ?hQdp28 ?hydp28 (by assumption) ?_
                case hidp28 =>
                  simp only [List.getElem?_toArray, List.getElem?_cons_succ, List.getElem?_cons_zero]
                  try rfl
                case hQdp28 => exact fun _ _ _ h => h
                case hydp28 =>
                  refine Or.inl ⟨by rfl, ?_⟩
                  intro w' hSw
                  try dsimp only at hSw
                  go_simp
                  try with_reducible rfl
                try simp only [Act.put, List.setIfInBounds_toArray, List.set_cons_zero, List.set_cons_succ]
                refine wpAnyH_take (i := 29) (oi := ?oidp29) (v := ?vdp29) ?hidp29 (by kernel_rfl) (by kernel_rfl) (by kernel_rfl) ?hQdp29 ?hydp29 (by assumption) ?_
                case hidp29 =>
                  simp only [List.getElem?_toArray, List.getElem?_cons_succ, List.getElem?_cons_zero]
                  try rfl
                case hQdp29 => exact fun _ _ _ h => h
                case hydp29 =>
                  refine Or.inl ⟨by rfl, ?_⟩
                  intro w' hSw
                  try dsimp only at hSw
                  go_simp
                  try with_reducible rfl
                try simp only [Act.put, List.setIfInBounds_toArray, List.set_cons_zero, List.set_cons_succ]
                refine wpAnyH_take (i := 30) (oi := ?oidp30) (v := ?vdp30) ?hidp30 (by kernel_rfl) (by kernel_rfl) (by kernel_rfl) ?hQdp30 ?hydp30 (by assumption) ?_
                case hidp30 =>
                  simp only [List.getElem?_toArray, List.getElem?_cons_succ, List.getElem?_cons_zero]
                  try rfl
                case hQdp30 => exact fun _ _ _ h => h
                case hydp30 =>
                  refine Or.inl ⟨by rfl, ?_⟩
                  intro w' hSw
                  try dsimp only at hSw
                  go_simp
                  try with_reducible rfl
                try simp only [Act.put, List.setIfInBounds_toArray, List.set_cons_zero, List.set_cons_succ]
                refine wpAnyH_take (i := 31) (oi := ?oidp31) (v := ?vdp31) ?hidp31 (by kernel_rfl) (by kernel_rfl) (by kernel_rfl) ?hQdp31 ?hydp31 (by assumption) ?_
                case hidp31 =>
                  simp only [List.getElem?_toArray, List.getElem?_cons_succ, List.getElem?_cons_zero]
                  try rfl
                case hQdp31 => exact fun _ _ _ h => h
                case hydp31 =>
                  refine Or.inl ⟨by rfl, ?_⟩
                  intro w' hSw
                  try dsimp only at hSw
                  go_simp
                  try with_reducible rfl
                try simp only [Act.put, List.setIfInBounds_toArray, List.set_cons_zero, List.set_cons_succ]
                refine wpAnyH_take (i := 32) (oi := ?oidp32) (v := ?vdp32) ?hidp32 (by kernel_rfl) (by kernel_rfl) (by kernel_rfl) ?hQdp32 ?hydp32 (by assumption) ?_
                case hidp32 =>
                  simp only [List.getElem?_toArray, List.getElem?_cons_succ, List.getElem?_cons_zero]
                  try rfl
                case hQdp32 => exact fun _ _ _ h => h
                case hydp32 =>
                  refine Or.inl ⟨by rfl, ?_⟩
                  intro w' hSw
                  try dsimp only at hSw
                  go_simp
                  try with_reducible rfl
                try simp only [Act.put, List.setIfInBounds_toArray, List.set_cons_zero, List.set_cons_succ]
                refine wpAnyH_take (i := 33) (oi := ?oidp33) (v := undef) ?hidp33 (by kernel_rfl) (by kernel_rfl) (by kernel_rfl) ?hQdp33 ?hydp33 (by assumption) ?_
                case hidp33 =>
                  simp only [List.getElem?_toArray, List.getElem?_cons_succ, List.getElem?_cons_zero]
                  try rfl
                case hQdp33 => exact fun _ _ _ h => h
                case hydp33 => exact Or.inr ⟨by rfl, rfl⟩
                try simp only [Act.put, List.setIfInBounds_toArray, List.set_cons_zero, List.set_cons_succ]
                refine wpAnyH_take (i := 34) (oi := ?oidp34) (v := undef) ?hidp34 (by kernel_rfl) (by kernel_rfl) (by kernel_rfl) ?hQdp34 ?hydp34 (by assumption) ?_
                case hidp34 =>
                  simp only [List.getElem?_toArray, List.getElem?_cons_succ, List.getElem?_cons_zero]
                  try rfl
                case hQdp34 => exact fun _ _ _ h => h
                case hydp34 => exact Or.inr ⟨by rfl, rfl⟩
                try simp only [Act.put, List.setIfInBounds_toArray, List.set_cons_zero, List.set_cons_succ]
                refine wpAnyH_take (i := 35) (oi := ?oidp35) (v := undef) ?hidp35 (by kernel_rfl) (by kernel_rfl) (by kernel_rfl) ?hQdp35 ?hydp35 (by assumption) ?_
                case hidp35 =>
                  simp only [List.getElem?_toArray, List.getElem?_cons_succ, List.getElem?_cons_zero]
                  try rfl
                case hQdp35 => exact fun _ _ _ h => h
                case hydp35 => exact Or.inr ⟨by rfl, rfl⟩
                try simp only [Act.put, List.setIfInBounds_toArray, List.set_cons_zero, List.set_cons_succ]
                refine wpAnyH_take (i := 36) (oi := ?oidp36) (v := undef) ?hidp36 (by kernel_rfl) (by kernel_rfl) (by kernel_rfl) ?hQdp36 ?hydp36 (by assumption) ?_
                case hidp36 =>
                  simp only [List.getElem?_toArray, List.getElem?_cons_succ, List.getElem?_cons_zero]
                  try rfl
                case hQdp36 => exact fun _ _ _ h => h
                case hydp36 => exact Or.inr ⟨by rfl, rfl⟩
                try simp only [Act.put, List.setIfInBounds_toArray, List.set_cons_zero, List.set_cons_succ]
                refine wpAnyH_take (i := 37) (oi := ?oidp37) (v := undef) ?hidp37 (by kernel_rfl) (by kernel_rfl) (by kernel_rfl) ?hQdp37 ?hydp37 (by assumption) ?_
                case hidp37 =>
                  simp only [List.getElem?_toArray, List.getElem?_cons_succ, List.getElem?_cons_zero]
                  try rfl
                case hQdp37 => exact fun _ _ _ h => h
                case hydp37 => exact Or.inr ⟨by rfl, rfl⟩
                try simp only [Act.put, List.setIfInBounds_toArray, List.set_cons_zero, List.set_cons_succ]
                refine wpAnyH_take (i := 38) (oi := ?oidp38) (v := ?vdp38) ?hidp38 (by kernel_rfl) (by kernel_rfl) (by kernel_rfl) ?hQdp38 ?hydp38 (by assumption) ?_
                case hidp38 =>
                  simp only [List.getElem?_toArray, List.getElem?_cons_succ, List.getElem?_cons_zero]
                  try rfl
                case hQdp38 => exact fun _ _ _ h => h
                case hydp38 =>
                  refine Or.inl ⟨by rfl, ?_⟩
                  intro w' hSw
                  try dsimp only at hSw
                  go_simp
                  try with_reducible rfl
                try simp only [Act.put, List.setIfInBounds_toArray, List.set_cons_zero, List.set_cons_succ]
                refine wpAnyH_take (i := 39) (oi := ?oidp39) (v := ?vdp39) ?hidp39 (by kernel_rfl) (by kernel_rfl) (by kernel_rfl) ?hQdp39 ?hydp39 (by assumption) ?_
                case hidp39 =>
                  simp only [List.getElem?_toArray, List.getElem?_cons_succ, List.getElem?_cons_zero]
                  try rfl
                case hQdp39 => exact fun _ _ _ h => h
                case hydp39 =>
                  refine Or.inl ⟨by rfl, ?_⟩
                  intro w' hSw
                  try dsimp only at hSw
                  go_simp
                  try with_reducible rfl
                try simp only [Act.put, List.setIfInBounds_toArray, List.set_cons_zero, List.set_cons_succ]
                refine wpAnyH_take (i := 40) (oi := ?oidp40) (v := ?vdp40) ?hidp40 (by kernel_rfl) (by kernel_rfl) (by kernel_rfl) ?hQdp40 ?hydp40 (by assumption) ?_
                case hidp40 =>
                  simp only [List.getElem?_toArray, List.getElem?_cons_succ, List.getElem?_cons_zero]
                  try rfl
                case hQdp40 => exact fun _ _ _ h => h
                case hydp40 =>
                  refine Or.inl ⟨by rfl, ?_⟩
                  intro w' hSw
                  try dsimp only at hSw
                  go_simp
                  try with_reducible rfl
                try simp only [Act.put, List.setIfInBounds_toArray, List.set_cons_zero, List.set_cons_succ]
                refine wpAnyH_done (by kernel_rfl) ?_ _
                have HM6 := Lib.hid (HM5.out.below HBB.out)
                have HR6 := Lib.hid (HR5.out.keep (fun q hq => HBB.out.block q (HR5.out.lt q hq).2))
                go_wp2_with fail
                go_roundw
                case rel => exact ⟨k + 1, t5, HLT.out, by rw [HAS.out, HZI.out], by go_num, HP5, HM6, HR6⟩
                case measure => have := HLT.out; simp [intOf]; omega
              · go_wp2_with fail
                go_region_held3 (fun w' => w'.cell? ⟨g, k * 6, none⟩ = some (.int .i64 2) ∧ w'.cell? ⟨g, k * 6 + 1, none⟩ = some (.int .i64 kn))
                  (first | with_reducible exact HSS.out _ (Below.refl _ w5).drew | with_reducible exact HSS.out _ HBA.out | with_reducible exact HSS.out _ HBB.out | with_reducible exact HSS.out _ HBC.out | with_reducible assumption)
                  (first
                    | (go_at_call 32; (with_reducible refine (BS.places (HM5.out.below (Below.refl _ w5).drew) T HTT5.out).mono ?_); rintro e wA ⟨rfl, hb⟩; have HBA := Lib.hid (below_step (Below.refl w5.heap.size w5).drew hb); clear hb)
                    | (go_at_call 28; (with_reducible refine (BS.stats (HM5.out.below HBA.out) N5 m5 f5 x5 HST.out.1 HST.out.2.1 HST.out.2.2.1 HST.out.2.2.2).mono ?_); rintro e wB ⟨rfl, hb⟩; have HBB := Lib.hid (below_step HBA.out hb); clear hb)
                    | (go_at_call 28; (with_reducible refine (BS.stats (HM5.out.below HBB.out) N5 m5 f5 x5 HST.out.1 HST.out.2.1 HST.out.2.2.1 HST.out.2.2.2).mono ?_); rintro e wC ⟨rfl, hb⟩; have HBC := Lib.hid (below_step HBB.out hb); clear hb))
                have HM6 := Lib.hid (HM5.out.below HBC.out)
                have HR6 := Lib.hid (HR5.out.keep (fun q hq => HBC.out.block q (HR5.out.lt q hq).2))
                go_wp2_with fail
                go_roundw
                case rel => exact ⟨k + 1, t5, HLT.out, by rw [HAS.out, HZI.out], by go_num, HP5, HM6, HR6⟩
                case measure => have := HLT.out; simp [intOf]; omega
            · obtain rfl : k = m := by omega
              have d1 : decide ((k : Int) < (k : Int)) = false := by simp
              go_wp2
              go_ret
              exact ⟨rfl, HM4.out.bel⟩
      · have d1 : decide ((j : Int) < (x.l.length : Int)) = false := by simp; omega
        clear hc
        go_wp2_with fail
        (with_reducible refine (BS.list HM.out _ rfl).mono ?_)
        rintro e w3 ⟨v, rfl, hr, hb⟩
        have HR := Lib.hid hr
        have HM3 := Lib.hid (HM.out.reserve (S' := fun q => v.ownBlock = some q) hb (fun q hq => ⟨(hr.lt q hq).2, .inr (hr.lt q hq).1⟩))
        have hcs := hr.cases
        clear hb hr p0 p1 p2 HX
        rcases hcs with ⟨hl, rfl⟩ | ⟨g, cap, rfl, hcap, hbg, hgl⟩
        · go_wp2_with fail
          go_loopw [8, 9] (fun u i wr => u = .int .i64 0 ∧ i = .int .i64 0 ∧ w3 = wr) (fun _ _ _ => 0)
          case atStart => exact ⟨rfl, rfl, rfl⟩
          case round =>
            obtain ⟨rfl, rfl, rfl⟩ := hrel
            go_wp2
            go_ret
            exact ⟨rfl, HM3.out.bel⟩
        · obtain ⟨m, hm⟩ : ∃ m, t.p.cnt = m := ⟨_, rfl⟩
          rw [prs_len, hm] at hcap ⊢
          have HMN := Lib.hid hm
          have hsm : m ≤ 131072 := by
            have h1 := pos_len t.p 0 t.p.tot
            have h2 := HM3.out.ok.sz
            have h3 := HM3.out.ok.hg.sz
            have h4 : t.p.tot = t.p.sn + t.p.h.n := rfl
            unfold PT.cnt at hm
            omega
          have HSM := Lib.hid hsm
          have HCAP := Lib.hid hcap
          obtain ⟨B, hB⟩ : ∃ B, wr.heap.size = B := ⟨_, rfl⟩
          rw [hB] at HR
          have HRW : Hid (PRow B w3 (.slice (some ⟨g, 0, none⟩) m cap) t.p.prs) := Lib.hid (by have h := HR.out; rw [prs_len, hm] at h; exact h)
          have HM4 : Hid (BS W (onlyX g) hp a t hs (3 + 2 * j) w3) := Lib.hid (HM3.out.reserve (Below.refl _ _) (fun q hq => ⟨by unfold onlyX at hq; omega, .inl (by unfold onlyX at hq; rw [hq]; rfl)⟩))
          clear hsm hcap HR hB hbg hgl hm HM3 HM
          go_wp2_with fail
          go_loopw [8, 9] (fun u i wr => ∃ (k : Nat) (t' : Tbl), k ≤ m ∧ u = .int .i64 (t.p.ahead k : Nat) ∧ i = .int .i64 k ∧ Hid (t'.p = t.p) ∧ Hid (BS W (onlyX g) hp a t' hs (3 + 2 * j) wr) ∧ Hid (PRow B wr (.slice (some ⟨g, 0, none⟩) m cap) t.p.prs)) (fun _ i _ => m - (intOf i).toNat)
          case atStart => exact ⟨0, t, Nat.zero_le _, rfl, rfl, Lib.hid rfl, HM4, HRW⟩
          case round =>
            clear HM4 HRW
            obtain ⟨k, t', hk, rfl, rfl, HP, HM4, HRW⟩ := hrel
            by_cases hlt : k < m
            · have d1 : decide ((k : Int) < (m : Int)) = true := by simp; omega
              have j1 : (k : Int) < (m : Int) := by omega
              have lx : (m : Int) ≤ 9223372036854775807 := by have := HSM.out; omega
              have HLT := Lib.hid hlt
              obtain ⟨z, hz⟩ : ∃ z, t.p.at_ k = z := ⟨_, rfl⟩
              obtain ⟨y, hy⟩ : ∃ y, t.p.ahead k = y := ⟨_, rfl⟩
              obtain ⟨T, hT⟩ : ∃ T : Int, ((t.p.tot : Nat) : Int) = T := ⟨_, rfl⟩
              obtain ⟨N5, hN5⟩ : ∃ N5 : Int, (t.p.sn : Int) = N5 := ⟨_, rfl⟩
              obtain ⟨q, hq⟩ : ∃ q, t.p.pair (z : Int) = q := ⟨_, rfl⟩
              obtain ⟨⟨kk, kn, ks⟩, ⟨vk, vn, vst⟩⟩ := q
              have hfu := at_full k (by rw [HMN.out]; exact hlt)
              have hah := ahead_lt k (by rw [HMN.out]; exact hlt)
              rw [hz] at hfu hah
              rw [hy] at hah
              have HAS : Hid (t.p.ahead (k + 1) = z) := Lib.hid (by rw [ahead_succ]; exact hz)
              have HOK : Hid t.p.ok := Lib.hid (by rw [← HP.out]; exact HM4.out.ok)
              have HPL : Hid (t'.p.place ⟨kk, kn, ks⟩ = (z : Int)) := Lib.hid (by have h := place_full HOK.out hfu.2.2; rw [hq] at h; rw [HP.out]; exact h)
              have HPA : Hid (prAt t.p.prs k = (⟨kk, kn, ks⟩, ⟨vk, vn, vst⟩)) := Lib.hid (by have h := prs_at (p := t.p) k (by rw [HMN.out]; exact hlt); rw [hz, hq] at h; exact h)
              have HC6 : Hid (C6 wr g (k * 6) (⟨kk, kn, ks⟩, ⟨vk, vn, vst⟩)) := Lib.hid (by
                obtain ⟨g', cap', e, -, -, -, -, h⟩ := HRW.out.at_ (by rw [prs_len, HMN.out]; omega)
                simp only [Value.slice.injEq, Option.some.injEq, Addr.mk.injEq, and_true, true_and] at e
                rw [e.1, ← HPA.out]; exact h k (by rw [prs_len, HMN.out]; exact hlt))
              have hok := order_key HOK.out hfu.2.2 hN5 (show (t.p.pair (z : Int)).1 = ⟨kk, kn, ks⟩ by rw [hq])
              obtain ⟨zi, hzi⟩ : ∃ zi : Int, (z : Int) = zi := ⟨_, rfl⟩
              obtain ⟨yi, hyi⟩ : ∃ yi : Int, (y : Int) = yi := ⟨_, rfl⟩
              have q1 : decide (zi ≤ yi) = false := by simp; omega
              have q2 : decide (T < zi) = false := by have := hfu.2.1; simp; omega
              have HZI := Lib.hid hzi
              rw [hzi] at hok
              have HPL : Hid (t'.p.place ⟨kk, kn, ks⟩ = zi) := Lib.hid (HPL.out.trans hzi)
              have HTT : Hid (((t'.p.tot : Nat) : Int) = T) := Lib.hid (by rw [HP.out]; exact hT)
              have HN5 : Hid ((t.p.sn : Int) = N5) := Lib.hid hN5
              have HLT := Lib.hid hlt
              rw [hy, hyi]
              obtain ⟨c0, c1, c2, -, -, -⟩ := HC6.out
              dsimp only at c0 c1 c2
              clear hz hy hT hN5 hq hfu hah hlt hk hzi hyi
              go_wp2_with fail
              (with_reducible refine (BS.place HM4.out kk kn ks).mono ?_)
              rintro e w5 ⟨t5, ⟨rfl, -⟩, hpe, hx, hk⟩
              rw [HPL.out]
              have HM5 := Lib.hid hx
              have HP5 : Hid (t5.p = t.p) := Lib.hid (hpe.trans HP.out)
              have HTT5 : Hid (((t5.p.tot : Nat) : Int) = T) := Lib.hid (by rw [hpe]; exact HTT.out)
              have HR5 : Hid (PRow B w5 (.slice (some ⟨g, 0, none⟩) m cap) t.p.prs) := Lib.hid (HRW.out.keep (fun q hq => hk q (by simpa [Value.ownBlock, onlyX] using hq.symm)))
              have HC5 := Lib.hid (HC6.out.keep (hk g rfl))
              have HSS : Hid (∀ w', Below w5.heap.size w5 w' → w'.cell? ⟨g, k * 6, none⟩ = some (.int .i64 kk) ∧ w'.cell? ⟨g, k * 6 + 1, none⟩ = some (.int .i64 kn)) := Lib.hid (fun w' hb => by
                have h := HC5.out.keep (hb.block g (lt_cell HC5.out.c0))
                exact ⟨h.c0, h.c1⟩)
              clear hx hpe hk c0 c1 c2
              obtain ⟨m5, hm5⟩ : ∃ m5 : Int, (t5.p.h.n : Int) = m5 := ⟨_, rfl⟩
              obtain ⟨f5, hf5⟩ : ∃ f5 : Int, (t5.p.h.free : Int) = f5 := ⟨_, rfl⟩
              obtain ⟨x5, hx5⟩ : ∃ x5 : Int, t5.hint = x5 := ⟨_, rfl⟩
              have HST : Hid ((t5.p.sn : Int) = N5 ∧ (t5.p.h.n : Int) = m5 ∧ (t5.p.h.free : Int) = f5 ∧ t5.hint = x5) := Lib.hid ⟨by rw [HP5.out]; exact HN5.out, hm5, hf5, hx5⟩
              clear hm5 hf5 hx5
              rcases hok with ⟨q3, rfl, rfl⟩ | ⟨q3, q4 | ⟨rfl, q5⟩ | ⟨rfl, rfl⟩⟩
              · go_wp2_with fail
                go_region_held3 (fun w' => w'.cell? ⟨g, k * 6, none⟩ = some (.int .i64 2) ∧ w'.cell? ⟨g, k * 6 + 1, none⟩ = some (.int .i64 kn))
                  (first | with_reducible exact HSS.out _ (Below.refl _ w5).drew | with_reducible exact HSS.out _ HBA.out | with_reducible exact HSS.out _ HBB.out | with_reducible exact HSS.out _ HBC.out | with_reducible assumption)
                  (first
                    | (go_at_call 32; (with_reducible refine (BS.places (HM5.out.below (Below.refl _ w5).drew) T HTT5.out).mono ?_); rintro e wA ⟨rfl, hb⟩; have HBA := Lib.hid (below_step (Below.refl w5.heap.size w5).drew hb); clear hb)
                    | (go_at_call 28; (with_reducible refine (BS.stats (HM5.out.below HBA.out) N5 m5 f5 x5 HST.out.1 HST.out.2.1 HST.out.2.2.1 HST.out.2.2.2).mono ?_); rintro e wB ⟨rfl, hb⟩; have HBB := Lib.hid (below_step HBA.out hb); clear hb)
                    | (go_at_call 28; (with_reducible refine (BS.stats (HM5.out.below HBB.out) N5 m5 f5 x5 HST.out.1 HST.out.2.1 HST.out.2.2.1 HST.out.2.2.2).mono ?_); rintro e wC ⟨rfl, hb⟩; have HBC := Lib.hid (below_step HBB.out hb); clear hb))
                have HM6 := Lib.hid (HM5.out.below HBC.out)
                have HR6 := Lib.hid (HR5.out.keep (fun q hq => HBC.out.block q (HR5.out.lt q hq).2))
                go_wp2_with fail
                go_roundw
                case rel => exact ⟨k + 1, t5, HLT.out, by rw [HAS.out, HZI.out], by go_num, HP5, HM6, HR6⟩
                case measure => have := HLT.out; simp [intOf]; omega
              · go_wp2_with fail
                refine wp_region_held_drew (S := (fun w' => w'.cell? ⟨g, k * 6, none⟩ = some (.int .i64 kk) ∧ w'.cell? ⟨g, k * 6 + 1, none⟩ = some (.int .i64 kn))) (by kernel_rfl) ?_ (fun hH0b => ?_)
                · with_reducible exact HSS.out _ (Below.refl _ w5).drew
                refine wpAnyH_take (i := 0) (oi := ?oibq0) (v := ?vbq0) ?hibq0 (by kernel_rfl) (by kernel_rfl) (by kernel_rfl) ?hQbq0 ?hybq0 (by assumption) ?_
                case hibq0 =>
                  simp only [List.getElem?_toArray, List.getElem?_cons_succ, List.getElem?_cons_zero]
                  try rfl
                case hQbq0 => exact fun _ _ _ h => h
                case hybq0 =>
                  refine Or.inl ⟨by rfl, ?_⟩
                  intro w' hSw
                  try dsimp only at hSw
                  go_simp
                  try with_reducible rfl
                try simp only [Act.put, List.setIfInBounds_toArray, List.set_cons_zero, List.set_cons_succ]
                refine wpAnyH_take (i := 1) (oi := ?oibq1) (v := ?vbq1) ?hibq1 (by kernel_rfl) (by kernel_rfl) (by kernel_rfl) ?hQbq1 ?hybq1 (by assumption) ?_
                case hibq1 =>
                  simp only [List.getElem?_toArray, List.getElem?_cons_succ, List.getElem?_cons_zero]
                  try rfl
                case hQbq1 => exact fun _ _ _ h => h
                case hybq1 =>
                  refine Or.inl ⟨by rfl, ?_⟩
                  intro w' hSw
                  try dsimp only at hSw
                  go_simp
                  try with_reducible rfl
                try simp only [Act.put, List.setIfInBounds_toArray, List.set_cons_zero, List.set_cons_succ]
                refine wpAnyH_take (i := 2) (oi := ?oibq2) (v := ?vbq2) ?hibq2 (by kernel_rfl) (by kernel_rfl) (by kernel_rfl) ?hQbq2 ?hybq2 (by assumption) ?_
                case hibq2 =>
                  simp only [List.getElem?_toArray, List.getElem?_cons_succ, List.getElem?_cons_zero]
                  try rfl
                case hQbq2 => exact fun _ _ _ h => h
                case hybq2 =>
                  refine Or.inl ⟨by rfl, ?_⟩
                  intro w' hSw
                  try dsimp only at hSw
                  go_simp
                  try with_reducible rfl
                try simp only [Act.put, List.setIfInBounds_toArray, List.set_cons_zero, List.set_cons_succ]
                refine wpAnyH_take (i := 3) (oi := ?oibq3) (v := ?vbq3) ?hibq3 (by kernel_rfl) (by kernel_rfl) (by kernel_rfl) ?hQbq3 ?hybq3 (by assumption) ?_
                case hibq3 =>
                  simp only [List.getElem?_toArray, List.getElem?_cons_succ, List.getElem?_cons_zero]
                  try rfl
                case hQbq3 => exact fun _ _ _ h => h
                case hybq3 =>
                  refine Or.inl ⟨by rfl, ?_⟩
                  intro w' hSw
                  try dsimp only at hSw
                  go_simp
                  try with_reducible rfl
                try simp only [Act.put, List.setIfInBounds_toArray, List.set_cons_zero, List.set_cons_succ]
                refine wpAnyH_take (i := 4) (oi := ?oibq4) (v := ?vbq4) ?hibq4 (by kernel_rfl) (by kernel_rfl) (by kernel_rfl) ?hQbq4 ?hybq4 (by assumption) ?_
                case hibq4 =>
                  simp only [List.getElem?_toArray, List.getElem?_cons_succ, List.getElem?_cons_zero]
                  try rfl
                case hQbq4 => exact fun _ _ _ h => h
                case hybq4 =>
                  refine Or.inl ⟨by rfl, ?_⟩
                  intro w' hSw
                  try dsimp only at hSw
                  go_simp
                  try with_reducible rfl
                try simp only [Act.put, List.setIfInBounds_toArray, List.set_cons_zero, List.set_cons_succ]
                refine wpAnyH_take (i := 5) (oi := ?oibq5) (v := ?vbq5) ?hibq5 (by kernel_rfl) (by kernel_rfl) (by kernel_rfl) ?hQbq5 ?hybq5 (by assumption) ?_
                case hibq5 =>
                  simp only [List.getElem?_toArray, List.getElem?_cons_succ, List.getElem?_cons_zero]
                  try rfl
                case hQbq5 => exact fun _ _ _ h => h
                case hybq5 =>
                  refine Or.inl ⟨by rfl, ?_⟩
                  intro w' hSw
                  try dsimp only at hSw
                  go_simp
                  try with_reducible rfl
                try simp only [Act.put, List.setIfInBounds_toArray, List.set_cons_zero, List.set_cons_succ]
                refine wpAnyH_ready (rs := [6]) (by kernel_rfl) (by simp) ?_
                refine AllReadyH.cons (o := ?obq6) ?hobq6 (fun K hK => ?_) AllReadyH.nil
                case hobq6 =>
                  simp only [List.getElem?_toArray, List.getElem?_cons_succ, List.getElem?_cons_zero]
                  try rfl
                go_simp
                (with_reducible refine (BS.places (HM5.out.below (Below.refl _ w5).drew) T HTT5.out).mono ?_)
                rintro e wA ⟨rfl, hb⟩
                have HBA := Lib.hid (below_step (Below.refl w5.heap.size w5).drew hb)
                clear hb
                go_wp2_with fail
                refine hK.out _ _ ?_ (fun hH1b => ?_)
                · with_reducible exact HSS.out _ HBA.out
                clear hK K hH0b
                try simp only [Act.put, List.setIfInBounds_toArray, List.set_cons_zero, List.set_cons_succ]
                refine wpAnyH_take (i := 7) (oi := ?oibq7) (v := ?vbq7) ?hibq7 (by kernel_rfl) (by kernel_rfl) (by kernel_rfl) ?hQbq7 ?hybq7 (by assumption) ?_
                case hibq7 =>
                  simp only [List.getElem?_toArray, List.getElem?_cons_succ, List.getElem?_cons_zero]
                  try rfl
                case hQbq7 => exact fun _ _ _ h => h
                case hybq7 =>
                  refine Or.inl ⟨by rfl, ?_⟩
                  intro w' hSw
                  try dsimp only at hSw
                  go_simp
                  try with_reducible rfl
                try simp only [Act.put, List.setIfInBounds_toArray, List.set_cons_zero, List.set_cons_succ]
                refine wpAnyH_take (i := 8) (oi := ?oibq8) (v := ?vbq8) ?hibq8 (by kernel_rfl) (by kernel_rfl) (by kernel_rfl) ?hQbq8 ?hybq8 (by assumption) ?_
                case hibq8 =>
                  simp only [List.getElem?_toArray, List.getElem?_cons_succ, List.getElem?_cons_zero]
                  try rfl
                case hQbq8 => exact fun _ _ _ h => h
                case hybq8 =>
                  refine Or.inl ⟨by rfl, ?_⟩
                  intro w' hSw
                  try dsimp only at hSw
                  go_simp
                  try with_reducible rfl
                try simp only [Act.put, List.setIfInBounds_toArray, List.set_cons_zero, List.set_cons_succ]
                refine wpAnyH_take (i := 9) (oi := ?oibq9) (v := ?vbq9) ?hibq9 (by kernel_rfl) (by kernel_rfl) (by kernel_rfl) ?hQbq9 ?hybq9 (by assumption) ?_
                case hibq9 =>
                  simp only [List.getElem?_toArray, List.getElem?_cons_succ, List.getElem?_cons_zero]
                  try rfl
                case hQbq9 => exact fun _ _ _ h => h
                case hybq9 =>
                  refine Or.inl ⟨by rfl, ?_⟩
                  intro w' hSw
                  try dsimp only at hSw
                  go_simp
                  try with_reducible rfl
                try simp only [Act.put, List.setIfInBounds_toArray, List.set_cons_zero, List.set_cons_succ]
                refine wpAnyH_take (i := 10) (oi := ?oibq10) (v := ?vbq10) ?hibq10 (by kernel_rfl) (by kernel_rfl) (by kernel_rfl) ?hQbq10 ?hybq10 (by assumption) ?_
                case hibq10 =>
                  simp only [List.getElem?_toArray, List.getElem?_cons_succ, List.getElem?_cons_zero]
                  try rfl
                case hQbq10 => exact fun _ _ _ h => h
                case hybq10 =>
                  refine Or.inl ⟨by rfl, ?_⟩
                  intro w' hSw
                  try dsimp only at hSw
                  go_simp
                  try with_reducible rfl
                try simp only [Act.put, List.setIfInBounds_toArray, List.set_cons_zero, List.set_cons_succ]
                refine wpAnyH_take (i := 11) (oi := ?oibq11) (v := ?vbq11) ?hibq11 (by kernel_rfl) (by kernel_rfl) (by kernel_rfl) ?hQbq11 ?hybq11 (by assumption) ?_
                case hibq11 =>
                  simp only [List.getElem?_toArray, List.getElem?_cons_succ, List.getElem?_cons_zero]
                  try rfl
                case hQbq11 => exact fun _ _ _ h => h
                case hybq11 =>
                  refine Or.inl ⟨by rfl, ?_⟩
                  intro w' hSw
                  try dsimp only at hSw
                  go_simp
                  try with_reducible rfl
                try simp only [Act.put, List.setIfInBounds_toArray, List.set_cons_zero, List.set_cons_succ]
                refine wpAnyH_take (i := 15) (oi := ?oibq15) (v := ?vbq15) ?hibq15 (by kernel_rfl) (by kernel_rfl) (by kernel_rfl) ?hQbq15 ?hybq15 (by assumption) ?_
                case hibq15 =>
                  simp only [List.getElem?_toArray, List.getElem?_cons_succ, List.getElem?_cons_zero]
                  try rfl
                case hQbq15 => exact fun _ _ _ h => h
                case hybq15 =>
                  refine Or.inl ⟨by rfl, ?_⟩
                  intro w' hSw
                  try dsimp only at hSw
                  go_simp
                  try with_reducible rfl
                try simp only [Act.put, List.setIfInBounds_toArray, List.set_cons_zero, List.set_cons_succ]
                refine wpAnyH_take (i := 16) (oi := ?oibq16) (v := ?vbq16) ?hibq16 (by kernel_rfl) (by kernel_rfl) (by kernel_rfl) ?hQbq16 ?hybq16 (by assumption) ?_
                case hibq16 =>
                  simp only [List.getElem?_toArray, List.getElem?_cons_succ, List.getElem?_cons_zero]
                  try rfl
                case hQbq16 => exact fun _ _ _ h => h
                case hybq16 =>
                  refine Or.inl ⟨by rfl, ?_⟩
                  intro w' hSw
                  try dsimp only at hSw
                  go_simp
                  try with_reducible rfl
                try simp only [Act.put, List.setIfInBounds_toArray, List.set_cons_zero, List.set_cons_succ]
                refine wpAnyH_take (i := 17) (oi := ?oibq17) (v := ?vbq17) ?hibq17 (by kernel_rfl) (by kernel_rfl) (by kernel_rfl) ?hQbq17 ?hybq17 (by assumption) ?_
                case hibq17 =>
                  simp only [List.getElem?_toArray, List.getElem?_cons_succ, List.getElem?_cons_zero]
                  try rfl
                case hQbq17 => exact fun _ _ _ h => h
                case hybq17 =>
                  refine Or.inl ⟨by rfl, ?_⟩
                  intro w' hSw
                  try dsimp only at hSw
                  go_simp
                  try with_reducible rfl
                try simp only [Act.put, List.setIfInBounds_toArray, List.set_cons_zero, List.set_cons_succ]
                refine wpAnyH_take (i := 18) (oi := ?oibq18) (v := ?vbq18) ?hibq18 (by kernel_rfl) (by kernel_rfl) (by kernel_rfl) ?hQbq18 ?hybq18 (by assumption) ?_
                case hibq18 =>
                  simp only [List.getElem?_toArray, List.getElem?_cons_succ, List.getElem?_cons_zero]
                  try rfl
                case hQbq18 => exact fun _ _ _ h => h
                case hybq18 =>
                  refine Or.inl ⟨by rfl, ?_⟩
                  intro w' hSw
                  try dsimp only at hSw
                  go_simp
                  try with_reducible rfl
                try simp only [Act.put, List.setIfInBounds_toArray, List.set_cons_zero, List.set_cons_succ]
                refine wpAnyH_take (i := 19) (oi := ?oibq19) (v := ?vbq19) ?hibq19 (by kernel_rfl) (by kernel_rfl) (by kernel_rfl) ?hQbq19 ?hybq19 (by assumption) ?_
                case hibq19 =>
                  simp only [List.getElem?_toArray, List.getElem?_cons_succ, List.getElem?_cons_zero]
                  try rfl
                case hQbq19 => exact fun _ _ _ h => h
                case hybq19 =>
                  refine Or.inl ⟨by rfl, ?_⟩
                  intro w' hSw
                  try dsimp only at hSw
                  go_simp
                  try with_reducible rfl
                try simp only [Act.put, List.setIfInBounds_toArray, List.set_cons_zero, List.set_cons_succ]
                refine wpAnyH_take (i := 20) (oi := ?oibq20) (v := ?vbq20) ?hibq20 (by kernel_rfl) (by kernel_rfl) (by kernel_rfl) ?hQbq20 ?hybq20 (by assumption) ?_
                case hibq20 =>
                  simp only [List.getElem?_toArray, List.getElem?_cons_succ, List.getElem?_cons_zero]
                  try rfl
                case hQbq20 => exact fun _ _ _ h => h
                case hybq20 =>
                  refine Or.inl ⟨by rfl, ?_⟩
                  intro w' hSw
                  try dsimp only at hSw
                  go_simp
                  try with_reducible rfl
                try simp only [Act.put, List.setIfInBounds_toArray, List.set_cons_zero, List.set_cons_succ]
                refine wpAnyH_take (i := 21) (oi := ?oibq21) (v := ?vbq21) ?hibq21 (by kernel_rfl) (by kernel_rfl) (by kernel_rfl) ?hQbq21 ?hybq21 (by assumption) ?_
                case hibq21 =>
                  simp only [List.getElem?_toArray, List.getElem?_cons_succ, List.getElem?_cons_zero]
                  try rfl
                case hQbq21 => exact fun _ _ _ h => h
                case hybq21 =>
                  refine Or.inl ⟨by rfl, ?_⟩
                  intro w' hSw
                  try dsimp only at hSw
                  go_simp
                  try with_reducible rfl
                try simp only [Act.put, List.setIfInBounds_toArray, List.set_cons_zero, List.set_cons_succ]
                refine wpAnyH_ready (rs := [12]) (by kernel_rfl) (by simp) ?_
                refine AllReadyH.cons (o := ?obq12) ?hobq12 (fun K hK => ?_) AllReadyH.nil
                case hobq12 =>
                  simp only [List.getElem?_toArray, List.getElem?_cons_succ, List.getElem?_cons_zero]
                  try rfl
                go_simp
                (with_reducible refine (BS.stats (HM5.out.below HBA.out) N5 m5 f5 x5 HST.out.1 HST.out.2.1 HST.out.2.2.1 HST.out.2.2.2).mono ?_)
                rintro e wB ⟨rfl, hb⟩
                have HBB := Lib.hid (below_step HBA.out hb)
                clear hb
                go_wp2_with fail
                refine hK.out _ _ ?_ (fun hH2b => ?_)
                · with_reducible exact HSS.out _ HBB.out
                clear hK K hH1b
                try simp only [Act.put, List.setIfInBounds_toArray, List.set_cons_zero, List.set_cons_succ]
                refine wpAnyH_take (i := 13) (oi := ?oibq13) (v := ?vbq13) ?hibq13 (by kernel_rfl) (by kernel_rfl) (by kernel_rfl) ?hQbq13 ?hybq13 (by assumption) ?_
                case hibq13 =>
                  simp only [List.getElem?_toArray, List.getElem?_cons_succ, List.getElem?_cons_zero]
                  try rfl
                case hQbq13 => exact fun _ _ _ h => h
                case hybq13 =>
                  refine Or.inl ⟨by rfl, ?_⟩
                  intro w' hSw
                  try dsimp only at hSw
                  go_simp
                  try with_reducible rfl
                try simp only [Act.put, List.setIfInBounds_toArray, List.set_cons_zero, List.set_cons_succ]
                refine wpAnyH_take (i := 14) (oi := ?oibq14) (v := ?vbq14) ?hibq14 (by kernel_rfl) (by kernel_rfl) (by kernel_rfl) ?hQbq14 ?hybq14 (by assumption) ?_
                case hibq14 =>
                  simp only [List.getElem?_toArray, List.getElem?_cons_succ, List.getElem?_cons_zero]
                  try rfl
                case hQbq14 => exact fun _ _ _ h => h
                case hybq14 =>
                  refine Or.inl ⟨by rfl, ?_⟩
                  intro w' hSw
                  try dsimp only at hSw
                  go_simp
                  try with_reducible rfl
                try simp only [Act.put, List.setIfInBounds_toArray, List.set_cons_zero, List.set_cons_succ]
                refine wpAnyH_take (i := 22) (oi := ?oibq22) (v := ?vbq22) ?hibq22 (by kernel_rfl) (by kernel_rfl) (by kernel_rfl) ?hQbq22 ?hybq22 (by assumption) ?_
                case hibq22 =>
                  simp only [List.getElem?_toArray, List.getElem?_cons_succ, List.getElem?_cons_zero]
                  try rfl
                case hQbq22 => exact fun _ _ _ h => h
                case hybq22 =>
                  refine Or.inl ⟨by rfl, ?_⟩
                  intro w' hSw
                  try dsimp only at hSw
                  go_simp
                  try with_reducible rfl
                try simp only [Act.put, List.setIfInBounds_toArray, List.set_cons_zero, List.set_cons_succ]
                refine wpAnyH_take (i := 23) (oi := ?oibq23) (v := undef) ?hibq23 (by kernel_rfl) (by kernel_rfl) (by kernel_rfl) ?hQbq23 ?hybq23 (by assumption) ?_
                case hibq23 =>
                  simp only [List.getElem?_toArray, List.getElem?_cons_succ, List.getElem?_cons_zero]
                  try rfl
                case hQbq23 => exact fun _ _ _ h => h
                case hybq23 => exact Or.inr ⟨by rfl, rfl⟩
                try simp only [Act.put, List.setIfInBounds_toArray, List.set_cons_zero, List.set_cons_succ]
                refine wpAnyH_take (i := 24) (oi := ?oibq24) (v := undef) ?hibq24 (by kernel_rfl) (by kernel_rfl) (by kernel_rfl) ?hQbq24 ?hybq24 (by assumption) ?_
                case hibq24 =>
                  simp only [List.getElem?_toArray, List.getElem?_cons_succ, List.getElem?_cons_zero]
                  try rfl
                case hQbq24 => exact fun _ _ _ h => h
                case hybq24 => exact Or.inr ⟨by rfl, rfl⟩
                try simp only [Act.put, List.setIfInBounds_toArray, List.set_cons_zero, List.set_cons_succ]
                refine wpAnyH_take (i := 25) (oi := ?oibq25) (v := undef) ?hibq25 (by kernel_rfl) (by kernel_rfl) (by kernel_rfl) ?hQbq25 ?hybq25 (by assumption) ?_
                case hibq25 =>
                  simp only [List.getElem?_toArray, List.getElem?_cons_succ, List.getElem?_cons_zero]
                  try rfl
                case hQbq25 => exact fun _ _ _ h => h
                case hybq25 => exact Or.inr ⟨by rfl, rfl⟩
                try simp only [Act.put, List.setIfInBounds_toArray, List.set_cons_zero, List.set_cons_succ]
                refine wpAnyH_take (i := 26) (oi := ?oibq26) (v := undef) ?hibq26 (by kernel_rfl) (by kernel_rfl) (by kernel_rfl) ?hQbq26 ?hybq26 (by assumption) ?_
                case hibq26 =>
                  simp only [List.getElem?_toArray, List.getElem?_cons_succ, List.getElem?_cons_zero]
                  try rfl
                case hQbq26 => exact fun _ _ _ h => h
                case hybq26 => exact Or.inr ⟨by rfl, rfl⟩
                try simp only [Act.put, List.setIfInBounds_toArray, List.set_cons_zero, List.set_cons_succ]
                refine wpAnyH_take (i := 27) (oi := ?oibq27) (v := undef) ?hibq27 (by kernel_rfl) (by kernel_rfl) (by kernel_rfl) ?hQbq27 ?hybq27 (by assumption) ?_
                case hibq27 =>
                  simp only [List.getElem?_toArray, List.getElem?_cons_succ, List.getElem?_cons_zero]
                  try rfl
                case hQbq27 => exact fun _ _ _ h => h
                case hybq27 => exact Or.inr ⟨by rfl, rfl⟩
                try simp only [Act.put, List.setIfInBounds_toArray, List.set_cons_zero, List.set_cons_succ]
                refine wpAnyH_take (i := 28) (oi := ?oibq28) (v := undef) ?hibq28 (by kernel_rfl) (by kernel_rfl) (by kernel_rfl) ?hQbq28 ?hybq28 (by assumption) ?_
                case hibq28 =>
                  simp only [List.getElem?_toArray, List.getElem?_cons_succ, List.getElem?_cons_zero]
                  try rfl
                case hQbq28 => exact fun _ _ _ h => h
                case hybq28 => exact Or.inr ⟨by rfl, rfl⟩
                try simp only [Act.put, List.setIfInBounds_toArray, List.set_cons_zero, List.set_cons_succ]
                refine wpAnyH_take (i := 29) (oi := ?oibq29) (v := undef) ?hibq29 (by kernel_rfl) (by kernel_rfl) (by kernel_rfl) ?hQbq29 ?hybq29 (by assumption) ?_
                case hibq29 =>
                  simp only [List.getElem?_toArray, List.getElem?_cons_succ, List.getElem?_cons_zero]
                  try rfl
                case hQbq29 => exact fun _ _ _ h => h
                case hybq29 => exact Or.inr ⟨by rfl, rfl⟩
                try simp only [Act.put, List.setIfInBounds_toArray, List.set_cons_zero, List.set_cons_succ]
                refine wpAnyH_take (i := 30) (oi := ?oibq30) (v := undef) ?hibq30 (by kernel_rfl) (by kernel_rfl) (by kernel_rfl) ?hQbq30 ?hybq30 (by assumption) ?_
                case hibq30 =>
                  simp only [List.getElem?_toArray, List.getElem?_cons_succ, List.getElem?_cons_zero]
                  try rfl
                case hQbq30 => exact fun _ _ _ h => h
                case hybq30 => exact Or.inr ⟨by rfl, rfl⟩
                try simp only [Act.put, List.setIfInBounds_toArray, List.set_cons_zero, List.set_cons_succ]
                refine wpAnyH_take (i := 31) (oi := ?oibq31) (v := ?vbq31) ?hibq31 (by kernel_rfl) (by kernel_rfl) (by kernel_rfl) ?hQbq31 ?hybq31 (by assumption) ?_
                case hibq31 =>
                  simp only [List.getElem?_toArray, List.getElem?_cons_succ, List.getElem?_cons_zero]
                  try rfl
                case hQbq31 => exact fun _ _ _ h => h
                case hybq31 =>
                  refine Or.inl ⟨by rfl, ?_⟩
                  intro w' hSw
                  try dsimp only at hSw
                  go_simp
                  try with_reducible rfl
                try simp only [Act.put, List.setIfInBounds_toArray, List.set_cons_zero, List.set_cons_succ]
                refine wpAnyH_take (i := 32) (oi := ?oibq32) (v := ?vbq32) ?hibq32 (by kernel_rfl) (by kernel_rfl) (by kernel_rfl) ?hQbq32 ?hybq32 (by assumption) ?_
                case hibq32 =>
                  simp only [List.getElem?_toArray, List.getElem?_cons_succ, List.getElem?_cons_zero]
                  try rfl
                case hQbq32 => exact fun _ _ _ h => h
                case hybq32 =>
                  refine Or.inl ⟨by rfl, ?_⟩
                  intro w' hSw
                  try dsimp only at hSw
                  go_simp
                  try with_reducible rfl
                try simp only [Act.put, List.setIfInBounds_toArray, List.set_cons_zero, List.set_cons_succ]
                refine wpAnyH_take (i := 33) (oi := ?oibq33) (v := undef) ?hibq33 (by kernel_rfl) (by kernel_rfl) (by kernel_rfl) ?hQbq33 ?hybq33 (by assumption) ?_
                case hibq33 =>
                  simp only [List.getElem?_toArray, List.getElem?_cons_succ, List.getElem?_cons_zero]
                  try rfl
                case hQbq33 => exact fun _ _ _ h => h
                case hybq33 => exact Or.inr ⟨by rfl, rfl⟩
                try simp only [Act.put, List.setIfInBounds_toArray, List.set_cons_zero, List.set_cons_succ]
                refine wpAnyH_take (i := 34) (oi := ?oibq34) (v := undef) ?hibq34 (by kernel_rfl) (by kernel_rfl) (by kernel_rfl) ?hQbq34 ?hybq34 (by assumption) ?_
                case hibq34 =>
                  simp only [List.getElem?_toArray, List.getElem?_cons_succ, List.getElem?_cons_zero]
                  try rfl
                case hQbq34 => exact fun _ _ _ h => h
                case hybq34 => exact Or.inr ⟨by rfl, rfl⟩
                try simp only [Act.put, List.setIfInBounds_toArray, List.set_cons_zero, List.set_cons_succ]
                refine wpAnyH_take (i := 35) (oi := ?oibq35) (v := undef) ?hibq35 (by kernel_rfl) (by kernel_rfl) (by kernel_rfl) ?hQbq35 ?hybq35 (by assumption) ?_
                case hibq35 =>
                  simp only [List.getElem?_toArray, List.getElem?_cons_succ, List.getElem?_cons_zero]
                  try rfl
                case hQbq35 => exact fun _ _ _ h => h
                case hybq35 => exact Or.inr ⟨by rfl, rfl⟩
                try simp only [Act.put, List.setIfInBounds_toArray, List.set_cons_zero, List.set_cons_succ]
                refine wpAnyH_take (i := 36) (oi := ?oibq36) (v := undef) ?hibq36 (by kernel_rfl) (by kernel_rfl) (by kernel_rfl) ?hQbq36 ?hybq36 (by assumption) ?_
                case hibq36 =>
                  simp only [List.getElem?_toArray, List.getElem?_cons_succ, List.getElem?_cons_zero]
                  try rfl
                case hQbq36 => exact fun _ _ _ h => h
                case hybq36 => exact Or.inr ⟨by rfl, rfl⟩
                try simp only [Act.put, List.setIfInBounds_toArray, List.set_cons_zero, List.set_cons_succ]
                refine wpAnyH_take (i := 37) (oi := ?oibq37) (v := undef) ?hibq37 (by kernel_rfl) (by kernel_rfl) (by kernel_rfl) ?hQbq37 ?hybq37 (by assumption) ?_
                case hibq37 =>
                  simp only [List.getElem?_toArray, List.getElem?_cons_succ, List.getElem?_cons_zero]
                  try rfl
                case hQbq37 => exact fun _ _ _ h => h
                case hybq37 => exact Or.inr ⟨by rfl, rfl⟩
                try simp only [Act.put, List.setIfInBounds_toArray, List.set_cons_zero, List.set_cons_succ]
                refine wpAnyH_take (i := 38) (oi := ?oibq38) (v := ?vbq38) ?hibq38 (by kernel_rfl) (by kernel_rfl) (by kernel_rfl) ?hQbq38 ?hybq38 (by assumption) ?_
                case hibq38 =>
                  simp only [List.getElem?_toArray, List.getElem?_cons_succ, List.getElem?_cons_zero]
                  try rfl
                case hQbq38 => exact fun _ _ _ h => h
                case hybq38 =>
                  refine Or.inl ⟨by rfl, ?_⟩
                  intro w' hSw
                  try dsimp only at hSw
                  go_simp
                  try with_reducible rfl
                try simp only [Act.put, List.setIfInBounds_toArray, List.set_cons_zero, List.set_cons_succ]
                refine wpAnyH_take (i := 39) (oi := ?oibq39) (v := ?vbq39) ?hibq39 (by kernel_rfl) (by kernel_rfl) (by kernel_rfl) ?hQbq39 ?hybq39 (by assumption) ?_
                case hibq39 =>
                  simp only [List.getElem?_toArray, List.getElem?_cons_succ, List.getElem?_cons_zero]
                  try rfl
                case hQbq39 => exact fun _ _ _ h => h
                case hybq39 =>
                  refine Or.inl ⟨by rfl, ?_⟩
                  intro w' hSw
                  try dsimp only at hSw
                  go_simp
                  try with_reducible rfl
                try simp only [Act.put, List.setIfInBounds_toArray, List.set_cons_zero, List.set_cons_succ]
                refine wpAnyH_take (i := 40) (oi := ?oibq40) (v := ?vbq40) ?hibq40 (by kernel_rfl) (by kernel_rfl) (by kernel_rfl) ?hQbq40 ?hybq40 (by assumption) ?_
                case hibq40 =>
                  simp only [List.getElem?_toArray, List.getElem?_cons_succ, List.getElem?_cons_zero]
                  try rfl
                case hQbq40 => exact fun _ _ _ h => h
                case hybq40 =>
                  refine Or.inl ⟨by rfl, ?_⟩
                  intro w' hSw
                  try dsimp only at hSw
                  go_simp
                  try with_reducible rfl
                try simp only [Act.put, List.setIfInBounds_toArray, List.set_cons_zero, List.set_cons_succ]
                refine wpAnyH_done (by kernel_rfl) ?_ _
                have HM6 := Lib.hid (HM5.out.below HBB.out)
                have HR6 := Lib.hid (HR5.out.keep (fun q hq => HBB.out.block q (HR5.out.lt q hq).2))
                go_wp2_with fail
                go_roundw
                case rel => exact ⟨k + 1, t5, HLT.out, by rw [HAS.out, HZI.out], by go_num, HP5, HM6, HR6⟩
                case measure => have := HLT.out; simp [intOf]; omega
              · go_wp2_with fail
                refine wp_region_held_drew (S := (fun w' => w'.cell? ⟨g, k * 6, none⟩ = some (.int .i64 2) ∧ w'.cell? ⟨g, k * 6 + 1, none⟩ = some (.int .i64 kn))) (by kernel_rfl) ?_ (fun hH0d => ?_)
                · with_reducible exact HSS.out _ (Below.refl _ w5).drew
                refine wpAnyH_take (i := 0) (oi := ?oidq0) (v := ?vdq0) ?hidq0 (by kernel_rfl) (by kernel_rfl) (by kernel_rfl) ?hQdq0 ?hydq0 (by assumption) ?_
                case hidq0 =>
                  simp only [List.getElem?_toArray, List.getElem?_cons_succ, List.getElem?_cons_zero]
                  try rfl
                case hQdq0 => exact fun _ _ _ h => h
                case hydq0 =>
                  refine Or.inl ⟨by rfl, ?_⟩
                  intro w' hSw
                  try dsimp only at hSw
                  go_simp
                  try with_reducible rfl
                try simp only [Act.put, List.setIfInBounds_toArray, List.set_cons_zero, List.set_cons_succ]
                refine wpAnyH_take (i := 1) (oi := ?oidq1) (v := ?vdq1) ?hidq1 (by kernel_rfl) (by kernel_rfl) (by kernel_rfl) ?hQdq1 ?hydq1 (by assumption) ?_
                case hidq1 =>
                  simp only [List.getElem?_toArray, List.getElem?_cons_succ, List.getElem?_cons_zero]
                  try rfl
                case hQdq1 => exact fun _ _ _ h => h
                case hydq1 =>
                  refine Or.inl ⟨by rfl, ?_⟩
                  intro w' hSw
                  try dsimp only at hSw
                  go_simp
                  try with_reducible rfl
                try simp only [Act.put, List.setIfInBounds_toArray, List.set_cons_zero, List.set_cons_succ]
                refine wpAnyH_take (i := 2) (oi := ?oidq2) (v := ?vdq2) ?hidq2 (by kernel_rfl) (by kernel_rfl) (by kernel_rfl) ?hQdq2 ?hydq2 (by assumption) ?_
                case hidq2 =>
                  simp only [List.getElem?_toArray, List.getElem?_cons_succ, List.getElem?_cons_zero]
                  try rfl
                case hQdq2 => exact fun _ _ _ h => h
                case hydq2 =>
                  refine Or.inl ⟨by rfl, ?_⟩
                  intro w' hSw
                  try dsimp only at hSw
                  go_simp
                  try with_reducible rfl
                try simp only [Act.put, List.setIfInBounds_toArray, List.set_cons_zero, List.set_cons_succ]
                refine wpAnyH_take (i := 3) (oi := ?oidq3) (v := ?vdq3) ?hidq3 (by kernel_rfl) (by kernel_rfl) (by kernel_rfl) ?hQdq3 ?hydq3 (by assumption) ?_
                case hidq3 =>
                  simp only [List.getElem?_toArray, List.getElem?_cons_succ, List.getElem?_cons_zero]
                  try rfl
                case hQdq3 => exact fun _ _ _ h => h
                case hydq3 =>
                  refine Or.inl ⟨by rfl, ?_⟩
                  intro w' hSw
                  try dsimp only at hSw
                  go_simp
                  try with_reducible rfl
                try simp only [Act.put, List.setIfInBounds_toArray, List.set_cons_zero, List.set_cons_succ]
                refine wpAnyH_take (i := 4) (oi := ?oidq4) (v := ?vdq4) ?hidq4 (by kernel_rfl) (by kernel_rfl) (by kernel_rfl) ?hQdq4 ?hydq4 (by assumption) ?_
                case hidq4 =>
                  simp only [List.getElem?_toArray, List.getElem?_cons_succ, List.getElem?_cons_zero]
                  try rfl
                case hQdq4 => exact fun _ _ _ h => h
                case hydq4 =>
                  refine Or.inl ⟨by rfl, ?_⟩
                  intro w' hSw
                  try dsimp only at hSw
                  go_simp
                  try with_reducible rfl
                try simp only [Act.put, List.setIfInBounds_toArray, List.set_cons_zero, List.set_cons_succ]
                refine wpAnyH_take (i := 5) (oi := ?oidq5) (v := ?vdq5) ?hidq5 (by kernel_rfl) (by kernel_rfl) (by kernel_rfl) ?hQdq5 ?hydq5 (by assumption) ?_
                case hidq5 =>
                  simp only [List.getElem?_toArray, List.getElem?_cons_succ, List.getElem?_cons_zero]
                  try rfl
                case hQdq5 => exact fun _ _ _ h => h
                case hydq5 =>
                  refine Or.inl ⟨by rfl, ?_⟩
                  intro w' hSw
                  try dsimp only at hSw
                  go_simp
                  try with_reducible rfl
                try simp only [Act.put, List.setIfInBounds_toArray, List.set_cons_zero, List.set_cons_succ]
                refine wpAnyH_ready (rs := [6]) (by kernel_rfl) (by simp) ?_
                refine AllReadyH.cons (o := ?odq6) ?hodq6 (fun K hK => ?_) AllReadyH.nil
                case hodq6 =>
                  simp only [List.getElem?_toArray, List.getElem?_cons_succ, List.getElem?_cons_zero]
                  try rfl
                go_simp
                (with_reducible refine (BS.places (HM5.out.below (Below.refl _ w5).drew) T HTT5.out).mono ?_)
                rintro e wA ⟨rfl, hb⟩
                have HBA := Lib.hid (below_step (Below.refl w5.heap.size w5).drew hb)
                clear hb
                go_wp2_with fail
                refine hK.out _ _ ?_ (fun hH1d => ?_)
                · with_reducible exact HSS.out _ HBA.out
                clear hK K hH0d
                try simp only [Act.put, List.setIfInBounds_toArray, List.set_cons_zero, List.set_cons_succ]
                refine wpAnyH_take (i := 7) (oi := ?oidq7) (v := ?vdq7) ?hidq7 (by kernel_rfl) (by kernel_rfl) (by kernel_rfl) ?hQdq7 ?hydq7 (by assumption) ?_
                case hidq7 =>
                  simp only [List.getElem?_toArray, List.getElem?_cons_succ, List.getElem?_cons_zero]
                  try rfl
                case hQdq7 => exact fun _ _ _ h => h
                case hydq7 =>
                  refine Or.inl ⟨by rfl, ?_⟩
                  intro w' hSw
                  try dsimp only at hSw
                  go_simp
                  try with_reducible rfl
                try simp only [Act.put, List.setIfInBounds_toArray, List.set_cons_zero, List.set_cons_succ]
                refine wpAnyH_take (i := 8) (oi := ?oidq8) (v := ?vdq8) ?hidq8 (by kernel_rfl) (by kernel_rfl) (by kernel_rfl) ?hQdq8 ?hydq8 (by assumption) ?_
                case hidq8 =>
                  simp only [List.getElem?_toArray, List.getElem?_cons_succ, List.getElem?_cons_zero]
                  try rfl
                case hQdq8 => exact fun _ _ _ h => h
                case hydq8 =>
                  refine Or.inl ⟨by rfl, ?_⟩
                  intro w' hSw
                  try dsimp only at hSw
                  go_simp
                  try with_reducible rfl
                try simp only [Act.put, List.setIfInBounds_toArray, List.set_cons_zero, List.set_cons_succ]
                refine wpAnyH_take (i := 9) (oi := ?oidq9) (v := ?vdq9) ?hidq9 (by kernel_rfl) (by kernel_rfl) (by kernel_rfl) ?hQdq9 ?hydq9 (by assumption) ?_
                case hidq9 =>
                  simp only [List.getElem?_toArray, List.getElem?_cons_succ, List.getElem?_cons_zero]
                  try rfl
                case hQdq9 => exact fun _ _ _ h => h
                case hydq9 =>
                  refine Or.inl ⟨by rfl, ?_⟩
                  intro w' hSw
                  try dsimp only at hSw
                  go_simp
                  try with_reducible rfl
                try simp only [Act.put, List.setIfInBounds_toArray, List.set_cons_zero, List.set_cons_succ]
                refine wpAnyH_take (i := 10) (oi := ?oidq10) (v := ?vdq10) ?hidq10 (by kernel_rfl) (by kernel_rfl) (by kernel_rfl) ?hQdq10 ?hydq10 (by assumption) ?_
                case hidq10 =>
                  simp only [List.getElem?_toArray, List.getElem?_cons_succ, List.getElem?_cons_zero]
                  try rfl
                case hQdq10 => exact fun _ _ _ h => h
                case hydq10 =>
                  refine Or.inl ⟨by rfl, ?_⟩
                  intro w' hSw
                  try dsimp only at hSw
                  go_simp
                  try with_reducible rfl
                try simp only [Act.put, List.setIfInBounds_toArray, List.set_cons_zero, List.set_cons_succ]
                refine wpAnyH_take (i := 11) (oi := ?oidq11) (v := ?vdq11) ?hidq11 (by kernel_rfl) (by kernel_rfl) (by kernel_rfl) ?hQdq11 ?hydq11 (by assumption) ?_
                case hidq11 =>
                  simp only [List.getElem?_toArray, List.getElem?_cons_succ, List.getElem?_cons_zero]
                  try rfl
                case hQdq11 => exact fun _ _ _ h => h
                case hydq11 =>
                  refine Or.inl ⟨by rfl, ?_⟩
                  intro w' hSw
                  try dsimp only at hSw
                  go_simp
                  try with_reducible rfl
                try simp only [Act.put, List.setIfInBounds_toArray, List.set_cons_zero, List.set_cons_succ]
                refine wpAnyH_take (i := 15) (oi := ?oidq15) (v := ?vdq15) ?hidq15 (by kernel_rfl) (by kernel_rfl) (by kernel_rfl) ?hQdq15 ?hydq15 (by assumption) ?_
                case hidq15 =>
                  simp only [List.getElem?_toArray, List.getElem?_cons_succ, List.getElem?_cons_zero]
                  try rfl
                case hQdq15 => exact fun _ _ _ h => h
                case hydq15 =>
                  refine Or.inl ⟨by rfl, ?_⟩
                  intro w' hSw
                  try dsimp only at hSw
                  go_simp
                  try with_reducible rfl
                try simp only [Act.put, List.setIfInBounds_toArray, List.set_cons_zero, List.set_cons_succ]
                refine wpAnyH_take (i := 16) (oi := ?oidq16) (v := ?vdq16) ?hidq16 (by kernel_rfl) (by kernel_rfl) (by kernel_rfl) ?hQdq16 ?hydq16 (by assumption) ?_
                case hidq16 =>
                  simp only [List.getElem?_toArray, List.getElem?_cons_succ, List.getElem?_cons_zero]
                  try rfl
                case hQdq16 => exact fun _ _ _ h => h
                case hydq16 =>
                  refine Or.inl ⟨by rfl, ?_⟩
                  intro w' hSw
                  try dsimp only at hSw
                  go_simp
                  try with_reducible rfl
                try simp only [Act.put, List.setIfInBounds_toArray, List.set_cons_zero, List.set_cons_succ]
                refine wpAnyH_take (i := 17) (oi := ?oidq17) (v := ?vdq17) ?hidq17 (by kernel_rfl) (by kernel_rfl) (by kernel_rfl) ?hQdq17 ?hydq17 (by assumption) ?_
                case hidq17 =>
                  simp only [List.getElem?_toArray, List.getElem?_cons_succ, List.getElem?_cons_zero]
                  try rfl
                case hQdq17 => exact fun _ _ _ h => h
                case hydq17 =>
                  refine Or.inl ⟨by rfl, ?_⟩
                  intro w' hSw
                  try dsimp only at hSw
                  go_simp
                  try with_reducible rfl
                try simp only [Act.put, List.setIfInBounds_toArray, List.set_cons_zero, List.set_cons_succ]
                refine wpAnyH_take (i := 18) (oi := ?oidq18) (v := ?vdq18) ?hidq18 (by kernel_rfl) (by kernel_rfl) (by kernel_rfl) ?hQdq18 ?hydq18 (by assumption) ?_
                case hidq18 =>
                  simp only [List.getElem?_toArray, List.getElem?_cons_succ, List.getElem?_cons_zero]
                  try rfl
                case hQdq18 => exact fun _ _ _ h => h
                case hydq18 =>
                  refine Or.inl ⟨by rfl, ?_⟩
                  intro w' hSw
                  try dsimp only at hSw
                  go_simp
                  try with_reducible rfl
                try simp only [Act.put, List.setIfInBounds_toArray, List.set_cons_zero, List.set_cons_succ]
                refine wpAnyH_take (i := 19) (oi := ?oidq19) (v := ?vdq19) ?hidq19 (by kernel_rfl) (by kernel_rfl) (by kernel_rfl) ?hQdq19 ?hydq19 (by assumption) ?_
                case hidq19 =>
                  simp only [List.getElem?_toArray, List.getElem?_cons_succ, List.getElem?_cons_zero]
                  try rfl
                case hQdq19 => exact fun _ _ _ h => h
                case hydq19 =>
                  refine Or.inl ⟨by rfl, ?_⟩
                  intro w' hSw
                  try dsimp only at hSw
                  go_simp
                  try with_reducible rfl
                try simp only [Act.put, List.setIfInBounds_toArray, List.set_cons_zero, List.set_cons_succ]
                refine wpAnyH_take (i := 20) (oi := ?oidq20) (v := ?vdq20) ?hidq20 (by kernel_rfl) (by kernel_rfl) (by kernel_rfl) ?hQdq20 ?hydq20 (by assumption) ?_
                case hidq20 =>
                  simp only [List.getElem?_toArray, List.getElem?_cons_succ, List.getElem?_cons_zero]
                  try rfl
                case hQdq20 => exact fun _ _ _ h => h
                case hydq20 =>
                  refine Or.inl ⟨by rfl, ?_⟩
                  intro w' hSw
                  try dsimp only at hSw
                  go_simp
                  try with_reducible rfl
                try simp only [Act.put, List.setIfInBounds_toArray, List.set_cons_zero, List.set_cons_succ]
                refine wpAnyH_take (i := 21) (oi := ?oidq21) (v := ?vdq21) ?hidq21 (by kernel_rfl) (by kernel_rfl) (by kernel_rfl) ?hQdq21 ?hydq21 (by assumption) ?_
                case hidq21 =>
                  simp only [List.getElem?_toArray, List.getElem?_cons_succ, List.getElem?_cons_zero]
                  try rfl
                case hQdq21 => exact fun _ _ _ h => h
                case hydq21 =>
                  refine Or.inl ⟨by rfl, ?_⟩
                  intro w' hSw
                  try dsimp only at hSw
                  go_simp
                  try with_reducible rfl
                try simp only [Act.put, List.setIfInBounds_toArray, List.set_cons_zero, List.set_cons_succ]
                refine wpAnyH_ready (rs := [12]) (by kernel_rfl) (by simp) ?_
                refine AllReadyH.cons (o := ?odq12) ?hodq12 (fun K hK => ?_) AllReadyH.nil
                case hodq12 =>
                  simp only [List.getElem?_toArray, List.getElem?_cons_succ, List.getElem?_cons_zero]
                  try rfl
                go_simp
                (with_reducible refine (BS.stats (HM5.out.below HBA.out) N5 m5 f5 x5 HST.out.1 HST.out.2.1 HST.out.2.2.1 HST.out.2.2.2).mono ?_)
                rintro e wB ⟨rfl, hb⟩
                have HBB := Lib.hid (below_step HBA.out hb)
                clear hb
                go_wp2_with fail
                refine hK.out _ _ ?_ (fun hH2d => ?_)
                · with_reducible exact HSS.out _ HBB.out
                clear hK K hH1d
                try simp only [Act.put, List.setIfInBounds_toArray, List.set_cons_zero, List.set_cons_succ]
                refine wpAnyH_take (i := 13) (oi := ?oidq13) (v := ?vdq13) ?hidq13 (by kernel_rfl) (by kernel_rfl) (by kernel_rfl) ?hQdq13 ?hydq13 (by assumption) ?_
                case hidq13 =>
                  simp only [List.getElem?_toArray, List.getElem?_cons_succ, List.getElem?_cons_zero]
                  try rfl
                case hQdq13 => exact fun _ _ _ h => h
                case hydq13 =>
                  refine Or.inl ⟨by rfl, ?_⟩
                  intro w' hSw
                  try dsimp only at hSw
                  go_simp
                  try with_reducible rfl
                try simp only [Act.put, List.setIfInBounds_toArray, List.set_cons_zero, List.set_cons_succ]
                refine wpAnyH_take (i := 14) (oi := ?oidq14) (v := ?vdq14) ?hidq14 (by kernel_rfl) (by kernel_rfl) (by kernel_rfl) ?hQdq14 ?hydq14 (by assumption) ?_
                case hidq14 =>
                  simp only [List.getElem?_toArray, List.getElem?_cons_succ, List.getElem?_cons_zero]
                  try rfl
                case hQdq14 => exact fun _ _ _ h => h
                case hydq14 =>
                  refine Or.inl ⟨by rfl, ?_⟩
                  intro w' hSw
                  try dsimp only at hSw
                  go_simp
                  try with_reducible rfl
                try simp only [Act.put, List.setIfInBounds_toArray, List.set_cons_zero, List.set_cons_succ]
                refine wpAnyH_take (i := 22) (oi := ?oidq22) (v := ?vdq22) ?hidq22 (by kernel_rfl) (by kernel_rfl) (by kernel_rfl) ?hQdq22 ?hydq22 (by assumption) ?_
                case hidq22 =>
                  simp only [List.getElem?_toArray, List.getElem?_cons_succ, List.getElem?_cons_zero]
                  try rfl
                case hQdq22 => exact fun _ _ _ h => h
                case hydq22 =>
                  refine Or.inl ⟨by rfl, ?_⟩
                  intro w' hSw
                  try dsimp only at hSw
                  go_simp
                  try with_reducible rfl
                try simp only [Act.put, List.setIfInBounds_toArray, List.set_cons_zero, List.set_cons_succ]
                refine wpAnyH_take (i := 23) (oi := ?oidq23) (v := ?vdq23) ?hidq23 (by kernel_rfl) (by kernel_rfl) (by kernel_rfl) ?hQdq23 ?hydq23 (by assumption) ?_
                case hidq23 =>
                  simp only [List.getElem?_toArray, List.getElem?_cons_succ, List.getElem?_cons_zero]
                  try rfl
                case hQdq23 => exact fun _ _ _ h => h
                case hydq23 =>
                  refine Or.inl ⟨by rfl, ?_⟩
                  intro w' hSw
                  try dsimp only at hSw
                  go_simp
                  try with_reducible rfl
                try simp only [Act.put, List.setIfInBounds_toArray, List.set_cons_zero, List.set_cons_succ]
                refine wpAnyH_take (i := 24) (oi := ?oidq24) (v := ?vdq24) ?hidq24 (by kernel_rfl) (by kernel_rfl) (by kernel_rfl) ?hQdq24 ?hydq24 (by assumption) ?_
                case hidq24 =>
                  simp only [List.getElem?_toArray, List.getElem?_cons_succ, List.getElem?_cons_zero]
                  try rfl
                case hQdq24 => exact fun _ _ _ h => h
                case hydq24 =>
                  refine Or.inl ⟨by rfl, ?_⟩
                  intro w' hSw
                  try dsimp only at hSw
                  go_simp
                  try with_reducible rfl
                try simp only [Act.put, List.setIfInBounds_toArray, List.set_cons_zero, List.set_cons_succ]
                refine wpAnyH_take (i := 25) (oi := ?oidq25) (v := ?vdq25) ?hidq25 (by kernel_rfl) (by kernel_rfl) (by kernel_rfl) ?hQdq25 ?hydq25 (by assumption) ?_
                case hidq25 =>
                  simp only [List.getElem?_toArray, List.getElem?_cons_succ, List.getElem?_cons_zero]
                  try rfl
                case hQdq25 => exact fun _ _ _ h => h
                case hydq25 =>
                  refine Or.inl ⟨by rfl, ?_⟩
                  intro w' hSw
                  try dsimp only at hSw
                  go_simp
                  try with_reducible rfl
                try simp only [Act.put, List.setIfInBounds_toArray, List.set_cons_zero, List.set_cons_succ]
                refine wpAnyH_take (i := 26) (oi := ?oidq26) (v := ?vdq26) ?hidq26 (by kernel_rfl) (by kernel_rfl) (by kernel_rfl) ?hQdq26 ?hydq26 (by assumption) ?_
                case hidq26 =>
                  simp only [List.getElem?_toArray, List.getElem?_cons_succ, List.getElem?_cons_zero]
                  try rfl
                case hQdq26 => exact fun _ _ _ h => h
                case hydq26 =>
                  refine Or.inl ⟨by rfl, ?_⟩
                  intro w' hSw
                  try dsimp only at hSw
                  go_simp
                  try with_reducible rfl
                try simp only [Act.put, List.setIfInBounds_toArray, List.set_cons_zero, List.set_cons_succ]
                refine wpAnyH_take (i := 27) (oi := ?oidq27) (v := ?vdq27) ?hidq27 (by kernel_rfl) (by kernel_rfl) (by kernel_rfl) ?hQdq27 ?hydq27 (by assumption) ?_
                case hidq27 =>
                  simp only [List.getElem?_toArray, List.getElem?_cons_succ, List.getElem?_cons_zero]
                  try rfl
                case hQdq27 => exact fun _ _ _ h => h
                case hydq27 =>
                  refine Or.inl ⟨by rfl, ?_⟩
                  intro w' hSw
                  try dsimp only at hSw
                  go_simp
                  try with_reducible rfl
                try simp only [Act.put, List.setIfInBounds_toArray, List.set_cons_zero, List.set_cons_succ]
                refine wpAnyH_take (i := 28) (oi := ?oidq28) (v := ?vdq28) ?hidq28 (by kernel_rfl) (by kernel_rfl) (by kernel_rfl) ?hQdq28 ?hydq28 (by assumption) ?_
                case hidq28 =>
                  simp only [List.getElem?_toArray, List.getElem?_cons_succ, List.getElem?_cons_zero]
                  try rfl
                case hQdq28 => exact fun _ _ _ h => h
                case hydq28 =>
                  refine Or.inl ⟨by rfl, ?_⟩
                  intro w' hSw
                  try dsimp only at hSw
                  go_simp
                  try with_reducible rfl
                try simp only [Act.put, List.setIfInBounds_toArray, List.set_cons_zero, List.set_cons_succ]
                refine wpAnyH_take (i := 29) (oi := ?oidq29) (v := ?vdq29) ?hidq29 (by kernel_rfl) (by kernel_rfl) (by kernel_rfl) ?hQdq29 ?hydq29 (by assumption) ?_
                case hidq29 =>
                  simp only [List.getElem?_toArray, List.getElem?_cons_succ, List.getElem?_cons_zero]
                  try rfl
                case hQdq29 => exact fun _ _ _ h => h
                case hydq29 =>
                  refine Or.inl ⟨by rfl, ?_⟩
                  intro w' hSw
                  try dsimp only at hSw
                  go_simp
                  try with_reducible rfl
                try simp only [Act.put, List.setIfInBounds_toArray, List.set_cons_zero, List.set_cons_succ]
                refine wpAnyH_take (i := 30) (oi := ?oidq30) (v := ?vdq30) ?hidq30 (by kernel_rfl) (by kernel_rfl) (by kernel_rfl) ?hQdq30 ?hydq30 (by assumption) ?_
                case hidq30 =>
                  simp only [List.getElem?_toArray, List.getElem?_cons_succ, List.getElem?_cons_zero]
                  try rfl
                case hQdq30 => exact fun _ _ _ h => h
                case hydq30 =>
                  refine Or.inl ⟨by rfl, ?_⟩
                  intro w' hSw
                  try dsimp only at hSw
                  go_simp
                  try with_reducible rfl
                try simp only [Act.put, List.setIfInBounds_toArray, List.set_cons_zero, List.set_cons_succ]
                refine wpAnyH_take (i := 31) (oi := ?oidq31) (v := ?vdq31) ?hidq31 (by kernel_rfl) (by kernel_rfl) (by kernel_rfl) ?hQdq31 ?hydq31 (by assumption) ?_
                case hidq31 =>
                  simp only [List.getElem?_toArray, List.getElem?_cons_succ, List.getElem?_cons_zero]
                  try rfl
                case hQdq31 => exact fun _ _ _ h => h
                case hydq31 =>
                  refine Or.inl ⟨by rfl, ?_⟩
                  intro w' hSw
                  try dsimp only at hSw
                  go_simp
                  try with_reducible rfl
                try simp only [Act.put, List.setIfInBounds_toArray, List.set_cons_zero, List.set_cons_succ]
                refine wpAnyH_take (i := 32) (oi := ?oidq32) (v := ?vdq32) ?hidq32 (by kernel_rfl) (by kernel_rfl) (by kernel_rfl) ?hQdq32 ?hydq32 (by assumption) ?_
                case hidq32 =>
                  simp only [List.getElem?_toArray, List.getElem?_cons_succ, List.getElem?_cons_zero]
                  try rfl
                case hQdq32 => exact fun _ _ _ h => h
                case hydq32 =>
                  refine Or.inl ⟨by rfl, ?_⟩
                  intro w' hSw
                  try dsimp only at hSw
                  go_simp
                  try with_reducible rfl
                try simp only [Act.put, List.setIfInBounds_toArray, List.set_cons_zero, List.set_cons_succ]
                refine wpAnyH_take (i := 33) (oi := ?oidq33) (v := undef) ?hidq33 (by kernel_rfl) (by kernel_rfl) (by kernel_rfl) ?hQdq33 ?hydq33 (by assumption) ?_
                case hidq33 =>
                  simp only [List.getElem?_toArray, List.getElem?_cons_succ, List.getElem?_cons_zero]
                  try rfl
                case hQdq33 => exact fun _ _ _ h => h
                case hydq33 => exact Or.inr ⟨by rfl, rfl⟩
                try simp only [Act.put, List.setIfInBounds_toArray, List.set_cons_zero, List.set_cons_succ]
                refine wpAnyH_take (i := 34) (oi := ?oidq34) (v := undef) ?hidq34 (by kernel_rfl) (by kernel_rfl) (by kernel_rfl) ?hQdq34 ?hydq34 (by assumption) ?_
                case hidq34 =>
                  simp only [List.getElem?_toArray, List.getElem?_cons_succ, List.getElem?_cons_zero]
                  try rfl
                case hQdq34 => exact fun _ _ _ h => h
                case hydq34 => exact Or.inr ⟨by rfl, rfl⟩
                try simp only [Act.put, List.setIfInBounds_toArray, List.set_cons_zero, List.set_cons_succ]
                refine wpAnyH_take (i := 35) (oi := ?oidq35) (v := undef) ?hidq35 (by kernel_rfl) (by kernel_rfl) (by kernel_rfl) ?hQdq35 ?hydq35 (by assumption) ?_
                case hidq35 =>
                  simp only [List.getElem?_toArray, List.getElem?_cons_succ, List.getElem?_cons_zero]
                  try rfl
                case hQdq35 => exact fun _ _ _ h => h
                case hydq35 => exact Or.inr ⟨by rfl, rfl⟩
                try simp only [Act.put, List.setIfInBounds_toArray, List.set_cons_zero, List.set_cons_succ]
                refine wpAnyH_take (i := 36) (oi := ?oidq36) (v := undef) ?hidq36 (by kernel_rfl) (by kernel_rfl) (by kernel_rfl) ?hQdq36 ?hydq36 (by assumption) ?_
                case hidq36 =>
                  simp only [List.getElem?_toArray, List.getElem?_cons_succ, List.getElem?_cons_zero]
                  try rfl
                case hQdq36 => exact fun _ _ _ h => h
                case hydq36 => exact Or.inr ⟨by rfl, rfl⟩
                try simp only [Act.put, List.setIfInBounds_toArray, List.set_cons_zero, List.set_cons_succ]
                refine wpAnyH_take (i := 37) (oi := ?oidq37) (v := undef) ?hidq37 (by kernel_rfl) (by kernel_rfl) (by kernel_rfl) ?hQdq37 ?hydq37 (by assumption) ?_
                case hidq37 =>
                  simp only [List.getElem?_toArray, List.getElem?_cons_succ, List.getElem?_cons_zero]
                  try rfl
                case hQdq37 => exact fun _ _ _ h => h
                case hydq37 => exact Or.inr ⟨by rfl, rfl⟩
                try simp only [Act.put, List.setIfInBounds_toArray, List.set_cons_zero, List.set_cons_succ]
                refine wpAnyH_take (i := 38) (oi := ?oidq38) (v := ?vdq38) ?hidq38 (by kernel_rfl) (by kernel_rfl) (by kernel_rfl) ?hQdq38 ?hydq38 (by assumption) ?_
                case hidq38 =>
                  simp only [List.getElem?_toArray, List.getElem?_cons_succ, List.getElem?_cons_zero]
                  try rfl
                case hQdq38 => exact fun _ _ _ h => h
                case hydq38 =>
                  refine Or.inl ⟨by rfl, ?_⟩
                  intro w' hSw
                  try dsimp only at hSw
                  go_simp
                  try with_reducible rfl
                try simp only [Act.put, List.setIfInBounds_toArray, List.set_cons_zero, List.set_cons_succ]
                refine wpAnyH_take (i := 39) (oi := ?oidq39) (v := ?vdq39) ?hidq39 (by kernel_rfl) (by kernel_rfl) (by kernel_rfl) ?hQdq39 ?hydq39 (by assumption) ?_
                case hidq39 =>
                  simp only [List.getElem?_toArray, List.getElem?_cons_succ, List.getElem?_cons_zero]
                  try rfl
                case hQdq39 => exact fun _ _ _ h => h
                case hydq39 =>
                  refine Or.inl ⟨by rfl, ?_⟩
                  intro w' hSw
                  try dsimp only at hSw
                  go_simp
                  try with_reducible rfl
                try simp only [Act.put, List.setIfInBounds_toArray, List.set_cons_zero, List.set_cons_succ]
                refine wpAnyH_take (i := 40) (oi := ?oidq40) (v := ?vdq40) ?hidq40 (by kernel_rfl) (by kernel_rfl) (by kernel_rfl) ?hQdq40 ?hydq40 (by assumption) ?_
                case hidq40 =>
                  simp only [List.getElem?_toArray, List.getElem?_cons_succ, List.getElem?_cons_zero]
                  try rfl
                case hQdq40 => exact fun _ _ _ h => h
                case hydq40 =>
                  refine Or.inl ⟨by rfl, ?_⟩
                  intro w' hSw
                  try dsimp only at hSw
                  go_simp
                  try with_reducible rfl
                try simp only [Act.put, List.setIfInBounds_toArray, List.set_cons_zero, List.set_cons_succ]
                refine wpAnyH_done (by kernel_rfl) ?_ _
                have HM6 := Lib.hid (HM5.out.below HBB.out)
                have HR6 := Lib.hid (HR5.out.keep (fun q hq => HBB.out.block q (HR5.out.lt q hq).2))
                go_wp2_with fail
                go_roundw
                case rel => exact ⟨k + 1, t5, HLT.out, by rw [HAS.out, HZI.out], by go_num, HP5, HM6, HR6⟩
                case measure => have := HLT.out; simp [intOf]; omega
              · go_wp2_with fail
                go_region_held3 (fun w' => w'.cell? ⟨g, k * 6, none⟩ = some (.int .i64 2) ∧ w'.cell? ⟨g, k * 6 + 1, none⟩ = some (.int .i64 kn))
                  (first | with_reducible exact HSS.out _ (Below.refl _ w5).drew | with_reducible exact HSS.out _ HBA.out | with_reducible exact HSS.out _ HBB.out | with_reducible exact HSS.out _ HBC.out | with_reducible assumption)
                  (first
                    | (go_at_call 32; (with_reducible refine (BS.places (HM5.out.below (Below.refl _ w5).drew) T HTT5.out).mono ?_); rintro e wA ⟨rfl, hb⟩; have HBA := Lib.hid (below_step (Below.refl w5.heap.size w5).drew hb); clear hb)
                    | (go_at_call 28; (with_reducible refine (BS.stats (HM5.out.below HBA.out) N5 m5 f5 x5 HST.out.1 HST.out.2.1 HST.out.2.2.1 HST.out.2.2.2).mono ?_); rintro e wB ⟨rfl, hb⟩; have HBB := Lib.hid (below_step HBA.out hb); clear hb)
                    | (go_at_call 28; (with_reducible refine (BS.stats (HM5.out.below HBB.out) N5 m5 f5 x5 HST.out.1 HST.out.2.1 HST.out.2.2.1 HST.out.2.2.2).mono ?_); rintro e wC ⟨rfl, hb⟩; have HBC := Lib.hid (below_step HBB.out hb); clear hb))
                have HM6 := Lib.hid (HM5.out.below HBC.out)
                have HR6 := Lib.hid (HR5.out.keep (fun q hq => HBC.out.block q (HR5.out.lt q hq).2))
                go_wp2_with fail
                go_roundw
                case rel => exact ⟨k + 1, t5, HLT.out, by rw [HAS.out, HZI.out], by go_num, HP5, HM6, HR6⟩
                case measure => have := HLT.out; simp [intOf]; omega
            · obtain rfl : k = m := by omega
              have d1 : decide ((k : Int) < (k : Int)) = false := by simp
              go_wp2
              go_ret
              exact ⟨rfl, HM4.out.bel⟩
end Go.Proofs.Yteheolefemlcgaa
