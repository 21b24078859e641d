/- The table's laws: full, fits. -/
import Derived.Test.YteheolefemlcgaaGreatClrC
import Derived.Deep.RegionHeld3
namespace Go.Proofs.YteheolefemlcgaaGreat
open Go.RowKit Go.Maps
set_option linter.unusedVariables false
set_option linter.unusedSimpArgs false

/-- Do all nodes hold keys? -/
def PT.fullC (p : PT) : Bool := decide (∀ i, i < p.h.n → (p.h.key i).k ≠ 0)
theorem fullC_iff {p : PT} : p.fullC = true ↔ p.fullB := by unfold PT.fullC PT.fullB PH.occ; simp
set_option maxRecDepth 100000 in
set_option maxHeartbeats 1600000 in
theorem law08_full (a s b g hp : Nat) (t : Tbl) (hok : t.p.ok) (w : World) (H : TabIn w a s b g hp t) :
    Calls Tryz.prog 30 #[.pointer (some ⟨a, 0, none⟩)] w fun e w' => e = .returned (.bool t.p.fullC) ∧ Below w.heap.size w w' := by
  have HPL := Lib.hid (fun W (hb : Below w.heap.size w W) => tab_Places a s b g hp t t.p.sn t.p.h.n rfl rfl hok.sz hok.hg.sz W (H.below hb))
  have HST := Lib.hid (fun W (hb : Below w.heap.size w W) => tab_Stats a s b g hp t t.p.sn t.p.h.n t.p.h.free t.hint rfl rfl rfl rfl W (H.below hb))
  have hT : t.p.sn + t.p.h.n ≤ 131072 := by have := hok.sz; have := hok.hg.sz; omega
  have HPR := Lib.hid (fun (i : Int) (hi : i ≤ 200000) W (hb : Below w.heap.size w W) => tab_Pair a s b g hp t hok i hi W (H.below hb))
  have HTT := Lib.hid hT
  have hf0 : ∀ (a b c d : Int) (W : World), (Instr.field 56 (.agg #[.int .i64 a, .int .i64 b, .int .i64 c, .int .i64 d]) 0).run Tryz.prog W = .ok (.int .i64 a) W := fun a b c d W => by rfl
  generalize t.hint = hx at HST
  obtain ⟨p, hpe⟩ : ∃ p, t.p = p := ⟨_, rfl⟩
  rw [hpe] at HPL HPR HTT HST ⊢
  have HTO : Hid (p.sn + p.h.n = p.tot) := Lib.hid rfl
  have m0 : wrap64 ((p.sn : Int) + 1) = (p.sn : Int) + 1 := wrap64_id (by have := HTT.out; unfold In64; omega)
  have HSN : Hid (p.sn ≤ p.tot) := Lib.hid (by unfold PT.tot; omega)
  rw [HTO.out] at HPL HTT
  clear H hok hT hpe
  go_enter Tryz.func30, Tryz.ntmps30
  go_wp2_with fail
  (with_reducible refine (HST.out _ (Below.refl _ w)).mono ?_)
  rintro e w1 ⟨rfl, hb⟩
  have HB1 := Lib.hid hb
  clear hb
  go_wp2_with fail
  go_loopw [3] (fun i wr => ∃ q : Nat, p.sn ≤ q ∧ q ≤ p.tot ∧ i = .int .i64 ((q : Int) + 1) ∧ Hid (∀ j, p.sn ≤ j → j < q → (p.h.key (j - p.sn)).k ≠ 0) ∧ Hid (Below w.heap.size w wr)) (fun i _ => p.tot + 1 - (intOf i).toNat)
  case atStart => exact ⟨p.sn, Nat.le_refl _, HSN.out, congrArg (Value.int .i64) m0, Lib.hid (fun j h1 h2 => by omega), HB1⟩
  case round =>
    obtain ⟨q, hq0, hq, rfl, HK, HB⟩ := hrel
    go_wp2_with fail
    (with_reducible refine (HPL.out _ HB.out).mono ?_)
    rintro e w2 ⟨rfl, hb⟩
    have HB2 := Lib.hid (HB.out.trans (hb.mono HB.out.size))
    have HQ0 := Lib.hid hq0
    clear hb HB hq0
    by_cases hql : q < p.tot
    · have d2 : decide ((q : Int) + 1 ≤ (p.tot : Int)) = true := by simp; omega
      have HQL := Lib.hid hql
      have m2 : wrap64 ((q : Int) + 1 + 1) = (q : Int) + 1 + 1 := wrap64_id (by have := HTT.out; unfold In64; omega)
      clear hql hq
      go_wp2_with fail
      (with_reducible refine (HPR.out ((q : Int) + 1) (by have := HTT.out; have := HQL.out; omega) _ HB2.out).mono ?_)
      rintro e w3 ⟨rfl, hb⟩
      have HB3 := Lib.hid (HB2.out.trans (hb.mono HB2.out.size))
      have hkey : (p.pair ((q : Int) + 1)).1 = p.h.key (q - p.sn) := by
        rw [show ((q : Int) + 1) = ((q + 1 : Nat) : Int) by omega, pair_hi (by have := HQ0.out; omega) (by have := HQL.out; omega)]
        show p.h.key (q + 1 - 1 - p.sn) = _
        rw [Nat.add_sub_cancel]
      clear hb HB2
      unfold vagg
      obtain ⟨pr, hpr⟩ : ∃ pr, p.pair ((q : Int) + 1) = pr := ⟨_, rfl⟩
      rw [hpr] at hkey ⊢
      obtain ⟨⟨kk, kn, ks⟩, ⟨vk, vn, vs⟩⟩ := pr
      have HKY := Lib.hid hkey
      clear hpr hkey
      have hbw := ((Below.refl w3.heap.size w3).alloc (Nat.le_refl _) (.cells #[.int .i64 kk, .int .i64 kn, .string ks] 35)).alloc (by rw [World.size_alloc]; omega) (.cells #[.int .i64 vk, .int .i64 vn, .string vs] 35)
      have HB4 := Lib.hid (HB3.out.trans (hbw.mono HB3.out.size))
      have HK4 := Lib.hid ((C3.new w3 kk kn ks).alloc (.cells #[.int .i64 vk, .int .i64 vn, .string vs] 35))
      clear hbw HB3
      dsimp only
      go_upto_region 5 with fail
      generalize (w3.alloc (.cells #[.int .i64 kk, .int .i64 kn, .string ks] 35)).alloc (.cells #[.int .i64 vk, .int .i64 vn, .string vs] 35) = w4 at HB4 HK4 ⊢
      generalize w3.heap.size = kb at HK4 ⊢
      obtain ⟨v0, v1, v2, vf, -⟩ := HK4.out
      dsimp only at v0 v1 v2
      simp only [Nat.zero_add] at v1 v2
      by_cases e : kk = 0
      · have d3 : (kk == 0) = true := by simpa using e
        have HF : Hid (p.fullC = false) := Lib.hid (by
          unfold PT.fullC
          refine decide_eq_false (fun h => h (q - p.sn) (by have := HQ0.out; have := HQL.out; unfold PT.tot at this; omega) ?_)
          rw [← HKY.out]; exact e)
        clear e
        go_wp2
        go_ret
        exact ⟨by rw [HF.out]; rfl, HB4.out⟩
      · have d3 : (kk == 0) = false := by simpa using e
        have HK2 : Hid (∀ j, p.sn ≤ j → j < q + 1 → (p.h.key (j - p.sn)).k ≠ 0) := Lib.hid (fun j h1 h2 => by
          by_cases ej : j = q
          · rw [ej, ← HKY.out]; exact e
          · exact HK.out j h1 (by omega))
        clear e
        go_wp2
        go_roundw
        case rel => exact ⟨q + 1, by have := HQ0.out; omega, HQL.out, by omega, HK2⟩
        case measure => exact meas_lt _ _ HQL.out
    · obtain rfl : q = p.tot := by omega
      have d2 : decide ((p.tot : Int) + 1 ≤ (p.tot : Int)) = false := by simp; omega
      have HF : Hid (p.fullC = true) := Lib.hid (fullC_iff.2 (fun i hi => by
        have := HK.out (p.sn + i) (by omega) (by rw [← HTO.out]; omega)
        rw [Nat.add_sub_cancel_left] at this
        exact this))
      go_wp2
      go_ret
      exact ⟨by rw [HF.out]; rfl, HB2.out⟩
theorem sub_w (m C R : Nat) (h : m - C = R) (hc : C ≤ m) (hm : m ≤ 200000) : wrap64 ((m : Int) - (C : Int)) = (R : Int) := by
  rw [wrap64_id (by unfold In64; omega)]; omega
theorem cnt_z {f : FuncId} {args : Array Value} {w : World} {y z : Int} (h : y = z) (H : Calls Tryz.prog f args w fun e w' => e = .returned (.int .i64 y) ∧ w = w') : Calls Tryz.prog f args w fun e w' => e = .returned (.int .i64 z) ∧ w = w' := by rw [← h]; exact H
theorem meas_dbl (P : Nat) (pi : Int) (h0 : 0 < P) (h1 : P ≤ 65536) (h : (P : Int) = pi) : 131073 - (pi * 2).toNat < 131073 - pi.toNat := by omega
theorem sub_w2 (m C R : Nat) (h : m - C = R) (hc : C ≤ m) (hm : m ≤ 200000) : IntKind.i64.wrap ((m : Int) - (C : Int)) = (R : Int) := by rw [Go.IntWalk.i64_in _ (by omega)]; omega
theorem two_w (C : Nat) (hm : C ≤ 200000) : wrap64 (2 * (C : Int)) = 2 * (C : Int) := wrap64_id (by unfold In64; omega)
theorem pred_w (C : Nat) (hm : C ≤ 200000) : wrap64 ((C : Int) - 1) = (C : Int) - 1 := wrap64_id (by unfold In64; omega)
set_option maxRecDepth 100000 in
set_option maxHeartbeats 3200000 in
/-- fits: of sizes that fit. -/
theorem law08_fits (base : Nat) (v : Value) (l : List V) (hsm : l.length ≤ 200000) (A N : Nat) (a n f x : Int) (hAa : (A : Int) = a) (hNn : (N : Int) = n) (F : FIT A N l) (w : World) (H : VRow base w v l) :
    Calls Tryz.prog 33 #[.agg #[.int .i64 a, .int .i64 n, .int .i64 f, .int .i64 x], v] w fun e w' => e = .returned (.bool true) ∧ Below w.heap.size w w' := by
  obtain ⟨Ax, c, rfl⟩ := H.slice
  have HCT := Lib.hid (fun W (n : Int) (z : Int) (hz : ((cntK l n : Nat) : Int) = z) (hb : Below w.heap.size w W) => cnt_z hz (law08_counts base _ l hsm n W (H.keep (fun z hz => hb.block z (H.lt z hz).2))))
  have HC4 := Lib.hid (C4.new w (.int .i64 a) (.int .i64 n) (.int .i64 f) (.int .i64 x) 56)
  have HB0 := Lib.hid ((Below.refl w.heap.size w).alloc (Nat.le_refl _) (.cells #[.int .i64 a, .int .i64 n, .int .i64 f, .int .i64 x] 56))
  have pA : A ≤ 65536 := by
    rcases F.pw with h | ⟨e, h, rfl⟩
    · omega
    · exact Nat.le_trans (Nat.pow_le_pow_right (by omega) h) (by decide)
  have hcl := cntK_le l A
  have hN : N ≤ 65536 := by
    rcases F.rs with ⟨-, h⟩ | ⟨-, ⟨e, h, rfl⟩, -⟩
    · omega
    · exact Nat.le_trans (Nat.pow_le_pow_right (by omega) h) (by decide)
  have hNp : N = 0 ∨ ∃ e, e ≤ 16 ∧ N = 2 ^ e := by
    rcases F.rs with ⟨-, h⟩ | ⟨-, h, -⟩
    · exact .inl h
    · exact .inr h
  have bA := pow_and A pA F.pw
  have bN := pow_and N hN hNp
  obtain ⟨m, hm⟩ : ∃ m, l.length = m := ⟨_, rfl⟩
  obtain ⟨C, hC⟩ : ∃ C, cntK l A = C := ⟨_, rfl⟩
  obtain ⟨R, hR⟩ : ∃ R, m - C = R := ⟨_, rfl⟩
  have hrs := F.rs
  have hde := F.de
  have HGR := Lib.hid (fun n => Nat.le_trans (cntK_le l n) hsm)
  rw [hm, hC] at hcl hrs
  rw [hm] at hsm HCT
  rw [hR] at hrs
  rw [hC] at hde
  have mA := pred_w A (by clear hrs; omega)
  have mN := pred_w N (by clear hrs; omega)
  have mR := sub_w m C R hR hcl hsm
  have mR2 := sub_w2 m C R hR hcl hsm
  have mC := two_w C (Nat.le_trans hcl hsm)
  obtain ⟨ci, hci⟩ : ∃ ci : Int, (C : Int) = ci := ⟨_, rfl⟩
  obtain ⟨ri, hri⟩ : ∃ ri : Int, (R : Int) = ri := ⟨_, rfl⟩
  have hCi : ((cntK l a : Nat) : Int) = ci := by rw [← hAa, hC, hci]
  rw [hAa] at bA mA
  rw [hNn] at bN mN
  rw [hci, hri] at mR mR2
  rw [hci] at mC
  have HRC := Lib.hid hR; have HRS := Lib.hid hrs; have HDE := Lib.hid hde; have HG := Lib.hid F.gr; have HCC := Lib.hid hCi; have HPA := Lib.hid pA; have HNN := Lib.hid hN; have HE := Lib.hid (show (A : Int) = a ∧ (N : Int) = n ∧ (C : Int) = ci ∧ (R : Int) = ri from ⟨hAa, hNn, hci, hri⟩)
  clear hrs hde F hNp hcl hsm hR pA hN H hC hCi hAa hNn hci hri
  go_enter Tryz.func33, Tryz.ntmps33
  rw [hm]
  clear hm
  go_wp2_with fail
  generalize w.alloc (.cells #[.int .i64 a, .int .i64 n, .int .i64 f, .int .i64 x] 56) = w1 at HC4 HB0 ⊢
  generalize w.heap.size = sb at HC4 ⊢
  have HSS : Hid (∀ w', Below w1.heap.size w1 w' → w'.cell? ⟨sb, 0, none⟩ = some (.int .i64 a)) := Lib.hid (fun w' hb => (hb.cell (p := ⟨sb, 0, none⟩) HC4.out.lt).trans HC4.out.c0)
  refine wp_region_held_drew (S := (fun w' => w'.cell? ⟨sb, 0, none⟩ = some (.int .i64 a))) (by kernel_rfl) ?_ (fun hH0f => ?_)
  · with_reducible exact HSS.out _ (Below.refl _ w1).drew
  refine wpAnyH_take (i := 0) (oi := ?oif0) (v := ?vf0) ?hif0 (by kernel_rfl) (by kernel_rfl) (by kernel_rfl) ?hQf0 ?hyf0 (by assumption) ?_; (case hif0 => (simp only [List.getElem?_toArray, List.getElem?_cons_succ, List.getElem?_cons_zero]; try rfl)); (case hQf0 => exact fun _ _ _ h => h)
  case hyf0 => (refine Or.inl ⟨by rfl, ?_⟩; intro w' hSw; (try dsimp only at hSw); go_simp; try with_reducible rfl)
  try simp only [Act.put, List.setIfInBounds_toArray, List.set_cons_zero, List.set_cons_succ]
  refine wpAnyH_take (i := 1) (oi := ?oif1) (v := ?vf1) ?hif1 (by kernel_rfl) (by kernel_rfl) (by kernel_rfl) ?hQf1 ?hyf1 (by assumption) ?_; (case hif1 => (simp only [List.getElem?_toArray, List.getElem?_cons_succ, List.getElem?_cons_zero]; try rfl)); (case hQf1 => exact fun _ _ _ h => h)
  case hyf1 => (refine Or.inl ⟨by rfl, ?_⟩; intro w' hSw; (try dsimp only at hSw); go_simp; try with_reducible rfl)
  try simp only [Act.put, List.setIfInBounds_toArray, List.set_cons_zero, List.set_cons_succ]
  refine wpAnyH_take (i := 2) (oi := ?oif2) (v := ?vf2) ?hif2 (by kernel_rfl) (by kernel_rfl) (by kernel_rfl) ?hQf2 ?hyf2 (by assumption) ?_; (case hif2 => (simp only [List.getElem?_toArray, List.getElem?_cons_succ, List.getElem?_cons_zero]; try rfl)); (case hQf2 => exact fun _ _ _ h => h)
  case hyf2 => (refine Or.inl ⟨by rfl, ?_⟩; intro w' hSw; (try dsimp only at hSw); go_simp; try with_reducible rfl)
  try simp only [Act.put, List.setIfInBounds_toArray, List.set_cons_zero, List.set_cons_succ]
  refine wpAnyH_take (i := 3) (oi := ?oif3) (v := ?vf3) ?hif3 (by kernel_rfl) (by kernel_rfl) (by kernel_rfl) ?hQf3 ?hyf3 (by assumption) ?_; (case hif3 => (simp only [List.getElem?_toArray, List.getElem?_cons_succ, List.getElem?_cons_zero]; try rfl)); (case hQf3 => exact fun _ _ _ h => h)
  case hyf3 => (refine Or.inl ⟨by rfl, ?_⟩; intro w' hSw; (try dsimp only at hSw); go_simp; try with_reducible rfl)
  try simp only [Act.put, List.setIfInBounds_toArray, List.set_cons_zero, List.set_cons_succ]
  refine wpAnyH_take (i := 4) (oi := ?oif4) (v := ?vf4) ?hif4 (by kernel_rfl) (by kernel_rfl) (by kernel_rfl) ?hQf4 ?hyf4 (by assumption) ?_; (case hif4 => (simp only [List.getElem?_toArray, List.getElem?_cons_succ, List.getElem?_cons_zero]; try rfl)); (case hQf4 => exact fun _ _ _ h => h)
  case hyf4 => (refine Or.inl ⟨by rfl, ?_⟩; intro w' hSw; (try dsimp only at hSw); go_simp; try with_reducible rfl)
  try simp only [Act.put, List.setIfInBounds_toArray, List.set_cons_zero, List.set_cons_succ]
  refine wpAnyH_take (i := 5) (oi := ?oif5) (v := ?vf5) ?hif5 (by kernel_rfl) (by kernel_rfl) (by kernel_rfl) ?hQf5 ?hyf5 (by assumption) ?_; (case hif5 => (simp only [List.getElem?_toArray, List.getElem?_cons_succ, List.getElem?_cons_zero]; try rfl)); (case hQf5 => exact fun _ _ _ h => h)
  case hyf5 => (refine Or.inl ⟨by rfl, ?_⟩; intro w' hSw; (try dsimp only at hSw); go_simp; try with_reducible rfl)
  try simp only [Act.put, List.setIfInBounds_toArray, List.set_cons_zero, List.set_cons_succ]
  refine wpAnyH_take (i := 6) (oi := ?oif6) (v := ?vf6) ?hif6 (by kernel_rfl) (by kernel_rfl) (by kernel_rfl) ?hQf6 ?hyf6 (by assumption) ?_; (case hif6 => (simp only [List.getElem?_toArray, List.getElem?_cons_succ, List.getElem?_cons_zero]; try rfl)); (case hQf6 => exact fun _ _ _ h => h)
  case hyf6 => (refine Or.inl ⟨by rfl, ?_⟩; intro w' hSw; (try dsimp only at hSw); go_simp; try with_reducible rfl)
  try simp only [Act.put, List.setIfInBounds_toArray, List.set_cons_zero, List.set_cons_succ]
  refine wpAnyH_ready (rs := [7]) (by kernel_rfl) (by simp) ?_
  refine AllReadyH.cons (o := ?of7) ?hof7 (fun K hK => ?_) AllReadyH.nil
  case hof7 =>
    simp only [List.getElem?_toArray, List.getElem?_cons_succ, List.getElem?_cons_zero]
    try rfl
  go_simp
  (with_reducible refine (HCT.out _ _ _ HCC.out HB0.out.drew).mono ?_)
  rintro e wB ⟨rfl, rfl⟩
  go_wp2_with fail
  refine hK.out _ _ ?_ (fun hH1f => ?_)
  · with_reducible exact HSS.out _ (Below.refl _ w1).drew
  clear hK K hH0f
  try simp only [Act.put, List.setIfInBounds_toArray, List.set_cons_zero, List.set_cons_succ]
  refine wpAnyH_take (i := 8) (oi := ?oif8) (v := ?vf8) ?hif8 (by kernel_rfl) (by kernel_rfl) (by kernel_rfl) ?hQf8 ?hyf8 (by assumption) ?_; (case hif8 => (simp only [List.getElem?_toArray, List.getElem?_cons_succ, List.getElem?_cons_zero]; try rfl)); (case hQf8 => exact fun _ _ _ h => h)
  case hyf8 => (refine Or.inl ⟨by rfl, ?_⟩; intro w' hSw; (try dsimp only at hSw); go_simp; try with_reducible rfl)
  try simp only [Act.put, List.setIfInBounds_toArray, List.set_cons_zero, List.set_cons_succ]
  refine wpAnyH_take (i := 9) (oi := ?oif9) (v := ?vf9) ?hif9 (by kernel_rfl) (by kernel_rfl) (by kernel_rfl) ?hQf9 ?hyf9 (by assumption) ?_; (case hif9 => (simp only [List.getElem?_toArray, List.getElem?_cons_succ, List.getElem?_cons_zero]; try rfl)); (case hQf9 => exact fun _ _ _ h => h)
  case hyf9 => (refine Or.inl ⟨by rfl, ?_⟩; intro w' hSw; (try dsimp only at hSw); go_simp; try with_reducible rfl)
  try simp only [Act.put, List.setIfInBounds_toArray, List.set_cons_zero, List.set_cons_succ]
  refine wpAnyH_take (i := 10) (oi := ?oif10) (v := ?vf10) ?hif10 (by kernel_rfl) (by kernel_rfl) (by kernel_rfl) ?hQf10 ?hyf10 (by assumption) ?_; (case hif10 => (simp only [List.getElem?_toArray, List.getElem?_cons_succ, List.getElem?_cons_zero]; try rfl)); (case hQf10 => exact fun _ _ _ h => h)
  case hyf10 => (refine Or.inl ⟨by rfl, ?_⟩; intro w' hSw; (try dsimp only at hSw); go_simp; try with_reducible rfl)
  try simp only [Act.put, List.setIfInBounds_toArray, List.set_cons_zero, List.set_cons_succ]
  refine wpAnyH_done (by kernel_rfl) ?_ _
  obtain ⟨e1, e2, e3, e4⟩ := HE.out
  by_cases hA : A = 0
  · have d1 : decide (0 < a) = false := by simp; omega
    clear hA e1 e2 e3 e4
    have HB5 := Lib.hid HB0.out.drew
    have HC5 := Lib.hid (HC4.out.below (Below.refl _ w1).drew HC4.out.lt)
    go_wp2_with fail
    clear mA mC mR mR2 bA
    go_loopw [7] (fun i wr => ∃ (e P : Nat) (pi : Int), e ≤ 17 ∧ P = 2 ^ e ∧ (P : Int) = pi ∧ i = .int .i64 pi ∧ Hid (wr = w1.drew)) (fun i _ => 131073 - (intOf i).toNat)
    case atStart => exact ⟨0, 1, 1, by omega, rfl, rfl, rfl, Lib.hid rfl⟩
    case round =>
      obtain ⟨e, P, pi, he, hP, hpi, rfl, HW⟩ := hrel
      obtain rfl := HW.out
      obtain ⟨e1, e2, e3, e4⟩ := HE.out
      by_cases he2 : e ≤ 16
      · have hP2 : P ≤ 65536 := by rw [hP]; exact Nat.le_trans (Nat.pow_le_pow_right (by omega) he2) (by decide)
        have hP3 : 2 * P = 2 ^ (e + 1) := by rw [hP, Nat.pow_succ]; omega
        have d2 : decide (pi ≤ 65536) = true := by simp; omega
        have hP0 : 0 < P := by rw [hP]; exact Nat.pow_pos (by omega)
        have m3 : wrap64 (pi * 2) = pi * 2 := wrap64_id (by unfold In64; omega)
        have HP := Lib.hid (show e ≤ 16 ∧ 2 * P = 2 ^ (e + 1) ∧ 0 < P ∧ P ≤ 65536 ∧ (P : Int) = pi from ⟨he2, hP3, hP0, hP2, hpi⟩)
        by_cases hap : A < P
        · have d3 : decide (a < pi) = true := by simp; omega
          have hg := HG.out e he2 (by rw [← hP]; exact hap)
          rw [← hP, hpi] at hg
          have hg2 := HGR.out pi
          obtain ⟨D, hD⟩ : ∃ D : Int, ((cntK l pi : Nat) : Int) = D := ⟨_, rfl⟩
          have m4 : wrap64 (2 * D) = 2 * D := wrap64_id (by unfold In64; omega)
          have d4 : decide (pi < 2 * D) = false := by simp; omega
          have HDD := Lib.hid hD
          clear hg hg2 hD hap hP hP2 hP3 hP0 he he2 hpi e1 e2 e3 e4
          go_wp2_with fail
          (with_reducible refine (HCT.out _ _ _ HDD.out HB5.out).mono ?_)
          rintro e' wB ⟨rfl, rfl⟩
          go_wp2_with fail
          go_roundw
          case rel => exact ⟨e + 1, 2 * P, pi * 2, by have := HP.out.1; omega, HP.out.2.1, by have := HP.out.2.2.2.2; omega, congrArg (Value.int .i64) m3, Lib.hid trivial⟩
          case measure => rw [m3]; exact meas_dbl P pi HP.out.2.2.1 HP.out.2.2.2.1 HP.out.2.2.2.2
        · have d3 : decide (a < pi) = false := by simp; omega
          clear hap hP hP2 hP3 hP0 he he2 hpi e1 e2 e3 e4
          go_wp2_with fail
          go_roundw
          case rel => exact ⟨e + 1, 2 * P, pi * 2, by have := HP.out.1; omega, HP.out.2.1, by have := HP.out.2.2.2.2; omega, congrArg (Value.int .i64) m3, Lib.hid trivial⟩
          case measure => rw [m3]; exact meas_dbl P pi HP.out.2.2.1 HP.out.2.2.2.1 HP.out.2.2.2.2
      · obtain rfl : e = 17 := by omega
        have d2 : decide (pi ≤ 65536) = false := by rw [← hpi, hP]; decide
        clear hP hpi he e1 e2 e3 e4
        obtain ⟨p0, p1, p2, p3, -⟩ := HC5.out
        obtain ⟨e1, e2, e3, e4⟩ := HE.out
        rcases HRS.out with ⟨r1, r2⟩ | ⟨r1, -, r2, r3⟩
        · have hrr : R = 0 := by have := HRC.out; omega
          have x1 : (ri == 0) = true := by simp; omega
          have x2 : (n == 0) = true := by simp; omega
          clear r1 r2 e1 e2 e3 e4 hrr
          go_wp2
          go_ret
          exact ⟨rfl, HB5.out⟩
        · have hrr : 0 < R := by have := HRC.out; omega
          have x1 : (ri == 0) = false := by simp; omega
          have x2 : decide (0 < ri) = true := by simp; omega
          have x3 : decide (ri ≤ n) = true := by simp; omega
          by_cases r4 : N = 1
          · have x4 : (n == 1) = true := by simp; omega
            clear r1 r2 r3 r4 e1 e2 e3 e4 hrr
            go_wp2
            go_ret
            exact ⟨rfl, HB5.out⟩
          · have x4 : (n == 1) = false := by simp; omega
            have x5 : n.tdiv 2 = n / 2 := by rw [Int.tdiv_eq_ediv_of_nonneg (by omega)]
            have x6 : decide (n / 2 < ri) = true := by simp; omega
            have x7 : wrap64 (n / 2) = n / 2 := wrap64_id (by have := HNN.out; unfold In64; omega)
            clear r1 r2 r3 r4 e1 e2 e3 e4 hrr
            go_wp2
            go_ret
            exact ⟨rfl, HB5.out⟩
  · have d1 : decide (0 < a) = true := by simp; omega
    have d5 : decide (2 * ci ≤ a) = false := by have := HDE.out (by omega); simp; omega
    clear hA e1 e2 e3 e4
    have HB5 := Lib.hid HB0.out.drew
    have HC5 := Lib.hid (HC4.out.below (Below.refl _ w1).drew HC4.out.lt)
    go_wp2_with fail
    (with_reducible refine (HCT.out _ _ _ HCC.out HB5.out).mono ?_)
    rintro e wB ⟨rfl, rfl⟩
    go_wp2_with fail
    clear mA mC mR mR2 bA
    go_loopw [7] (fun i wr => ∃ (e P : Nat) (pi : Int), e ≤ 17 ∧ P = 2 ^ e ∧ (P : Int) = pi ∧ i = .int .i64 pi ∧ Hid (wr = w1.drew)) (fun i _ => 131073 - (intOf i).toNat)
    case atStart => exact ⟨0, 1, 1, by omega, rfl, rfl, rfl, Lib.hid rfl⟩
    case round =>
      obtain ⟨e, P, pi, he, hP, hpi, rfl, HW⟩ := hrel
      obtain rfl := HW.out
      obtain ⟨e1, e2, e3, e4⟩ := HE.out
      by_cases he2 : e ≤ 16
      · have hP2 : P ≤ 65536 := by rw [hP]; exact Nat.le_trans (Nat.pow_le_pow_right (by omega) he2) (by decide)
        have hP3 : 2 * P = 2 ^ (e + 1) := by rw [hP, Nat.pow_succ]; omega
        have d2 : decide (pi ≤ 65536) = true := by simp; omega
        have hP0 : 0 < P := by rw [hP]; exact Nat.pow_pos (by omega)
        have m3 : wrap64 (pi * 2) = pi * 2 := wrap64_id (by unfold In64; omega)
        have HP := Lib.hid (show e ≤ 16 ∧ 2 * P = 2 ^ (e + 1) ∧ 0 < P ∧ P ≤ 65536 ∧ (P : Int) = pi from ⟨he2, hP3, hP0, hP2, hpi⟩)
        by_cases hap : A < P
        · have d3 : decide (a < pi) = true := by simp; omega
          have hg := HG.out e he2 (by rw [← hP]; exact hap)
          rw [← hP, hpi] at hg
          have hg2 := HGR.out pi
          obtain ⟨D, hD⟩ : ∃ D : Int, ((cntK l pi : Nat) : Int) = D := ⟨_, rfl⟩
          have m4 : wrap64 (2 * D) = 2 * D := wrap64_id (by unfold In64; omega)
          have d4 : decide (pi < 2 * D) = false := by simp; omega
          have HDD := Lib.hid hD
          clear hg hg2 hD hap hP hP2 hP3 hP0 he he2 hpi e1 e2 e3 e4
          go_wp2_with fail
          (with_reducible refine (HCT.out _ _ _ HDD.out HB5.out).mono ?_)
          rintro e' wB ⟨rfl, rfl⟩
          go_wp2_with fail
          go_roundw
          case rel => exact ⟨e + 1, 2 * P, pi * 2, by have := HP.out.1; omega, HP.out.2.1, by have := HP.out.2.2.2.2; omega, congrArg (Value.int .i64) m3, Lib.hid trivial⟩
          case measure => rw [m3]; exact meas_dbl P pi HP.out.2.2.1 HP.out.2.2.2.1 HP.out.2.2.2.2
        · have d3 : decide (a < pi) = false := by simp; omega
          clear hap hP hP2 hP3 hP0 he he2 hpi e1 e2 e3 e4
          go_wp2_with fail
          go_roundw
          case rel => exact ⟨e + 1, 2 * P, pi * 2, by have := HP.out.1; omega, HP.out.2.1, by have := HP.out.2.2.2.2; omega, congrArg (Value.int .i64) m3, Lib.hid trivial⟩
          case measure => rw [m3]; exact meas_dbl P pi HP.out.2.2.1 HP.out.2.2.2.1 HP.out.2.2.2.2
      · obtain rfl : e = 17 := by omega
        have d2 : decide (pi ≤ 65536) = false := by rw [← hpi, hP]; decide
        clear hP hpi he e1 e2 e3 e4
        obtain ⟨p0, p1, p2, p3, -⟩ := HC5.out
        obtain ⟨e1, e2, e3, e4⟩ := HE.out
        rcases HRS.out with ⟨r1, r2⟩ | ⟨r1, -, r2, r3⟩
        · have hrr : R = 0 := by have := HRC.out; omega
          have x1 : (ri == 0) = true := by simp; omega
          have x2 : (n == 0) = true := by simp; omega
          clear r1 r2 e1 e2 e3 e4 hrr
          go_wp2
          go_ret
          exact ⟨rfl, HB5.out⟩
        · have hrr : 0 < R := by have := HRC.out; omega
          have x1 : (ri == 0) = false := by simp; omega
          have x2 : decide (0 < ri) = true := by simp; omega
          have x3 : decide (ri ≤ n) = true := by simp; omega
          by_cases r4 : N = 1
          · have x4 : (n == 1) = true := by simp; omega
            clear r1 r2 r3 r4 e1 e2 e3 e4 hrr
            go_wp2
            go_ret
            exact ⟨rfl, HB5.out⟩
          · have x4 : (n == 1) = false := by simp; omega
            have x5 : n.tdiv 2 = n / 2 := by rw [Int.tdiv_eq_ediv_of_nonneg (by omega)]
            have x6 : decide (n / 2 < ri) = true := by simp; omega
            have x7 : wrap64 (n / 2) = n / 2 := wrap64_id (by have := HNN.out; unfold In64; omega)
            clear r1 r2 r3 r4 e1 e2 e3 e4 hrr
            go_wp2
            go_ret
            exact ⟨rfl, HB5.out⟩
end Go.Proofs.YteheolefemlcgaaGreat
