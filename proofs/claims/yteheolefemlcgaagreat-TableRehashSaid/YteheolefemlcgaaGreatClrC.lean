/- The table's laws: counts, present, full. -/
import Derived.Test.YteheolefemlcgaaGreatFitP
import Derived.Test.YteheolefemlcgaaGreatMapP
import Derived.Test.YteheolefemlcgaaGreatPlaB
namespace Go.Proofs.YteheolefemlcgaaGreat
open Go.RowKit Go.Maps
set_option linter.unusedVariables false
set_option linter.unusedSimpArgs false

theorem val_new (W : World) (k : V) (ty : TypeId) (j : Nat) (u : Value) (h : (vcells k)[j]? = some u) : (W.alloc (.cells #[.int .i64 k.k, .int .i64 k.n, .string k.s] ty)).cell? ((⟨W.heap.size, 0, none⟩ : Addr).add j) = some u := by
  match j, h with
  | 0, h => simp [vcells] at h; subst h; simp [go_sem, Addr.add]
  | 1, h => simp [vcells] at h; subst h; simp [go_sem, Addr.add]
  | 2, h => simp [vcells] at h; subst h; simp [go_sem, Addr.add]
theorem val_one (k : V) : ∀ u ∈ vcells k, u.oneCell' = true := by
  intro u hu
  simp only [vcells, List.mem_cons, List.not_mem_nil, or_false] at hu
  rcases hu with rfl | rfl | rfl <;> rfl
theorem vRow_app {base : Nat} {w : World} {v : Value} {l : List V} {k : V} (h : w.ownsRow base 35 3 v (l.length + 1) (vCells l ++ vcells k)) : VRow base w v (l ++ [k]) := by
  unfold VRow
  rw [vCells_app, List.length_append]
  exact h
/-- Is it a whole number from 1 to n? -/
def inK (n : Int) (k : V) : Bool := decide (k.k = 2 ∧ 1 ≤ k.n ∧ k.n ≤ n)
theorem cntK_take (l : List V) (n : Int) (q : Nat) (hq : q < l.length) : cntK (l.take (q + 1)) n = cntK (l.take q) n + if inK n (l.getD q nilV) = true then 1 else 0 := by
  have e : l.getD q nilV = l[q] := by rw [List.getD_eq_getElem?_getD, List.getElem?_eq_getElem hq]; rfl
  unfold cntK
  rw [List.take_succ_eq_append_getElem hq, List.filter_append, List.length_append, e]
  congr 1
  show (List.filter (inK n) [l[q]]).length = _
  cases h : inK n l[q]
  · rw [List.filter_cons_of_neg (by simp [h])]; rfl
  · rw [List.filter_cons_of_pos h]; rfl
set_option maxRecDepth 100000 in
set_option maxHeartbeats 1600000 in
/-- counts: of a row of values. -/
theorem law08_counts (base : Nat) (v : Value) (l : List V) (hsm : l.length ≤ 200000) (n : Int) (w : World) (H : VRow base w v l) :
    Calls Tryz.prog 77 #[v, .int .i64 n] w fun e w' => e = .returned (.int .i64 ((cntK l n : Nat) : Int)) ∧ w = w' := by
  obtain ⟨A, c, rfl⟩ := H.slice
  have HR := Lib.hid H
  have HSM := Lib.hid hsm
  clear H hsm
  obtain ⟨m, hm⟩ : ∃ m, l.length = m := ⟨_, rfl⟩
  have HN := Lib.hid hm
  go_enter Tryz.func77, Tryz.ntmps77
  rw [hm]
  clear hm
  go_wp2_with fail
  go_loopw [5, 6] (fun cv i wr => ∃ q : Nat, q ≤ m ∧ cv = .int .i64 ((cntK (l.take q) n : Nat) : Int) ∧ i = .int .i64 q ∧ Hid (w = wr)) (fun _ i _ => m - (intOf i).toNat)
  case atStart => exact ⟨0, Nat.zero_le _, rfl, rfl, Lib.hid rfl⟩
  case round =>
    obtain ⟨q, hq, rfl, rfl, HW⟩ := hrel
    obtain rfl := HW.out
    by_cases hql : q < m
    · have d2 : decide ((q : Int) < (m : Int)) = true := by simp; omega
      have q1 : (q : Int) < (m : Int) := by omega
      have q3 : (m : Int) ≤ 9223372036854775807 := by have := HSM.out; have := HN.out; omega
      have HQL := Lib.hid hql
      obtain ⟨g, cp, eA2, -, hgf, hgc⟩ := HR.out.at_ (by have := HN.out; omega)
      obtain ⟨rfl, rfl⟩ : A = some ⟨g, 0, none⟩ ∧ c = cp := by simpa using eA2
      obtain ⟨g0, g1, g2⟩ := hgc q (by have := HN.out; omega)
      have hT := cntK_take l n q (by have := HN.out; omega)
      have hcl : cntK (l.take q) n ≤ 200000 := by have h1 := cntK_le (l.take q) n; have h2 := HSM.out; rw [List.length_take] at h1; omega
      obtain ⟨y, hy⟩ : ∃ y, l.getD q nilV = y := ⟨_, rfl⟩
      rw [hy] at g0 g1 g2 hT
      obtain ⟨C, hC⟩ : ∃ C, cntK (l.take q) n = C := ⟨_, rfl⟩
      rw [hC] at hT hcl ⊢
      have m1 : wrap64 ((C : Int) + 1) = ((C + 1 : Nat) : Int) := by rw [wrap64_id (by unfold In64; omega)]; omega
      clear hgf hgc eA2 hql hq hC hy
      obtain ⟨yk, yn, ys⟩ := y
      dsimp only at g0 g1 g2
      have hin : inK n ⟨yk, yn, ys⟩ = decide (yk = 2 ∧ 1 ≤ yn ∧ yn ≤ n) := rfl
      rw [hin] at hT
      by_cases e1 : yk = 2
      · have b1 : (yk == 2) = true := by simpa using e1
        by_cases e2 : 1 ≤ yn
        · have b2 : decide (1 ≤ yn) = true := by simpa using e2
          by_cases e3 : yn ≤ n
          · have b3 : decide (yn ≤ n) = true := by simpa using e3
            rw [if_pos (by simpa using ⟨e1, e2, e3⟩)] at hT
            have HT := Lib.hid hT
            clear hT e1 e2 e3 hin
            go_wp2
            go_roundw
            case rel => exact ⟨q + 1, HQL.out, by rw [HT.out]; go_num, by go_num, Lib.hid trivial⟩
            case measure => have := HQL.out; simp [intOf]; omega
          · have b3 : decide (yn ≤ n) = false := by simpa using e3
            rw [if_neg (by simp only [decide_eq_true_eq]; exact fun h => e3 h.2.2)] at hT
            have HT := Lib.hid hT
            clear hT e1 e2 e3 hin m1
            go_wp2
            go_roundw
            case rel => exact ⟨q + 1, HQL.out, by rw [HT.out]; rfl, by go_num, Lib.hid trivial⟩
            case measure => have := HQL.out; simp [intOf]; omega
        · have b2 : decide (1 ≤ yn) = false := by simpa using e2
          rw [if_neg (by simp only [decide_eq_true_eq]; exact fun h => e2 h.2.1)] at hT
          have HT := Lib.hid hT
          clear hT e1 e2 hin m1
          go_wp2
          go_roundw
          case rel => exact ⟨q + 1, HQL.out, by rw [HT.out]; rfl, by go_num, Lib.hid trivial⟩
          case measure => have := HQL.out; simp [intOf]; omega
      · have b1 : (yk == 2) = false := by simpa using e1
        rw [if_neg (by simp only [decide_eq_true_eq]; exact fun h => e1 h.1)] at hT
        have HT := Lib.hid hT
        clear hT e1 hin m1
        go_wp2
        go_roundw
        case rel => exact ⟨q + 1, HQL.out, by rw [HT.out]; rfl, by go_num, Lib.hid trivial⟩
        case measure => have := HQL.out; simp [intOf]; omega
    · obtain rfl : q = m := by omega
      have d2 : decide ((q : Int) < (q : Int)) = false := by simp
      have HF : Hid (cntK (l.take q) n = cntK l n) := Lib.hid (by rw [List.take_of_length_le (by have := HN.out; omega)])
      go_wp2
      go_ret
      exact ⟨by rw [HF.out]; rfl, rfl⟩
theorem meas_lt (n q : Nat) (h : q < n) : n + 1 - ((q : Int) + 1 + 1).toNat < n + 1 - ((q : Int) + 1).toNat := by omega
set_option maxRecDepth 100000 in
set_option maxHeartbeats 1600000 in
/-- present: the keys of the full places. -/
theorem law08_present (a s b g hp : Nat) (t : Tbl) (hok : t.p.ok) (w : World) (H : TabIn w a s b g hp t) :
    Calls Tryz.prog 34 #[.pointer (some ⟨a, 0, none⟩)] w fun e w' => ∃ v, e = .returned v ∧ VRow w.heap.size w' v t.p.kys ∧ Below w.heap.size w w' := by
  obtain ⟨i0, hi, hz0, hz1, hz2⟩ := info_parts Tryz.infoVal
  have HI0 := Lib.hid hi; have HZ0 := Lib.hid hz0; have HZ1 := Lib.hid hz1; have HZ2 := Lib.hid hz2
  clear hi hz0 hz1 hz2
  have HPL := Lib.hid (fun W (hb : Below w.heap.size w W) => tab_Places a s b g hp t t.p.sn t.p.h.n rfl rfl hok.sz hok.hg.sz W (H.below hb))
  have hT : t.p.sn + t.p.h.n ≤ 131072 := by have := hok.sz; have := hok.hg.sz; omega
  have HPR := Lib.hid (fun (i : Int) (hi : i ≤ 200000) W (hb : Below w.heap.size w W) => tab_Pair a s b g hp t hok i hi W (H.below hb))
  have HTT := Lib.hid hT
  obtain ⟨p, hpe⟩ : ∃ p, t.p = p := ⟨_, rfl⟩
  rw [hpe] at HPL HPR HTT ⊢
  have HTO : Hid (p.sn + p.h.n = p.tot) := Lib.hid rfl
  rw [HTO.out] at HPL HTT
  clear H hok hT hpe
  go_enter Tryz.func34, Tryz.ntmps34
  go_wp2_with fail
  go_loopw [3, 4] (fun lv i wr => ∃ q : Nat, q ≤ p.tot ∧ i = .int .i64 ((q : Int) + 1) ∧ Hid (VRow w.heap.size wr lv ((p.pos 0 q).map fun j : Nat => (p.pair (j : Int)).1)) ∧ Hid (Below w.heap.size w wr)) (fun _ i _ => p.tot + 1 - (intOf i).toNat)
  case atStart => exact ⟨0, Nat.zero_le _, rfl, Lib.hid (VRow.nil _ _), Lib.hid (Below.refl _ _)⟩
  case round =>
    obtain ⟨q, hq, rfl, HL, HB⟩ := hrel
    go_wp2_with fail
    (with_reducible refine (HPL.out _ HB.out).mono ?_)
    rintro e w2 ⟨rfl, hb⟩
    have HB2 := Lib.hid (HB.out.trans (hb.mono HB.out.size))
    have HL2 := Lib.hid (HL.out.keep (fun z hz => hb.block z (HL.out.lt z hz).2))
    clear hb HL HB
    by_cases hql : q < p.tot
    · have d2 : decide ((q : Int) + 1 ≤ (p.tot : Int)) = true := by simp; omega
      have HQL := Lib.hid hql
      go_wp2_with fail
      (with_reducible refine (HPR.out ((q : Int) + 1) (by have := HTT.out; have := HQL.out; omega) _ HB2.out).mono ?_)
      rintro e w3 ⟨rfl, hb⟩
      have HB3 := Lib.hid (HB2.out.trans (hb.mono HB2.out.size))
      have HL3 := Lib.hid (HL2.out.keep (fun z hz => hb.block z (HL2.out.lt z hz).2))
      clear hb HL2 HB2
      unfold vagg
      obtain ⟨pr, hpr⟩ : ∃ pr, p.pair ((q : Int) + 1) = pr := ⟨_, rfl⟩
      have HPQ := Lib.hid hpr
      rw [hpr]
      obtain ⟨⟨kk, kn, ks⟩, ⟨vk, vn, vs⟩⟩ := pr
      clear hpr
      dsimp only
      have hbw := ((Below.refl w3.heap.size w3).alloc (Nat.le_refl _) (.cells #[.int .i64 kk, .int .i64 kn, .string ks] 35)).alloc (by rw [World.size_alloc]; omega) (.cells #[.int .i64 vk, .int .i64 vn, .string vs] 35)
      have HB4 := Lib.hid (HB3.out.trans (hbw.mono HB3.out.size))
      have HL4 := Lib.hid (HL3.out.keep (fun z hz => hbw.block z (HL3.out.lt z hz).2))
      have HK4 := Lib.hid ((C3.new w3 kk kn ks).alloc (.cells #[.int .i64 vk, .int .i64 vn, .string vs] 35))
      have hV4 := C3.new (w3.alloc (.cells #[.int .i64 kk, .int .i64 kn, .string ks] 35)) vk vn vs
      have hsz : (w3.alloc (.cells #[.int .i64 kk, .int .i64 kn, .string ks] 35)).heap.size = w3.heap.size + 1 := World.size_alloc _ _
      rw [hsz] at hV4
      have HV4 := Lib.hid hV4
      clear hbw hV4 hsz HB3 HL3
      have m2 : wrap64 ((q : Int) + 1 + 1) = (q : Int) + 1 + 1 := wrap64_id (by have := HTT.out; have := HQL.out; unfold In64; omega)
      go_upto_region 6 with fail
      generalize (w3.alloc (.cells #[.int .i64 kk, .int .i64 kn, .string ks] 35)).alloc (.cells #[.int .i64 vk, .int .i64 vn, .string vs] 35) = w4 at HB4 HL4 HK4 HV4 ⊢
      generalize w3.heap.size = kb at HK4 HV4 ⊢
      obtain ⟨v0, v1, v2, vf, -⟩ := HV4.out
      dsimp only at v0 v1 v2
      simp only [Nat.zero_add] at v1 v2
      have vf0 := vf 0; have vf1 := vf 1; have vf2 := vf 2
      clear vf
      by_cases hv0 : vk = 0
      · have d3 : (vk != 0) = false := by simpa using hv0
        have HP1 : Hid (p.pos 0 (q + 1) = p.pos 0 q) := Lib.hid (pos_no p 0 q (by unfold PT.full; rw [show (((0 + 1 + q : Nat) : Int)) = (q : Int) + 1 by omega, HPQ.out]; exact fun h => h hv0))
        clear hv0
        go_wp2
        go_roundw
        case rel => exact ⟨q + 1, HQL.out, by go_num, Lib.hid (by rw [HP1.out]; exact HL4.out), HB4⟩
        case measure => rw [m2]; exact meas_lt _ _ HQL.out
      · have d3 : (vk != 0) = true := by simpa using hv0
        have HP1 : Hid (p.pos 0 (q + 1) = p.pos 0 q ++ [q + 1]) := Lib.hid (by
          have := pos_yes p 0 q (by unfold PT.full; rw [show (((0 + 1 + q : Nat) : Int)) = (q : Int) + 1 by omega, HPQ.out]; exact hv0)
          rw [this, show 0 + 1 + q = q + 1 by omega])
        obtain ⟨L, hL⟩ : ∃ L, (p.pos 0 q).map (fun j : Nat => (p.pair (j : Int)).1) = L := ⟨_, rfl⟩
        rw [hL] at HL4
        have HLL := Lib.hid hL
        have hlen : L.length ≤ 131072 := by have h1 := HLL.out; have h2 := pos_len p 0 q; have h3 := HQL.out; have h4 := HTT.out; rw [← h1, List.length_map]; omega
        have HLN : Hid (L.length + 1 ≤ maxLen ∧ (L.length + 1) * 32 ≤ 140737488355328) := Lib.hid ⟨by unfold maxLen; omega, by omega⟩
        obtain ⟨k0, k1, k2, kf, -⟩ := HK4.out
        dsimp only at k0 k1 k2
        simp only [Nat.zero_add] at k1 k2
        have kf0 := kf 0; have kf1 := kf 1; have kf2 := kf 2
        have HNEW := Lib.hid (val_new w4 ⟨kk, kn, ks⟩ 35)
        have HONE := Lib.hid (val_one ⟨kk, kn, ks⟩)
        have hb5 := (Below.refl _ w4).alloc (Nat.le_refl _) (.cells #[.int .i64 kk, .int .i64 kn, .string ks] 35)
        have HL5 := Lib.hid (HL4.out.keep (fun z hz => hb5.block z (HL4.out.lt z hz).2))
        have HB5 := Lib.hid (HB4.out.trans (hb5.mono HB4.out.size))
        have HLN2 := Lib.hid HB5.out.size
        clear hv0 hL hlen kf hb5
        go_wp2_with (at_builtin; refine wpList_append_own_at _ rfl (Operand.tmp 22) (Operand.tmp 24) 38 rfl w.heap.size 35 i0 (.agg #[.int .i64 0, .int .i64 0, .string ⟨#[]⟩]) 3 32 Tryz.underlying38 HI0.out HZ0.out HZ1.out HZ2.out rfl (by decide) _ L.length (vCells L) rfl HL5.out ⟨w4.heap.size, 0, none⟩ 1 1 (vcells ⟨kk, kn, ks⟩) rfl rfl HNEW.out HONE.out HLN.out.1 HLN.out.2 HLN2.out ?_; intro v6 w6 hown' hgrow _ hat; have HL6 := Lib.hid (vRow_app hown'); have HB6 := Lib.hid (HB5.out.grown hgrow HB5.out.size (fun j hj => (HL5.out.lt j hj).1)); clear hown' hgrow hat)
        go_roundw
        case rel => exact ⟨q + 1, HQL.out, by go_num, Lib.hid (by rw [HP1.out, List.map_append, HLL.out, List.map_singleton, show (((q + 1 : Nat) : Int)) = (q : Int) + 1 by omega, HPQ.out]; exact HL6.out), HB6⟩
        case measure => rw [m2]; exact meas_lt _ _ HQL.out
    · obtain rfl : q = p.tot := by omega
      have d2 : decide ((p.tot : Int) + 1 ≤ (p.tot : Int)) = false := by simp; omega
      go_wp2
      go_ret
      exact ⟨_, rfl, HL2.out, HB2.out⟩
end Go.Proofs.YteheolefemlcgaaGreat
