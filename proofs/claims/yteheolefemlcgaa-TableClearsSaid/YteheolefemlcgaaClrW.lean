/- TableClears: the walk. -/
import Derived.Test.YteheolefemlcgaaClrQ
import Derived.Deep.RegionHeld3
import Derived.Laws.IdiomStrings
namespace Go.Proofs.Yteheolefemlcgaa
open Go.RowKit Go.Maps
set_option linter.unusedVariables false
set_option linter.unusedSimpArgs false

theorem C4.set0 {w : World} {a : Nat} {v0 v1 v2 v3 : Value} (H : C4 w a v0 v1 v2 v3) (u : Value) : C4 (w.setCell ⟨a, 0, none⟩ u) a u v1 v2 v3 := by
  refine ⟨?_, (cell_other _ _ _ _ _ (by omega)).trans H.c1, (cell_other _ _ _ _ _ (by omega)).trans H.c2, (cell_other _ _ _ _ _ (by omega)).trans H.c3, fun i => ?_, by simpa using H.lt⟩
  · rw [cell_set_self, H.c0]; rfl
  · have := H.fz i; simpa [go_sem] using this
def justB (b : Nat) (q : Nat) : Prop := q = b
section
variable {w0 w w' : World} {S : Nat → Prop} {hp a n : Nat} {t : Tbl} {hs : HS}
theorem CQ.stats (H : CQ w0 S hp a t hs n w) (q1 q2 q3 q4 : Int) (e1 : (t.p.sn : Int) = q1) (e2 : (t.p.h.n : Int) = q2) (e3 : (t.p.h.free : Int) = q3) (e4 : t.hint = q4) : Calls Try.prog 28 #[.pointer (some ⟨a, 0, none⟩)] w fun e w' => e = .returned (.agg #[.int .i64 q1, .int .i64 q2, .int .i64 q3, .int .i64 q4]) ∧ Below w.heap.size w w' := by
  obtain ⟨s, b, g, hT⟩ := H.bs.tab
  exact tab_Stats a s b g hp t q1 q2 q3 q4 e1 e2 e3 e4 w hT
theorem CQ.pair (H : CQ w0 S hp a t hs n w) (i : Int) (hi : i ≤ 200000) (kk kn : Int) (ks : ByteArray) (vk vn : Int) (vs : ByteArray) (hpr : t.p.pair i = (⟨kk, kn, ks⟩, ⟨vk, vn, vs⟩)) : Calls Try.prog 33 #[.pointer (some ⟨a, 0, none⟩), .int .i64 i] w fun e w' => e = .returned (.tuple #[.agg #[.int .i64 kk, .int .i64 kn, .string ks], .agg #[.int .i64 vk, .int .i64 vn, .string vs]]) ∧ Below w.heap.size w w' := by
  obtain ⟨s, b, g, hT⟩ := H.bs.tab
  have := tab_Pair a s b g hp t H.ok i hi w hT
  rw [hpr] at this
  exact this
theorem CQ.present (H : CQ w0 S hp a t hs n w) (h : t.p.kys = []) : Calls Try.prog 34 #[.pointer (some ⟨a, 0, none⟩)] w fun e w' => ∃ A c, e = .returned (.slice A 0 c) ∧ Below w.heap.size w w' := by
  obtain ⟨s, b, g, hT⟩ := H.bs.tab
  refine (law08_present a s b g hp t H.ok w hT).mono ?_
  rintro e w' ⟨v, rfl, hr, hb⟩
  rw [h] at hr
  obtain ⟨A, c, rfl⟩ := hr.slice
  exact ⟨A, c, rfl, hb⟩
theorem CQ.full (H : CQ w0 S hp a t hs n w) (B : Bool) (h : t.p.fullC = B) : Calls Try.prog 35 #[.pointer (some ⟨a, 0, none⟩)] w fun e w' => e = .returned (.bool B) ∧ Below w.heap.size w w' := by
  obtain ⟨s, b, g, hT⟩ := H.bs.tab
  rw [← h]
  exact law08_full a s b g hp t H.ok w hT
theorem CQ.turned {t' : Tbl} (H : CQ w0 S hp a t hs n w) (hp' : t'.p = t.p) (h : BS w0 S hp a t' hs n w') : CQ w0 S hp a t' hs n w' := ⟨h, H.lim, by rw [hp']; exact H.cl⟩
end
/-- The text of three bytes. -/
def b3 (x y z : Int) : ByteArray := [x, y, z].foldl (fun r n => r.push (UInt8.ofNat n.toNat)) ByteArray.empty
theorem b3_size (x y z : Int) : (b3 x y z).size = 3 := rfl
theorem conv3 (w : World) (x y z : Int) : (convert 65 9 (.slice (some ⟨w.heap.size, 0, none⟩) 3 3)).run Try.prog (w.alloc (.cells #[.int .u8 x, .int .u8 y, .int .u8 z] 5)) = .ok (.string (b3 x y z)) (w.alloc (.cells #[.int .u8 x, .int .u8 y, .int .u8 z] 5)) := by
  rw [run_convert_bytes_string _ 65 9 5 (some ⟨w.heap.size, 0, none⟩) 3 3 Try.underlying65 Try.underlying5 Try.underlying9]
  have hl := run_loadCells_list (P := Try.prog) (w.alloc (.cells #[.int .u8 x, .int .u8 y, .int .u8 z] 5)) ⟨w.heap.size, 0, none⟩ ([x, y, z].map (Value.int .u8)) (fun j v hj => by
    match j, hj with
    | 0, hj => simp at hj; rw [← hj]; simp [Addr.add, go_sem]
    | 1, hj => simp at hj; rw [← hj]; simp [Addr.add, go_sem]
    | 2, hj => simp at hj; rw [← hj]; simp [Addr.add, go_sem])
  simp only [List.length_map, List.length_cons, List.length_nil] at hl
  rw [run_bytesToString _ _ 3 3 _ hl]
  rfl
theorem okVI (n : Int) : okV ⟨2, n, ⟨#[]⟩⟩ = true := okV_iV n
theorem meas3 (M r : Nat) (h : r ≤ M) : M + 1 - ((r : Int) + 1).toNat < M + 1 - ((r : Int)).toNat := by omega
theorem okS {s : ByteArray} (h : s.size ≤ 10000) : okV ⟨3, 0, s⟩ = true := by
  unfold okV
  simp
  omega
theorem refS_small (s : ByteArray) (h : s.size ≤ 10000) (w : World) : Calls Try.prog 30 #[.string s] w fun e w' => ∃ ks : ByteArray, e = .returned (.agg #[.int .i64 3, .int .i64 0, .string ks]) ∧ ks.size ≤ 10000 ∧ Below w.heap.size w w' :=
  (ref3_S s w).mono fun e w' h2 => ⟨s, h2.1, h, h2.2⟩
theorem bs_stats {w0 w : World} {S : Nat → Prop} {hp a n : Nat} {t : Tbl} {hs : HS} (H : BS w0 S hp a t hs n w) (q1 q2 q3 q4 : Int) (e1 : (t.p.sn : Int) = q1) (e2 : (t.p.h.n : Int) = q2) (e3 : (t.p.h.free : Int) = q3) (e4 : t.hint = q4) : Calls Try.prog 28 #[.pointer (some ⟨a, 0, none⟩)] w fun e w' => e = .returned (.agg #[.int .i64 q1, .int .i64 q2, .int .i64 q3, .int .i64 q4]) ∧ Below w.heap.size w w' := by
  obtain ⟨s, b, g, hT⟩ := H.tab
  exact tab_Stats a s b g hp t q1 q2 q3 q4 e1 e2 e3 e4 w hT
theorem bs_present {w0 w : World} {S : Nat → Prop} {hp a n : Nat} {t : Tbl} {hs : HS} (H : BS w0 S hp a t hs n w) : Calls Try.prog 34 #[.pointer (some ⟨a, 0, none⟩)] w fun e w' => ∃ v, e = .returned v ∧ VRow w.heap.size w' v t.p.kys ∧ Below w.heap.size w w' := by
  obtain ⟨s, b, g, hT⟩ := H.tab
  exact law08_present a s b g hp t H.ok w hT
theorem tot_small {t : Tbl} (h : t.p.cells ≤ 10000) : t.p.tot ≤ 10000 ∧ t.p.h.n ≤ 3333 := by unfold PT.cells at h; unfold PT.tot; omega
set_option maxRecDepth 100000 in
set_option maxHeartbeats 6400000 in
theorem rowTableClears {vx : Value} {W : World} (x : CX) (f : CSA W vx x) (w : World) : Calls Try.prog 7 #[vx] W fun e w' => e = .returned (.bool true) ∧ Below W.heap.size W w' := by
  have hcx := fun w => law08_cut f w
  have fc := f.cut
  have hx3 : x.cut.l.length ≤ 300 := by show (x.l.take 300).length ≤ 300; rw [List.length_take]; omega
  have ha1 : x.cut.arr ≤ 2000 ∨ 65536 < x.cut.arr := by show cutN x.arr ≤ 2000 ∨ 65536 < cutN x.arr; unfold cutN; split <;> omega
  have ha2 : x.cut.hsh ≤ 2000 ∨ 65536 < x.cut.hsh := by show cutN x.hsh ≤ 2000 ∨ 65536 < cutN x.hsh; unfold cutN; split <;> omega
  obtain rfl := f.e
  generalize x.cut = x2 at hcx fc hx3 ha1 ha2
  unfold CX.val at hcx
  have FC := Lib.hid fc; have HCX := Lib.hid hcx; have HL3 := Lib.hid hx3; have HA1 := Lib.hid ha1; have HA2 := Lib.hid ha2
  have HBX := Lib.hid (show CB (W.alloc (.cells #[.int .i64 x.lim, .int .i64 x.arr, .int .i64 x.hsh, .slice x.A x.l.length x.c] 24)) W.heap.size x from C4.new W _ _ _ _ _)
  have HB0 := Lib.hid (((Below.refl _ W).alloc (Nat.le_refl _) (.cells #[.int .i64 x.lim, .int .i64 x.arr, .int .i64 x.hsh, .slice x.A x.l.length x.c] 24)))
  have hf0 : ∀ (a b c d : Int) (W : World), (Instr.field 51 (.agg #[.int .i64 a, .int .i64 b, .int .i64 c, .int .i64 d]) 0).run Try.prog W = .ok (.int .i64 a) W := fun a b c d W => by rfl
  clear f fc hcx hx3 ha1 ha2
  unfold CX.val
  have hcv := conv3
  go_enter Try.func7, Try.ntmps7
  go_wp2_with fail
  (with_reducible refine (law08_fixed _).mono ?_)
  rintro e w1 ⟨rfl, hb⟩
  have HBX1 := Lib.hid (show CB w1 W.heap.size x from HBX.out.below hb)
  have HB1 := Lib.hid (below_step HB0.out hb)
  clear hb
  obtain ⟨p0, p1, p2, p3, pf, -⟩ := HBX1.out
  have pf0 := pf 0; have pf1 := pf 1; have pf2 := pf 2; have pf3 := pf 3
  go_wp2_with fail
  (with_reducible refine (HCX.out _).mono ?_)
  rintro e w2 ⟨rfl, hb⟩
  have HBX2 := Lib.hid (show CB w2 W.heap.size x from HBX1.out.below hb)
  have HB2 := Lib.hid (below_step HB1.out hb)
  clear hb p0 p1 p2 p3 pf pf0 pf1 pf2 pf3
  obtain ⟨p0, p1, p2, p3, pf, -⟩ := HBX2.out
  have pf0 := pf 0; have pf1 := pf 1; have pf2 := pf 2; have pf3 := pf 3
  go_upto_region 4 with fail
  have HXC := Lib.hid (show CB ((((w2.setCell ⟨W.heap.size, 0, none⟩ (.int .i64 x2.lim)).setCell ⟨W.heap.size, 1, none⟩ (.int .i64 x2.arr)).setCell ⟨W.heap.size, 2, none⟩ (.int .i64 x2.hsh)).setCell ⟨W.heap.size, 3, none⟩ (.slice x2.A x2.l.length x2.c)) W.heap.size x2 from C4.over HBX2.out _ _ _ _)
  have HBC := Lib.hid ((((HB2.out.setCell (p := ⟨W.heap.size, 0, none⟩) (Nat.le_refl _) (.int .i64 x2.lim)).setCell (p := ⟨W.heap.size, 1, none⟩) (Nat.le_refl _) (.int .i64 x2.arr)).setCell (p := ⟨W.heap.size, 2, none⟩) (Nat.le_refl _) (.int .i64 x2.hsh)).setCell (p := ⟨W.heap.size, 3, none⟩) (Nat.le_refl _) (.slice x2.A x2.l.length x2.c))
  clear p0 p1 p2 p3 pf pf0 pf1 pf2 pf3
  generalize ((((w2.setCell ⟨W.heap.size, 0, none⟩ (.int .i64 x2.lim)).setCell ⟨W.heap.size, 1, none⟩ (.int .i64 x2.arr)).setCell ⟨W.heap.size, 2, none⟩ (.int .i64 x2.hsh)).setCell ⟨W.heap.size, 3, none⟩ (.slice x2.A x2.l.length x2.c)) = wc at HXC HBC ⊢
  obtain ⟨p0, p1, p2, p3, pf, -⟩ := HXC.out
  have pf0 := pf 0; have pf1 := pf 1; have pf2 := pf 2; have pf3 := pf 3
  have HXD := Lib.hid (C4.set0 HXC.out (.int .i64 400000))
  have HBD := Lib.hid (HBC.out.setCell (p := ⟨W.heap.size, 0, none⟩) (Nat.le_refl _) (.int .i64 400000))
  go_upto_region 5 with fail
  clear p0 p1 p2 p3 pf pf0 pf1 pf2 pf3
  generalize wc.setCell ⟨W.heap.size, 0, none⟩ (.int .i64 400000) = wd at HXD HBD ⊢
  obtain ⟨p0, p1, p2, p3, pf, -⟩ := HXD.out
  have pf0 := pf 0; have pf1 := pf 1; have pf2 := pf 2; have pf3 := pf 3
  go_wp2_with fail
  (with_reducible refine (law08_begin400 FC.out HA1.out HA2.out W _ (justB W.heap.size) (fun q hq => by have := HXD.out.lt; unfold justB at hq; omega) HBD.out).mono ?_)
  rintro e w3 ⟨hp, P, Q, rfl, hcs, hk⟩
  have HX3 := Lib.hid (HXD.out.keep (hk _ rfl))
  clear hk p0 p1 p2 p3 pf pf0 pf1 pf2 pf3
  rcases hcs with ⟨rfl, hb⟩ | ⟨a, t0, hs0, rfl, hq, hnil⟩
  · have HB9 := Lib.hid hb
    clear hb
    go_wp2
    go_ret
    exact ⟨rfl, HB9.out⟩
  have HM0 := Lib.hid hq
  have HNIL : Hid (∀ k, (t0.get k).k ≠ 0 → k ∈ ([] : List V)) := Lib.hid (fun k h => by rw [hnil] at h; exact absurd rfl h)
  clear hq hnil HXD HBD HXC HBC HBX HBX1 HBX2 HB0 HB1 HB2 HCX HA1 HA2
  go_wp2_with fail
  go_loopw [7] (fun i wr => ∃ (j : Nat) (L : List V) (t : Tbl) (hs : HS), j ≤ x2.l.length ∧ i = .int .i64 j ∧ L.length ≤ j ∧ Hid (∀ k, (t.get k).k ≠ 0 → k ∈ L) ∧ Hid (CQ W (justB W.heap.size) hp a t hs (3 + 2 * j) wr) ∧ Hid (C4 wr W.heap.size (.int .i64 400000) (.int .i64 x2.arr) (.int .i64 x2.hsh) (.slice x2.A x2.l.length x2.c))) (fun i _ => x2.l.length - (intOf i).toNat)
  case atStart => exact ⟨0, [], t0, hs0, Nat.zero_le _, rfl, Nat.zero_le _, HNIL, HM0, HX3⟩
  case round =>
    clear HM0 HX3 HNIL
    obtain ⟨j, L, t, hs, hj, rfl, hlj, HLV, HM, HX⟩ := hrel
    obtain ⟨-, -, -, a3, -, -⟩ := HX.out
    by_cases h1 : j < x2.l.length
    · have d1 : decide ((j : Int) < (x2.l.length : Int)) = true := by simp; omega
      have j1 : (j : Int) < (x2.l.length : Int) := by omega
      have lx : (x2.l.length : Int) ≤ 300 := by have := HL3.out; omega
      obtain ⟨bx, ox, eA, hbx, hcx⟩ := FC.out.ops (by omega)
      rw [eA] at a3
      have HCX := Lib.hid (hcx j h1)
      have HIX := Lib.hid (FC.out.in64 j)
      clear hcx
      generalize opAt x2.l j = zx at HCX HIX
      obtain ⟨⟨kk, kn, kst⟩, vk, vn, vst⟩ := zx
      have HJ := Lib.hid (show j < 300 ∧ L.length ≤ 1000 by have := HL3.out; omega)
      have HLJ := Lib.hid hlj
      obtain ⟨c0, c1, c2, c3, c4, c5⟩ := HCX.out.bel HM.out.bel hbx
      clear eA hbx hlj
      go_wp2_with fail
      go_still_tail 13, (by kernel_rfl)
      change wpList _ _ _ _ _ wr.drew
      go_wp2_with fail
      (with_reducible refine ((HM.out.below (Below.refl _ wr).drew).set (by have := HJ.out.1; omega) HLV.out HJ.out.2 kk kn kst vk vn vst HIX.out).mono ?_)
      rintro e w5 ⟨t5, hs5, z, rfl, hx, hl5, hk⟩
      have HM5 := Lib.hid hx; have HL5 := Lib.hid hl5
      have HX5 := Lib.hid ((HX.out.below (Below.refl _ wr).drew HX.out.lt).keep (hk _ rfl))
      clear hx hl5 hk c0 c1 c2 c3 c4 c5 a3 HM HX HLV
      go_wp2_with fail
      go_roundw
      case rel => exact ⟨j + 1, ⟨kk, kn, kst⟩ :: L, t5, hs5, by omega, by go_num, by have := HLJ.out; simp only [List.length_cons]; omega, HL5, Lib.hid (HM5.out.mono (by omega)), HX5⟩
      case measure => simp [intOf]; omega
    · have d1 : decide ((j : Int) < (x2.l.length : Int)) = false := by simp; omega
      have HJ3 := Lib.hid (show 3 + 2 * j ≤ 603 by have := HL3.out; omega)
      obtain ⟨N5, hN5⟩ : ∃ N5 : Int, (t.p.sn : Int) = N5 := ⟨_, rfl⟩
      obtain ⟨m5, hm5⟩ : ∃ m5 : Int, (t.p.h.n : Int) = m5 := ⟨_, rfl⟩
      obtain ⟨f5, hf5⟩ : ∃ f5 : Int, (t.p.h.free : Int) = f5 := ⟨_, rfl⟩
      obtain ⟨x5, hx5⟩ : ∃ x5 : Int, t.hint = x5 := ⟨_, rfl⟩
      have HS5 := Lib.hid (show (t.p.sn : Int) = N5 ∧ (t.p.h.n : Int) = m5 ∧ (t.p.h.free : Int) = f5 ∧ t.hint = x5 from ⟨hN5, hm5, hf5, hx5⟩)
      clear hN5 hm5 hf5 hx5 hlj hj
      go_wp2_with fail
      (with_reducible refine (HM.out.stats _ _ _ _ HS5.out.1 HS5.out.2.1 HS5.out.2.2.1 HS5.out.2.2.2).mono ?_)
      rintro e w3 ⟨rfl, hb⟩
      have hba := hb.alloc hb.size (.cells #[.int .i64 N5, .int .i64 m5, .int .i64 f5, .int .i64 x5] 51)
      have HSB := Lib.hid (C4.new w3 (.int .i64 N5) (.int .i64 m5) (.int .i64 f5) (.int .i64 x5) 51)
      have HM4 := Lib.hid (CQ.mono (CQ.reserve (S' := justB w3.heap.size) HM.out hba (fun q hq => ⟨by rw [hq]; exact HSB.out.lt, .inr (by rw [hq]; exact hb.size)⟩)) HJ3.out)
      clear hb hba a3 HM HX HLV
      go_upto_region 13 with fail
      generalize w3.alloc (.cells #[.int .i64 N5, .int .i64 m5, .int .i64 f5, .int .i64 x5] 51) = w4 at HSB HM4 ⊢
      generalize w3.heap.size = sb at HSB HM4 ⊢
      have HTS := Lib.hid (tot_small HM4.out.cl)
      obtain ⟨T, hT⟩ : ∃ T, t.p.tot = T := ⟨_, rfl⟩
      have HT := Lib.hid hT
      clear hT
      go_wp2_with fail
      go_loopw [9] (fun i wr => ∃ (q : Nat) (t' : Tbl) (hs' : HS), q ≤ T ∧ i = .int .i64 ((q : Int) + 1) ∧ Hid (CLQ t t' q) ∧ Hid (CQ W (justB sb) hp a t' hs' (603 + 2 * q) wr) ∧ Hid (C4 wr sb (.int .i64 N5) (.int .i64 m5) (.int .i64 f5) (.int .i64 x5))) (fun i _ => T + 1 - (intOf i).toNat)
      case atStart => exact ⟨0, t, hs, Nat.zero_le _, rfl, Lib.hid (CLQ.start t), HM4, HSB⟩
      case round =>
        clear HM4 HSB
        obtain ⟨q, t2, hs2, hq, rfl, HC, HM, HSB⟩ := hrel
        go_wp2_with fail
        (with_reducible refine (HM.out.bs.places (T : Int) (by rw [HC.out.tot, HT.out])).mono ?_)
        rintro e w5 ⟨rfl, hb⟩
        have HM5 := Lib.hid (HM.out.below hb)
        have HSB5 := Lib.hid (HSB.out.below hb HSB.out.lt)
        clear hb HM HSB
        by_cases hql : q < T
        · have d2 : decide ((q : Int) + 1 ≤ (T : Int)) = true := by simp; omega
          have HQL := Lib.hid hql
          have hTT : T ≤ 10000 := by have := HTS.out.1; have := HT.out; omega
          have HTT := Lib.hid hTT
          have m2 : wrap64 ((q : Int) + 1 + 1) = (q : Int) + 1 + 1 := wrap64_id (by unfold In64; omega)
          obtain ⟨pr, hpr⟩ : ∃ pr, t2.p.pair ((q : Int) + 1) = pr := ⟨_, rfl⟩
          obtain ⟨⟨kk, kn, ks⟩, ⟨vk, vn, vs⟩⟩ := pr
          have HPR := Lib.hid hpr
          have HFL : Hid (t2.p.full (q + 1) ↔ vk ≠ 0) := Lib.hid (by unfold PT.full; rw [show (((q + 1 : Nat)) : Int) = (q : Int) + 1 by omega, hpr])
          clear hql hq hTT hpr
          go_wp2_with fail
          (with_reducible refine (HM5.out.pair ((q : Int) + 1) (by have := HTT.out; have := HQL.out; omega) kk kn ks vk vn vs HPR.out).mono ?_)
          rintro e w6 ⟨rfl, hb⟩
          have hbw := hb.alloc hb.size (.cells #[.int .i64 kk, .int .i64 kn, .string ks] 39)
          have hbv := hbw.alloc hbw.size (.cells #[.int .i64 vk, .int .i64 vn, .string vs] 39)
          have HM6 := Lib.hid (HM5.out.below hbv)
          have HSB6 := Lib.hid (HSB5.out.below hbv HSB5.out.lt)
          have HK6 := Lib.hid ((C3.new w6 kk kn ks).alloc (.cells #[.int .i64 vk, .int .i64 vn, .string vs] 39))
          have hV := C3.new (w6.alloc (.cells #[.int .i64 kk, .int .i64 kn, .string ks] 39)) vk vn vs
          have hsz : (w6.alloc (.cells #[.int .i64 kk, .int .i64 kn, .string ks] 39)).heap.size = w6.heap.size + 1 := World.size_alloc _ _
          rw [hsz] at hV
          have HV6 := Lib.hid hV
          clear hb hbw hbv hV hsz HM5 HSB5
          go_upto_region 17 with fail
          generalize (w6.alloc (.cells #[.int .i64 kk, .int .i64 kn, .string ks] 39)).alloc (.cells #[.int .i64 vk, .int .i64 vn, .string vs] 39) = w7 at HM6 HSB6 HK6 HV6 ⊢
          generalize w6.heap.size = kb at HK6 HV6 ⊢
          obtain ⟨v0, v1, v2, vf, -⟩ := HV6.out
          obtain ⟨k0, k1, k2, kf, -⟩ := HK6.out
          dsimp only at v0 v1 v2 k0 k1 k2
          simp only [Nat.zero_add] at v1 v2 k1 k2
          by_cases hv0 : vk = 0
          · have d3 : (vk != 0) = false := by simpa using hv0
            have HC2 := Lib.hid (HC.out.pass (fun h => HFL.out.1 h hv0))
            clear hv0
            go_wp2
            go_roundw
            case rel => exact ⟨q + 1, t2, hs2, HQL.out, by go_num, HC2, Lib.hid (HM6.out.mono (by omega)), HSB6⟩
            case measure => rw [m2]; exact meas_lt _ _ HQL.out
          · have d3 : (vk != 0) = true := by simpa using hv0
            have HF := Lib.hid (HFL.out.2 hv0)
            have HKY : Hid ((t2.p.pair ((q + 1 : Nat) : Int)).1 = ⟨kk, kn, ks⟩) := Lib.hid (by rw [show (((q + 1 : Nat)) : Int) = (q : Int) + 1 by omega, HPR.out])
            clear hv0
            go_wp2_with fail
            (with_reducible refine (HM6.out.clear (by have := HTT.out; have := HQL.out; omega) HC.out HF.out kk kn ks HKY.out).mono ?_)
            rintro e w8 ⟨t8, hs8, rfl, hx, hcl, hk⟩
            have HM8 := Lib.hid hx; have HC8 := Lib.hid hcl
            have HSB8 := Lib.hid (HSB6.out.keep (hk _ rfl))
            clear hx hcl hk v0 v1 v2 vf k0 k1 k2 kf
            go_wp2_with fail
            go_roundw
            case rel => exact ⟨q + 1, t8, hs8, HQL.out, by go_num, HC8, Lib.hid (HM8.out.mono (by omega)), HSB8⟩
            case measure => rw [m2]; exact meas_lt _ _ HQL.out
        · obtain rfl : q = T := by omega
          have d2 : decide ((q : Int) + 1 ≤ (q : Int)) = false := by simp; omega
          have HTQ := Lib.hid (show 603 + 2 * q ≤ 20603 by have := HTS.out.1; have := HT.out; omega)
          have hC0 : CLQ t t2 t.p.tot := by rw [HT.out]; exact HC.out
          have HC0 := Lib.hid hC0
          have HNO := Lib.hid hC0.none
          have HSS2 := Lib.hid (show (t2.p.sn : Int) = N5 ∧ (t2.p.h.n : Int) = m5 ∧ (t2.p.h.free : Int) = f5 ∧ t2.hint = x5 from by obtain ⟨s1, s2, s3, s4⟩ := HS5.out; exact ⟨by rw [hC0.c.sn]; exact s1, by rw [hC0.c.n]; exact s2, by rw [hC0.f]; exact s3, by rw [hC0.h]; exact s4⟩)
          have HSS : Hid (∀ w', Below w5.heap.size w5 w' → w'.cell? ⟨sb, 0, none⟩ = some (.int .i64 N5) ∧ w'.cell? ⟨sb, 1, none⟩ = some (.int .i64 m5) ∧ w'.cell? ⟨sb, 2, none⟩ = some (.int .i64 f5) ∧ w'.cell? ⟨sb, 3, none⟩ = some (.int .i64 x5)) := Lib.hid (fun w' hb => by
            obtain ⟨a0, a1, a2, a3, -, -⟩ := HSB5.out.below hb HSB5.out.lt
            exact ⟨a0, a1, a2, a3⟩)
          clear hC0 hq hql
          go_wp2_with fail
          refine wp_region_held_drew (S := (fun w' => w'.cell? ⟨sb, 0, none⟩ = some (.int .i64 N5) ∧ w'.cell? ⟨sb, 1, none⟩ = some (.int .i64 m5) ∧ w'.cell? ⟨sb, 2, none⟩ = some (.int .i64 f5) ∧ w'.cell? ⟨sb, 3, none⟩ = some (.int .i64 x5))) (by kernel_rfl) ?_ (fun hH0s => ?_)
          · with_reducible exact HSS.out _ (Below.refl _ w5).drew
          refine wpAnyH_take (i := 0) (oi := ?ois0) (v := ?vs0) ?his0 (by kernel_rfl) (by kernel_rfl) (by kernel_rfl) ?hQs0 ?hys0 (by assumption) ?_; (case his0 => (simp only [List.getElem?_toArray, List.getElem?_cons_succ, List.getElem?_cons_zero]; try rfl)); (case hQs0 => exact fun _ _ _ h => h)
          case hys0 => (refine Or.inl ⟨by rfl, ?_⟩; intro w' hSw; (try dsimp only at hSw); go_simp; try with_reducible rfl)
          try simp only [Act.put, List.setIfInBounds_toArray, List.set_cons_zero, List.set_cons_succ]
          refine wpAnyH_take (i := 2) (oi := ?ois2) (v := ?vs2) ?his2 (by kernel_rfl) (by kernel_rfl) (by kernel_rfl) ?hQs2 ?hys2 (by assumption) ?_; (case his2 => (simp only [List.getElem?_toArray, List.getElem?_cons_succ, List.getElem?_cons_zero]; try rfl)); (case hQs2 => exact fun _ _ _ h => h)
          case hys2 => (refine Or.inl ⟨by rfl, ?_⟩; intro w' hSw; (try dsimp only at hSw); go_simp; try with_reducible rfl)
          try simp only [Act.put, List.setIfInBounds_toArray, List.set_cons_zero, List.set_cons_succ]
          refine wpAnyH_ready (rs := [1]) (by kernel_rfl) (by simp) ?_
          refine AllReadyH.cons (o := ?os1) ?hos1 (fun K hK => ?_) AllReadyH.nil
          case hos1 =>
            simp only [List.getElem?_toArray, List.getElem?_cons_succ, List.getElem?_cons_zero]
            try rfl
          go_simp
          (with_reducible refine (CQ.stats (HM5.out.below (Below.refl _ w5).drew) _ _ _ _ HSS2.out.1 HSS2.out.2.1 HSS2.out.2.2.1 HSS2.out.2.2.2).mono ?_)
          rintro e wB ⟨rfl, hb⟩
          have HBB := Lib.hid (below_step (Below.refl w5.heap.size w5).drew hb)
          clear hb
          go_wp2_with fail
          refine hK.out _ _ ?_ (fun hH1s => ?_)
          · with_reducible exact HSS.out _ HBB.out
          clear hK K hH0s
          try simp only [Act.put, List.setIfInBounds_toArray, List.set_cons_zero, List.set_cons_succ]
          refine wpAnyH_take (i := 3) (oi := ?ois3) (v := ?vs3) ?his3 (by kernel_rfl) (by kernel_rfl) (by kernel_rfl) ?hQs3 ?hys3 (by assumption) ?_; (case his3 => (simp only [List.getElem?_toArray, List.getElem?_cons_succ, List.getElem?_cons_zero]; try rfl)); (case hQs3 => exact fun _ _ _ h => h)
          case hys3 => (refine Or.inl ⟨by rfl, ?_⟩; intro w' hSw; (try dsimp only at hSw); go_simp; try with_reducible rfl)
          try simp only [Act.put, List.setIfInBounds_toArray, List.set_cons_zero, List.set_cons_succ]
          refine wpAnyH_take (i := 4) (oi := ?ois4) (v := ?vs4) ?his4 (by kernel_rfl) (by kernel_rfl) (by kernel_rfl) ?hQs4 ?hys4 (by assumption) ?_; (case his4 => (simp only [List.getElem?_toArray, List.getElem?_cons_succ, List.getElem?_cons_zero]; try rfl)); (case hQs4 => exact fun _ _ _ h => h)
          case hys4 => (refine Or.inl ⟨by rfl, ?_⟩; intro w' hSw; (try dsimp only at hSw); go_simp; try with_reducible rfl)
          try simp only [Act.put, List.setIfInBounds_toArray, List.set_cons_zero, List.set_cons_succ]
          refine wpAnyH_take (i := 5) (oi := ?ois5) (v := ?vs5) ?his5 (by kernel_rfl) (by kernel_rfl) (by kernel_rfl) ?hQs5 ?hys5 (by assumption) ?_; (case his5 => (simp only [List.getElem?_toArray, List.getElem?_cons_succ, List.getElem?_cons_zero]; try rfl)); (case hQs5 => exact fun _ _ _ h => h)
          case hys5 => (refine Or.inl ⟨by rfl, ?_⟩; intro w' hSw; (try dsimp only at hSw); go_simp; try with_reducible rfl)
          try simp only [Act.put, List.setIfInBounds_toArray, List.set_cons_zero, List.set_cons_succ]
          refine wpAnyH_ready (rs := [6]) (by kernel_rfl) (by simp) ?_
          refine AllReadyH.cons (o := ?os6) ?hos6 (fun K hK => ?_) AllReadyH.nil
          case hos6 =>
            simp only [List.getElem?_toArray, List.getElem?_cons_succ, List.getElem?_cons_zero]
            try rfl
          go_simp
          (with_reducible refine (CQ.present (HM5.out.below HBB.out) HNO.out).mono ?_)
          rintro e wC ⟨pA, pc, rfl, hb⟩
          have HBC := Lib.hid (below_step HBB.out hb)
          clear hb
          go_wp2_with fail
          refine hK.out _ _ ?_ (fun hH2s => ?_)
          · with_reducible exact HSS.out _ HBC.out
          clear hK K hH1s
          try simp only [Act.put, List.setIfInBounds_toArray, List.set_cons_zero, List.set_cons_succ]
          refine wpAnyH_take (i := 7) (oi := ?ois7) (v := ?vs7) ?his7 (by kernel_rfl) (by kernel_rfl) (by kernel_rfl) ?hQs7 ?hys7 (by assumption) ?_; (case his7 => (simp only [List.getElem?_toArray, List.getElem?_cons_succ, List.getElem?_cons_zero]; try rfl)); (case hQs7 => exact fun _ _ _ h => h)
          case hys7 => (refine Or.inl ⟨by rfl, ?_⟩; intro w' hSw; (try dsimp only at hSw); go_simp; try with_reducible rfl)
          try simp only [Act.put, List.setIfInBounds_toArray, List.set_cons_zero, List.set_cons_succ]
          refine wpAnyH_take (i := 8) (oi := ?ois8) (v := ?vs8) ?his8 (by kernel_rfl) (by kernel_rfl) (by kernel_rfl) ?hQs8 ?hys8 (by assumption) ?_; (case his8 => (simp only [List.getElem?_toArray, List.getElem?_cons_succ, List.getElem?_cons_zero]; try rfl)); (case hQs8 => exact fun _ _ _ h => h)
          case hys8 => (refine Or.inl ⟨by rfl, ?_⟩; intro w' hSw; (try dsimp only at hSw); go_simp; try with_reducible rfl)
          try simp only [Act.put, List.setIfInBounds_toArray, List.set_cons_zero, List.set_cons_succ]
          refine wpAnyH_take (i := 9) (oi := ?ois9) (v := ?vs9) ?his9 (by kernel_rfl) (by kernel_rfl) (by kernel_rfl) ?hQs9 ?hys9 (by assumption) ?_; (case his9 => (simp only [List.getElem?_toArray, List.getElem?_cons_succ, List.getElem?_cons_zero]; try rfl)); (case hQs9 => exact fun _ _ _ h => h)
          case hys9 => (refine Or.inl ⟨by rfl, ?_⟩; intro w' hSw; (try dsimp only at hSw); go_simp; try with_reducible rfl)
          try simp only [Act.put, List.setIfInBounds_toArray, List.set_cons_zero, List.set_cons_succ]
          refine wpAnyH_done (by kernel_rfl) ?_ _
          have HM7 := Lib.hid (CQ.mono (HM5.out.below HBC.out) HTQ.out)
          have HSB7 := Lib.hid (HSB5.out.below HBC.out HSB5.out.lt)
          have HN7 : Hid (t2.p.h.n ≤ 3333) := Lib.hid (tot_small HM7.out.cl).2
          obtain ⟨M, hM⟩ : ∃ M, t2.p.h.n = M := ⟨_, rfl⟩
          have HMM := Lib.hid (show t2.p.h.n = M ∧ (M : Int) = m5 ∧ M ≤ 3333 from ⟨hM, by rw [← hM]; exact HSS2.out.2.1, by rw [← hM]; exact HN7.out⟩)
          have HDD := Lib.hid (fun k h => CLQ.dead HC0.out HM7.out.ok k h)
          clear hM
          go_wp2_with fail
          go_loopw [12] (fun i wr => ∃ (q : Nat) (L : List V) (t' : Tbl) (hs' : HS), q ≤ M + 1 ∧ i = .int .i64 q ∧ L.length ≤ q ∧ t'.p.h.n = M ∧ Hid (∀ k, (t'.get k).k ≠ 0 → k ∈ L) ∧ Hid (CQ W (justB sb) hp a t' hs' (20603 + 2 * q) wr) ∧ Hid (C4 wr sb (.int .i64 N5) (.int .i64 m5) (.int .i64 f5) (.int .i64 x5))) (fun i _ => M + 1 - (intOf i).toNat)
          case atStart => exact ⟨0, [], t2, hs2, Nat.zero_le _, rfl, Nat.zero_le _, HMM.out.1, HDD, HM7, HSB7⟩
          case round =>
            clear HM7 HSB7 HDD HC0 HNO HSS2 HSS HN7 HBB HBC HM5 HSB5 HC
            obtain ⟨r, L, t3, hs3, hr, rfl, hlr, hn3, HLV, HM, HSB⟩ := hrel
            obtain ⟨a0, a1, a2, a3, -, -⟩ := HSB.out
            by_cases hrm : r ≤ M
            · have d1 : decide ((r : Int) ≤ m5) = true := by have := HMM.out.2.1; simp; omega
              have HR := Lib.hid (show r ≤ M ∧ L.length ≤ r ∧ t3.p.h.n = M ∧ r ≤ 3333 from ⟨hrm, hlr, hn3, by have := HMM.out.2.2; omega⟩)
              have mr : wrap64 ((r : Int) + 1) = (r : Int) + 1 := wrap64_id (by have := HR.out.2.2.2; unfold In64; omega)
              obtain ⟨B, hB⟩ : ∃ B, t3.p.fullC = B := ⟨_, rfl⟩
              have HB := Lib.hid hB
              clear hB hrm hlr hn3 hr
              go_wp2_with fail
              (with_reducible refine (HM.out.full B HB.out).mono ?_)
              rintro e w8 ⟨rfl, hb⟩
              have HM8 := Lib.hid (HM.out.below hb)
              have HSB8 := Lib.hid (HSB.out.below hb HSB.out.lt)
              clear hb HM HSB a0 a1 a2 a3
              go_wp2_with fail
              (with_reducible refine (refS_small _ (by rw [ByteArray.size_append, b3_size]; decide) _).mono ?_)
              rintro e w9 ⟨ks, rfl, hks, hb⟩
              have hb8 := (below_step ((Below.refl w8.heap.size w8).alloc (Nat.le_refl _) _) hb)
              have hb9 := hb8.alloc hb8.size (.cells #[.int .i64 3, .int .i64 0, .string ks] 39)
              have HK9 := Lib.hid (C3.new w9 3 0 ks)
              have HM9 := Lib.hid (CQ.reserve (S' := fun q => q = sb ∨ q = w9.heap.size) HM8.out hb9 (fun q hq => hq.elim (fun e => ⟨by rw [e]; exact Nat.lt_of_lt_of_le HSB8.out.lt hb9.size, .inl e⟩) (fun e => ⟨by rw [e]; exact HK9.out.lt, .inr (by rw [e]; exact hb8.size)⟩)))
              have HSB9 := Lib.hid (HSB8.out.below hb9 HSB8.out.lt)
              have HKS := Lib.hid hks
              clear hb hb8 hb9 hks HM8 HSB8
              go_upto_region 26 with fail
              generalize w9.alloc (.cells #[.int .i64 3, .int .i64 0, .string ks] 39) = wA at HK9 HM9 HSB9 ⊢
              generalize w9.heap.size = kb at HK9 HM9 ⊢
              obtain ⟨k0, k1, k2, kf, -⟩ := HK9.out
              dsimp only at k0 k1 k2
              simp only [Nat.zero_add] at k1 k2
              have kf0 := kf 0; have kf1 := kf 1; have kf2 := kf 2
              have HPN := Lib.hid (place_nonneg t3.p ⟨3, 0, ks⟩)
              obtain ⟨pl, hpl⟩ : ∃ pl, t3.p.place ⟨3, 0, ks⟩ = pl := ⟨_, rfl⟩
              rw [hpl] at HPN
              have HPL := Lib.hid hpl
              clear hpl kf
              go_wp2_with fail
              (with_reducible refine (BS.place HM9.out.bs 3 0 ks).mono ?_)
              rintro e wB ⟨t4, ⟨rfl, -⟩, hp4, hx, hk⟩
              have HMB := Lib.hid (HM9.out.turned hp4 hx)
              have HP4 := Lib.hid hp4
              have HSBB := Lib.hid (HSB9.out.keep (hk _ (.inl rfl)))
              have HKB := Lib.hid (HK9.out.keep (hk _ (.inr rfl)))
              have HLVB : Hid (∀ k, (t4.get k).k ≠ 0 → k ∈ L) := Lib.hid (fun k h => HLV.out k (by have e : t4.get k = t3.get k := by unfold Tbl.get; rw [HP4.out]
                                                                                                   rw [e] at h; exact h))
              have HNB := Lib.hid (show t4.p.h.n = M by rw [HP4.out]; exact HR.out.2.2.1)
              have HFB := Lib.hid (show t4.p.fullC = B by rw [HP4.out]; exact HB.out)
              rw [HPL.out]
              clear hx hk hp4 k0 k1 k2 kf0 kf1 kf2 HM9 HSB9 HK9
              by_cases h0 : 0 < pl
              · have d3 : decide (0 < pl) = true := by simpa using h0
                have HMC := Lib.hid (CQ.reserve (S' := justB sb) HMB.out (Below.refl _ _) (fun q hq => ⟨by rw [hq]; exact HSBB.out.lt, .inl (.inl hq)⟩))
                clear h0
                go_wp2
                go_roundw
                case rel => exact ⟨r + 1, L, t4, hs3, by have := HR.out.1; omega, by go_num, by have := HR.out.2.1; omega, HNB.out, HLVB, Lib.hid (HMC.out.mono (by omega)), HSBB⟩
                case measure => first | exact meas3 M r HR.out.1 | (rw [mr]; exact meas3 M r HR.out.1)
              · have d3 : decide (0 < pl) = false := by simpa using h0
                have HP0 : Hid (t4.p.place ⟨3, 0, ks⟩ = 0) := Lib.hid (by rw [HP4.out, HPL.out]; have := HPN.out; omega)
                have HSK : Hid (∀ w', Below wB.heap.size wB w' → w'.cell? ⟨kb, 0, none⟩ = some (.int .i64 3) ∧ w'.cell? ⟨kb, 1, none⟩ = some (.int .i64 0) ∧ w'.cell? ⟨kb, 2, none⟩ = some (.string ks)) := Lib.hid (fun w' hb => by
                  obtain ⟨a0, a1, a2, -, -⟩ := HKB.out.below hb HKB.out.lt
                  exact ⟨a0, a1, a2⟩)
                clear h0
                go_wp2_with fail
                refine wp_region_held_drew (S := (fun w' => w'.cell? ⟨kb, 0, none⟩ = some (.int .i64 3) ∧ w'.cell? ⟨kb, 1, none⟩ = some (.int .i64 0) ∧ w'.cell? ⟨kb, 2, none⟩ = some (.string ks))) (by kernel_rfl) ?_ (fun hH0k => ?_)
                · with_reducible exact HSK.out _ (Below.refl _ wB).drew
                refine wpAnyH_take (i := 0) (oi := ?oik0) (v := ?vk0) ?hik0 (by kernel_rfl) (by kernel_rfl) (by kernel_rfl) ?hQk0 ?hyk0 (by assumption) ?_; (case hik0 => (simp only [List.getElem?_toArray, List.getElem?_cons_succ, List.getElem?_cons_zero]; try rfl)); (case hQk0 => exact fun _ _ _ h => h)
                case hyk0 => (refine Or.inl ⟨by rfl, ?_⟩; intro w' hSw; (try dsimp only at hSw); go_simp; try with_reducible rfl)
                try simp only [Act.put, List.setIfInBounds_toArray, List.set_cons_zero, List.set_cons_succ]
                refine wpAnyH_take (i := 1) (oi := ?oik1) (v := ?vk1) ?hik1 (by kernel_rfl) (by kernel_rfl) (by kernel_rfl) ?hQk1 ?hyk1 (by assumption) ?_; (case hik1 => (simp only [List.getElem?_toArray, List.getElem?_cons_succ, List.getElem?_cons_zero]; try rfl)); (case hQk1 => exact fun _ _ _ h => h)
                case hyk1 => (refine Or.inl ⟨by rfl, ?_⟩; intro w' hSw; (try dsimp only at hSw); go_simp; try with_reducible rfl)
                try simp only [Act.put, List.setIfInBounds_toArray, List.set_cons_zero, List.set_cons_succ]
                refine wpAnyH_take (i := 2) (oi := ?oik2) (v := ?vk2) ?hik2 (by kernel_rfl) (by kernel_rfl) (by kernel_rfl) ?hQk2 ?hyk2 (by assumption) ?_; (case hik2 => (simp only [List.getElem?_toArray, List.getElem?_cons_succ, List.getElem?_cons_zero]; try rfl)); (case hQk2 => exact fun _ _ _ h => h)
                case hyk2 => (refine Or.inl ⟨by rfl, ?_⟩; intro w' hSw; (try dsimp only at hSw); go_simp; try with_reducible rfl)
                try simp only [Act.put, List.setIfInBounds_toArray, List.set_cons_zero, List.set_cons_succ]
                refine wpAnyH_ready (rs := [3]) (by kernel_rfl) (by simp) ?_
                refine AllReadyH.cons (o := ?ok3) ?hok3 (fun K hK => ?_) AllReadyH.nil
                case hok3 =>
                  simp only [List.getElem?_toArray, List.getElem?_cons_succ, List.getElem?_cons_zero]
                  try rfl
                go_simp
                (with_reducible refine (ref3_I (r : Int) _).mono ?_)
                rintro e wC ⟨rfl, hb⟩
                have HBB := Lib.hid (below_step (Below.refl wB.heap.size wB).drew hb)
                clear hb
                go_wp2_with fail
                refine hK.out _ _ ?_ (fun hH1k => ?_)
                · with_reducible exact HSK.out _ HBB.out
                clear hK K hH0k
                try simp only [Act.put, List.setIfInBounds_toArray, List.set_cons_zero, List.set_cons_succ]
                refine wpAnyH_ready (rs := [4]) (by kernel_rfl) (by simp) ?_
                refine AllReadyH.cons (o := ?ok4) ?hok4 (fun K hK => ?_) AllReadyH.nil
                case hok4 =>
                  simp only [List.getElem?_toArray, List.getElem?_cons_succ, List.getElem?_cons_zero]
                  try rfl
                go_simp
                (with_reducible refine (CQ.add (HMB.out.below HBB.out) (by have := HR.out.2.2.2; omega) HLVB.out (by have := HR.out; omega) 3 0 ks 2 (r : Int) ⟨#[]⟩ (by unfold In64; omega) (okS HKS.out) (okVI (r : Int)) (by decide) (by decide) HP0.out).mono ?_)
                rintro e wD ⟨t8, hs8, rfl, hbs, hA, hF, hk⟩
                have HBS := Lib.hid hbs; have HAA := Lib.hid hA; have HFF := Lib.hid hF
                have HKD := Lib.hid ((HKB.out.below HBB.out HKB.out.lt).keep (hk _ (.inr rfl)))
                have HSBD := Lib.hid ((HSBB.out.below HBB.out HSBB.out.lt).keep (hk _ (.inl rfl)))
                clear hbs hA hF hk
                go_wp2_with fail
                refine hK.out _ _ ?_ (fun hH2k => ?_)
                · exact ⟨HKD.out.c0, by have := HKD.out.c1; simpa using this, by have := HKD.out.c2; simpa using this⟩
                clear hK K hH1k
                try simp only [Act.put, List.setIfInBounds_toArray, List.set_cons_zero, List.set_cons_succ]
                refine wpAnyH_take (i := 5) (oi := ?oik5) (v := ?vk5) ?hik5 (by kernel_rfl) (by kernel_rfl) (by kernel_rfl) ?hQk5 ?hyk5 (by assumption) ?_; (case hik5 => (simp only [List.getElem?_toArray, List.getElem?_cons_succ, List.getElem?_cons_zero]; try rfl)); (case hQk5 => exact fun _ _ _ h => h)
                case hyk5 => (refine Or.inl ⟨by rfl, ?_⟩; intro w' hSw; (try dsimp only at hSw); go_simp; try with_reducible rfl)
                try simp only [Act.put, List.setIfInBounds_toArray, List.set_cons_zero, List.set_cons_succ]
                refine wpAnyH_done (by kernel_rfl) ?_ _
                rw [HFB.out] at HAA HFF
                cases B with
                | false =>
                  have hA := HAA.out rfl
                  have HMC := Lib.hid (CQ.reserve (S' := justB sb) hA.1 (Below.refl _ _) (fun q hq => ⟨by rw [hq]; exact HSBD.out.lt, .inl (.inl hq)⟩))
                  have HNC := Lib.hid (hA.2.1.trans HNB.out)
                  have HLC := Lib.hid hA.2.2
                  clear hA
                  go_wp2
                  go_roundw
                  case rel => exact ⟨r + 1, ⟨3, 0, ks⟩ :: L, t8, hs8, by have := HR.out.1; omega, by go_num, by have := HR.out.2.1; simp only [List.length_cons]; omega, HNC.out, HLC, Lib.hid (HMC.out.mono (by omega)), HSBD⟩
                  case measure => first | exact meas3 M r HR.out.1 | (rw [mr]; exact meas3 M r HR.out.1)
                | true =>
                  obtain ⟨hF1, hF2, hF3⟩ := HFF.out rfl
                  have HFT := Lib.hid hF1; have HKL := Lib.hid hF2; have HGT := Lib.hid hF3
                  clear hF1 hF2 hF3
                  obtain ⟨N8, hN8⟩ : ∃ N8 : Int, (t8.p.sn : Int) = N8 := ⟨_, rfl⟩
                  obtain ⟨m8, hm8⟩ : ∃ m8 : Int, (t8.p.h.n : Int) = m8 := ⟨_, rfl⟩
                  obtain ⟨f8, hf8⟩ : ∃ f8 : Int, (t8.p.h.free : Int) = f8 := ⟨_, rfl⟩
                  obtain ⟨x8, hx8⟩ : ∃ x8 : Int, t8.hint = x8 := ⟨_, rfl⟩
                  have HT8 := Lib.hid (show (t8.p.sn : Int) = N8 ∧ (t8.p.h.n : Int) = m8 ∧ (t8.p.h.free : Int) = f8 ∧ t8.hint = x8 from ⟨hN8, hm8, hf8, hx8⟩)
                  clear hN8 hm8 hf8 hx8
                  go_wp2_with fail
                  (with_reducible refine (bs_stats HBS.out _ _ _ _ HT8.out.1 HT8.out.2.1 HT8.out.2.2.1 HT8.out.2.2.2).mono ?_)
                  rintro e wE ⟨rfl, hb⟩
                  have HBE := Lib.hid hb
                  clear hb
                  go_wp2_with fail
                  (with_reducible refine (bs_present (HBS.out.below HBE.out)).mono ?_)
                  rintro e wF ⟨rv, rfl, hr, hb⟩
                  have HRV := Lib.hid hr
                  have HBF := Lib.hid (below_step HBE.out hb)
                  clear hb hr
                  go_wp2_with fail
                  (with_reducible refine (law08_fits _ rv t8.p.kys (by have := HKL.out; have := HR.out; omega) t8.p.sn t8.p.h.n N8 m8 f8 x8 HT8.out.1 HT8.out.2.1 HFT.out _ HRV.out).mono ?_)
                  rintro e wG ⟨rfl, hb⟩
                  have HBG := Lib.hid (below_step HBF.out hb)
                  have HKG := Lib.hid (HKD.out.below HBG.out HKD.out.lt)
                  obtain ⟨k0, k1, k2, kf, -⟩ := HKG.out
                  dsimp only at k0 k1 k2
                  simp only [Nat.zero_add] at k1 k2
                  have kf0 := kf 0; have kf1 := kf 1; have kf2 := kf 2
                  clear hb kf
                  go_wp2_with fail
                  (with_reducible refine (BS.get (HBS.out.below HBG.out) 3 0 ks ⟨2, (r : Int), ⟨#[]⟩⟩ HGT.out).mono ?_)
                  rintro e wH ⟨t9, ⟨rfl, -⟩, -, hx, -⟩
                  have HMH := Lib.hid hx
                  clear hx k0 k1 k2 kf0 kf1 kf2
                  dsimp only
                  go_wp2_with fail
                  (with_reducible refine (ref3_I (r : Int) _).mono ?_)
                  rintro e wI ⟨rfl, hb⟩
                  have HB9 := Lib.hid (HMH.out.below hb).bel
                  clear hb
                  go_wp2
                  go_ret
                  exact ⟨rfl, HB9.out⟩
            · have d1 : decide ((r : Int) ≤ m5) = false := by have := HMM.out.2.1; simp; omega
              have HB9 := Lib.hid HM.out.bel
              go_wp2
              go_ret
              exact ⟨rfl, HB9.out⟩
end Go.Proofs.Yteheolefemlcgaa
