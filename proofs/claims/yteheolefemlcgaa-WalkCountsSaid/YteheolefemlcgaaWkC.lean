/- WalkCounts: the walk. -/
import Derived.Test.YteheolefemlcgaaWkY
import Derived.Lib.SmallJoins
import Derived.ChangeArms
namespace Go.Proofs.Yteheolefemlcgaa
open Go.RowKit Go.Maps Go.Joins Go.ChangeShapes Go.WideShapes
set_option linter.unusedVariables false
set_option linter.unusedSimpArgs false

/-- An api.Val that came in. -/
def IsVal (v : Value) : Prop := ∃ (k n : Int) (s : ByteArray), v = .agg #[.int .i64 k, .int .i64 n, .string s] ∧ In64 k ∧ In64 n ∧ s.size ≤ maxLen
set_option maxRecDepth 100000 in
theorem isVal_of {H : Type} {enc : TypeId × Value → H} {W : World} {base : Nat} {spare : Nat → Bool} {held : Bool} {r : Reach} {b0 : Nat} {v : Value} {d : DataW H} {p : List MemPlace}
    (hv : Value.okWide Try.prog W r b0 39 v) (h : DataW.Trod enc Try.prog W base spare held 39 v d p) : IsVal v := by
  obtain ⟨v0, v1, v2, y0, y1, y2, n, rfl, -, -, h0, h1, h2⟩ := open_agg3 Try.underlying39 (by kernel_rfl) (by kernel_rfl) hv h
  obtain ⟨k, e0, -, w0⟩ := DataW.trod_int Try.underlying3 h0
  obtain ⟨m, e1, -, w1⟩ := DataW.trod_int Try.underlying3 h1
  obtain ⟨s, e2, -, w2⟩ := DataW.trod_string Try.underlying9 h2
  simp only [List.cons.injEq, and_true] at e0 e1 e2
  subst e0 e1 e2
  exact ⟨k, m, s, rfl, bounds_i64 w0, bounds_i64 w1, w2⟩
def twoX (b c : Nat) (q : Nat) : Prop := q = b ∨ q = c
theorem BS.probes {w0 w : World} {S : Nat → Prop} {hp a n : Nat} {t : Tbl} {hs : HS} (H : BS w0 S hp a t hs n w) (x : Int) (hx : t.pr = x) : Calls Try.prog 27 #[.pointer (some ⟨a, 0, none⟩)] w fun e w' => e = .returned (.int .i64 x) ∧ w = w' := by
  obtain ⟨s, b, g, hT⟩ := H.tab
  subst hx
  exact tab_Probes a s b g hp t w hT
theorem wrap_back (x r : Int) : wrap64 (wrap64 (x + r) - x) = wrap64 r := by
  unfold wrap64
  omega
/-- A Next reads what a Place has read. -/
theorem count_same {t : Tbl} {k : V} (H : t.p.ok) : wrap64 (((t.read k).nread k).pr - (t.read k).pr) = wrap64 ((t.read k).pr - t.pr) := by
  unfold Tbl.nread
  by_cases hn : okV k = true ∧ k.k ≠ 0
  · rw [if_pos hn]
    by_cases hb : t.p.inB k
    · have e : t.read k = t := by unfold Tbl.read; rw [if_pos hb]
      rw [e, e]
    · have e : ∀ u : Tbl, u.p = t.p → (u.read k).pr = wrap64 (u.pr + ((t.p.h.findA k).2 : Nat)) := fun u hu => by unfold Tbl.read; rw [hu, if_neg hb]
      rw [e _ (read_ph t k).1, wrap_back, e t rfl, wrap_back]
  · rw [if_neg hn, Int.sub_self]
    by_cases hb : t.p.inB k
    · exact absurd ⟨PT.inB_ok hb, by rw [hb.1]; decide⟩ hn
    · have hf : (t.p.h.findA k).2 = 0 := by
        unfold PH.findA
        rw [if_neg (fun h => hn h.2)]
      have e : (t.read k).pr = wrap64 (t.pr + ((t.p.h.findA k).2 : Nat)) := by unfold Tbl.read; rw [if_neg hb]
      rw [e, wrap_back, hf]; rfl
theorem count_in {t : Tbl} {k : V} (hb : t.p.inB k) : ((t.read k).nread k).pr = t.pr := by
  have e : t.read k = t := by unfold Tbl.read; rw [if_pos hb]
  unfold Tbl.nread
  split <;> rw [e]
  exact congrArg Tbl.pr e
theorem nread_nil (t : Tbl) : t.nread ⟨0, 0, ⟨#[]⟩⟩ = t := by unfold Tbl.nread; rw [if_neg (fun h => h.2 rfl)]
/-- Where a key lies, test by test. -/
theorem count_cases (p : PT) (kk kn : Int) (ks : ByteArray) (n : Int) (hn : (p.sn : Int) = n) :
    ((kk != 2) = true) ∨ ((kk != 2) = false ∧ ¬ ks.toList = [] ∧ ks.toList.isEmpty = false ∧ (!ks.toList.isEmpty) = true) ∨ ((kk != 2) = false ∧ ks.toList = [] ∧ decide (kn < 1) = true) ∨ ((kk != 2) = false ∧ ks.toList = [] ∧ decide (kn < 1) = false ∧ decide (n < kn) = true) ∨ ((kk != 2) = false ∧ ks.toList = [] ∧ decide (kn < 1) = false ∧ decide (n < kn) = false ∧ p.inB ⟨kk, kn, ks⟩) := by
  by_cases e1 : kk = 2
  · by_cases e2 : ks.toList = []
    · by_cases e3 : kn < 1
      · exact .inr (.inr (.inl ⟨by simpa using e1, e2, by simpa using e3⟩))
      · by_cases e4 : n < kn
        · exact .inr (.inr (.inr (.inl ⟨by simpa using e1, e2, by simpa using e3, by simpa using e4⟩)))
        · exact .inr (.inr (.inr (.inr ⟨by simpa using e1, e2, by simpa using e3, by simpa using e4, ⟨e1, e2, by show 1 ≤ kn; omega, by show kn ≤ p.sn; omega⟩⟩)))
    · exact .inr (.inl ⟨by simpa using e1, e2, by simpa using e2, by simpa using e2⟩)
  · exact .inl (by simpa using e1)
set_option maxRecDepth 100000 in
set_option maxHeartbeats 3200000 in
theorem rowWalkCounts {vx : Value} {W : World} (x : CXX) (vk : Value) (f : CSX W vx x) (fk : IsVal vk) (w : World) : Calls Try.prog 11 #[vx, vk] W fun e w' => e = .returned (.bool true) ∧ Below W.heap.size W w' := by
  obtain ⟨kk0, kn0, ks0, rfl, -, -, -⟩ := fk
  have FC := Lib.hid f
  obtain rfl := f.e
  have HBX := Lib.hid ((CBX.new W x).below ((Below.refl _ _).alloc (Nat.le_refl _) (.cells #[.int .i64 kk0, .int .i64 kn0, .string ks0] 39)))
  have HBK : Hid (C3 ((W.alloc (.cells #[.int .i64 x.arr, .int .i64 x.hsh, .slice x.A x.l.length x.c] 70)).alloc (.cells #[.int .i64 kk0, .int .i64 kn0, .string ks0] 39)) (W.heap.size + 1) 0 ⟨kk0, kn0, ks0⟩) := Lib.hid (by
    have h := C3.new (W.alloc (.cells #[.int .i64 x.arr, .int .i64 x.hsh, .slice x.A x.l.length x.c] 70)) kk0 kn0 ks0
    rw [World.size_alloc] at h; exact h)
  have HB0 := Lib.hid (((Below.refl W.heap.size W).alloc (Nat.le_refl _) (.cells #[.int .i64 x.arr, .int .i64 x.hsh, .slice x.A x.l.length x.c] 70)).alloc (by rw [World.size_alloc]; omega) (.cells #[.int .i64 kk0, .int .i64 kn0, .string ks0] 39))
  clear f
  unfold CXX.val
  have hf0 : ∀ (a b c d : Int) (W : World), (Instr.field 51 (.agg #[.int .i64 a, .int .i64 b, .int .i64 c, .int .i64 d]) 0).run Try.prog W = .ok (.int .i64 a) W := fun a b c d W => by rfl
  go_enter Try.func11, Try.ntmps11
  go_wp2_with fail
  (with_reducible refine (law10_fixed _).mono ?_)
  rintro e w1 ⟨rfl, hb⟩
  have HX1 := Lib.hid (HBX.out.below hb)
  have HB1 := Lib.hid (below_step HB0.out hb)
  have HK1 := Lib.hid (HBK.out.below hb HBK.out.lt)
  clear hb
  obtain ⟨p0, p1, p2, -⟩ := HX1.out
  go_wp2_with fail
  (with_reducible refine (law10_begin x.arr x.hsh x.A x.l.length x.c W _ (twoX W.heap.size (W.heap.size + 1)) (fun q hq => by have := HX1.out.lt; have := HK1.out.lt; unfold twoX at hq; omega) HB1.out).mono ?_)
  rintro e w2 ⟨N, M, hp, a, Q, -, rfl, hm, hk⟩
  have HM := Lib.hid hm
  have HX2 := Lib.hid (HX1.out.keep (hk _ (.inl rfl)))
  have HK2 := Lib.hid (HK1.out.keep (hk _ (.inr rfl)))
  clear hm hk p0 p1 p2
  generalize newT (HS.new 400000) N M = t0 at HM
  generalize newH (HS.new 400000) N M = hs0 at HM
  go_wp2_with fail
  go_loopw [8] (fun i wr => ∃ (j : Nat) (t : Tbl) (hs : HS), j ≤ x.l.length ∧ j ≤ 300 ∧ i = .int .i64 j ∧ Hid (BS W (twoX W.heap.size (W.heap.size + 1)) hp a t hs (3 + 2 * j) wr) ∧ Hid (CBX wr W.heap.size x) ∧ Hid (C3 wr (W.heap.size + 1) 0 ⟨kk0, kn0, ks0⟩)) (fun i _ => x.l.length - (intOf i).toNat)
  case atStart => exact ⟨0, t0, hs0, Nat.zero_le _, Nat.zero_le _, rfl, HM, HX2, HK2⟩
  case round =>
    clear HM HX2 HBX HB0 HX1 HB1 HBK HK1 HK2
    obtain ⟨j, t, hs, hj, hj3, rfl, HM, HX, HK⟩ := hrel
    obtain ⟨p0, p1, p2, -⟩ := HX.out
    by_cases hc : j < x.l.length ∧ j < 300
    · obtain ⟨h1, h2⟩ := hc
      have d1 : decide ((j : Int) < (x.l.length : Int)) = true := by simp; omega
      have j1 : (j : Int) < (x.l.length : Int) := by omega
      have lx : (x.l.length : Int) ≤ 9223372036854775807 := by have := FC.out.le; have := FC.out.mx; omega
      have d2 : decide ((j : Int) < 300) = true := by simp; omega
      have j3 : (j : Int) < 300 := by omega
      obtain ⟨bx, ox, eA, hbx, hcx⟩ := FC.out.ops (by omega)
      rw [eA] at p2
      have HEA := Lib.hid eA
      clear eA
      have HCX := Lib.hid (hcx j h1)
      have HIX := Lib.hid (FC.out.in64 j)
      clear hcx
      generalize opX x.l j = z at HCX HIX
      obtain ⟨kd, ⟨kk, kn, kst⟩, ⟨vk, vn, vst⟩⟩ := z
      have HIX : Hid (In64 kn) := Lib.hid (by have h := HIX.out; unfold OX.ok In64V at h; exact h.2.1.2)
      have HJ := Lib.hid h2
      obtain ⟨c0, c1, c2, c3, c4, c5, c6⟩ := HCX.out.bel HM.out.bel hbx
      dsimp only at c0 c1 c2 c3 c4 c5 c6
      go_wp2_with fail
      go_still_tail 13, (by kernel_rfl)
      change wpList _ _ _ _ _ wr.drew
      go_wp2_with fail
      (with_reducible refine ((HM.out.below (Below.refl _ wr).drew).set (by have := HJ.out; omega) kk kn kst vk vn vst HIX.out).mono ?_)
      rintro e w5 ⟨rfl, hx, hk⟩
      have HX5 := Lib.hid ((HX.out.below (Below.refl _ wr).drew).keep (hk _ (.inl rfl)))
      have HK5 := Lib.hid (HK.out.drew.keep (hk _ (.inr rfl)))
      have HM5 := Lib.hid hx
      clear hx hk c0 c1 c2 c3 c4 c5 c6 p0 p1 p2 HM HX HK
      generalize t.set hs ⟨kk, kn, kst⟩ ⟨vk, vn, vst⟩ = r5 at HM5
      obtain ⟨t5, hs5, er⟩ := r5
      dsimp only at HM5
      go_wp2_with fail
      go_roundw
      case rel => exact ⟨j + 1, t5, hs5, by omega, by omega, by go_num, Lib.hid (HM5.out.mono (by omega)), HX5, HK5⟩
      case measure => simp [intOf]; omega
    · by_cases h1 : j < x.l.length
      · have d1 : decide ((j : Int) < (x.l.length : Int)) = true := by simp; omega
        have d2 : decide ((j : Int) < 300) = false := by simp; omega
        clear hc
        obtain ⟨pa, hpa⟩ : ∃ y, t.pr = y := ⟨_, rfl⟩
        obtain ⟨pb, hpb⟩ : ∃ y, (t.read ⟨kk0, kn0, ks0⟩).pr = y := ⟨_, rfl⟩
        obtain ⟨pc, hpc⟩ : ∃ y, ((t.read ⟨kk0, kn0, ks0⟩).nread ⟨kk0, kn0, ks0⟩).pr = y := ⟨_, rfl⟩
        have HPA := Lib.hid hpa; have HPB := Lib.hid hpb; have HPC := Lib.hid hpc
        have HNE : Hid (wrap64 (pc - pb) = wrap64 (pb - pa)) := Lib.hid (by rw [← hpa, ← hpb, ← hpc]; exact count_same HM.out.ok)
        have hin : t.p.inB ⟨kk0, kn0, ks0⟩ → pc = pa := fun h => by rw [← hpa, ← hpc]; exact count_in h
        have HIN := Lib.hid hin
        clear hpa hpb hpc hin
        go_wp2_with fail
        (with_reducible refine (BS.probes HM.out pa HPA.out).mono ?_)
        rintro e w3 ⟨rfl, rfl⟩
        clear p0 p1 p2
        obtain ⟨k0, k1, k2, -, -⟩ := HK.out
        dsimp only at k0 k1 k2
        simp only [Nat.zero_add] at k1 k2
        go_wp2_with fail
        (with_reducible refine (BS.place HM.out kk0 kn0 ks0).mono ?_)
        rintro e w4 ⟨t4, ⟨rfl, ht4⟩, hp4, hx, hk⟩
        have HM4 := Lib.hid hx
        have HK4 := Lib.hid (HK.out.keep (hk _ (.inr rfl)))
        have HT4 : Hid (t4 = t.read ⟨kk0, kn0, ks0⟩ ∧ t4.p = t.p) := Lib.hid ⟨ht4, hp4⟩
        clear hx hk ht4 hp4 k0 k1 k2
        go_wp2_with fail
        (with_reducible refine (BS.probes HM4.out pb (by rw [HT4.out.1]; exact HPB.out)).mono ?_)
        rintro e w5 ⟨rfl, rfl⟩
        obtain ⟨k0, k1, k2, -, -⟩ := HK4.out
        dsimp only at k0 k1 k2
        simp only [Nat.zero_add] at k1 k2
        go_wp2_with fail
        (with_reducible refine (BS.next HM4.out kk0 kn0 ks0 _ _ rfl rfl).mono ?_)
        rintro e w6 ⟨t6, ⟨rfl, ht6⟩, hp6, hx, hk⟩
        have HM6 := Lib.hid hx
        have HK6 := Lib.hid (HK4.out.keep (hk _ (.inr rfl)))
        have HT6 : Hid (t6.pr = pc ∧ t6.p = t.p) := Lib.hid ⟨by rw [ht6, HT4.out.1]; exact HPC.out, hp6.trans HT4.out.2⟩
        clear hx hk ht6 hp6 k0 k1 k2
        go_wp2_with fail
        (with_reducible refine (BS.probes HM6.out pc HT6.out.1).mono ?_)
        rintro e w7 ⟨rfl, rfl⟩
        go_wp2_with fail
        (with_reducible refine (BS.next HM6.out 0 0 ⟨#[]⟩ _ _ rfl rfl).mono ?_)
        rintro e w8 ⟨t8, ⟨rfl, ht8⟩, hp8, hx, hk⟩
        have HM8 := Lib.hid hx
        have HK8 := Lib.hid (HK6.out.keep (hk _ (.inr rfl)))
        have HT8 : Hid (t8.pr = pc ∧ t8.p = t.p) := Lib.hid ⟨by rw [ht8, nread_nil]; exact HT6.out.1, hp8.trans HT6.out.2⟩
        clear hx hk ht8 hp8
        go_wp2_with fail
        (with_reducible refine (BS.list HM8.out _ rfl).mono ?_)
        rintro e w9 ⟨v, rfl, -, hb⟩
        have HM9 := Lib.hid (HM8.out.below hb)
        have HK9 := Lib.hid (HK8.out.below hb HK8.out.lt)
        clear hb
        have e1 : (pc != pc) = false := by simp
        have e2 : (wrap64 (pc - pb) != wrap64 (pb - pa)) = false := by rw [HNE.out]; simp
        go_wp2_with fail
        (with_reducible refine (BS.probes HM9.out pc HT8.out.1).mono ?_)
        rintro e wA ⟨rfl, rfl⟩
        obtain ⟨N5, hN5⟩ : ∃ N5 : Int, (t8.p.sn : Int) = N5 := ⟨_, rfl⟩
        obtain ⟨m5, hm5⟩ : ∃ m5 : Int, (t8.p.h.n : Int) = m5 := ⟨_, rfl⟩
        obtain ⟨f5, hf5⟩ : ∃ f5 : Int, (t8.p.h.free : Int) = f5 := ⟨_, rfl⟩
        obtain ⟨x5, hx5⟩ : ∃ x5 : Int, t8.hint = x5 := ⟨_, rfl⟩
        have HST : Hid ((t8.p.sn : Int) = N5 ∧ (t8.p.h.n : Int) = m5 ∧ (t8.p.h.free : Int) = f5 ∧ t8.hint = x5) := Lib.hid ⟨hN5, hm5, hf5, hx5⟩
        have hcs := count_cases (t.p) kk0 kn0 ks0 N5 (by rw [← hN5, HT8.out.2])
        clear hN5 hm5 hf5 hx5
        have HSS : Hid (∀ w', Below w9.heap.size w9 w' → w'.cell? ⟨W.heap.size + 1, 0, none⟩ = some (.int .i64 kk0) ∧ w'.cell? ⟨W.heap.size + 1, 1, none⟩ = some (.int .i64 kn0) ∧ w'.cell? ⟨W.heap.size + 1, 2, none⟩ = some (.string ks0)) := Lib.hid (fun w' hb => by
          obtain ⟨a0, a1, a2, -, -⟩ := HK9.out.below hb HK9.out.lt
          exact ⟨a0, a1, a2⟩)
        obtain ⟨k0, k1, k2, -, -⟩ := HK9.out
        dsimp only at k0 k1 k2
        simp only [Nat.zero_add] at k1 k2
        rcases hcs with q1 | ⟨q1, q2, q3, q4⟩ | ⟨q1, q2, q3⟩ | ⟨q1, q2, q3, q5⟩ | ⟨q1, q2, q3, q5, q6⟩
        · go_wp2
          go_region
          all_goals go_wp2
          all_goals go_ret
          all_goals exact ⟨rfl, (HM9.out.below (Below.refl _ _).drew).bel⟩
        · go_wp2
          go_region
          all_goals go_wp2
          all_goals go_ret
          all_goals exact ⟨rfl, (HM9.out.below (Below.refl _ _).drew).bel⟩
        · go_wp2
          go_region
          all_goals go_wp2
          all_goals go_ret
          all_goals exact ⟨rfl, (HM9.out.below (Below.refl _ _).drew).bel⟩
        · go_wp2_with fail
          refine wp_region_held_drew (S := (fun w' => w'.cell? ⟨W.heap.size + 1, 0, none⟩ = some (.int .i64 kk0) ∧ w'.cell? ⟨W.heap.size + 1, 1, none⟩ = some (.int .i64 kn0) ∧ w'.cell? ⟨W.heap.size + 1, 2, none⟩ = some (.string ks0))) (by kernel_rfl) ?_ (fun hH0b => ?_)
          · with_reducible exact HSS.out _ (Below.refl _ w9).drew
          refine wpAnyH_take (i := 0) (oi := ?oibp0) (v := ?vbp0) ?hibp0 (by kernel_rfl) (by kernel_rfl) (by kernel_rfl) ?hQbp0 ?hybp0 (by assumption) ?_
          case hibp0 =>
            simp only [List.getElem?_toArray, List.getElem?_cons_succ, List.getElem?_cons_zero]
            try rfl
          case hQbp0 => exact fun _ _ _ h => h
          case hybp0 =>
            refine Or.inl ⟨by rfl, ?_⟩
            intro w' hSw
            try dsimp only at hSw
            go_simp
            try with_reducible rfl
          try simp only [Act.put, List.setIfInBounds_toArray, List.set_cons_zero, List.set_cons_succ]
          refine wpAnyH_take (i := 1) (oi := ?oibp1) (v := ?vbp1) ?hibp1 (by kernel_rfl) (by kernel_rfl) (by kernel_rfl) ?hQbp1 ?hybp1 (by assumption) ?_
          case hibp1 =>
            simp only [List.getElem?_toArray, List.getElem?_cons_succ, List.getElem?_cons_zero]
            try rfl
          case hQbp1 => exact fun _ _ _ h => h
          case hybp1 =>
            refine Or.inl ⟨by rfl, ?_⟩
            intro w' hSw
            try dsimp only at hSw
            go_simp
            try with_reducible rfl
          try simp only [Act.put, List.setIfInBounds_toArray, List.set_cons_zero, List.set_cons_succ]
          refine wpAnyH_take (i := 2) (oi := ?oibp2) (v := ?vbp2) ?hibp2 (by kernel_rfl) (by kernel_rfl) (by kernel_rfl) ?hQbp2 ?hybp2 (by assumption) ?_
          case hibp2 =>
            simp only [List.getElem?_toArray, List.getElem?_cons_succ, List.getElem?_cons_zero]
            try rfl
          case hQbp2 => exact fun _ _ _ h => h
          case hybp2 =>
            refine Or.inl ⟨by rfl, ?_⟩
            intro w' hSw
            try dsimp only at hSw
            go_simp
            try with_reducible rfl
          try simp only [Act.put, List.setIfInBounds_toArray, List.set_cons_zero, List.set_cons_succ]
          refine wpAnyH_take (i := 3) (oi := ?oibp3) (v := ?vbp3) ?hibp3 (by kernel_rfl) (by kernel_rfl) (by kernel_rfl) ?hQbp3 ?hybp3 (by assumption) ?_
          case hibp3 =>
            simp only [List.getElem?_toArray, List.getElem?_cons_succ, List.getElem?_cons_zero]
            try rfl
          case hQbp3 => exact fun _ _ _ h => h
          case hybp3 =>
            refine Or.inl ⟨by rfl, ?_⟩
            intro w' hSw
            try dsimp only at hSw
            go_simp
            try with_reducible rfl
          try simp only [Act.put, List.setIfInBounds_toArray, List.set_cons_zero, List.set_cons_succ]
          refine wpAnyH_take (i := 4) (oi := ?oibp4) (v := ?vbp4) ?hibp4 (by kernel_rfl) (by kernel_rfl) (by kernel_rfl) ?hQbp4 ?hybp4 (by assumption) ?_
          case hibp4 =>
            simp only [List.getElem?_toArray, List.getElem?_cons_succ, List.getElem?_cons_zero]
            try rfl
          case hQbp4 => exact fun _ _ _ h => h
          case hybp4 =>
            refine Or.inl ⟨by rfl, ?_⟩
            intro w' hSw
            try dsimp only at hSw
            go_simp
            try with_reducible rfl
          try simp only [Act.put, List.setIfInBounds_toArray, List.set_cons_zero, List.set_cons_succ]
          refine wpAnyH_take (i := 5) (oi := ?oibp5) (v := ?vbp5) ?hibp5 (by kernel_rfl) (by kernel_rfl) (by kernel_rfl) ?hQbp5 ?hybp5 (by assumption) ?_
          case hibp5 =>
            simp only [List.getElem?_toArray, List.getElem?_cons_succ, List.getElem?_cons_zero]
            try rfl
          case hQbp5 => exact fun _ _ _ h => h
          case hybp5 =>
            refine Or.inl ⟨by rfl, ?_⟩
            intro w' hSw
            try dsimp only at hSw
            go_simp
            try with_reducible rfl
          try simp only [Act.put, List.setIfInBounds_toArray, List.set_cons_zero, List.set_cons_succ]
          refine wpAnyH_take (i := 6) (oi := ?oibp6) (v := ?vbp6) ?hibp6 (by kernel_rfl) (by kernel_rfl) (by kernel_rfl) ?hQbp6 ?hybp6 (by assumption) ?_
          case hibp6 =>
            simp only [List.getElem?_toArray, List.getElem?_cons_succ, List.getElem?_cons_zero]
            try rfl
          case hQbp6 => exact fun _ _ _ h => h
          case hybp6 =>
            refine Or.inl ⟨by rfl, ?_⟩
            intro w' hSw
            try dsimp only at hSw
            go_simp
            try with_reducible rfl
          try simp only [Act.put, List.setIfInBounds_toArray, List.set_cons_zero, List.set_cons_succ]
          refine wpAnyH_take (i := 7) (oi := ?oibp7) (v := ?vbp7) ?hibp7 (by kernel_rfl) (by kernel_rfl) (by kernel_rfl) ?hQbp7 ?hybp7 (by assumption) ?_
          case hibp7 =>
            simp only [List.getElem?_toArray, List.getElem?_cons_succ, List.getElem?_cons_zero]
            try rfl
          case hQbp7 => exact fun _ _ _ h => h
          case hybp7 =>
            refine Or.inl ⟨by rfl, ?_⟩
            intro w' hSw
            try dsimp only at hSw
            go_simp
            try with_reducible rfl
          try simp only [Act.put, List.setIfInBounds_toArray, List.set_cons_zero, List.set_cons_succ]
          refine wpAnyH_take (i := 8) (oi := ?oibp8) (v := ?vbp8) ?hibp8 (by kernel_rfl) (by kernel_rfl) (by kernel_rfl) ?hQbp8 ?hybp8 (by assumption) ?_
          case hibp8 =>
            simp only [List.getElem?_toArray, List.getElem?_cons_succ, List.getElem?_cons_zero]
            try rfl
          case hQbp8 => exact fun _ _ _ h => h
          case hybp8 =>
            refine Or.inl ⟨by rfl, ?_⟩
            intro w' hSw
            try dsimp only at hSw
            go_simp
            try with_reducible rfl
          try simp only [Act.put, List.setIfInBounds_toArray, List.set_cons_zero, List.set_cons_succ]
          refine wpAnyH_take (i := 9) (oi := ?oibp9) (v := ?vbp9) ?hibp9 (by kernel_rfl) (by kernel_rfl) (by kernel_rfl) ?hQbp9 ?hybp9 (by assumption) ?_
          case hibp9 =>
            simp only [List.getElem?_toArray, List.getElem?_cons_succ, List.getElem?_cons_zero]
            try rfl
          case hQbp9 => exact fun _ _ _ h => h
          case hybp9 =>
            refine Or.inl ⟨by rfl, ?_⟩
            intro w' hSw
            try dsimp only at hSw
            go_simp
            try with_reducible rfl
          try simp only [Act.put, List.setIfInBounds_toArray, List.set_cons_zero, List.set_cons_succ]
          refine wpAnyH_take (i := 10) (oi := ?oibp10) (v := ?vbp10) ?hibp10 (by kernel_rfl) (by kernel_rfl) (by kernel_rfl) ?hQbp10 ?hybp10 (by assumption) ?_
          case hibp10 =>
            simp only [List.getElem?_toArray, List.getElem?_cons_succ, List.getElem?_cons_zero]
            try rfl
          case hQbp10 => exact fun _ _ _ h => h
          case hybp10 =>
            refine Or.inl ⟨by rfl, ?_⟩
            intro w' hSw
            try dsimp only at hSw
            go_simp
            try with_reducible rfl
          try simp only [Act.put, List.setIfInBounds_toArray, List.set_cons_zero, List.set_cons_succ]
          refine wpAnyH_take (i := 11) (oi := ?oibp11) (v := ?vbp11) ?hibp11 (by kernel_rfl) (by kernel_rfl) (by kernel_rfl) ?hQbp11 ?hybp11 (by assumption) ?_
          case hibp11 =>
            simp only [List.getElem?_toArray, List.getElem?_cons_succ, List.getElem?_cons_zero]
            try rfl
          case hQbp11 => exact fun _ _ _ h => h
          case hybp11 =>
            refine Or.inl ⟨by rfl, ?_⟩
            intro w' hSw
            try dsimp only at hSw
            go_simp
            try with_reducible rfl
          try simp only [Act.put, List.setIfInBounds_toArray, List.set_cons_zero, List.set_cons_succ]
          refine wpAnyH_take (i := 12) (oi := ?oibp12) (v := ?vbp12) ?hibp12 (by kernel_rfl) (by kernel_rfl) (by kernel_rfl) ?hQbp12 ?hybp12 (by assumption) ?_
          case hibp12 =>
            simp only [List.getElem?_toArray, List.getElem?_cons_succ, List.getElem?_cons_zero]
            try rfl
          case hQbp12 => exact fun _ _ _ h => h
          case hybp12 =>
            refine Or.inl ⟨by rfl, ?_⟩
            intro w' hSw
            try dsimp only at hSw
            go_simp
            try with_reducible rfl
          try simp only [Act.put, List.setIfInBounds_toArray, List.set_cons_zero, List.set_cons_succ]
          refine wpAnyH_take (i := 13) (oi := ?oibp13) (v := ?vbp13) ?hibp13 (by kernel_rfl) (by kernel_rfl) (by kernel_rfl) ?hQbp13 ?hybp13 (by assumption) ?_
          case hibp13 =>
            simp only [List.getElem?_toArray, List.getElem?_cons_succ, List.getElem?_cons_zero]
            try rfl
          case hQbp13 => exact fun _ _ _ h => h
          case hybp13 =>
            refine Or.inl ⟨by rfl, ?_⟩
            intro w' hSw
            try dsimp only at hSw
            go_simp
            try with_reducible rfl
          try simp only [Act.put, List.setIfInBounds_toArray, List.set_cons_zero, List.set_cons_succ]
          refine wpAnyH_take (i := 14) (oi := ?oibp14) (v := ?vbp14) ?hibp14 (by kernel_rfl) (by kernel_rfl) (by kernel_rfl) ?hQbp14 ?hybp14 (by assumption) ?_
          case hibp14 =>
            simp only [List.getElem?_toArray, List.getElem?_cons_succ, List.getElem?_cons_zero]
            try rfl
          case hQbp14 => exact fun _ _ _ h => h
          case hybp14 =>
            refine Or.inl ⟨by rfl, ?_⟩
            intro w' hSw
            try dsimp only at hSw
            go_simp
            try with_reducible rfl
          try simp only [Act.put, List.setIfInBounds_toArray, List.set_cons_zero, List.set_cons_succ]
          refine wpAnyH_take (i := 15) (oi := ?oibp15) (v := ?vbp15) ?hibp15 (by kernel_rfl) (by kernel_rfl) (by kernel_rfl) ?hQbp15 ?hybp15 (by assumption) ?_
          case hibp15 =>
            simp only [List.getElem?_toArray, List.getElem?_cons_succ, List.getElem?_cons_zero]
            try rfl
          case hQbp15 => exact fun _ _ _ h => h
          case hybp15 =>
            refine Or.inl ⟨by rfl, ?_⟩
            intro w' hSw
            try dsimp only at hSw
            go_simp
            try with_reducible rfl
          try simp only [Act.put, List.setIfInBounds_toArray, List.set_cons_zero, List.set_cons_succ]
          refine wpAnyH_take (i := 16) (oi := ?oibp16) (v := ?vbp16) ?hibp16 (by kernel_rfl) (by kernel_rfl) (by kernel_rfl) ?hQbp16 ?hybp16 (by assumption) ?_
          case hibp16 =>
            simp only [List.getElem?_toArray, List.getElem?_cons_succ, List.getElem?_cons_zero]
            try rfl
          case hQbp16 => exact fun _ _ _ h => h
          case hybp16 =>
            refine Or.inl ⟨by rfl, ?_⟩
            intro w' hSw
            try dsimp only at hSw
            go_simp
            try with_reducible rfl
          try simp only [Act.put, List.setIfInBounds_toArray, List.set_cons_zero, List.set_cons_succ]
          refine wpAnyH_ready (rs := [17]) (by kernel_rfl) (by simp) ?_
          refine AllReadyH.cons (o := ?obp17) ?hobp17 (fun K hK => ?_) AllReadyH.nil
          case hobp17 =>
            simp only [List.getElem?_toArray, List.getElem?_cons_succ, List.getElem?_cons_zero]
            try rfl
          go_simp
          (with_reducible refine (BS.stats (HM9.out.below (Below.refl _ w9).drew) N5 m5 f5 x5 HST.out.1 HST.out.2.1 HST.out.2.2.1 HST.out.2.2.2).mono ?_)
          rintro e wB ⟨rfl, hb⟩
          have HBB := Lib.hid (below_step (Below.refl w9.heap.size w9).drew hb)
          clear hb
          go_wp2_with fail
          refine hK.out _ _ ?_ (fun hH1b => ?_)
          · with_reducible exact HSS.out _ HBB.out
          clear hK K hH0b
          try simp only [Act.put, List.setIfInBounds_toArray, List.set_cons_zero, List.set_cons_succ]
          refine wpAnyH_take (i := 18) (oi := ?oibp18) (v := ?vbp18) ?hibp18 (by kernel_rfl) (by kernel_rfl) (by kernel_rfl) ?hQbp18 ?hybp18 (by assumption) ?_
          case hibp18 =>
            simp only [List.getElem?_toArray, List.getElem?_cons_succ, List.getElem?_cons_zero]
            try rfl
          case hQbp18 => exact fun _ _ _ h => h
          case hybp18 =>
            refine Or.inl ⟨by rfl, ?_⟩
            intro w' hSw
            try dsimp only at hSw
            go_simp
            try with_reducible rfl
          try simp only [Act.put, List.setIfInBounds_toArray, List.set_cons_zero, List.set_cons_succ]
          refine wpAnyH_take (i := 19) (oi := ?oibp19) (v := ?vbp19) ?hibp19 (by kernel_rfl) (by kernel_rfl) (by kernel_rfl) ?hQbp19 ?hybp19 (by assumption) ?_
          case hibp19 =>
            simp only [List.getElem?_toArray, List.getElem?_cons_succ, List.getElem?_cons_zero]
            try rfl
          case hQbp19 => exact fun _ _ _ h => h
          case hybp19 =>
            refine Or.inl ⟨by rfl, ?_⟩
            intro w' hSw
            try dsimp only at hSw
            go_simp
            try with_reducible rfl
          try simp only [Act.put, List.setIfInBounds_toArray, List.set_cons_zero, List.set_cons_succ]
          refine wpAnyH_take (i := 20) (oi := ?oibp20) (v := ?vbp20) ?hibp20 (by kernel_rfl) (by kernel_rfl) (by kernel_rfl) ?hQbp20 ?hybp20 (by assumption) ?_
          case hibp20 =>
            simp only [List.getElem?_toArray, List.getElem?_cons_succ, List.getElem?_cons_zero]
            try rfl
          case hQbp20 => exact fun _ _ _ h => h
          case hybp20 =>
            refine Or.inl ⟨by rfl, ?_⟩
            intro w' hSw
            try dsimp only at hSw
            go_simp
            try with_reducible rfl
          try simp only [Act.put, List.setIfInBounds_toArray, List.set_cons_zero, List.set_cons_succ]
          refine wpAnyH_take (i := 21) (oi := ?oibp21) (v := ?vbp21) ?hibp21 (by kernel_rfl) (by kernel_rfl) (by kernel_rfl) ?hQbp21 ?hybp21 (by assumption) ?_
          case hibp21 =>
            simp only [List.getElem?_toArray, List.getElem?_cons_succ, List.getElem?_cons_zero]
            try rfl
          case hQbp21 => exact fun _ _ _ h => h
          case hybp21 =>
            refine Or.inl ⟨by rfl, ?_⟩
            intro w' hSw
            try dsimp only at hSw
            go_simp
            try with_reducible rfl
          try simp only [Act.put, List.setIfInBounds_toArray, List.set_cons_zero, List.set_cons_succ]
          refine wpAnyH_take (i := 22) (oi := ?oibp22) (v := undef) ?hibp22 (by kernel_rfl) (by kernel_rfl) (by kernel_rfl) ?hQbp22 ?hybp22 (by assumption) ?_
          case hibp22 =>
            simp only [List.getElem?_toArray, List.getElem?_cons_succ, List.getElem?_cons_zero]
            try rfl
          case hQbp22 => exact fun _ _ _ h => h
          case hybp22 => exact Or.inr ⟨by rfl, rfl⟩
          try simp only [Act.put, List.setIfInBounds_toArray, List.set_cons_zero, List.set_cons_succ]
          refine wpAnyH_take (i := 23) (oi := ?oibp23) (v := undef) ?hibp23 (by kernel_rfl) (by kernel_rfl) (by kernel_rfl) ?hQbp23 ?hybp23 (by assumption) ?_
          case hibp23 =>
            simp only [List.getElem?_toArray, List.getElem?_cons_succ, List.getElem?_cons_zero]
            try rfl
          case hQbp23 => exact fun _ _ _ h => h
          case hybp23 => exact Or.inr ⟨by rfl, rfl⟩
          try simp only [Act.put, List.setIfInBounds_toArray, List.set_cons_zero, List.set_cons_succ]
          refine wpAnyH_take (i := 24) (oi := ?oibp24) (v := undef) ?hibp24 (by kernel_rfl) (by kernel_rfl) (by kernel_rfl) ?hQbp24 ?hybp24 (by assumption) ?_
          case hibp24 =>
            simp only [List.getElem?_toArray, List.getElem?_cons_succ, List.getElem?_cons_zero]
            try rfl
          case hQbp24 => exact fun _ _ _ h => h
          case hybp24 => exact Or.inr ⟨by rfl, rfl⟩
          try simp only [Act.put, List.setIfInBounds_toArray, List.set_cons_zero, List.set_cons_succ]
          refine wpAnyH_take (i := 25) (oi := ?oibp25) (v := ?vbp25) ?hibp25 (by kernel_rfl) (by kernel_rfl) (by kernel_rfl) ?hQbp25 ?hybp25 (by assumption) ?_
          case hibp25 =>
            simp only [List.getElem?_toArray, List.getElem?_cons_succ, List.getElem?_cons_zero]
            try rfl
          case hQbp25 => exact fun _ _ _ h => h
          case hybp25 =>
            refine Or.inl ⟨by rfl, ?_⟩
            intro w' hSw
            try dsimp only at hSw
            go_simp
            try with_reducible rfl
          try simp only [Act.put, List.setIfInBounds_toArray, List.set_cons_zero, List.set_cons_succ]
          refine wpAnyH_take (i := 26) (oi := ?oibp26) (v := ?vbp26) ?hibp26 (by kernel_rfl) (by kernel_rfl) (by kernel_rfl) ?hQbp26 ?hybp26 (by assumption) ?_
          case hibp26 =>
            simp only [List.getElem?_toArray, List.getElem?_cons_succ, List.getElem?_cons_zero]
            try rfl
          case hQbp26 => exact fun _ _ _ h => h
          case hybp26 =>
            refine Or.inl ⟨by rfl, ?_⟩
            intro w' hSw
            try dsimp only at hSw
            go_simp
            try with_reducible rfl
          try simp only [Act.put, List.setIfInBounds_toArray, List.set_cons_zero, List.set_cons_succ]
          refine wpAnyH_done (by kernel_rfl) ?_ _
          go_wp2
          go_ret
          exact ⟨rfl, (HM9.out.below HBB.out).bel⟩
        · have q9 : (pc == pa) = true := by rw [HIN.out q6]; simp
          clear q6
          go_wp2_with fail
          refine wp_region_held_drew (S := (fun w' => w'.cell? ⟨W.heap.size + 1, 0, none⟩ = some (.int .i64 kk0) ∧ w'.cell? ⟨W.heap.size + 1, 1, none⟩ = some (.int .i64 kn0) ∧ w'.cell? ⟨W.heap.size + 1, 2, none⟩ = some (.string ks0))) (by kernel_rfl) ?_ (fun hH0d => ?_)
          · with_reducible exact HSS.out _ (Below.refl _ w9).drew
          refine wpAnyH_take (i := 0) (oi := ?oidp0) (v := ?vdp0) ?hidp0 (by kernel_rfl) (by kernel_rfl) (by kernel_rfl) ?hQdp0 ?hydp0 (by assumption) ?_
          case hidp0 =>
            simp only [List.getElem?_toArray, List.getElem?_cons_succ, List.getElem?_cons_zero]
            try rfl
          case hQdp0 => exact fun _ _ _ h => h
          case hydp0 =>
            refine Or.inl ⟨by rfl, ?_⟩
            intro w' hSw
            try dsimp only at hSw
            go_simp
            try with_reducible rfl
          try simp only [Act.put, List.setIfInBounds_toArray, List.set_cons_zero, List.set_cons_succ]
          refine wpAnyH_take (i := 1) (oi := ?oidp1) (v := ?vdp1) ?hidp1 (by kernel_rfl) (by kernel_rfl) (by kernel_rfl) ?hQdp1 ?hydp1 (by assumption) ?_
          case hidp1 =>
            simp only [List.getElem?_toArray, List.getElem?_cons_succ, List.getElem?_cons_zero]
            try rfl
          case hQdp1 => exact fun _ _ _ h => h
          case hydp1 =>
            refine Or.inl ⟨by rfl, ?_⟩
            intro w' hSw
            try dsimp only at hSw
            go_simp
            try with_reducible rfl
          try simp only [Act.put, List.setIfInBounds_toArray, List.set_cons_zero, List.set_cons_succ]
          refine wpAnyH_take (i := 2) (oi := ?oidp2) (v := ?vdp2) ?hidp2 (by kernel_rfl) (by kernel_rfl) (by kernel_rfl) ?hQdp2 ?hydp2 (by assumption) ?_
          case hidp2 =>
            simp only [List.getElem?_toArray, List.getElem?_cons_succ, List.getElem?_cons_zero]
            try rfl
          case hQdp2 => exact fun _ _ _ h => h
          case hydp2 =>
            refine Or.inl ⟨by rfl, ?_⟩
            intro w' hSw
            try dsimp only at hSw
            go_simp
            try with_reducible rfl
          try simp only [Act.put, List.setIfInBounds_toArray, List.set_cons_zero, List.set_cons_succ]
          refine wpAnyH_take (i := 3) (oi := ?oidp3) (v := ?vdp3) ?hidp3 (by kernel_rfl) (by kernel_rfl) (by kernel_rfl) ?hQdp3 ?hydp3 (by assumption) ?_
          case hidp3 =>
            simp only [List.getElem?_toArray, List.getElem?_cons_succ, List.getElem?_cons_zero]
            try rfl
          case hQdp3 => exact fun _ _ _ h => h
          case hydp3 =>
            refine Or.inl ⟨by rfl, ?_⟩
            intro w' hSw
            try dsimp only at hSw
            go_simp
            try with_reducible rfl
          try simp only [Act.put, List.setIfInBounds_toArray, List.set_cons_zero, List.set_cons_succ]
          refine wpAnyH_take (i := 4) (oi := ?oidp4) (v := ?vdp4) ?hidp4 (by kernel_rfl) (by kernel_rfl) (by kernel_rfl) ?hQdp4 ?hydp4 (by assumption) ?_
          case hidp4 =>
            simp only [List.getElem?_toArray, List.getElem?_cons_succ, List.getElem?_cons_zero]
            try rfl
          case hQdp4 => exact fun _ _ _ h => h
          case hydp4 =>
            refine Or.inl ⟨by rfl, ?_⟩
            intro w' hSw
            try dsimp only at hSw
            go_simp
            try with_reducible rfl
          try simp only [Act.put, List.setIfInBounds_toArray, List.set_cons_zero, List.set_cons_succ]
          refine wpAnyH_take (i := 5) (oi := ?oidp5) (v := ?vdp5) ?hidp5 (by kernel_rfl) (by kernel_rfl) (by kernel_rfl) ?hQdp5 ?hydp5 (by assumption) ?_
          case hidp5 =>
            simp only [List.getElem?_toArray, List.getElem?_cons_succ, List.getElem?_cons_zero]
            try rfl
          case hQdp5 => exact fun _ _ _ h => h
          case hydp5 =>
            refine Or.inl ⟨by rfl, ?_⟩
            intro w' hSw
            try dsimp only at hSw
            go_simp
            try with_reducible rfl
          try simp only [Act.put, List.setIfInBounds_toArray, List.set_cons_zero, List.set_cons_succ]
          refine wpAnyH_take (i := 6) (oi := ?oidp6) (v := ?vdp6) ?hidp6 (by kernel_rfl) (by kernel_rfl) (by kernel_rfl) ?hQdp6 ?hydp6 (by assumption) ?_
          case hidp6 =>
            simp only [List.getElem?_toArray, List.getElem?_cons_succ, List.getElem?_cons_zero]
            try rfl
          case hQdp6 => exact fun _ _ _ h => h
          case hydp6 =>
            refine Or.inl ⟨by rfl, ?_⟩
            intro w' hSw
            try dsimp only at hSw
            go_simp
            try with_reducible rfl
          try simp only [Act.put, List.setIfInBounds_toArray, List.set_cons_zero, List.set_cons_succ]
          refine wpAnyH_take (i := 7) (oi := ?oidp7) (v := ?vdp7) ?hidp7 (by kernel_rfl) (by kernel_rfl) (by kernel_rfl) ?hQdp7 ?hydp7 (by assumption) ?_
          case hidp7 =>
            simp only [List.getElem?_toArray, List.getElem?_cons_succ, List.getElem?_cons_zero]
            try rfl
          case hQdp7 => exact fun _ _ _ h => h
          case hydp7 =>
            refine Or.inl ⟨by rfl, ?_⟩
            intro w' hSw
            try dsimp only at hSw
            go_simp
            try with_reducible rfl
          try simp only [Act.put, List.setIfInBounds_toArray, List.set_cons_zero, List.set_cons_succ]
          refine wpAnyH_take (i := 8) (oi := ?oidp8) (v := ?vdp8) ?hidp8 (by kernel_rfl) (by kernel_rfl) (by kernel_rfl) ?hQdp8 ?hydp8 (by assumption) ?_
          case hidp8 =>
            simp only [List.getElem?_toArray, List.getElem?_cons_succ, List.getElem?_cons_zero]
            try rfl
          case hQdp8 => exact fun _ _ _ h => h
          case hydp8 =>
            refine Or.inl ⟨by rfl, ?_⟩
            intro w' hSw
            try dsimp only at hSw
            go_simp
            try with_reducible rfl
          try simp only [Act.put, List.setIfInBounds_toArray, List.set_cons_zero, List.set_cons_succ]
          refine wpAnyH_take (i := 9) (oi := ?oidp9) (v := ?vdp9) ?hidp9 (by kernel_rfl) (by kernel_rfl) (by kernel_rfl) ?hQdp9 ?hydp9 (by assumption) ?_
          case hidp9 =>
            simp only [List.getElem?_toArray, List.getElem?_cons_succ, List.getElem?_cons_zero]
            try rfl
          case hQdp9 => exact fun _ _ _ h => h
          case hydp9 =>
            refine Or.inl ⟨by rfl, ?_⟩
            intro w' hSw
            try dsimp only at hSw
            go_simp
            try with_reducible rfl
          try simp only [Act.put, List.setIfInBounds_toArray, List.set_cons_zero, List.set_cons_succ]
          refine wpAnyH_take (i := 10) (oi := ?oidp10) (v := ?vdp10) ?hidp10 (by kernel_rfl) (by kernel_rfl) (by kernel_rfl) ?hQdp10 ?hydp10 (by assumption) ?_
          case hidp10 =>
            simp only [List.getElem?_toArray, List.getElem?_cons_succ, List.getElem?_cons_zero]
            try rfl
          case hQdp10 => exact fun _ _ _ h => h
          case hydp10 =>
            refine Or.inl ⟨by rfl, ?_⟩
            intro w' hSw
            try dsimp only at hSw
            go_simp
            try with_reducible rfl
          try simp only [Act.put, List.setIfInBounds_toArray, List.set_cons_zero, List.set_cons_succ]
          refine wpAnyH_take (i := 11) (oi := ?oidp11) (v := ?vdp11) ?hidp11 (by kernel_rfl) (by kernel_rfl) (by kernel_rfl) ?hQdp11 ?hydp11 (by assumption) ?_
          case hidp11 =>
            simp only [List.getElem?_toArray, List.getElem?_cons_succ, List.getElem?_cons_zero]
            try rfl
          case hQdp11 => exact fun _ _ _ h => h
          case hydp11 =>
            refine Or.inl ⟨by rfl, ?_⟩
            intro w' hSw
            try dsimp only at hSw
            go_simp
            try with_reducible rfl
          try simp only [Act.put, List.setIfInBounds_toArray, List.set_cons_zero, List.set_cons_succ]
          refine wpAnyH_take (i := 12) (oi := ?oidp12) (v := ?vdp12) ?hidp12 (by kernel_rfl) (by kernel_rfl) (by kernel_rfl) ?hQdp12 ?hydp12 (by assumption) ?_
          case hidp12 =>
            simp only [List.getElem?_toArray, List.getElem?_cons_succ, List.getElem?_cons_zero]
            try rfl
          case hQdp12 => exact fun _ _ _ h => h
          case hydp12 =>
            refine Or.inl ⟨by rfl, ?_⟩
            intro w' hSw
            try dsimp only at hSw
            go_simp
            try with_reducible rfl
          try simp only [Act.put, List.setIfInBounds_toArray, List.set_cons_zero, List.set_cons_succ]
          refine wpAnyH_take (i := 13) (oi := ?oidp13) (v := ?vdp13) ?hidp13 (by kernel_rfl) (by kernel_rfl) (by kernel_rfl) ?hQdp13 ?hydp13 (by assumption) ?_
          case hidp13 =>
            simp only [List.getElem?_toArray, List.getElem?_cons_succ, List.getElem?_cons_zero]
            try rfl
          case hQdp13 => exact fun _ _ _ h => h
          case hydp13 =>
            refine Or.inl ⟨by rfl, ?_⟩
            intro w' hSw
            try dsimp only at hSw
            go_simp
            try with_reducible rfl
          try simp only [Act.put, List.setIfInBounds_toArray, List.set_cons_zero, List.set_cons_succ]
          refine wpAnyH_take (i := 14) (oi := ?oidp14) (v := ?vdp14) ?hidp14 (by kernel_rfl) (by kernel_rfl) (by kernel_rfl) ?hQdp14 ?hydp14 (by assumption) ?_
          case hidp14 =>
            simp only [List.getElem?_toArray, List.getElem?_cons_succ, List.getElem?_cons_zero]
            try rfl
          case hQdp14 => exact fun _ _ _ h => h
          case hydp14 =>
            refine Or.inl ⟨by rfl, ?_⟩
            intro w' hSw
            try dsimp only at hSw
            go_simp
            try with_reducible rfl
          try simp only [Act.put, List.setIfInBounds_toArray, List.set_cons_zero, List.set_cons_succ]
          refine wpAnyH_take (i := 15) (oi := ?oidp15) (v := ?vdp15) ?hidp15 (by kernel_rfl) (by kernel_rfl) (by kernel_rfl) ?hQdp15 ?hydp15 (by assumption) ?_
          case hidp15 =>
            simp only [List.getElem?_toArray, List.getElem?_cons_succ, List.getElem?_cons_zero]
            try rfl
          case hQdp15 => exact fun _ _ _ h => h
          case hydp15 =>
            refine Or.inl ⟨by rfl, ?_⟩
            intro w' hSw
            try dsimp only at hSw
            go_simp
            try with_reducible rfl
          try simp only [Act.put, List.setIfInBounds_toArray, List.set_cons_zero, List.set_cons_succ]
          refine wpAnyH_take (i := 16) (oi := ?oidp16) (v := ?vdp16) ?hidp16 (by kernel_rfl) (by kernel_rfl) (by kernel_rfl) ?hQdp16 ?hydp16 (by assumption) ?_
          case hidp16 =>
            simp only [List.getElem?_toArray, List.getElem?_cons_succ, List.getElem?_cons_zero]
            try rfl
          case hQdp16 => exact fun _ _ _ h => h
          case hydp16 =>
            refine Or.inl ⟨by rfl, ?_⟩
            intro w' hSw
            try dsimp only at hSw
            go_simp
            try with_reducible rfl
          try simp only [Act.put, List.setIfInBounds_toArray, List.set_cons_zero, List.set_cons_succ]
          refine wpAnyH_ready (rs := [17]) (by kernel_rfl) (by simp) ?_
          refine AllReadyH.cons (o := ?odp17) ?hodp17 (fun K hK => ?_) AllReadyH.nil
          case hodp17 =>
            simp only [List.getElem?_toArray, List.getElem?_cons_succ, List.getElem?_cons_zero]
            try rfl
          go_simp
          (with_reducible refine (BS.stats (HM9.out.below (Below.refl _ w9).drew) N5 m5 f5 x5 HST.out.1 HST.out.2.1 HST.out.2.2.1 HST.out.2.2.2).mono ?_)
          rintro e wB ⟨rfl, hb⟩
          have HBB := Lib.hid (below_step (Below.refl w9.heap.size w9).drew hb)
          clear hb
          go_wp2_with fail
          refine hK.out _ _ ?_ (fun hH1d => ?_)
          · with_reducible exact HSS.out _ HBB.out
          clear hK K hH0d
          try simp only [Act.put, List.setIfInBounds_toArray, List.set_cons_zero, List.set_cons_succ]
          refine wpAnyH_take (i := 18) (oi := ?oidp18) (v := ?vdp18) ?hidp18 (by kernel_rfl) (by kernel_rfl) (by kernel_rfl) ?hQdp18 ?hydp18 (by assumption) ?_
          case hidp18 =>
            simp only [List.getElem?_toArray, List.getElem?_cons_succ, List.getElem?_cons_zero]
            try rfl
          case hQdp18 => exact fun _ _ _ h => h
          case hydp18 =>
            refine Or.inl ⟨by rfl, ?_⟩
            intro w' hSw
            try dsimp only at hSw
            go_simp
            try with_reducible rfl
          try simp only [Act.put, List.setIfInBounds_toArray, List.set_cons_zero, List.set_cons_succ]
          refine wpAnyH_take (i := 19) (oi := ?oidp19) (v := ?vdp19) ?hidp19 (by kernel_rfl) (by kernel_rfl) (by kernel_rfl) ?hQdp19 ?hydp19 (by assumption) ?_
          case hidp19 =>
            simp only [List.getElem?_toArray, List.getElem?_cons_succ, List.getElem?_cons_zero]
            try rfl
          case hQdp19 => exact fun _ _ _ h => h
          case hydp19 =>
            refine Or.inl ⟨by rfl, ?_⟩
            intro w' hSw
            try dsimp only at hSw
            go_simp
            try with_reducible rfl
          try simp only [Act.put, List.setIfInBounds_toArray, List.set_cons_zero, List.set_cons_succ]
          refine wpAnyH_take (i := 20) (oi := ?oidp20) (v := ?vdp20) ?hidp20 (by kernel_rfl) (by kernel_rfl) (by kernel_rfl) ?hQdp20 ?hydp20 (by assumption) ?_
          case hidp20 =>
            simp only [List.getElem?_toArray, List.getElem?_cons_succ, List.getElem?_cons_zero]
            try rfl
          case hQdp20 => exact fun _ _ _ h => h
          case hydp20 =>
            refine Or.inl ⟨by rfl, ?_⟩
            intro w' hSw
            try dsimp only at hSw
            go_simp
            try with_reducible rfl
          try simp only [Act.put, List.setIfInBounds_toArray, List.set_cons_zero, List.set_cons_succ]
          refine wpAnyH_take (i := 21) (oi := ?oidp21) (v := ?vdp21) ?hidp21 (by kernel_rfl) (by kernel_rfl) (by kernel_rfl) ?hQdp21 ?hydp21 (by assumption) ?_
          case hidp21 =>
            simp only [List.getElem?_toArray, List.getElem?_cons_succ, List.getElem?_cons_zero]
            try rfl
          case hQdp21 => exact fun _ _ _ h => h
          case hydp21 =>
            refine Or.inl ⟨by rfl, ?_⟩
            intro w' hSw
            try dsimp only at hSw
            go_simp
            try with_reducible rfl
          try simp only [Act.put, List.setIfInBounds_toArray, List.set_cons_zero, List.set_cons_succ]
          refine wpAnyH_take (i := 22) (oi := ?oidp22) (v := ?vdp22) ?hidp22 (by kernel_rfl) (by kernel_rfl) (by kernel_rfl) ?hQdp22 ?hydp22 (by assumption) ?_
          case hidp22 =>
            simp only [List.getElem?_toArray, List.getElem?_cons_succ, List.getElem?_cons_zero]
            try rfl
          case hQdp22 => exact fun _ _ _ h => h
          case hydp22 =>
            refine Or.inl ⟨by rfl, ?_⟩
            intro w' hSw
            try dsimp only at hSw
            go_simp
            try with_reducible rfl
          try simp only [Act.put, List.setIfInBounds_toArray, List.set_cons_zero, List.set_cons_succ]
          refine wpAnyH_take (i := 23) (oi := ?oidp23) (v := ?vdp23) ?hidp23 (by kernel_rfl) (by kernel_rfl) (by kernel_rfl) ?hQdp23 ?hydp23 (by assumption) ?_
          case hidp23 =>
            simp only [List.getElem?_toArray, List.getElem?_cons_succ, List.getElem?_cons_zero]
            try rfl
          case hQdp23 => exact fun _ _ _ h => h
          case hydp23 =>
            refine Or.inl ⟨by rfl, ?_⟩
            intro w' hSw
            try dsimp only at hSw
            go_simp
            try with_reducible rfl
          try simp only [Act.put, List.setIfInBounds_toArray, List.set_cons_zero, List.set_cons_succ]
          refine wpAnyH_take (i := 24) (oi := ?oidp24) (v := ?vdp24) ?hidp24 (by kernel_rfl) (by kernel_rfl) (by kernel_rfl) ?hQdp24 ?hydp24 (by assumption) ?_
          case hidp24 =>
            simp only [List.getElem?_toArray, List.getElem?_cons_succ, List.getElem?_cons_zero]
            try rfl
          case hQdp24 => exact fun _ _ _ h => h
          case hydp24 =>
            refine Or.inl ⟨by rfl, ?_⟩
            intro w' hSw
            try dsimp only at hSw
            go_simp
            try with_reducible rfl
          try simp only [Act.put, List.setIfInBounds_toArray, List.set_cons_zero, List.set_cons_succ]
          refine wpAnyH_take (i := 25) (oi := ?oidp25) (v := ?vdp25) ?hidp25 (by kernel_rfl) (by kernel_rfl) (by kernel_rfl) ?hQdp25 ?hydp25 (by assumption) ?_
          case hidp25 =>
            simp only [List.getElem?_toArray, List.getElem?_cons_succ, List.getElem?_cons_zero]
            try rfl
          case hQdp25 => exact fun _ _ _ h => h
          case hydp25 =>
            refine Or.inl ⟨by rfl, ?_⟩
            intro w' hSw
            try dsimp only at hSw
            go_simp
            try with_reducible rfl
          try simp only [Act.put, List.setIfInBounds_toArray, List.set_cons_zero, List.set_cons_succ]
          refine wpAnyH_take (i := 26) (oi := ?oidp26) (v := ?vdp26) ?hidp26 (by kernel_rfl) (by kernel_rfl) (by kernel_rfl) ?hQdp26 ?hydp26 (by assumption) ?_
          case hidp26 =>
            simp only [List.getElem?_toArray, List.getElem?_cons_succ, List.getElem?_cons_zero]
            try rfl
          case hQdp26 => exact fun _ _ _ h => h
          case hydp26 =>
            refine Or.inl ⟨by rfl, ?_⟩
            intro w' hSw
            try dsimp only at hSw
            go_simp
            try with_reducible rfl
          try simp only [Act.put, List.setIfInBounds_toArray, List.set_cons_zero, List.set_cons_succ]
          refine wpAnyH_done (by kernel_rfl) ?_ _
          go_wp2
          go_ret
          exact ⟨rfl, (HM9.out.below HBB.out).bel⟩
      · have d1 : decide ((j : Int) < (x.l.length : Int)) = false := by simp; omega
        clear hc
        obtain ⟨pa, hpa⟩ : ∃ y, t.pr = y := ⟨_, rfl⟩
        obtain ⟨pb, hpb⟩ : ∃ y, (t.read ⟨kk0, kn0, ks0⟩).pr = y := ⟨_, rfl⟩
        obtain ⟨pc, hpc⟩ : ∃ y, ((t.read ⟨kk0, kn0, ks0⟩).nread ⟨kk0, kn0, ks0⟩).pr = y := ⟨_, rfl⟩
        have HPA := Lib.hid hpa; have HPB := Lib.hid hpb; have HPC := Lib.hid hpc
        have HNE : Hid (wrap64 (pc - pb) = wrap64 (pb - pa)) := Lib.hid (by rw [← hpa, ← hpb, ← hpc]; exact count_same HM.out.ok)
        have hin : t.p.inB ⟨kk0, kn0, ks0⟩ → pc = pa := fun h => by rw [← hpa, ← hpc]; exact count_in h
        have HIN := Lib.hid hin
        clear hpa hpb hpc hin
        go_wp2_with fail
        (with_reducible refine (BS.probes HM.out pa HPA.out).mono ?_)
        rintro e w3 ⟨rfl, rfl⟩
        clear p0 p1 p2
        obtain ⟨k0, k1, k2, -, -⟩ := HK.out
        dsimp only at k0 k1 k2
        simp only [Nat.zero_add] at k1 k2
        go_wp2_with fail
        (with_reducible refine (BS.place HM.out kk0 kn0 ks0).mono ?_)
        rintro e w4 ⟨t4, ⟨rfl, ht4⟩, hp4, hx, hk⟩
        have HM4 := Lib.hid hx
        have HK4 := Lib.hid (HK.out.keep (hk _ (.inr rfl)))
        have HT4 : Hid (t4 = t.read ⟨kk0, kn0, ks0⟩ ∧ t4.p = t.p) := Lib.hid ⟨ht4, hp4⟩
        clear hx hk ht4 hp4 k0 k1 k2
        go_wp2_with fail
        (with_reducible refine (BS.probes HM4.out pb (by rw [HT4.out.1]; exact HPB.out)).mono ?_)
        rintro e w5 ⟨rfl, rfl⟩
        obtain ⟨k0, k1, k2, -, -⟩ := HK4.out
        dsimp only at k0 k1 k2
        simp only [Nat.zero_add] at k1 k2
        go_wp2_with fail
        (with_reducible refine (BS.next HM4.out kk0 kn0 ks0 _ _ rfl rfl).mono ?_)
        rintro e w6 ⟨t6, ⟨rfl, ht6⟩, hp6, hx, hk⟩
        have HM6 := Lib.hid hx
        have HK6 := Lib.hid (HK4.out.keep (hk _ (.inr rfl)))
        have HT6 : Hid (t6.pr = pc ∧ t6.p = t.p) := Lib.hid ⟨by rw [ht6, HT4.out.1]; exact HPC.out, hp6.trans HT4.out.2⟩
        clear hx hk ht6 hp6 k0 k1 k2
        go_wp2_with fail
        (with_reducible refine (BS.probes HM6.out pc HT6.out.1).mono ?_)
        rintro e w7 ⟨rfl, rfl⟩
        go_wp2_with fail
        (with_reducible refine (BS.next HM6.out 0 0 ⟨#[]⟩ _ _ rfl rfl).mono ?_)
        rintro e w8 ⟨t8, ⟨rfl, ht8⟩, hp8, hx, hk⟩
        have HM8 := Lib.hid hx
        have HK8 := Lib.hid (HK6.out.keep (hk _ (.inr rfl)))
        have HT8 : Hid (t8.pr = pc ∧ t8.p = t.p) := Lib.hid ⟨by rw [ht8, nread_nil]; exact HT6.out.1, hp8.trans HT6.out.2⟩
        clear hx hk ht8 hp8
        go_wp2_with fail
        (with_reducible refine (BS.list HM8.out _ rfl).mono ?_)
        rintro e w9 ⟨v, rfl, -, hb⟩
        have HM9 := Lib.hid (HM8.out.below hb)
        have HK9 := Lib.hid (HK8.out.below hb HK8.out.lt)
        clear hb
        have e1 : (pc != pc) = false := by simp
        have e2 : (wrap64 (pc - pb) != wrap64 (pb - pa)) = false := by rw [HNE.out]; simp
        go_wp2_with fail
        (with_reducible refine (BS.probes HM9.out pc HT8.out.1).mono ?_)
        rintro e wA ⟨rfl, rfl⟩
        obtain ⟨N5, hN5⟩ : ∃ N5 : Int, (t8.p.sn : Int) = N5 := ⟨_, rfl⟩
        obtain ⟨m5, hm5⟩ : ∃ m5 : Int, (t8.p.h.n : Int) = m5 := ⟨_, rfl⟩
        obtain ⟨f5, hf5⟩ : ∃ f5 : Int, (t8.p.h.free : Int) = f5 := ⟨_, rfl⟩
        obtain ⟨x5, hx5⟩ : ∃ x5 : Int, t8.hint = x5 := ⟨_, rfl⟩
        have HST : Hid ((t8.p.sn : Int) = N5 ∧ (t8.p.h.n : Int) = m5 ∧ (t8.p.h.free : Int) = f5 ∧ t8.hint = x5) := Lib.hid ⟨hN5, hm5, hf5, hx5⟩
        have hcs := count_cases (t.p) kk0 kn0 ks0 N5 (by rw [← hN5, HT8.out.2])
        clear hN5 hm5 hf5 hx5
        have HSS : Hid (∀ w', Below w9.heap.size w9 w' → w'.cell? ⟨W.heap.size + 1, 0, none⟩ = some (.int .i64 kk0) ∧ w'.cell? ⟨W.heap.size + 1, 1, none⟩ = some (.int .i64 kn0) ∧ w'.cell? ⟨W.heap.size + 1, 2, none⟩ = some (.string ks0)) := Lib.hid (fun w' hb => by
          obtain ⟨a0, a1, a2, -, -⟩ := HK9.out.below hb HK9.out.lt
          exact ⟨a0, a1, a2⟩)
        obtain ⟨k0, k1, k2, -, -⟩ := HK9.out
        dsimp only at k0 k1 k2
        simp only [Nat.zero_add] at k1 k2
        rcases hcs with q1 | ⟨q1, q2, q3, q4⟩ | ⟨q1, q2, q3⟩ | ⟨q1, q2, q3, q5⟩ | ⟨q1, q2, q3, q5, q6⟩
        · go_wp2
          go_region
          all_goals go_wp2
          all_goals go_ret
          all_goals exact ⟨rfl, (HM9.out.below (Below.refl _ _).drew).bel⟩
        · go_wp2
          go_region
          all_goals go_wp2
          all_goals go_ret
          all_goals exact ⟨rfl, (HM9.out.below (Below.refl _ _).drew).bel⟩
        · go_wp2
          go_region
          all_goals go_wp2
          all_goals go_ret
          all_goals exact ⟨rfl, (HM9.out.below (Below.refl _ _).drew).bel⟩
        · go_wp2_with fail
          refine wp_region_held_drew (S := (fun w' => w'.cell? ⟨W.heap.size + 1, 0, none⟩ = some (.int .i64 kk0) ∧ w'.cell? ⟨W.heap.size + 1, 1, none⟩ = some (.int .i64 kn0) ∧ w'.cell? ⟨W.heap.size + 1, 2, none⟩ = some (.string ks0))) (by kernel_rfl) ?_ (fun hH0b => ?_)
          · with_reducible exact HSS.out _ (Below.refl _ w9).drew
          refine wpAnyH_take (i := 0) (oi := ?oibq0) (v := ?vbq0) ?hibq0 (by kernel_rfl) (by kernel_rfl) (by kernel_rfl) ?hQbq0 ?hybq0 (by assumption) ?_
          case hibq0 =>
            simp only [List.getElem?_toArray, List.getElem?_cons_succ, List.getElem?_cons_zero]
            try rfl
          case hQbq0 => exact fun _ _ _ h => h
          case hybq0 =>
            refine Or.inl ⟨by rfl, ?_⟩
            intro w' hSw
            try dsimp only at hSw
            go_simp
            try with_reducible rfl
          try simp only [Act.put, List.setIfInBounds_toArray, List.set_cons_zero, List.set_cons_succ]
          refine wpAnyH_take (i := 1) (oi := ?oibq1) (v := ?vbq1) ?hibq1 (by kernel_rfl) (by kernel_rfl) (by kernel_rfl) ?hQbq1 ?hybq1 (by assumption) ?_
          case hibq1 =>
            simp only [List.getElem?_toArray, List.getElem?_cons_succ, List.getElem?_cons_zero]
            try rfl
          case hQbq1 => exact fun _ _ _ h => h
          case hybq1 =>
            refine Or.inl ⟨by rfl, ?_⟩
            intro w' hSw
            try dsimp only at hSw
            go_simp
            try with_reducible rfl
          try simp only [Act.put, List.setIfInBounds_toArray, List.set_cons_zero, List.set_cons_succ]
          refine wpAnyH_take (i := 2) (oi := ?oibq2) (v := ?vbq2) ?hibq2 (by kernel_rfl) (by kernel_rfl) (by kernel_rfl) ?hQbq2 ?hybq2 (by assumption) ?_
          case hibq2 =>
            simp only [List.getElem?_toArray, List.getElem?_cons_succ, List.getElem?_cons_zero]
            try rfl
          case hQbq2 => exact fun _ _ _ h => h
          case hybq2 =>
            refine Or.inl ⟨by rfl, ?_⟩
            intro w' hSw
            try dsimp only at hSw
            go_simp
            try with_reducible rfl
          try simp only [Act.put, List.setIfInBounds_toArray, List.set_cons_zero, List.set_cons_succ]
          refine wpAnyH_take (i := 3) (oi := ?oibq3) (v := ?vbq3) ?hibq3 (by kernel_rfl) (by kernel_rfl) (by kernel_rfl) ?hQbq3 ?hybq3 (by assumption) ?_
          case hibq3 =>
            simp only [List.getElem?_toArray, List.getElem?_cons_succ, List.getElem?_cons_zero]
            try rfl
          case hQbq3 => exact fun _ _ _ h => h
          case hybq3 =>
            refine Or.inl ⟨by rfl, ?_⟩
            intro w' hSw
            try dsimp only at hSw
            go_simp
            try with_reducible rfl
          try simp only [Act.put, List.setIfInBounds_toArray, List.set_cons_zero, List.set_cons_succ]
          refine wpAnyH_take (i := 4) (oi := ?oibq4) (v := ?vbq4) ?hibq4 (by kernel_rfl) (by kernel_rfl) (by kernel_rfl) ?hQbq4 ?hybq4 (by assumption) ?_
          case hibq4 =>
            simp only [List.getElem?_toArray, List.getElem?_cons_succ, List.getElem?_cons_zero]
            try rfl
          case hQbq4 => exact fun _ _ _ h => h
          case hybq4 =>
            refine Or.inl ⟨by rfl, ?_⟩
            intro w' hSw
            try dsimp only at hSw
            go_simp
            try with_reducible rfl
          try simp only [Act.put, List.setIfInBounds_toArray, List.set_cons_zero, List.set_cons_succ]
          refine wpAnyH_take (i := 5) (oi := ?oibq5) (v := ?vbq5) ?hibq5 (by kernel_rfl) (by kernel_rfl) (by kernel_rfl) ?hQbq5 ?hybq5 (by assumption) ?_
          case hibq5 =>
            simp only [List.getElem?_toArray, List.getElem?_cons_succ, List.getElem?_cons_zero]
            try rfl
          case hQbq5 => exact fun _ _ _ h => h
          case hybq5 =>
            refine Or.inl ⟨by rfl, ?_⟩
            intro w' hSw
            try dsimp only at hSw
            go_simp
            try with_reducible rfl
          try simp only [Act.put, List.setIfInBounds_toArray, List.set_cons_zero, List.set_cons_succ]
          refine wpAnyH_take (i := 6) (oi := ?oibq6) (v := ?vbq6) ?hibq6 (by kernel_rfl) (by kernel_rfl) (by kernel_rfl) ?hQbq6 ?hybq6 (by assumption) ?_
          case hibq6 =>
            simp only [List.getElem?_toArray, List.getElem?_cons_succ, List.getElem?_cons_zero]
            try rfl
          case hQbq6 => exact fun _ _ _ h => h
          case hybq6 =>
            refine Or.inl ⟨by rfl, ?_⟩
            intro w' hSw
            try dsimp only at hSw
            go_simp
            try with_reducible rfl
          try simp only [Act.put, List.setIfInBounds_toArray, List.set_cons_zero, List.set_cons_succ]
          refine wpAnyH_take (i := 7) (oi := ?oibq7) (v := ?vbq7) ?hibq7 (by kernel_rfl) (by kernel_rfl) (by kernel_rfl) ?hQbq7 ?hybq7 (by assumption) ?_
          case hibq7 =>
            simp only [List.getElem?_toArray, List.getElem?_cons_succ, List.getElem?_cons_zero]
            try rfl
          case hQbq7 => exact fun _ _ _ h => h
          case hybq7 =>
            refine Or.inl ⟨by rfl, ?_⟩
            intro w' hSw
            try dsimp only at hSw
            go_simp
            try with_reducible rfl
          try simp only [Act.put, List.setIfInBounds_toArray, List.set_cons_zero, List.set_cons_succ]
          refine wpAnyH_take (i := 8) (oi := ?oibq8) (v := ?vbq8) ?hibq8 (by kernel_rfl) (by kernel_rfl) (by kernel_rfl) ?hQbq8 ?hybq8 (by assumption) ?_
          case hibq8 =>
            simp only [List.getElem?_toArray, List.getElem?_cons_succ, List.getElem?_cons_zero]
            try rfl
          case hQbq8 => exact fun _ _ _ h => h
          case hybq8 =>
            refine Or.inl ⟨by rfl, ?_⟩
            intro w' hSw
            try dsimp only at hSw
            go_simp
            try with_reducible rfl
          try simp only [Act.put, List.setIfInBounds_toArray, List.set_cons_zero, List.set_cons_succ]
          refine wpAnyH_take (i := 9) (oi := ?oibq9) (v := ?vbq9) ?hibq9 (by kernel_rfl) (by kernel_rfl) (by kernel_rfl) ?hQbq9 ?hybq9 (by assumption) ?_
          case hibq9 =>
            simp only [List.getElem?_toArray, List.getElem?_cons_succ, List.getElem?_cons_zero]
            try rfl
          case hQbq9 => exact fun _ _ _ h => h
          case hybq9 =>
            refine Or.inl ⟨by rfl, ?_⟩
            intro w' hSw
            try dsimp only at hSw
            go_simp
            try with_reducible rfl
          try simp only [Act.put, List.setIfInBounds_toArray, List.set_cons_zero, List.set_cons_succ]
          refine wpAnyH_take (i := 10) (oi := ?oibq10) (v := ?vbq10) ?hibq10 (by kernel_rfl) (by kernel_rfl) (by kernel_rfl) ?hQbq10 ?hybq10 (by assumption) ?_
          case hibq10 =>
            simp only [List.getElem?_toArray, List.getElem?_cons_succ, List.getElem?_cons_zero]
            try rfl
          case hQbq10 => exact fun _ _ _ h => h
          case hybq10 =>
            refine Or.inl ⟨by rfl, ?_⟩
            intro w' hSw
            try dsimp only at hSw
            go_simp
            try with_reducible rfl
          try simp only [Act.put, List.setIfInBounds_toArray, List.set_cons_zero, List.set_cons_succ]
          refine wpAnyH_take (i := 11) (oi := ?oibq11) (v := ?vbq11) ?hibq11 (by kernel_rfl) (by kernel_rfl) (by kernel_rfl) ?hQbq11 ?hybq11 (by assumption) ?_
          case hibq11 =>
            simp only [List.getElem?_toArray, List.getElem?_cons_succ, List.getElem?_cons_zero]
            try rfl
          case hQbq11 => exact fun _ _ _ h => h
          case hybq11 =>
            refine Or.inl ⟨by rfl, ?_⟩
            intro w' hSw
            try dsimp only at hSw
            go_simp
            try with_reducible rfl
          try simp only [Act.put, List.setIfInBounds_toArray, List.set_cons_zero, List.set_cons_succ]
          refine wpAnyH_take (i := 12) (oi := ?oibq12) (v := ?vbq12) ?hibq12 (by kernel_rfl) (by kernel_rfl) (by kernel_rfl) ?hQbq12 ?hybq12 (by assumption) ?_
          case hibq12 =>
            simp only [List.getElem?_toArray, List.getElem?_cons_succ, List.getElem?_cons_zero]
            try rfl
          case hQbq12 => exact fun _ _ _ h => h
          case hybq12 =>
            refine Or.inl ⟨by rfl, ?_⟩
            intro w' hSw
            try dsimp only at hSw
            go_simp
            try with_reducible rfl
          try simp only [Act.put, List.setIfInBounds_toArray, List.set_cons_zero, List.set_cons_succ]
          refine wpAnyH_take (i := 13) (oi := ?oibq13) (v := ?vbq13) ?hibq13 (by kernel_rfl) (by kernel_rfl) (by kernel_rfl) ?hQbq13 ?hybq13 (by assumption) ?_
          case hibq13 =>
            simp only [List.getElem?_toArray, List.getElem?_cons_succ, List.getElem?_cons_zero]
            try rfl
          case hQbq13 => exact fun _ _ _ h => h
          case hybq13 =>
            refine Or.inl ⟨by rfl, ?_⟩
            intro w' hSw
            try dsimp only at hSw
            go_simp
            try with_reducible rfl
          try simp only [Act.put, List.setIfInBounds_toArray, List.set_cons_zero, List.set_cons_succ]
          refine wpAnyH_take (i := 14) (oi := ?oibq14) (v := ?vbq14) ?hibq14 (by kernel_rfl) (by kernel_rfl) (by kernel_rfl) ?hQbq14 ?hybq14 (by assumption) ?_
          case hibq14 =>
            simp only [List.getElem?_toArray, List.getElem?_cons_succ, List.getElem?_cons_zero]
            try rfl
          case hQbq14 => exact fun _ _ _ h => h
          case hybq14 =>
            refine Or.inl ⟨by rfl, ?_⟩
            intro w' hSw
            try dsimp only at hSw
            go_simp
            try with_reducible rfl
          try simp only [Act.put, List.setIfInBounds_toArray, List.set_cons_zero, List.set_cons_succ]
          refine wpAnyH_take (i := 15) (oi := ?oibq15) (v := ?vbq15) ?hibq15 (by kernel_rfl) (by kernel_rfl) (by kernel_rfl) ?hQbq15 ?hybq15 (by assumption) ?_
          case hibq15 =>
            simp only [List.getElem?_toArray, List.getElem?_cons_succ, List.getElem?_cons_zero]
            try rfl
          case hQbq15 => exact fun _ _ _ h => h
          case hybq15 =>
            refine Or.inl ⟨by rfl, ?_⟩
            intro w' hSw
            try dsimp only at hSw
            go_simp
            try with_reducible rfl
          try simp only [Act.put, List.setIfInBounds_toArray, List.set_cons_zero, List.set_cons_succ]
          refine wpAnyH_take (i := 16) (oi := ?oibq16) (v := ?vbq16) ?hibq16 (by kernel_rfl) (by kernel_rfl) (by kernel_rfl) ?hQbq16 ?hybq16 (by assumption) ?_
          case hibq16 =>
            simp only [List.getElem?_toArray, List.getElem?_cons_succ, List.getElem?_cons_zero]
            try rfl
          case hQbq16 => exact fun _ _ _ h => h
          case hybq16 =>
            refine Or.inl ⟨by rfl, ?_⟩
            intro w' hSw
            try dsimp only at hSw
            go_simp
            try with_reducible rfl
          try simp only [Act.put, List.setIfInBounds_toArray, List.set_cons_zero, List.set_cons_succ]
          refine wpAnyH_ready (rs := [17]) (by kernel_rfl) (by simp) ?_
          refine AllReadyH.cons (o := ?obq17) ?hobq17 (fun K hK => ?_) AllReadyH.nil
          case hobq17 =>
            simp only [List.getElem?_toArray, List.getElem?_cons_succ, List.getElem?_cons_zero]
            try rfl
          go_simp
          (with_reducible refine (BS.stats (HM9.out.below (Below.refl _ w9).drew) N5 m5 f5 x5 HST.out.1 HST.out.2.1 HST.out.2.2.1 HST.out.2.2.2).mono ?_)
          rintro e wB ⟨rfl, hb⟩
          have HBB := Lib.hid (below_step (Below.refl w9.heap.size w9).drew hb)
          clear hb
          go_wp2_with fail
          refine hK.out _ _ ?_ (fun hH1b => ?_)
          · with_reducible exact HSS.out _ HBB.out
          clear hK K hH0b
          try simp only [Act.put, List.setIfInBounds_toArray, List.set_cons_zero, List.set_cons_succ]
          refine wpAnyH_take (i := 18) (oi := ?oibq18) (v := ?vbq18) ?hibq18 (by kernel_rfl) (by kernel_rfl) (by kernel_rfl) ?hQbq18 ?hybq18 (by assumption) ?_
          case hibq18 =>
            simp only [List.getElem?_toArray, List.getElem?_cons_succ, List.getElem?_cons_zero]
            try rfl
          case hQbq18 => exact fun _ _ _ h => h
          case hybq18 =>
            refine Or.inl ⟨by rfl, ?_⟩
            intro w' hSw
            try dsimp only at hSw
            go_simp
            try with_reducible rfl
          try simp only [Act.put, List.setIfInBounds_toArray, List.set_cons_zero, List.set_cons_succ]
          refine wpAnyH_take (i := 19) (oi := ?oibq19) (v := ?vbq19) ?hibq19 (by kernel_rfl) (by kernel_rfl) (by kernel_rfl) ?hQbq19 ?hybq19 (by assumption) ?_
          case hibq19 =>
            simp only [List.getElem?_toArray, List.getElem?_cons_succ, List.getElem?_cons_zero]
            try rfl
          case hQbq19 => exact fun _ _ _ h => h
          case hybq19 =>
            refine Or.inl ⟨by rfl, ?_⟩
            intro w' hSw
            try dsimp only at hSw
            go_simp
            try with_reducible rfl
          try simp only [Act.put, List.setIfInBounds_toArray, List.set_cons_zero, List.set_cons_succ]
          refine wpAnyH_take (i := 20) (oi := ?oibq20) (v := ?vbq20) ?hibq20 (by kernel_rfl) (by kernel_rfl) (by kernel_rfl) ?hQbq20 ?hybq20 (by assumption) ?_
          case hibq20 =>
            simp only [List.getElem?_toArray, List.getElem?_cons_succ, List.getElem?_cons_zero]
            try rfl
          case hQbq20 => exact fun _ _ _ h => h
          case hybq20 =>
            refine Or.inl ⟨by rfl, ?_⟩
            intro w' hSw
            try dsimp only at hSw
            go_simp
            try with_reducible rfl
          try simp only [Act.put, List.setIfInBounds_toArray, List.set_cons_zero, List.set_cons_succ]
          refine wpAnyH_take (i := 21) (oi := ?oibq21) (v := ?vbq21) ?hibq21 (by kernel_rfl) (by kernel_rfl) (by kernel_rfl) ?hQbq21 ?hybq21 (by assumption) ?_
          case hibq21 =>
            simp only [List.getElem?_toArray, List.getElem?_cons_succ, List.getElem?_cons_zero]
            try rfl
          case hQbq21 => exact fun _ _ _ h => h
          case hybq21 =>
            refine Or.inl ⟨by rfl, ?_⟩
            intro w' hSw
            try dsimp only at hSw
            go_simp
            try with_reducible rfl
          try simp only [Act.put, List.setIfInBounds_toArray, List.set_cons_zero, List.set_cons_succ]
          refine wpAnyH_take (i := 22) (oi := ?oibq22) (v := undef) ?hibq22 (by kernel_rfl) (by kernel_rfl) (by kernel_rfl) ?hQbq22 ?hybq22 (by assumption) ?_
          case hibq22 =>
            simp only [List.getElem?_toArray, List.getElem?_cons_succ, List.getElem?_cons_zero]
            try rfl
          case hQbq22 => exact fun _ _ _ h => h
          case hybq22 => exact Or.inr ⟨by rfl, rfl⟩
          try simp only [Act.put, List.setIfInBounds_toArray, List.set_cons_zero, List.set_cons_succ]
          refine wpAnyH_take (i := 23) (oi := ?oibq23) (v := undef) ?hibq23 (by kernel_rfl) (by kernel_rfl) (by kernel_rfl) ?hQbq23 ?hybq23 (by assumption) ?_
          case hibq23 =>
            simp only [List.getElem?_toArray, List.getElem?_cons_succ, List.getElem?_cons_zero]
            try rfl
          case hQbq23 => exact fun _ _ _ h => h
          case hybq23 => exact Or.inr ⟨by rfl, rfl⟩
          try simp only [Act.put, List.setIfInBounds_toArray, List.set_cons_zero, List.set_cons_succ]
          refine wpAnyH_take (i := 24) (oi := ?oibq24) (v := undef) ?hibq24 (by kernel_rfl) (by kernel_rfl) (by kernel_rfl) ?hQbq24 ?hybq24 (by assumption) ?_
          case hibq24 =>
            simp only [List.getElem?_toArray, List.getElem?_cons_succ, List.getElem?_cons_zero]
            try rfl
          case hQbq24 => exact fun _ _ _ h => h
          case hybq24 => exact Or.inr ⟨by rfl, rfl⟩
          try simp only [Act.put, List.setIfInBounds_toArray, List.set_cons_zero, List.set_cons_succ]
          refine wpAnyH_take (i := 25) (oi := ?oibq25) (v := ?vbq25) ?hibq25 (by kernel_rfl) (by kernel_rfl) (by kernel_rfl) ?hQbq25 ?hybq25 (by assumption) ?_
          case hibq25 =>
            simp only [List.getElem?_toArray, List.getElem?_cons_succ, List.getElem?_cons_zero]
            try rfl
          case hQbq25 => exact fun _ _ _ h => h
          case hybq25 =>
            refine Or.inl ⟨by rfl, ?_⟩
            intro w' hSw
            try dsimp only at hSw
            go_simp
            try with_reducible rfl
          try simp only [Act.put, List.setIfInBounds_toArray, List.set_cons_zero, List.set_cons_succ]
          refine wpAnyH_take (i := 26) (oi := ?oibq26) (v := ?vbq26) ?hibq26 (by kernel_rfl) (by kernel_rfl) (by kernel_rfl) ?hQbq26 ?hybq26 (by assumption) ?_
          case hibq26 =>
            simp only [List.getElem?_toArray, List.getElem?_cons_succ, List.getElem?_cons_zero]
            try rfl
          case hQbq26 => exact fun _ _ _ h => h
          case hybq26 =>
            refine Or.inl ⟨by rfl, ?_⟩
            intro w' hSw
            try dsimp only at hSw
            go_simp
            try with_reducible rfl
          try simp only [Act.put, List.setIfInBounds_toArray, List.set_cons_zero, List.set_cons_succ]
          refine wpAnyH_done (by kernel_rfl) ?_ _
          go_wp2
          go_ret
          exact ⟨rfl, (HM9.out.below HBB.out).bel⟩
        · have q9 : (pc == pa) = true := by rw [HIN.out q6]; simp
          clear q6
          go_wp2_with fail
          refine wp_region_held_drew (S := (fun w' => w'.cell? ⟨W.heap.size + 1, 0, none⟩ = some (.int .i64 kk0) ∧ w'.cell? ⟨W.heap.size + 1, 1, none⟩ = some (.int .i64 kn0) ∧ w'.cell? ⟨W.heap.size + 1, 2, none⟩ = some (.string ks0))) (by kernel_rfl) ?_ (fun hH0d => ?_)
          · with_reducible exact HSS.out _ (Below.refl _ w9).drew
          refine wpAnyH_take (i := 0) (oi := ?oidq0) (v := ?vdq0) ?hidq0 (by kernel_rfl) (by kernel_rfl) (by kernel_rfl) ?hQdq0 ?hydq0 (by assumption) ?_
          case hidq0 =>
            simp only [List.getElem?_toArray, List.getElem?_cons_succ, List.getElem?_cons_zero]
            try rfl
          case hQdq0 => exact fun _ _ _ h => h
          case hydq0 =>
            refine Or.inl ⟨by rfl, ?_⟩
            intro w' hSw
            try dsimp only at hSw
            go_simp
            try with_reducible rfl
          try simp only [Act.put, List.setIfInBounds_toArray, List.set_cons_zero, List.set_cons_succ]
          refine wpAnyH_take (i := 1) (oi := ?oidq1) (v := ?vdq1) ?hidq1 (by kernel_rfl) (by kernel_rfl) (by kernel_rfl) ?hQdq1 ?hydq1 (by assumption) ?_
          case hidq1 =>
            simp only [List.getElem?_toArray, List.getElem?_cons_succ, List.getElem?_cons_zero]
            try rfl
          case hQdq1 => exact fun _ _ _ h => h
          case hydq1 =>
            refine Or.inl ⟨by rfl, ?_⟩
            intro w' hSw
            try dsimp only at hSw
            go_simp
            try with_reducible rfl
          try simp only [Act.put, List.setIfInBounds_toArray, List.set_cons_zero, List.set_cons_succ]
          refine wpAnyH_take (i := 2) (oi := ?oidq2) (v := ?vdq2) ?hidq2 (by kernel_rfl) (by kernel_rfl) (by kernel_rfl) ?hQdq2 ?hydq2 (by assumption) ?_
          case hidq2 =>
            simp only [List.getElem?_toArray, List.getElem?_cons_succ, List.getElem?_cons_zero]
            try rfl
          case hQdq2 => exact fun _ _ _ h => h
          case hydq2 =>
            refine Or.inl ⟨by rfl, ?_⟩
            intro w' hSw
            try dsimp only at hSw
            go_simp
            try with_reducible rfl
          try simp only [Act.put, List.setIfInBounds_toArray, List.set_cons_zero, List.set_cons_succ]
          refine wpAnyH_take (i := 3) (oi := ?oidq3) (v := ?vdq3) ?hidq3 (by kernel_rfl) (by kernel_rfl) (by kernel_rfl) ?hQdq3 ?hydq3 (by assumption) ?_
          case hidq3 =>
            simp only [List.getElem?_toArray, List.getElem?_cons_succ, List.getElem?_cons_zero]
            try rfl
          case hQdq3 => exact fun _ _ _ h => h
          case hydq3 =>
            refine Or.inl ⟨by rfl, ?_⟩
            intro w' hSw
            try dsimp only at hSw
            go_simp
            try with_reducible rfl
          try simp only [Act.put, List.setIfInBounds_toArray, List.set_cons_zero, List.set_cons_succ]
          refine wpAnyH_take (i := 4) (oi := ?oidq4) (v := ?vdq4) ?hidq4 (by kernel_rfl) (by kernel_rfl) (by kernel_rfl) ?hQdq4 ?hydq4 (by assumption) ?_
          case hidq4 =>
            simp only [List.getElem?_toArray, List.getElem?_cons_succ, List.getElem?_cons_zero]
            try rfl
          case hQdq4 => exact fun _ _ _ h => h
          case hydq4 =>
            refine Or.inl ⟨by rfl, ?_⟩
            intro w' hSw
            try dsimp only at hSw
            go_simp
            try with_reducible rfl
          try simp only [Act.put, List.setIfInBounds_toArray, List.set_cons_zero, List.set_cons_succ]
          refine wpAnyH_take (i := 5) (oi := ?oidq5) (v := ?vdq5) ?hidq5 (by kernel_rfl) (by kernel_rfl) (by kernel_rfl) ?hQdq5 ?hydq5 (by assumption) ?_
          case hidq5 =>
            simp only [List.getElem?_toArray, List.getElem?_cons_succ, List.getElem?_cons_zero]
            try rfl
          case hQdq5 => exact fun _ _ _ h => h
          case hydq5 =>
            refine Or.inl ⟨by rfl, ?_⟩
            intro w' hSw
            try dsimp only at hSw
            go_simp
            try with_reducible rfl
          try simp only [Act.put, List.setIfInBounds_toArray, List.set_cons_zero, List.set_cons_succ]
          refine wpAnyH_take (i := 6) (oi := ?oidq6) (v := ?vdq6) ?hidq6 (by kernel_rfl) (by kernel_rfl) (by kernel_rfl) ?hQdq6 ?hydq6 (by assumption) ?_
          case hidq6 =>
            simp only [List.getElem?_toArray, List.getElem?_cons_succ, List.getElem?_cons_zero]
            try rfl
          case hQdq6 => exact fun _ _ _ h => h
          case hydq6 =>
            refine Or.inl ⟨by rfl, ?_⟩
            intro w' hSw
            try dsimp only at hSw
            go_simp
            try with_reducible rfl
          try simp only [Act.put, List.setIfInBounds_toArray, List.set_cons_zero, List.set_cons_succ]
          refine wpAnyH_take (i := 7) (oi := ?oidq7) (v := ?vdq7) ?hidq7 (by kernel_rfl) (by kernel_rfl) (by kernel_rfl) ?hQdq7 ?hydq7 (by assumption) ?_
          case hidq7 =>
            simp only [List.getElem?_toArray, List.getElem?_cons_succ, List.getElem?_cons_zero]
            try rfl
          case hQdq7 => exact fun _ _ _ h => h
          case hydq7 =>
            refine Or.inl ⟨by rfl, ?_⟩
            intro w' hSw
            try dsimp only at hSw
            go_simp
            try with_reducible rfl
          try simp only [Act.put, List.setIfInBounds_toArray, List.set_cons_zero, List.set_cons_succ]
          refine wpAnyH_take (i := 8) (oi := ?oidq8) (v := ?vdq8) ?hidq8 (by kernel_rfl) (by kernel_rfl) (by kernel_rfl) ?hQdq8 ?hydq8 (by assumption) ?_
          case hidq8 =>
            simp only [List.getElem?_toArray, List.getElem?_cons_succ, List.getElem?_cons_zero]
            try rfl
          case hQdq8 => exact fun _ _ _ h => h
          case hydq8 =>
            refine Or.inl ⟨by rfl, ?_⟩
            intro w' hSw
            try dsimp only at hSw
            go_simp
            try with_reducible rfl
          try simp only [Act.put, List.setIfInBounds_toArray, List.set_cons_zero, List.set_cons_succ]
          refine wpAnyH_take (i := 9) (oi := ?oidq9) (v := ?vdq9) ?hidq9 (by kernel_rfl) (by kernel_rfl) (by kernel_rfl) ?hQdq9 ?hydq9 (by assumption) ?_
          case hidq9 =>
            simp only [List.getElem?_toArray, List.getElem?_cons_succ, List.getElem?_cons_zero]
            try rfl
          case hQdq9 => exact fun _ _ _ h => h
          case hydq9 =>
            refine Or.inl ⟨by rfl, ?_⟩
            intro w' hSw
            try dsimp only at hSw
            go_simp
            try with_reducible rfl
          try simp only [Act.put, List.setIfInBounds_toArray, List.set_cons_zero, List.set_cons_succ]
          refine wpAnyH_take (i := 10) (oi := ?oidq10) (v := ?vdq10) ?hidq10 (by kernel_rfl) (by kernel_rfl) (by kernel_rfl) ?hQdq10 ?hydq10 (by assumption) ?_
          case hidq10 =>
            simp only [List.getElem?_toArray, List.getElem?_cons_succ, List.getElem?_cons_zero]
            try rfl
          case hQdq10 => exact fun _ _ _ h => h
          case hydq10 =>
            refine Or.inl ⟨by rfl, ?_⟩
            intro w' hSw
            try dsimp only at hSw
            go_simp
            try with_reducible rfl
          try simp only [Act.put, List.setIfInBounds_toArray, List.set_cons_zero, List.set_cons_succ]
          refine wpAnyH_take (i := 11) (oi := ?oidq11) (v := ?vdq11) ?hidq11 (by kernel_rfl) (by kernel_rfl) (by kernel_rfl) ?hQdq11 ?hydq11 (by assumption) ?_
          case hidq11 =>
            simp only [List.getElem?_toArray, List.getElem?_cons_succ, List.getElem?_cons_zero]
            try rfl
          case hQdq11 => exact fun _ _ _ h => h
          case hydq11 =>
            refine Or.inl ⟨by rfl, ?_⟩
            intro w' hSw
            try dsimp only at hSw
            go_simp
            try with_reducible rfl
          try simp only [Act.put, List.setIfInBounds_toArray, List.set_cons_zero, List.set_cons_succ]
          refine wpAnyH_take (i := 12) (oi := ?oidq12) (v := ?vdq12) ?hidq12 (by kernel_rfl) (by kernel_rfl) (by kernel_rfl) ?hQdq12 ?hydq12 (by assumption) ?_
          case hidq12 =>
            simp only [List.getElem?_toArray, List.getElem?_cons_succ, List.getElem?_cons_zero]
            try rfl
          case hQdq12 => exact fun _ _ _ h => h
          case hydq12 =>
            refine Or.inl ⟨by rfl, ?_⟩
            intro w' hSw
            try dsimp only at hSw
            go_simp
            try with_reducible rfl
          try simp only [Act.put, List.setIfInBounds_toArray, List.set_cons_zero, List.set_cons_succ]
          refine wpAnyH_take (i := 13) (oi := ?oidq13) (v := ?vdq13) ?hidq13 (by kernel_rfl) (by kernel_rfl) (by kernel_rfl) ?hQdq13 ?hydq13 (by assumption) ?_
          case hidq13 =>
            simp only [List.getElem?_toArray, List.getElem?_cons_succ, List.getElem?_cons_zero]
            try rfl
          case hQdq13 => exact fun _ _ _ h => h
          case hydq13 =>
            refine Or.inl ⟨by rfl, ?_⟩
            intro w' hSw
            try dsimp only at hSw
            go_simp
            try with_reducible rfl
          try simp only [Act.put, List.setIfInBounds_toArray, List.set_cons_zero, List.set_cons_succ]
          refine wpAnyH_take (i := 14) (oi := ?oidq14) (v := ?vdq14) ?hidq14 (by kernel_rfl) (by kernel_rfl) (by kernel_rfl) ?hQdq14 ?hydq14 (by assumption) ?_
          case hidq14 =>
            simp only [List.getElem?_toArray, List.getElem?_cons_succ, List.getElem?_cons_zero]
            try rfl
          case hQdq14 => exact fun _ _ _ h => h
          case hydq14 =>
            refine Or.inl ⟨by rfl, ?_⟩
            intro w' hSw
            try dsimp only at hSw
            go_simp
            try with_reducible rfl
          try simp only [Act.put, List.setIfInBounds_toArray, List.set_cons_zero, List.set_cons_succ]
          refine wpAnyH_take (i := 15) (oi := ?oidq15) (v := ?vdq15) ?hidq15 (by kernel_rfl) (by kernel_rfl) (by kernel_rfl) ?hQdq15 ?hydq15 (by assumption) ?_
          case hidq15 =>
            simp only [List.getElem?_toArray, List.getElem?_cons_succ, List.getElem?_cons_zero]
            try rfl
          case hQdq15 => exact fun _ _ _ h => h
          case hydq15 =>
            refine Or.inl ⟨by rfl, ?_⟩
            intro w' hSw
            try dsimp only at hSw
            go_simp
            try with_reducible rfl
          try simp only [Act.put, List.setIfInBounds_toArray, List.set_cons_zero, List.set_cons_succ]
          refine wpAnyH_take (i := 16) (oi := ?oidq16) (v := ?vdq16) ?hidq16 (by kernel_rfl) (by kernel_rfl) (by kernel_rfl) ?hQdq16 ?hydq16 (by assumption) ?_
          case hidq16 =>
            simp only [List.getElem?_toArray, List.getElem?_cons_succ, List.getElem?_cons_zero]
            try rfl
          case hQdq16 => exact fun _ _ _ h => h
          case hydq16 =>
            refine Or.inl ⟨by rfl, ?_⟩
            intro w' hSw
            try dsimp only at hSw
            go_simp
            try with_reducible rfl
          try simp only [Act.put, List.setIfInBounds_toArray, List.set_cons_zero, List.set_cons_succ]
          refine wpAnyH_ready (rs := [17]) (by kernel_rfl) (by simp) ?_
          refine AllReadyH.cons (o := ?odq17) ?hodq17 (fun K hK => ?_) AllReadyH.nil
          case hodq17 =>
            simp only [List.getElem?_toArray, List.getElem?_cons_succ, List.getElem?_cons_zero]
            try rfl
          go_simp
          (with_reducible refine (BS.stats (HM9.out.below (Below.refl _ w9).drew) N5 m5 f5 x5 HST.out.1 HST.out.2.1 HST.out.2.2.1 HST.out.2.2.2).mono ?_)
          rintro e wB ⟨rfl, hb⟩
          have HBB := Lib.hid (below_step (Below.refl w9.heap.size w9).drew hb)
          clear hb
          go_wp2_with fail
          refine hK.out _ _ ?_ (fun hH1d => ?_)
          · with_reducible exact HSS.out _ HBB.out
          clear hK K hH0d
          try simp only [Act.put, List.setIfInBounds_toArray, List.set_cons_zero, List.set_cons_succ]
          refine wpAnyH_take (i := 18) (oi := ?oidq18) (v := ?vdq18) ?hidq18 (by kernel_rfl) (by kernel_rfl) (by kernel_rfl) ?hQdq18 ?hydq18 (by assumption) ?_
          case hidq18 =>
            simp only [List.getElem?_toArray, List.getElem?_cons_succ, List.getElem?_cons_zero]
            try rfl
          case hQdq18 => exact fun _ _ _ h => h
          case hydq18 =>
            refine Or.inl ⟨by rfl, ?_⟩
            intro w' hSw
            try dsimp only at hSw
            go_simp
            try with_reducible rfl
          try simp only [Act.put, List.setIfInBounds_toArray, List.set_cons_zero, List.set_cons_succ]
          refine wpAnyH_take (i := 19) (oi := ?oidq19) (v := ?vdq19) ?hidq19 (by kernel_rfl) (by kernel_rfl) (by kernel_rfl) ?hQdq19 ?hydq19 (by assumption) ?_
          case hidq19 =>
            simp only [List.getElem?_toArray, List.getElem?_cons_succ, List.getElem?_cons_zero]
            try rfl
          case hQdq19 => exact fun _ _ _ h => h
          case hydq19 =>
            refine Or.inl ⟨by rfl, ?_⟩
            intro w' hSw
            try dsimp only at hSw
            go_simp
            try with_reducible rfl
          try simp only [Act.put, List.setIfInBounds_toArray, List.set_cons_zero, List.set_cons_succ]
          refine wpAnyH_take (i := 20) (oi := ?oidq20) (v := ?vdq20) ?hidq20 (by kernel_rfl) (by kernel_rfl) (by kernel_rfl) ?hQdq20 ?hydq20 (by assumption) ?_
          case hidq20 =>
            simp only [List.getElem?_toArray, List.getElem?_cons_succ, List.getElem?_cons_zero]
            try rfl
          case hQdq20 => exact fun _ _ _ h => h
          case hydq20 =>
            refine Or.inl ⟨by rfl, ?_⟩
            intro w' hSw
            try dsimp only at hSw
            go_simp
            try with_reducible rfl
          try simp only [Act.put, List.setIfInBounds_toArray, List.set_cons_zero, List.set_cons_succ]
          refine wpAnyH_take (i := 21) (oi := ?oidq21) (v := ?vdq21) ?hidq21 (by kernel_rfl) (by kernel_rfl) (by kernel_rfl) ?hQdq21 ?hydq21 (by assumption) ?_
          case hidq21 =>
            simp only [List.getElem?_toArray, List.getElem?_cons_succ, List.getElem?_cons_zero]
            try rfl
          case hQdq21 => exact fun _ _ _ h => h
          case hydq21 =>
            refine Or.inl ⟨by rfl, ?_⟩
            intro w' hSw
            try dsimp only at hSw
            go_simp
            try with_reducible rfl
          try simp only [Act.put, List.setIfInBounds_toArray, List.set_cons_zero, List.set_cons_succ]
          refine wpAnyH_take (i := 22) (oi := ?oidq22) (v := ?vdq22) ?hidq22 (by kernel_rfl) (by kernel_rfl) (by kernel_rfl) ?hQdq22 ?hydq22 (by assumption) ?_
          case hidq22 =>
            simp only [List.getElem?_toArray, List.getElem?_cons_succ, List.getElem?_cons_zero]
            try rfl
          case hQdq22 => exact fun _ _ _ h => h
          case hydq22 =>
            refine Or.inl ⟨by rfl, ?_⟩
            intro w' hSw
            try dsimp only at hSw
            go_simp
            try with_reducible rfl
          try simp only [Act.put, List.setIfInBounds_toArray, List.set_cons_zero, List.set_cons_succ]
          refine wpAnyH_take (i := 23) (oi := ?oidq23) (v := ?vdq23) ?hidq23 (by kernel_rfl) (by kernel_rfl) (by kernel_rfl) ?hQdq23 ?hydq23 (by assumption) ?_
          case hidq23 =>
            simp only [List.getElem?_toArray, List.getElem?_cons_succ, List.getElem?_cons_zero]
            try rfl
          case hQdq23 => exact fun _ _ _ h => h
          case hydq23 =>
            refine Or.inl ⟨by rfl, ?_⟩
            intro w' hSw
            try dsimp only at hSw
            go_simp
            try with_reducible rfl
          try simp only [Act.put, List.setIfInBounds_toArray, List.set_cons_zero, List.set_cons_succ]
          refine wpAnyH_take (i := 24) (oi := ?oidq24) (v := ?vdq24) ?hidq24 (by kernel_rfl) (by kernel_rfl) (by kernel_rfl) ?hQdq24 ?hydq24 (by assumption) ?_
          case hidq24 =>
            simp only [List.getElem?_toArray, List.getElem?_cons_succ, List.getElem?_cons_zero]
            try rfl
          case hQdq24 => exact fun _ _ _ h => h
          case hydq24 =>
            refine Or.inl ⟨by rfl, ?_⟩
            intro w' hSw
            try dsimp only at hSw
            go_simp
            try with_reducible rfl
          try simp only [Act.put, List.setIfInBounds_toArray, List.set_cons_zero, List.set_cons_succ]
          refine wpAnyH_take (i := 25) (oi := ?oidq25) (v := ?vdq25) ?hidq25 (by kernel_rfl) (by kernel_rfl) (by kernel_rfl) ?hQdq25 ?hydq25 (by assumption) ?_
          case hidq25 =>
            simp only [List.getElem?_toArray, List.getElem?_cons_succ, List.getElem?_cons_zero]
            try rfl
          case hQdq25 => exact fun _ _ _ h => h
          case hydq25 =>
            refine Or.inl ⟨by rfl, ?_⟩
            intro w' hSw
            try dsimp only at hSw
            go_simp
            try with_reducible rfl
          try simp only [Act.put, List.setIfInBounds_toArray, List.set_cons_zero, List.set_cons_succ]
          refine wpAnyH_take (i := 26) (oi := ?oidq26) (v := ?vdq26) ?hidq26 (by kernel_rfl) (by kernel_rfl) (by kernel_rfl) ?hQdq26 ?hydq26 (by assumption) ?_
          case hidq26 =>
            simp only [List.getElem?_toArray, List.getElem?_cons_succ, List.getElem?_cons_zero]
            try rfl
          case hQdq26 => exact fun _ _ _ h => h
          case hydq26 =>
            refine Or.inl ⟨by rfl, ?_⟩
            intro w' hSw
            try dsimp only at hSw
            go_simp
            try with_reducible rfl
          try simp only [Act.put, List.setIfInBounds_toArray, List.set_cons_zero, List.set_cons_succ]
          refine wpAnyH_done (by kernel_rfl) ?_ _
          go_wp2
          go_ret
          exact ⟨rfl, (HM9.out.below HBB.out).bel⟩
end Go.Proofs.Yteheolefemlcgaa
