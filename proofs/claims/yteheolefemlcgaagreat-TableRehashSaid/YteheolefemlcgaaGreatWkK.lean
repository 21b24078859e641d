/- walk.Next: of a key; at once. -/
import Derived.Test.YteheolefemlcgaaGreatWkX
namespace Go.Proofs.YteheolefemlcgaaGreat
open Go.RowKit Go.Maps
set_option linter.unusedVariables false
set_option linter.unusedSimpArgs false
attribute [local go_sem] Oper.semAt_some

set_option maxRecDepth 100000 in
set_option maxHeartbeats 3200000 in
/-- Next of a key that has a place. -/
theorem walk_Next_key (a s b g hp : Nat) (t : Tbl) (kk kn : Int) (ks : ByteArray) (hok : t.p.ok) (hkf : okV ⟨kk, kn, ks⟩ = true) (hk0 : kk ≠ 0) (lo : Nat) (hlo : t.p.place ⟨kk, kn, ks⟩ = lo) (h0lo : 0 < lo) (hlt : lo ≤ t.p.tot) (w : World) (H : TabIn w a s b g hp t) :
    Calls Tryz.prog 24 #[.pointer (some ⟨a, 0, none⟩), .agg #[.int .i64 kk, .int .i64 kn, .string ks]] w fun e w' => e = .returned (.tuple #[vagg (t.p.pair ((t.p.nx lo : Nat) : Int)).1, vagg (t.p.pair ((t.p.nx lo : Nat) : Int)).2, .int .i64 0]) ∧ TabIn w' a s b g hp (t.read ⟨kk, kn, ks⟩) ∧ Kp (fun q => q = a) w w' := by
  refine (callsIn_wide (n := 4)).1 ?_
  have hro : Fence.wide.round = none := rfl
  have HT0 := Lib.hid H
  have HOK := Lib.hid hok; have HLO := Lib.hid hlo; have HL0 := Lib.hid h0lo; have HLT := Lib.hid hlt
  have HCK := Lib.hid (show errForm (okV ⟨kk, kn, ks⟩) = 0 by rw [hkf]; rfl)
  have q0 : (kk != 0) = true := by simpa using hk0
  clear hok hlo h0lo hlt hkf hk0
  have hB0 : Below w.heap.size w ((((w.alloc (.cells #[.int .i64 kk, .int .i64 kn, .string ks] 35)).alloc (.cells #[.int .i64 0, .int .i64 0, .string ⟨#[]⟩] 35)).alloc (.cells #[.int .i64 0, .int .i64 0, .string ⟨#[]⟩] 35)).alloc (.cells #[.int .i64 0] 32)) := ((((Below.refl _ w).alloc (Nat.le_refl _) _).alloc (by simp) _).alloc (by simp; omega) _).alloc (by simp; omega) _
  have hR0 : R3e ((((w.alloc (.cells #[.int .i64 kk, .int .i64 kn, .string ks] 35)).alloc (.cells #[.int .i64 0, .int .i64 0, .string ⟨#[]⟩] 35)).alloc (.cells #[.int .i64 0, .int .i64 0, .string ⟨#[]⟩] 35)).alloc (.cells #[.int .i64 0] 32)) (w.heap.size + 1) (w.heap.size + 1 + 1) (w.heap.size + 1 + 1 + 1) := fresh3 w _
  have hS0 : ((((w.alloc (.cells #[.int .i64 kk, .int .i64 kn, .string ks] 35)).alloc (.cells #[.int .i64 0, .int .i64 0, .string ⟨#[]⟩] 35)).alloc (.cells #[.int .i64 0, .int .i64 0, .string ⟨#[]⟩] 35)).alloc (.cells #[.int .i64 0] 32)).heap.size = w.heap.size + 4 := by simp
  have HK0 := Lib.hid ((((C3.new w kk kn ks).alloc (.cells #[.int .i64 0, .int .i64 0, .string ⟨#[]⟩] 35)).alloc (.cells #[.int .i64 0, .int .i64 0, .string ⟨#[]⟩] 35)).alloc (.cells #[.int .i64 0] 32))
  have HB0 := Lib.hid hB0; have HR0 := Lib.hid hR0; have HS0 := Lib.hid hS0
  clear H hB0 hR0 hS0
  refine callsIn_of_wp_marks Tryz.func24 rfl trivial ?_ hro
  simp only [Tryz.ntmps24, List.size_toArray, List.length_cons, List.length_nil, Nat.reduceAdd, Nat.reduceSub, Array.replicate_succ, Array.replicate_zero, List.push_toArray, List.append_toArray, List.nil_append, List.cons_append]
  gi_wp2_with fail
  refine ⟨trivial, ?_⟩
  (refine (callsIn_wide.2 (box_Check_c kk kn ks 0 HCK.out _)).mono ?_)
  rintro e w2 ⟨rfl, hb⟩
  have HB2 := Lib.hid (HB0.out.trans (hb.mono HB0.out.size))
  have HR2 := Lib.hid (HR0.out.keep (hb.block _ (by rw [HS0.out]; omega)) (hb.block _ (by rw [HS0.out]; omega)) (hb.block _ (by rw [HS0.out]; omega)))
  have HS2 : Hid (w.heap.size + 4 ≤ w2.heap.size) := Lib.hid (by have := hb.size; rw [HS0.out] at this; exact this)
  have HK2 := Lib.hid (HK0.out.below hb (by rw [HS0.out]; omega))
  obtain ⟨k0, k1, k2, -, -⟩ := HK2.out
  dsimp only at k0 k1 k2
  simp only [Nat.zero_add] at k1 k2
  clear hb HB0 HR0 HS0 HK0
  gi_wp2_with fail
  refine ⟨trivial, ?_⟩
  (refine (callsIn_wide.2 (tab_Place a s b g hp t kk kn ks HOK.out w2 (HT0.out.below HB2.out))).mono ?_)
  rintro e w3 ⟨rfl, hT3, hk3⟩
  rw [HLO.out]
  have HA : Hid (a < w.heap.size) := Lib.hid HT0.out.pt.la
  have HT3 := Lib.hid hT3
  have HB2' := Lib.hid HB2.out
  have HFIN : Hid (∀ w', Below w.heap.size w3 w' → TabIn w' a s b g hp (t.read ⟨kk, kn, ks⟩) ∧ Kp (fun q => q = a) w w') := Lib.hid (fun w' hb => by
    refine ⟨HT3.out.keep (fun q hq => hb.block q (HT0.out.pt.lt hq)), ?_⟩
    exact ⟨hb.os.trans (hk3.os.trans HB2'.out.os), hb.tape.trans (hk3.tape.trans HB2'.out.tape), hb.output.trans (hk3.output.trans HB2'.out.output), Nat.le_trans HB2'.out.size (Nat.le_trans hk3.size hb.size), fun z hz hn => (hb.block z hz).trans ((hk3.block z (Nat.lt_of_lt_of_le hz HB2'.out.size) hn).trans (HB2'.out.block z hz))⟩)
  have HS3 : Hid (w.heap.size + 4 ≤ w3.heap.size) := Lib.hid (Nat.le_trans HS2.out hk3.size)
  have HR3' := Lib.hid (HR2.out.keep (hk3.block _ (by have := HS2.out; omega) (by have := HA.out; omega)) (hk3.block _ (by have := HS2.out; omega) (by have := HA.out; omega)) (hk3.block _ (by have := HS2.out; omega) (by have := HA.out; omega)))
  have HH : Hid (Tb w3 (some ⟨a, 0, none⟩) t.p) := Lib.hid (.inr ⟨a, s, b, g, hp, t.read ⟨kk, kn, ks⟩, rfl, (read_ph t _).1, by rw [(read_ph t _).1]; exact HOK.out, hT3⟩)
  have q1 : ((lo : Int) == 0) = false := by have := HL0.out; simp; omega
  have HBr : Hid (Below w.heap.size w3 w3) := Lib.hid (Below.refl _ _)
  clear hT3 hk3 HR2 HS2 HB2 HK2 k0 k1 k2
  gi_wp2_with fail
  refine ⟨trivial, ?_⟩
  (refine (callsIn_wide.2 (walk_behind (some ⟨a, 0, none⟩) lo _)).mono ?_)
  rintro e w' ⟨rfl, rfl⟩
  gi_wp2_with fail
  have hB3 : Below w.heap.size w3 ((w3.alloc (.cells #[.pointer (some ⟨a, 0, none⟩)] 27)).alloc (.cells #[.int .i64 lo] 3)) := (HBr.out.alloc (by have := HS3.out; omega) _).alloc (by rw [World.size_alloc]; have := HS3.out; omega) _
  have hb3 : Below w3.heap.size w3 ((w3.alloc (.cells #[.pointer (some ⟨a, 0, none⟩)] 27)).alloc (.cells #[.int .i64 lo] 3)) := ((Below.refl _ w3).alloc (Nat.le_refl _) _).alloc (by rw [World.size_alloc]; omega) _
  have hR3 : R3e ((w3.alloc (.cells #[.pointer (some ⟨a, 0, none⟩)] 27)).alloc (.cells #[.int .i64 lo] 3)) (w.heap.size + 1) (w.heap.size + 1 + 1) (w.heap.size + 1 + 1 + 1) := HR3'.out.keep (hb3.block _ (by have := HS3.out; omega)) (hb3.block _ (by have := HS3.out; omega)) (hb3.block _ (by have := HS3.out; omega))
  have hS3 : ((w3.alloc (.cells #[.pointer (some ⟨a, 0, none⟩)] 27)).alloc (.cells #[.int .i64 lo] 3)).heap.size = w3.heap.size + 2 := by simp
  have c1 : ((w3.alloc (.cells #[.pointer (some ⟨a, 0, none⟩)] 27)).alloc (.cells #[.int .i64 lo] 3)).cell? ⟨w3.heap.size, 0, none⟩ = some (.pointer (some ⟨a, 0, none⟩)) := by simp [go_sem]
  have c2 : ((w3.alloc (.cells #[.pointer (some ⟨a, 0, none⟩)] 27)).alloc (.cells #[.int .i64 lo] 3)).cell? ⟨w3.heap.size + 1, 0, none⟩ = some (.int .i64 lo) := by simp [go_sem]
  have HB3 := Lib.hid hB3; have HR3 := Lib.hid hR3; have HB3w := Lib.hid hb3
  clear hB3 hb3 hR3
  generalize ((w3.alloc (.cells #[.pointer (some ⟨a, 0, none⟩)] 27)).alloc (.cells #[.int .i64 lo] 3)) = W1 at *
  have hsm := HH.out.small
  obtain ⟨G, hG, hseq⟩ := HH.out.stops HB3w.out 3 (by decide) (w3.heap.size + 1) w3.heap.size lo (t.p.tot - lo) (by have := HLT.out; omega) c2 c1 (by omega) (by omega)
  have HG : Hid (∀ q, G q → q < w3.heap.size ∨ q = w3.heap.size + 1 ∨ q = w3.heap.size) := Lib.hid hG
  have HSZ := Lib.hid hS3
  have HSM := Lib.hid hsm
  have hGl : ∀ q, G q → q < W1.heap.size := fun q hq => by have := HS3.out; rcases HG.out q hq with h | h | h <;> omega
  have HX : Hid (w.heap.size + 4 ≤ W1.heap.size) := Lib.hid (by have := HS3.out; omega)
  clear hG hsm c1 c2
  refine range_pairs 27 8 t.p (gf := 104) (lb := #[.pointer (some ⟨w3.heap.size + 1, 0, none⟩), .pointer (some ⟨w3.heap.size, 0, none⟩)]) rfl (enters_of Tryz.func104 (by kernel_rfl) rfl) W1.heap.size lo (t.p.tot - lo) hseq hGl rfl
    (fun pre W => pre = [] ∧ Below w.heap.size w3 W ∧ W1.heap.size ≤ W.heap.size ∧ R3e W (w.heap.size + 1) (w.heap.size + 1 + 1) (w.heap.size + 1 + 1 + 1))
    (fun c pre W => c = .ret ∧ ∃ j, pre = [j] ∧ Below w.heap.size w3 W ∧ R7 W (w.heap.size + 1) (w.heap.size + 1 + 1) (w.heap.size + 1 + 1 + 1) (t.p.pair ((j : Nat) : Int)) 0)
    (fun pre X Y row h hg hr => ⟨h.1, (ownFrom_below (β := Unit) (n₀ := w.heap.size) (w₀ := w3) (by have := HS3.out; omega) (B := W1.heap.size) (by have := HX.out; omega)) () X Y row h.2.1 hg hr, own_size (β := Unit) _ _ () X Y row h.2.2.1 hg hr, R3e.own (β := Unit) _ _ _ _ () X Y row h.2.2.2 hg hr⟩)
    (fun c pre X Y row ⟨h1, j, h2, h3, h4⟩ hg hr => ⟨h1, j, h2, (ownFrom_below (β := Unit) (n₀ := w.heap.size) (w₀ := w3) (by have := HS3.out; omega) (B := W1.heap.size) (by have := HX.out; omega)) () X Y row h3 hg hr, R7.own (β := Unit) _ _ _ _ _ _ () X Y row h4 hg hr⟩)
    ⟨rfl, HB3.out, Nat.le_refl _, HR3.out⟩ ?_ ?_ ?_ ?_
  · rintro l pre x W K ⟨hp, hB, hsz', hR⟩ hK
    have HK := Lib.hid hK; have HP := Lib.hid hp; have HRW := Lib.hid hR; have HB := Lib.hid hB; have HS := Lib.hid hsz'
    clear hK hp hR hB hsz'
    unfold pairX
    gi_wp2
    have hb := (Below.refl W.heap.size W).alloc (Nat.le_refl _) (.cells #[.int .i64 (t.p.pair (x : Nat)).1.k, .int .i64 (t.p.pair (x : Nat)).1.n, .string (t.p.pair (x : Nat)).1.s, .int .i64 (t.p.pair (x : Nat)).2.k, .int .i64 (t.p.pair (x : Nat)).2.n, .string (t.p.pair (x : Nat)).2.s] 135)
    have hx := HX.out; have hs := HS.out
    refine HK.out _ _ (keepsFrom_below hb) (keepG_below hb (fun q hq => Nat.lt_of_lt_of_le (hGl q hq) HS.out)) ⟨HP.out, HB.out.trans (hb.mono (by have := HX.out; have := HS.out; omega)), Nat.le_trans HS.out hb.size, HRW.out.keep (hb.block _ (by omega)) (hb.block _ (by omega)) (hb.block _ (by omega))⟩ ⟨W.heap.size, ⟨HS.out, heap_alloc_new W _⟩, by rfl⟩
  · rintro l pre x a' W ⟨rfl, hB, hsz', hR⟩ ⟨q, hq, rfl⟩ hlt
    have hxx := HX.out
    have hq1 := hq.1
    have HQ := Lib.hid hq; have HB := Lib.hid hB; have HR := Lib.hid hR; have HS := Lib.hid hsz'
    unfold pairX
    obtain ⟨c0, c1, c2, c3, c4, c5⟩ := hq.c6
    simp only [Nat.zero_add] at c1 c2 c3 c4 c5
    obtain ⟨a0, a1, a2, b0, b1, b2, e0, fa, fb, fe⟩ := hR.cells
    have fa0 := fa 0; have fa1 := fa 1; have fa2 := fa 2; have fb0 := fb 0; have fb1 := fb 1; have fb2 := fb 2; have fe0 := fe 0
    have n1 : ¬ q = w.heap.size + 1 := by omega
    have n2 : ¬ q = w.heap.size + 1 + 1 := by omega
    have n3 : ¬ q = w.heap.size + 1 + 1 + 1 := by omega
    have n12 : ¬ w.heap.size + 1 = w.heap.size + 1 + 1 := by omega
    have n13 : ¬ w.heap.size + 1 = w.heap.size + 1 + 1 + 1 := by omega
    have n23 : ¬ w.heap.size + 1 + 1 = w.heap.size + 1 + 1 + 1 := by omega
    have HLW : Hid (∀ z, z = w.heap.size + 1 ∨ z = w.heap.size + 1 + 1 ∨ z = w.heap.size + 1 + 1 + 1 → w.heap.size ≤ z ∧ z < W1.heap.size) := Lib.hid (fun z hz => by rcases hz with h | h | h <;> omega)
    have HKPB : Hid (∀ Y : World, Kp (fun z => z = w.heap.size + 1 ∨ z = w.heap.size + 1 + 1 ∨ z = w.heap.size + 1 + 1 + 1) W Y → KeepsFrom W1.heap.size W Y ∧ Below w.heap.size w3 Y) := Lib.hid (fun Y hk => by
      refine ⟨keepsFrom_kp hk (fun z hz => (HLW.out z hz).2), ?_⟩
      exact ⟨hk.os.trans HB.out.os, hk.tape.trans HB.out.tape, hk.output.trans HB.out.output, Nat.le_trans HB.out.size hk.size, fun z hz => (hk.block z (Nat.lt_of_lt_of_le hz (by have := HX.out; have := HS.out; omega)) (fun e => by have := (HLW.out z e).1; omega)).trans (HB.out.block z hz)⟩)
    have HRF := Lib.hid hR.cells
    have HNN := Lib.hid (And.intro n12 (And.intro n13 n23))
    clear fa fb fe hq hB hR hlt hsz' hxx hq1
    generalize w.heap.size + 1 + 1 + 1 = r3 at *
    generalize w.heap.size + 1 + 1 = r2 at *
    generalize w.heap.size + 1 = r1 at *
    have m1 : ¬ r1 = q := fun e => n1 e.symm
    have m2 : ¬ r2 = q := fun e => n2 e.symm
    have m3 : ¬ r3 = q := fun e => n3 e.symm
    have m12 : ¬ r2 = r1 := fun e => n12 e.symm
    have m13 : ¬ r3 = r1 := fun e => n13 e.symm
    have m23 : ¬ r3 = r2 := fun e => n23 e.symm
    obtain ⟨z, hz⟩ : ∃ z, t.p.pair ((x : Nat) : Int) = z := ⟨_, rfl⟩
    rw [hz] at c0 c1 c2 c3 c4 c5
    have HZ := Lib.hid hz
    obtain ⟨⟨yk, yn, ys⟩, ⟨zk, zn, zs⟩⟩ := z
    dsimp only at c0 c1 c2 c3 c4 c5
    gi_wp2
    gi_region
    all_goals gi_wp2
    all_goals refine ⟨(HKPB.out _ ?_).1, rfl, x, rfl, (HKPB.out _ ?_).2, ?_⟩
    all_goals first
      | (rw [HZ.out]; with_reducible exact (R7.set HRF.out HNN.out.1 HNN.out.2.1 HNN.out.2.2 yk yn ys zk zn zs 0).drewn)
      | (with_reducible exact (kp7 _ _ _ _ _ _ _ _ _ _ _).drewn)
  · rintro D W hD ⟨hnil, hB, hsz', hR⟩ hK
    obtain ⟨a0, a1, a2, b0, b1, b2, e0, fa, fb, fe⟩ := hR.cells
    have fa0 := fa 0; have fa1 := fa 1; have fa2 := fa 2; have fb0 := fb 0; have fb1 := fb 1; have fb2 := fb 2; have fe0 := fe 0
    have hx := HX.out
    have HHK := Lib.hid hK; have HB := Lib.hid hB; have HRF := Lib.hid hR.cells; have HSW := Lib.hid hsz'
    have HNX : Hid (t.p.pair ((t.p.nx lo : Nat) : Int) = (⟨0, 0, ⟨#[]⟩⟩, ⟨0, 0, ⟨#[]⟩⟩)) := Lib.hid (by
      have e : t.p.nx lo = 0 := by unfold PT.nx; rw [hnil]; rfl
      rw [e]; exact pair_zero)
    clear hB hR hnil hK
    gi_wp2
    have hkp := kp7 W (w.heap.size + 1) (w.heap.size + 1 + 1) (w.heap.size + 1 + 1 + 1) (.int .i64 0) (.int .i64 0) (.string ⟨#[]⟩) (.int .i64 0) (.int .i64 0) (.string ⟨#[]⟩) (.int .i64 0)
    have hdd := (hkp.block D (Array.getElem?_eq_some_iff.1 HHK.out).1 (by omega)).trans HHK.out
    have hbb := (below_kpHi HB.out hkp (fun z hz => by omega) (by have := HSW.out; omega)).trans (belowK_b (w := w) (Nat.le_refl _) _ D _ (.deferred none) (by omega) hdd rfl rfl)
    have hr7 := R7.set HRF.out (show ¬ w.heap.size + 1 = w.heap.size + 1 + 1 by omega) (show ¬ w.heap.size + 1 = w.heap.size + 1 + 1 + 1 by omega) (show ¬ w.heap.size + 1 + 1 = w.heap.size + 1 + 1 + 1 by omega) 0 0 ⟨#[]⟩ 0 0 ⟨#[]⟩ 0
    exact next_end _ D (w.heap.size + 1) (w.heap.size + 1 + 1) (w.heap.size + 1 + 1 + 1) _ _ (⟨0, 0, ⟨#[]⟩⟩, ⟨0, 0, ⟨#[]⟩⟩) 0 rfl rfl rfl hr7 hdd ⟨by omega, by omega, by omega⟩ ⟨by rw [HNX.out], HFIN.out _ hbb⟩
  · rintro D c pre W hD ⟨k, hk, hf, rfl⟩ ⟨rfl, j, hj, hB, hR⟩ hK
    have hx := HX.out
    have HHK := Lib.hid hK; have HB := Lib.hid hB; have HRR := Lib.hid hR
    have HNX : Hid (t.p.nx lo = j) := Lib.hid (nx_of (by have := HLT.out; omega) hk hf hj)
    clear hB hR hj hK
    gi_wp2
    refine next_end W D (w.heap.size + 1) (w.heap.size + 1 + 1) (w.heap.size + 1 + 1 + 1) _ _ (t.p.pair ((j : Nat) : Int)) 0 rfl rfl rfl HRR.out HHK.out ⟨by omega, by omega, by omega⟩ ⟨by rw [HNX.out], HFIN.out _ (HB.out.trans (belowK_b (w := w) (Nat.le_refl _) W D _ _ (by omega) HHK.out rfl rfl))⟩
end Go.Proofs.YteheolefemlcgaaGreat
