/- A table: Pair of any place. -/
import Derived.Test.YteheolefemlcgaaGreatPlaA
namespace Go.Proofs.YteheolefemlcgaaGreat
open Go.RowKit
set_option linter.unusedVariables false
set_option linter.unusedSimpArgs false

set_option maxRecDepth 100000 in
set_option maxHeartbeats 800000 in
/-- Pair below the first place. -/
theorem tab_Pair_low (a : Nat) (i : Int) (hi : i < 1) (w : World) : Calls Tryz.prog 21 #[.pointer (some ⟨a, 0, none⟩), .int .i64 i] w fun e w' => e = .returned (.tuple #[vagg nilV, vagg nilV]) ∧ Below w.heap.size w w' := by
  have d1 : decide (i < 1) = true := by simpa using hi
  have hb2 := Lib.hid (((Below.refl w.heap.size w).alloc (Nat.le_refl _) (.cells #[.int .i64 0, .int .i64 0, .string ⟨#[]⟩] 35)).alloc (by simp) (.cells #[.int .i64 0, .int .i64 0, .string ⟨#[]⟩] 35))
  unfold vagg nilV
  clear hi
  go_enter Tryz.func21, Tryz.ntmps21
  go_wp2
  exact bodyPost_ret (v := .tuple #[.agg #[.int .i64 0, .int .i64 0, .string ⟨#[]⟩], .agg #[.int .i64 0, .int .i64 0, .string ⟨#[]⟩]]) (by simp [results, Tryz.results21, go_sem, cell_set_self, *]) rfl ⟨rfl, hb2.out⟩
theorem Kp.drewn {F : Nat → Prop} {a b : World} (h : Kp F a b) : Kp F a b.drew := ⟨h.os, h.tape, h.output, h.size, h.block⟩
theorem C7.over {w : World} {a : Nat} {k v : V} {x : Int} (H : C7 w a 0 k v x) (kk kn : Int) (ks : ByteArray) (vk vn : Int) (vs : ByteArray) (nx : Int) : C7 (((((((w.setCell ⟨a, 0, none⟩ (.int .i64 kk)).setCell ⟨a, 1, none⟩ (.int .i64 kn)).setCell ⟨a, 2, none⟩ (.string ks)).setCell ⟨a, 3, none⟩ (.int .i64 vk)).setCell ⟨a, 4, none⟩ (.int .i64 vn)).setCell ⟨a, 5, none⟩ (.string vs)).setCell ⟨a, 6, none⟩ (.int .i64 nx)) a 0 ⟨kk, kn, ks⟩ ⟨vk, vn, vs⟩ nx := by
  have h0 := H.c0; have h1 := H.c1; have h2 := H.c2; have h3 := H.c3; have h4 := H.c4; have h5 := H.c5; have h6 := H.c6
  simp only [Nat.zero_add] at h1 h2 h3 h4 h5 h6
  refine ⟨?_, ?_, ?_, ?_, ?_, ?_, ?_, fun i => by simp only [frozen_set]; exact H.fz i, by simp only [sz_set]; exact H.lt⟩
  · rw [cell_other _ _ _ _ _ (by omega), cell_other _ _ _ _ _ (by omega), cell_other _ _ _ _ _ (by omega), cell_other _ _ _ _ _ (by omega), cell_other _ _ _ _ _ (by omega), cell_other _ _ _ _ _ (by omega), cell_set_self, h0]; rfl
  · show World.cell? _ ⟨a, 1, none⟩ = _
    rw [cell_other _ _ _ _ _ (by omega), cell_other _ _ _ _ _ (by omega), cell_other _ _ _ _ _ (by omega), cell_other _ _ _ _ _ (by omega), cell_other _ _ _ _ _ (by omega), cell_set_self, cell_other _ _ _ _ _ (by omega), h1]; rfl
  · show World.cell? _ ⟨a, 2, none⟩ = _
    rw [cell_other _ _ _ _ _ (by omega), cell_other _ _ _ _ _ (by omega), cell_other _ _ _ _ _ (by omega), cell_other _ _ _ _ _ (by omega), cell_set_self, cell_other _ _ _ _ _ (by omega), cell_other _ _ _ _ _ (by omega), h2]; rfl
  · show World.cell? _ ⟨a, 3, none⟩ = _
    rw [cell_other _ _ _ _ _ (by omega), cell_other _ _ _ _ _ (by omega), cell_other _ _ _ _ _ (by omega), cell_set_self, cell_other _ _ _ _ _ (by omega), cell_other _ _ _ _ _ (by omega), cell_other _ _ _ _ _ (by omega), h3]; rfl
  · show World.cell? _ ⟨a, 4, none⟩ = _
    rw [cell_other _ _ _ _ _ (by omega), cell_other _ _ _ _ _ (by omega), cell_set_self, cell_other _ _ _ _ _ (by omega), cell_other _ _ _ _ _ (by omega), cell_other _ _ _ _ _ (by omega), cell_other _ _ _ _ _ (by omega), h4]; rfl
  · show World.cell? _ ⟨a, 5, none⟩ = _
    rw [cell_other _ _ _ _ _ (by omega), cell_set_self, cell_other _ _ _ _ _ (by omega), cell_other _ _ _ _ _ (by omega), cell_other _ _ _ _ _ (by omega), cell_other _ _ _ _ _ (by omega), cell_other _ _ _ _ _ (by omega), h5]; rfl
  · show World.cell? _ ⟨a, 6, none⟩ = _
    rw [cell_set_self, cell_other _ _ _ _ _ (by omega), cell_other _ _ _ _ _ (by omega), cell_other _ _ _ _ _ (by omega), cell_other _ _ _ _ _ (by omega), cell_other _ _ _ _ _ (by omega), cell_other _ _ _ _ _ (by omega), h6]; rfl
set_option maxRecDepth 100000 in
set_option maxHeartbeats 500000 in
/-- Pair behind the slots, by what At says. -/
theorem tab_Pair_at (a s b g hp : Nat) (t : Tbl) (hz : t.p.sn ≤ 65536) (i : Int) (h1 : 1 ≤ i) (h2 : (t.p.sn : Int) < i) (h3 : i ≤ 200000) (k v : V) (nx : Int)
    (hat : ∀ w, NdIn w b g t.p.h → Calls Tryz.prog 70 #[.pointer (some ⟨b, 0, none⟩), .int .i64 (i - 1 - t.p.sn)] w fun e w' => e = .returned (.agg #[.int .i64 k.k, .int .i64 k.n, .string k.s, .int .i64 v.k, .int .i64 v.n, .string v.s, .int .i64 nx]) ∧ Below w.heap.size w w')
    (w : World) (H : TabIn w a s b g hp t) : Calls Tryz.prog 21 #[.pointer (some ⟨a, 0, none⟩), .int .i64 i] w fun e w' => e = .returned (.tuple #[vagg k, vagg v]) ∧ Below w.heap.size w w' := by
  have HI := Lib.hid H
  obtain ⟨n, hn⟩ : ∃ n, t.p.sn = n := ⟨_, rfl⟩
  have HN := Lib.hid hn
  rw [hn] at hz h2
  have e0 : IntKind.i64.wrap (IntKind.i64.wrap (i - 1) - (n : Int)) = i - 1 - (n : Int) := by rw [Go.IntWalk.i64_in (i - 1) (by omega), Go.IntWalk.i64_in _ (by omega)]
  rw [hn, ← e0] at hat
  clear e0
  have HAT := Lib.hid hat
  obtain ⟨kk, kn, ks⟩ := k
  obtain ⟨vk, vn, vs⟩ := v
  have d0 : decide (i < 1) = false := by simp; omega
  have d1 : decide (i ≤ (n : Int)) = false := by simp; omega
  have hb2 := ((Below.refl w.heap.size w).alloc (Nat.le_refl _) (.cells #[.int .i64 0, .int .i64 0, .string ⟨#[]⟩] 35)).alloc (by simp) (.cells #[.int .i64 0, .int .i64 0, .string ⟨#[]⟩] 35)
  have HBa := Lib.hid hb2
  have HSZ := Lib.hid (show ((w.alloc (.cells #[.int .i64 0, .int .i64 0, .string ⟨#[]⟩] 35)).alloc (.cells #[.int .i64 0, .int .i64 0, .string ⟨#[]⟩] 35)).heap.size = w.heap.size + 2 by simp)
  have HR0 := Lib.hid ((C3.new w 0 0 ⟨#[]⟩).alloc (.cells #[.int .i64 0, .int .i64 0, .string ⟨#[]⟩] 35))
  have HR1 := Lib.hid (C3.new (w.alloc (.cells #[.int .i64 0, .int .i64 0, .string ⟨#[]⟩] 35)) 0 0 ⟨#[]⟩)
  have hI := (H.below hb2)
  have c0 := hI.pt.c0
  rw [hn] at c0
  clear H hat hn hb2 hI
  unfold vagg
  dsimp only
  go_enter Tryz.func21, Tryz.ntmps21
  go_wp2
  simp only [World.size_alloc] at HR1
  generalize (w.alloc (.cells #[.int .i64 0, .int .i64 0, .string ⟨#[]⟩] 35)).alloc (.cells #[.int .i64 0, .int .i64 0, .string ⟨#[]⟩] 35) = wa at HBa HSZ HR0 HR1 c0 ⊢
  have HIA := Lib.hid (HI.out.below HBa.out)
  have HC0 := Lib.hid c0
  clear c0
  have STP : Hid (∀ u : World, Below wa.heap.size wa u → u.cell? ⟨a, 0, none⟩ = some (.slice (some ⟨s, 0, none⟩) n n) ∧ u.cell? ⟨a, 1, none⟩ = some (.pointer (some ⟨b, 0, none⟩))) := Lib.hid (fun u hu => ⟨(hu.cell (p := ⟨a, 0, none⟩) HIA.out.pt.la).trans HC0.out, (hu.cell (p := ⟨a, 1, none⟩) HIA.out.pt.la).trans HIA.out.pt.c1⟩)
  have HD : Hid (Below wa.heap.size wa wa.drew) := Lib.hid ((Below.refl _ wa).drew)
  have HDA : Hid (∀ o, Below wa.heap.size wa (wa.alloc o).drew) := Lib.hid (fun o => ((Below.refl _ wa).alloc (Nat.le_refl _) o).drew)
  have HS1 := Lib.hid (STP.out _ HD.out)
  have HPC7 : Hid (C7 (wa.alloc (.cells #[.int .i64 0, .int .i64 0, .string ⟨#[]⟩, .int .i64 0, .int .i64 0, .string ⟨#[]⟩, .int .i64 0] 44)).drew wa.heap.size 0 ⟨0, 0, ⟨#[]⟩⟩ ⟨0, 0, ⟨#[]⟩⟩ 0) := Lib.hid ((C7.new wa ⟨0, 0, ⟨#[]⟩⟩ ⟨0, 0, ⟨#[]⟩⟩ 0).below (B := wa.heap.size + 1) ((Below.refl _ _).drew) (by omega))
  go_region_held3 (fun wq => wq.cell? ⟨a, 0, none⟩ = some (.slice (some ⟨s, 0, none⟩) n n) ∧ wq.cell? ⟨a, 1, none⟩ = some (.pointer (some ⟨b, 0, none⟩)))
    (first | (with_reducible exact HS1.out) | (with_reducible assumption) | (with_reducible exact STP.out _ (HDA.out _)) | (with_reducible exact STP.out _ HB2.out) | (with_reducible exact STP.out _ (HB2.out.alloc HB2.out.size _)) | (with_reducible refine STP.out _ (((((((HB2.out.setCell ?_ _).setCell ?_ _).setCell ?_ _).setCell ?_ _).setCell ?_ _).setCell ?_ _).setCell ?_ _) <;> exact Nat.le_refl _))
    (first
      | (go_at_call 70; (with_reducible refine (HAT.out wa.drew (HIA.out.pt.nd.belowM HD.out)).mono ?_); rintro e w2 ⟨rfl, hb2⟩; have HB2 := Lib.hid (HD.out.trans hb2); clear hb2)
      | (go_at_call 70; (with_reducible refine (HAT.out (wa.alloc _).drew (HIA.out.pt.nd.belowM (HDA.out _))).mono ?_); rintro e w2 ⟨rfl, hb2⟩; have HB2 := Lib.hid ((HDA.out _).trans (hb2.mono (HDA.out _).size)); have PC := Lib.hid (HPC7.out.below hb2 (by simp [go_sem])); obtain ⟨p0, p1, p2, p3, p4, p5, p6, pf, -⟩ := PC.out; simp only [Nat.zero_add] at p0 p1 p2 p3 p4 p5 p6; have pf0 := pf 0; have pf1 := pf 1; have pf2 := pf 2; have pf3 := pf 3; have pf4 := pf 4; have pf5 := pf 5; have pf6 := pf 6; clear hb2 pf))
  · have HBX := Lib.hid (HB2.out.alloc HB2.out.size (.cells #[.int .i64 kk, .int .i64 kn, .string ks, .int .i64 vk, .int .i64 vn, .string vs, .int .i64 nx] 44))
    have HCX := Lib.hid (C7.new w2 ⟨kk, kn, ks⟩ ⟨vk, vn, vs⟩ nx)
    have HQ : Hid (wa.heap.size ≤ w2.heap.size) := Lib.hid HB2.out.size
    rename_i hHeld
    clear hHeld
    dsimp only at HCX
    generalize (w2.alloc (.cells #[.int .i64 kk, .int .i64 kn, .string ks, .int .i64 vk, .int .i64 vn, .string vs, .int .i64 nx] 44)) = X at HBX HCX ⊢
    generalize w2.heap.size = q at HCX HQ ⊢
    have HRA := Lib.hid (HR0.out.below HBX.out (by have := HSZ.out; omega))
    have HRB := Lib.hid (HR1.out.below HBX.out (by have := HSZ.out; omega))
    have HBF : Hid (∀ Y : World, Kp (fun z => z = w.heap.size ∨ z = w.heap.size + 1) X Y → Below w.heap.size w Y) := Lib.hid (fun Y hk => by
      have hb := HBa.out.trans (HBX.out.mono (by have := HSZ.out; omega))
      exact ⟨hk.os.trans hb.os, hk.tape.trans hb.tape, hk.output.trans hb.output, Nat.le_trans hb.size hk.size, fun z hz => (hk.block z (Nat.lt_of_lt_of_le hz hb.size) (fun e => by omega)).trans (hb.block z hz)⟩)
    have q0 : ¬ q = w.heap.size := by have := HQ.out; have := HSZ.out; omega
    have q1 : ¬ q = w.heap.size + 1 := by have := HQ.out; have := HSZ.out; omega
    have u01 : ¬ w.heap.size = w.heap.size + 1 := by omega
    generalize w.heap.size + 1 = u1 at HRB HBF q1 u01 ⊢
    generalize hu0 : w.heap.size = u0 at HRA q0 u01 ⊢
    have HBG : Hid (∀ Y : World, Kp (fun z => z = u0 ∨ z = u1) X Y → Below w.heap.size w Y) := Lib.hid (fun Y hk => HBF.out Y (by rw [hu0]; exact hk))
    clear HBF
    have r0 : ¬ u0 = q := fun e => q0 e.symm
    have r1 : ¬ u1 = q := fun e => q1 e.symm
    have u10 : ¬ u1 = u0 := fun e => u01 e.symm
    obtain ⟨x0, x1, x2, xf, -⟩ := HRA.out
    obtain ⟨y0, y1, y2, yf, -⟩ := HRB.out
    simp only [Nat.zero_add] at x0 x1 x2 y0 y1 y2
    have xf0 := xf 0; have xf1 := xf 1; have xf2 := xf 2; have yf0 := yf 0; have yf1 := yf 1; have yf2 := yf 2
    clear xf yf hu0 HBX HSZ HQ
    obtain ⟨g0, g1, g2, g3, g4, g5, -, -, -⟩ := HCX.out
    dsimp only at g0 g1 g2 g3 g4 g5
    simp only [Nat.zero_add] at g1 g2 g3 g4 g5
    go_wp2
    go_region
    all_goals go_wp2
    all_goals refine bodyPost_ret (v := .tuple #[.agg #[.int .i64 kk, .int .i64 kn, .string ks], .agg #[.int .i64 vk, .int .i64 vn, .string vs]]) (by simp [results, Tryz.results21, go_sem, cell_set_self, *]) rfl ⟨rfl, HBG.out _ ?_⟩
    all_goals (repeat (first | (with_reducible exact Kp.refl _ _) | (with_reducible refine Kp.drewn ?_) | (with_reducible refine Kp.set ?_ _ (.inl (.inl rfl)) _) | (with_reducible refine Kp.set ?_ _ (.inl (.inr rfl)) _)))
  · have HBX := Lib.hid (((((((HB2.out.setCell (p := ⟨wa.heap.size, 0, none⟩) (Nat.le_refl _) (.int .i64 kk)).setCell (p := ⟨wa.heap.size, 1, none⟩) (Nat.le_refl _) (.int .i64 kn)).setCell (p := ⟨wa.heap.size, 2, none⟩) (Nat.le_refl _) (.string ks)).setCell (p := ⟨wa.heap.size, 3, none⟩) (Nat.le_refl _) (.int .i64 vk)).setCell (p := ⟨wa.heap.size, 4, none⟩) (Nat.le_refl _) (.int .i64 vn)).setCell (p := ⟨wa.heap.size, 5, none⟩) (Nat.le_refl _) (.string vs)).setCell (p := ⟨wa.heap.size, 6, none⟩) (Nat.le_refl _) (.int .i64 nx))
    have HCX := Lib.hid (PC.out.over kk kn ks vk vn vs nx)
    have HQ : Hid (wa.heap.size ≤ wa.heap.size) := Lib.hid (Nat.le_refl _)
    rename_i hHeld
    clear hHeld p0 p1 p2 p3 p4 p5 p6 pf0 pf1 pf2 pf3 pf4 pf5 pf6 PC HPC7
    obtain ⟨q, hqq⟩ : ∃ q, wa.heap.size = q := ⟨_, rfl⟩
    generalize (((((((w2.setCell ⟨wa.heap.size, 0, none⟩ (.int .i64 kk)).setCell ⟨wa.heap.size, 1, none⟩ (.int .i64 kn)).setCell ⟨wa.heap.size, 2, none⟩ (.string ks)).setCell ⟨wa.heap.size, 3, none⟩ (.int .i64 vk)).setCell ⟨wa.heap.size, 4, none⟩ (.int .i64 vn)).setCell ⟨wa.heap.size, 5, none⟩ (.string vs)).setCell ⟨wa.heap.size, 6, none⟩ (.int .i64 nx)) = X at HBX HCX ⊢
    rw [hqq] at HCX ⊢
    replace HQ : Hid (wa.heap.size ≤ q) := Lib.hid (by rw [hqq]; exact Nat.le_refl _)
    clear hqq
    have HRA := Lib.hid (HR0.out.below HBX.out (by have := HSZ.out; omega))
    have HRB := Lib.hid (HR1.out.below HBX.out (by have := HSZ.out; omega))
    have HBF : Hid (∀ Y : World, Kp (fun z => z = w.heap.size ∨ z = w.heap.size + 1) X Y → Below w.heap.size w Y) := Lib.hid (fun Y hk => by
      have hb := HBa.out.trans (HBX.out.mono (by have := HSZ.out; omega))
      exact ⟨hk.os.trans hb.os, hk.tape.trans hb.tape, hk.output.trans hb.output, Nat.le_trans hb.size hk.size, fun z hz => (hk.block z (Nat.lt_of_lt_of_le hz hb.size) (fun e => by omega)).trans (hb.block z hz)⟩)
    have q0 : ¬ q = w.heap.size := by have := HQ.out; have := HSZ.out; omega
    have q1 : ¬ q = w.heap.size + 1 := by have := HQ.out; have := HSZ.out; omega
    have u01 : ¬ w.heap.size = w.heap.size + 1 := by omega
    generalize w.heap.size + 1 = u1 at HRB HBF q1 u01 ⊢
    generalize hu0 : w.heap.size = u0 at HRA q0 u01 ⊢
    have HBG : Hid (∀ Y : World, Kp (fun z => z = u0 ∨ z = u1) X Y → Below w.heap.size w Y) := Lib.hid (fun Y hk => HBF.out Y (by rw [hu0]; exact hk))
    clear HBF
    have r0 : ¬ u0 = q := fun e => q0 e.symm
    have r1 : ¬ u1 = q := fun e => q1 e.symm
    have u10 : ¬ u1 = u0 := fun e => u01 e.symm
    obtain ⟨x0, x1, x2, xf, -⟩ := HRA.out
    obtain ⟨y0, y1, y2, yf, -⟩ := HRB.out
    simp only [Nat.zero_add] at x0 x1 x2 y0 y1 y2
    have xf0 := xf 0; have xf1 := xf 1; have xf2 := xf 2; have yf0 := yf 0; have yf1 := yf 1; have yf2 := yf 2
    clear xf yf hu0 HBX HSZ HQ
    obtain ⟨g0, g1, g2, g3, g4, g5, -, -, -⟩ := HCX.out
    dsimp only at g0 g1 g2 g3 g4 g5
    simp only [Nat.zero_add] at g1 g2 g3 g4 g5
    go_wp2
    go_region
    all_goals go_wp2
    all_goals refine bodyPost_ret (v := .tuple #[.agg #[.int .i64 kk, .int .i64 kn, .string ks], .agg #[.int .i64 vk, .int .i64 vn, .string vs]]) (by simp [results, Tryz.results21, go_sem, cell_set_self, *]) rfl ⟨rfl, HBG.out _ ?_⟩
    all_goals (repeat (first | (with_reducible exact Kp.refl _ _) | (with_reducible refine Kp.drewn ?_) | (with_reducible refine Kp.set ?_ _ (.inl (.inl rfl)) _) | (with_reducible refine Kp.set ?_ _ (.inl (.inr rfl)) _)))
theorem tab_Pair (a s b g hp : Nat) (t : Tbl) (hok : t.p.ok) (i : Int) (h3 : i ≤ 200000) (w : World) (H : TabIn w a s b g hp t) : Calls Tryz.prog 21 #[.pointer (some ⟨a, 0, none⟩), .int .i64 i] w fun e w' => e = .returned (.tuple #[vagg (t.p.pair i).1, vagg (t.p.pair i).2]) ∧ Below w.heap.size w w' := by
  unfold PT.pair
  by_cases h1 : i < 1
  · rw [if_pos h1]; exact tab_Pair_low a i h1 w
  · rw [if_neg h1]
    by_cases h2 : i ≤ t.p.sn
    · rw [if_pos h2]
      obtain ⟨j, hj⟩ : ∃ j : Nat, i = (j : Int) + 1 := ⟨(i - 1).toNat, by omega⟩
      subst hj
      rw [show ((j : Int) + 1 - 1).toNat = j by omega]
      exact tab_Pair_in a s b g hp t hok.sz j (by omega) _ rfl w H
    · rw [if_neg h2]
      have hz := hok.hg.sz
      by_cases h4 : i - 1 - t.p.sn < t.p.h.n
      · rw [if_pos h4]
        obtain ⟨j, hj⟩ : ∃ j : Nat, i - 1 - t.p.sn = (j : Int) := ⟨(i - 1 - t.p.sn).toNat, by omega⟩
        rw [hj, Int.toNat_natCast]
        exact tab_Pair_at a s b g hp t hok.sz i (by omega) (by omega) h3 _ _ _ (fun w hin => by rw [hj]; exact Nd_At b g t.p.h hz j (by omega) w hin) w H
      · rw [if_neg h4]
        exact tab_Pair_at a s b g hp t hok.sz i (by omega) (by omega) h3 nilV nilV 0 (fun w hin => Nd_At_no b g t.p.h hz _ (.inr (by omega)) w hin) w H
end Go.Proofs.YteheolefemlcgaaGreat
