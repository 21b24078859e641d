/- HeapMemory: operations are kept, answers are new memory. -/
import Derived.Test.YtfhigeefclchiaaLaw06f
namespace Go.Proofs.Ytfhigeefclchiaa
open Go.RowKit Go.Maps
set_option linter.unusedVariables false
set_option linter.unusedSimpArgs false

def playG (lim : Int) (l : List (Int × Int)) : List (Int × Int × Int × Int) := if playE lim l = 0 then (HS.new lim).gots l else []
def playB (lim : Int) (l : List (Int × Int)) : List Int := if playE lim l = 0 then ((HS.new lim).run l).blocks else []
theorem Play_any (lim : Int) (l : List (Int × Int)) (v : Value) (w : World) (hl : l.length ≤ 17592186044416) (hv : POps w v l) (hN : ∀ j, In64 (opN l j)) (E : Int) (hE : playE lim l = E) (gs : List (Int × Int × Int × Int)) (hgs : playG lim l = gs) (bl : List Int) (hbl : playB lim l = bl) : Calls Try.prog 29 #[.int .i64 lim, v] w fun e w' => ∃ gv bv, e = .returned (.tuple #[gv, bv, .int .i64 E]) ∧ w'.ownsRow w.heap.size 52 4 gv gs.length (gotCells gs) ∧ w'.ownsRow w.heap.size 3 1 bv bl.length (bl.map (Value.int .i64)) ∧ (gv.ownBlock = none ∨ gv.ownBlock ≠ bv.ownBlock) ∧ Below w.heap.size w w' := by
  unfold playG at hgs
  unfold playB at hbl
  by_cases h0 : E = 0
  · subst h0
    rw [if_pos hE] at hgs hbl
    subst hgs hbl
    refine (Play_ok lim l v w hv hN hE).mono ?_
    rintro e w' ⟨gv, bv, h1, h2, h3, h4, h5⟩
    exact ⟨gv, bv, h1, by rw [HS.gots_len]; exact h2, h3, h4, h5⟩
  · rw [if_neg (by rw [hE]; exact h0)] at hgs hbl
    subst hgs hbl
    refine (Play_no lim l v w hl hv E hE h0).mono ?_
    rintro e w' ⟨h1, h5⟩
    exact ⟨nilSl, nilSl, h1, World.ownsRow_nil _ _ _ _, World.ownsRow_nil _ _ _ _, .inl rfl, h5⟩
theorem RPlay_any (lim : Int) (l : List (Int × Int)) (v : Value) (w : World) (hl : l.length ≤ 17592186044416) (hv : POps w v l) (hN : ∀ j, In64 (opN l j)) (E : Int) (hE : playE lim l = E) (gs : List (Int × Int × Int × Int)) (hgs : playG lim l = gs) (bl : List Int) (hbl : playB lim l = bl) : Calls Try.prog 31 #[.int .i64 lim, v] w fun e w' => ∃ gv bv, e = .returned (.tuple #[gv, bv, .int .i64 E]) ∧ w'.ownsRow w.heap.size 78 4 gv gs.length (gotCells gs) ∧ w'.ownsRow w.heap.size 3 1 bv bl.length (bl.map (Value.int .i64)) ∧ Below w.heap.size w w' := by
  unfold playG at hgs
  unfold playB at hbl
  by_cases h0 : E = 0
  · subst h0
    rw [if_pos hE] at hgs hbl
    subst hgs hbl
    refine (RPlay_ok lim l v w hv hN hE).mono ?_
    rintro e w' ⟨gv, bv, h1, h2, h3, h5⟩
    exact ⟨gv, bv, h1, by rw [HS.gots_len]; exact h2, h3, h5⟩
  · rw [if_neg (by rw [hE]; exact h0)] at hgs hbl
    subst hgs hbl
    refine (RPlay_no lim l v w hl hv E hE h0).mono ?_
    rintro e w' ⟨h1, h5⟩
    exact ⟨nilSl, nilSl, h1, World.ownsRow_nil _ _ _ _, World.ownsRow_nil _ _ _ _, h5⟩
theorem play_small (lim : Int) (l : List (Int × Int)) : (playG lim l).length ≤ 1000000 ∧ (playB lim l).length ≤ 1000000 := by
  unfold playG playB
  by_cases h0 : playE lim l = 0
  · rw [if_pos h0, if_pos h0, HS.gots_len]
    have hlen := playE_len h0
    refine ⟨by omega, ?_⟩
    rw [run_all]
    exact Nat.le_trans (HS.blocks_len _) (new_len lim l _ (Nat.le_refl _) hlen)
  · rw [if_neg h0, if_neg h0]; exact ⟨by simp, by simp⟩
theorem row_any4 {w : World} {base e size n : Nat} {v : Value} {xs : List Value} (h : w.ownsRow base e size v n xs) : ∃ A c, v = .slice A n c ∧ (0 < n → ∃ g, A = some ⟨g, 0, none⟩ ∧ base ≤ g ∧ g < w.heap.size) := by
  rcases h.2 with ⟨e, h0⟩ | ⟨g, cap, cur, e, hb, hg, hn, hc, hs, ht⟩
  · exact ⟨none, 0, by rw [e, h0], fun h => by omega⟩
  · exact ⟨some ⟨g, 0, none⟩, cap, e, fun _ => ⟨g, rfl, hb, (Array.getElem?_eq_some_iff.1 hg).1⟩⟩
/-- The row of operations with one more at its end, cut. -/
theorem pops_cut {w : World} {base g c : Nat} {l : List (Int × Int)} {x : Int × Int} (h : w.ownsRow base 49 2 (.slice (some ⟨g, 0, none⟩) (l.length + 1) c) (l.length + 1) (blkCells (l ++ [x]))) :
    POps w (.slice (some ⟨g, 0, none⟩) l.length c) l ∧ l.length + 1 ≤ c ∧ (∀ j, j < l.length → w.cell? ⟨g, j * 2, none⟩ = some (.int .i64 (opK l j)) ∧ w.cell? ⟨g, j * 2 + 1, none⟩ = some (.int .i64 (opN l j))) ∧ w.cell? ⟨g, l.length * 2, none⟩ = some (.int .i64 x.1) ∧ w.cell? ⟨g, l.length * 2 + 1, none⟩ = some (.int .i64 x.2) ∧ g < w.heap.size := by
  have hl : (l ++ [x]).length = l.length + 1 := by simp
  have hc : ∀ j, j < l.length → w.cell? ⟨g, j * 2, none⟩ = some (.int .i64 (opK l j)) ∧ w.cell? ⟨g, j * 2 + 1, none⟩ = some (.int .i64 (opN l j)) := fun j hj => by
    have h1 := blkCells_at (l ++ [x]) j (by omega)
    rw [RS.cel_app, RS.giv_app, if_neg (by omega), if_neg (by omega)] at h1
    exact ⟨(h.cellAt _ (by omega)).trans h1.1, (h.cellAt _ (by omega)).trans h1.2⟩
  have h2 := blkCells_at (l ++ [x]) l.length (by omega)
  rw [RS.cel_app, RS.giv_app, if_pos rfl, if_pos rfl] at h2
  have hlt := (h.lt g rfl).2
  refine ⟨⟨_, c, rfl, fun h0 => ⟨g, 0, rfl, hlt, fun j hj => by rw [Nat.zero_add]; exact hc j hj⟩⟩, ?_, hc, (h.cellAt _ (by omega)).trans h2.1, (h.cellAt _ (by omega)).trans h2.2, hlt⟩
  rcases h.2 with ⟨e, h0⟩ | ⟨g', cap, cur, e, hb, hg, hn, hc, hs, ht⟩
  · omega
  · have := congrArg (fun v => match v with | Value.slice _ _ c => c | _ => 0) e
    simp at this
    omega
theorem mem_given {wf w1 w2 : World} {ov v2 : Value} {l : List (Int × Int)} (hB1 : Below wf.heap.size wf w1) (ho : w1.ownsRow wf.heap.size 49 2 ov l.length (blkCells l)) (hown2 : w2.ownsRow wf.heap.size 49 2 v2 (l.length + 1) (blkCells l ++ [.int .i64 9, .int .i64 9])) (hg2 : (w1.alloc (.cells #[.int .i64 9, .int .i64 9] 49)).grownBy w2 ov.ownBlock) :
    ∃ g c, v2 = .slice (some ⟨g, 0, none⟩) (l.length + 1) c ∧ (l.length : Int) ≤ (c : Int) ∧ Hid (Below wf.heap.size wf w2) ∧ Hid (POps w2 (.slice (some ⟨g, 0, none⟩) l.length c) l) ∧ Hid (∀ j, j < l.length → w2.cell? ⟨g, j * 2, none⟩ = some (.int .i64 (opK l j)) ∧ w2.cell? ⟨g, j * 2 + 1, none⟩ = some (.int .i64 (opN l j))) ∧ Hid (w2.cell? ⟨g, l.length * 2, none⟩ = some (.int .i64 9)) ∧ Hid (w2.cell? ⟨g, l.length * 2 + 1, none⟩ = some (.int .i64 9)) ∧ Hid (g < w2.heap.size) := by
  obtain ⟨g, c, rfl, -⟩ := row_form hown2
  have h2 : w2.ownsRow wf.heap.size 49 2 (.slice (some ⟨g, 0, none⟩) (l.length + 1) c) (l.length + 1) (blkCells (l ++ [(9, 9)])) := by rw [blkCells_app]; exact hown2
  obtain ⟨hp2, hcc, hcell, c9, c99, hgl⟩ := pops_cut h2
  exact ⟨g, c, rfl, by omega, Lib.hid ((hB1.alloc hB1.size (.cells #[.int .i64 9, .int .i64 9] 49)).grown hg2 (by have := hB1.size; simp [go_sem]; omega) (fun q e => (ho.lt q e).1)), Lib.hid hp2, Lib.hid hcell, Lib.hid c9, Lib.hid c99, Lib.hid hgl⟩
set_option maxRecDepth 100000 in
set_option maxHeartbeats 6400000 in
theorem walk_HeapMemory (lim : Int) (l0 : List (Int × Int)) (v : Value) (w : World) (hv : OSA w v l0) : Calls Try.prog 11 #[.int .i64 lim, v] w fun e w' => e = .returned (.bool true) ∧ Below w.heap.size w w' := by
  obtain ⟨i0, hi, hz0, hz1, hz2⟩ := info_parts Try.infoOp
  have hu49 := Try.underlying49
  have HV := Lib.hid hv
  have HN := Lib.hid (few_in64 hv)
  have hl0 := hv.len
  have hfl := fewL_len l0
  have hl8 : (fewL l0).length ≤ 8796093022206 := by
    unfold fewL
    have := hv.2.2.2
    split
    · rw [List.length_take]; omega
    · omega
  obtain ⟨E, hE⟩ : ∃ E, playE lim (fewL l0) = E := ⟨_, rfl⟩
  obtain ⟨gs, hgs⟩ : ∃ gs, playG lim (fewL l0) = gs := ⟨_, rfl⟩
  obtain ⟨bl, hbl⟩ : ∃ bl, playB lim (fewL l0) = bl := ⟨_, rfl⟩
  have hsm := play_small lim (fewL l0)
  rw [hgs, hbl] at hsm
  obtain ⟨hsm1, hsm2⟩ := hsm
  obtain ⟨l, hl⟩ : ∃ l, fewL l0 = l := ⟨_, rfl⟩
  rw [hl] at HN hl8 hE hgs hbl
  have HL := Lib.hid hl
  have HE := Lib.hid hE; have GS := Lib.hid hgs; have BL := Lib.hid hbl
  have L8 : Hid (l.length ≤ 8796093022207) := Lib.hid (by omega)
  have L9 : Hid (l.length ≤ 17592186044416) := Lib.hid (by omega)
  have B2 : Hid (bl.length ≤ 17592186044416) := Lib.hid (by omega)
  have G2 : Hid (gs.length ≤ 1000000) := Lib.hid hsm1
  have hlI : (l.length : Int) ≤ 9223372036854775806 := by omega
  have hb16 : (l.length + 1) * 16 ≤ 140737488355328 := by omega
  have lw : IntKind.i64.wrap (l.length : Int) = (l.length : Int) := by rw [IntKind.wrap_i64]; omega
  have lt1 : (l.length : Int) < (l.length : Int) + 1 := by omega
  clear hl hl0 hfl hE hgs hbl hv
  go_enter Try.func11, Try.ntmps11
  go_wp2_with (first
    | (go_at_call 32; (with_reducible refine (law06_fixed _).mono ?_); rintro e wf ⟨rfl, hbf⟩; have HBF := Lib.hid hbf; clear hbf)
    | (go_at_call 28; (with_reducible refine (few_c v l0 w HV.out _).mono ?_); rintro e w0 ⟨v', rfl, hp, rfl⟩; have HP0 := Lib.hid (hp w HV.out.2.1); rw [HL.out] at HP0; have HP := Lib.hid (HP0.out.below HBF.out); clear hp; obtain ⟨A, ca, ev, hA⟩ := HP0.out; subst ev; have HA := Lib.hid hA; clear hA)
    | (go_at_call 30; (with_reducible refine (ops_c (.slice A l.length ca) l wf L8.out HP.out).mono ?_); rintro e w1 ⟨ov, rfl, ho, hb1⟩; have HO := Lib.hid ho; have HB1 := Lib.hid hb1; clear ho hb1)
    | (at_builtin; refine wpList_append_own_at _ rfl (Operand.tmp 23) (Operand.tmp 25) 41 rfl wf.heap.size 49 i0 _ 2 16 Try.underlying41 hi hz0 hz1 hz2 rfl (by decide) ov l.length (blkCells l) (by simp [Act.eval, Act.put]) (ownsRow_below HO.out ((Below.refl _ w1).alloc (Nat.le_refl _) (.cells #[.int .i64 9, .int .i64 9] 49))) ⟨w1.heap.size, 0, none⟩ 1 1 [.int .i64 9, .int .i64 9] (by simp [Act.eval, Act.put]) rfl (fun q u hq => by match q, hq with | 0, hq => (simp at hq; subst hq; simp [Addr.add, go_sem]) | 1, hq => (simp at hq; subst hq; simp [Addr.add, go_sem])) (fun u hu => by simp at hu; rcases hu with rfl | rfl <;> rfl) (by unfold maxLen; omega) hb16 (by have := HB1.out.size; simp [go_sem]; omega) ?_; intro v2 w2 hown2 hg2 hn2 hat2; obtain ⟨g, c, rfl, hcI, HB2, HP2, HCELL, C9, C99, HGL⟩ := mem_given HB1.out HO.out hown2 hg2; clear hown2 hg2 hn2 hat2)
    | (go_at_call 29; (with_reducible refine (Play_any lim l (.slice (some ⟨g, 0, none⟩) l.length c) w2 L9.out HP2.out HN.out E HE.out gs GS.out bl BL.out).mono ?_); rintro e w3 ⟨av, xv, rfl, ha, hx, hne, hb3⟩; have HA3 := Lib.hid ha; have HX3 := Lib.hid hx; have HNE := Lib.hid hne; have HB3 := Lib.hid hb3; have HP3 := Lib.hid (HP2.out.below hb3); clear ha hx hne hb3)
    | (go_at_call 29; (with_reducible refine (Play_any lim l (.slice (some ⟨g, 0, none⟩) l.length c) w3 L9.out HP3.out HN.out E HE.out gs GS.out bl BL.out).mono ?_); rintro e w4 ⟨bv, yv, rfl, hb, hy, -, hb4⟩; have HBV := Lib.hid hb; have HYV := Lib.hid hy; have HB4 := Lib.hid hb4; have HPR := Lib.hid ((HP.out.below HB2.out).below (below_step HB3.out hb4)); clear hb hy hb4)
    | (go_at_call 31; (with_reducible refine (RPlay_any lim l (.slice A l.length ca) w4 L9.out HPR.out HN.out E HE.out gs GS.out bl BL.out).mono ?_); rintro e w5 ⟨wv, zv, rfl, hw, hz, hb5⟩; have HWV := Lib.hid hw; have HZV := Lib.hid hz; have HB5 := Lib.hid hb5; have S1 := Lib.hid (grow_of_row rfl (ownsRow_below (ownsRow_below HA3.out HB4.out) hb5)); have S2 := Lib.hid (grow_of_row rfl hw); have I1 := Lib.hid (IS.of_row (zs := bl) (ownsRow_below (ownsRow_below HX3.out HB4.out) hb5)); have I2 := Lib.hid (IS.of_row (zs := bl) hz); clear hw hz hb5)
    | (go_at_call 33; (with_reducible refine (same_c _ _ gs w5 G2.out S1.out S2.out).mono ?_); rintro e w6 ⟨rfl, hb6⟩; have HB6 := Lib.hid hb6; clear hb6)
    | (go_at_call 19; (with_reducible refine (SameInts _ _ bl bl true (by simp) w6 B2.out B2.out (I1.out.below HB6.out) (I2.out.below HB6.out)).mono ?_); rintro e w7 ⟨rfl, hb7⟩; have HB7 := Lib.hid hb7; have HB27 := Lib.hid (below_step (below_step (below_step (below_step HB3.out HB4.out) HB5.out) HB6.out) hb7); have c9' := ((HB27.out).cell (p := ⟨g, l.length * 2, none⟩) HGL.out).trans C9.out; have c99' := ((HB27.out).cell (p := ⟨g, l.length * 2 + 1, none⟩) HGL.out).trans C99.out; clear hb7))
  have HW7 := Lib.hid (below_step (below_step HBF.out HB2.out) HB27.out)
  have HB37 := Lib.hid (below_step (below_step (below_step HB4.out HB5.out) HB6.out) HB7.out)
  have HB47 := Lib.hid (below_step (below_step HB5.out HB6.out) HB7.out)
  have HB57 := Lib.hid (below_step HB6.out HB7.out)
  obtain ⟨AV, cv, eav, hAV⟩ := row_any4 HA3.out
  subst eav
  obtain ⟨AX, cx, exv, hAX⟩ := row_any4 HX3.out
  subst exv
  have HAV := Lib.hid hAV; have HAX := Lib.hid hAX
  have hglI : (gs.length : Int) ≤ 9223372036854775806 := by omega
  have hblI : (bl.length : Int) ≤ 9223372036854775806 := by omega
  clear hAV hAX c9' c99'
  go_loopw [15] (fun i wr => ∃ j : Nat, j ≤ l.length ∧ i = .int .i64 j ∧ Hid (Below w7.heap.size w7 wr)) (fun i _ => l.length - (intOf i).toNat)
  case atStart => exact ⟨0, Nat.zero_le _, rfl, Lib.hid (Below.refl _ _)⟩
  case round =>
    obtain ⟨j, hj, rfl, HBR⟩ := hrel
    by_cases hjl : j < l.length
    · obtain ⟨b, o, rfl, hbl, hc⟩ := HA.out (by omega)
      obtain ⟨ck, cn⟩ := hc j hjl
      obtain ⟨gk, gn⟩ := HCELL.out j hjl
      replace ck := ((below_step HW7.out HBR.out).cell (p := ⟨b, _, none⟩) hbl).trans ck
      replace cn := ((below_step HW7.out HBR.out).cell (p := ⟨b, _, none⟩) hbl).trans cn
      replace gk := ((below_step HB27.out HBR.out).cell (p := ⟨g, _, none⟩) HGL.out).trans gk
      replace gn := ((below_step HB27.out HBR.out).cell (p := ⟨g, _, none⟩) HGL.out).trans gn
      clear hc
      generalize opK l j = k at ck gk
      generalize opN l j = n at cn gn
      have dj : decide ((j : Int) < (l.length : Int)) = true := by simp; omega
      have jl : (j : Int) < (l.length : Int) := by omega
      have jl1 : (j : Int) < (l.length : Int) + 1 := by omega
      go_wp2
      go_quiet (fail)
      go_wp2
      go_roundw
      case rel => exact ⟨j + 1, by omega, by go_num, Lib.hid (below_drewN HBR.out _)⟩
      case measure => simp [intOf]; omega
    · obtain rfl : l.length = j := by omega
      obtain ⟨wD, rfl⟩ : ∃ x, x = wr := ⟨_, rfl⟩
      have RA := Lib.hid (ownsRow_below HA3.out (below_step HB37.out HBR.out))
      have RX := Lib.hid (ownsRow_below HX3.out (below_step HB37.out HBR.out))
      have RB := Lib.hid (ownsRow_below HBV.out (below_step HB47.out HBR.out))
      have RY := Lib.hid (ownsRow_below HYV.out (below_step HB47.out HBR.out))
      have RW := Lib.hid (ownsRow_below HWV.out (below_step HB57.out HBR.out))
      have RZ := Lib.hid (ownsRow_below HZV.out (below_step HB57.out HBR.out))
      have HWD := Lib.hid (below_step HW7.out HBR.out)
      have S23 : Hid (w.heap.size ≤ w2.heap.size ∧ w3.heap.size ≤ w4.heap.size) := Lib.hid ⟨Nat.le_trans HBF.out.size HB2.out.size, HB4.out.size⟩
      go_wp2
      go_loopw [16] (fun i wr => ∃ t : Nat, t ≤ gs.length ∧ i = .int .i64 t ∧ Hid (∃ xs, wr.ownsRow w2.heap.size 52 4 (.slice AV gs.length cv) gs.length xs) ∧ Hid (∃ ys, wr.ownsRow w2.heap.size 3 1 (.slice AX bl.length cx) bl.length ys) ∧ Hid (Kp (fun q => w2.heap.size ≤ q ∧ q < w3.heap.size) wD wr)) (fun i _ => gs.length - (intOf i).toNat)
      case atStart => exact ⟨0, Nat.zero_le _, rfl, Lib.hid ⟨_, RA.out⟩, Lib.hid ⟨_, RX.out⟩, Lib.hid (Kp.refl _ _)⟩
      case round =>
        clear RA RX
        obtain ⟨t, ht, rfl, HXS, HYS, HK⟩ := hrel
        by_cases htl : t < gs.length
        · obtain ⟨ga, rfl, hga1, hga2⟩ := HAV.out (by omega)
          obtain ⟨xs, hxs⟩ := HXS.out
          obtain ⟨ys, hys⟩ := HYS.out
          have cg : ∃ u, wr.cell? ⟨ga, t * 4, none⟩ = some u := ⟨_, (hxs.cellAt (t * 4) (by omega)).trans (List.getElem?_eq_getElem (by rw [hxs.1]; omega))⟩
          obtain ⟨u, cg⟩ := cg
          have fg := hxs.frozenAt (t * 4)
          have hne : (Value.slice AX bl.length cx).ownBlock ≠ some ga := by
            rcases HNE.out with h | h
            · simp [Value.ownBlock] at h
            · exact fun e => h e.symm
          have HST := Lib.hid (fun uu => (hxs.stored (t * 4) uu).1)
          have HSX := Lib.hid (fun uu => ownsRow_setCell_other hys (a := ⟨ga, t * 4, none⟩) hne uu)
          have HSK := Lib.hid (fun uu => HK.out.set ⟨ga, t * 4, none⟩ (.inl ⟨hga1, hga2⟩) uu)
          have dt : decide ((t : Int) < (gs.length : Int)) = true := by simp; omega
          have tl : (t : Int) < (gs.length : Int) := by omega
          clear hxs hys hne
          go_wp2
          go_roundw
          case rel => exact ⟨t + 1, by omega, by go_num, Lib.hid ⟨_, HST.out _⟩, Lib.hid ⟨_, HSX.out _⟩, Lib.hid (HSK.out _)⟩
          case measure => simp [intOf]; omega
        · obtain rfl : gs.length = t := by omega
          go_wp2
          go_loopw [17] (fun i wr => ∃ t : Nat, t ≤ bl.length ∧ i = .int .i64 t ∧ Hid (∃ ys, wr.ownsRow w2.heap.size 3 1 (.slice AX bl.length cx) bl.length ys) ∧ Hid (Kp (fun q => w2.heap.size ≤ q ∧ q < w3.heap.size) wD wr)) (fun i _ => bl.length - (intOf i).toNat)
          case atStart => exact ⟨0, Nat.zero_le _, rfl, HYS, HK⟩
          case round =>
            clear HXS HYS HK
            obtain ⟨t, ht, rfl, HYS, HK⟩ := hrel
            by_cases htl : t < bl.length
            · obtain ⟨gx, rfl, hga1, hga2⟩ := HAX.out (by omega)
              obtain ⟨ys, hys⟩ := HYS.out
              have cg : ∃ u, wr.cell? ⟨gx, t, none⟩ = some u := ⟨_, (hys.cellAt t (by omega)).trans (List.getElem?_eq_getElem (by rw [hys.1]; omega))⟩
              obtain ⟨u, cg⟩ := cg
              have fg := hys.frozenAt t
              have HST := Lib.hid (fun uu => (hys.stored t uu).1)
              have HSK := Lib.hid (fun uu => HK.out.set ⟨gx, t, none⟩ (.inl ⟨hga1, hga2⟩) uu)
              have dt : decide ((t : Int) < (bl.length : Int)) = true := by simp; omega
              have tl : (t : Int) < (bl.length : Int) := by omega
              clear hys
              go_wp2
              go_roundw
              case rel => exact ⟨t + 1, by omega, by go_num, Lib.hid ⟨_, HST.out _⟩, Lib.hid (HSK.out _)⟩
              case measure => simp [intOf]; omega
            · obtain rfl : bl.length = t := by omega
              have keep : ∀ q, w3.heap.size ≤ q → q < wD.heap.size → wr.heap[q]? = wD.heap[q]? := fun q h1 h2 => HK.out.block q h2 (fun h => by omega)
              have GB := Lib.hid (grow_of_row rfl (ownsRow_of_block RB.out (fun q e => keep q (RB.out.lt q e).1 (RB.out.lt q e).2)))
              have GW := Lib.hid (grow_of_row rfl (ownsRow_of_block RW.out (fun q e => keep q (Nat.le_trans S23.out.2 (RW.out.lt q e).1) (RW.out.lt q e).2)))
              have IY := Lib.hid (IS.of_row (zs := bl) (ownsRow_of_block RY.out (fun q e => keep q (RY.out.lt q e).1 (RY.out.lt q e).2)))
              have IZ := Lib.hid (IS.of_row (zs := bl) (ownsRow_of_block RZ.out (fun q e => keep q (Nat.le_trans S23.out.2 (RZ.out.lt q e).1) (RZ.out.lt q e).2)))
              have HWR := Lib.hid (HWD.out.trans (HK.out.toBelow (B := w.heap.size) (fun q h => Nat.le_trans S23.out.1 h.1) HWD.out.size))
              clear keep
              go_wp2_with (first
                | (go_at_call 33; (with_reducible refine (same_c _ _ gs wr G2.out GB.out GW.out).mono ?_); rintro e w8 ⟨rfl, hb8⟩; have HB8 := Lib.hid hb8; clear hb8)
                | (go_at_call 19; (with_reducible refine (SameInts _ _ bl bl true (by simp) w8 B2.out B2.out (IY.out.below HB8.out) (IZ.out.below HB8.out)).mono ?_); rintro e w9 ⟨rfl, hb9⟩; have HB9 := Lib.hid (below_step (below_step HWR.out HB8.out) hb9); clear hb9))
              go_ret
              exact ⟨rfl, HB9.out⟩
theorem rowHeapMemory {v : Value} {W : World} (lim : Int) (l : List (Int × Int)) (hlim : In64 lim) (f : OSA W v l) (w : World) : Calls Try.prog 11 #[.int .i64 lim, v] W fun e w' => e = .returned (.bool true) ∧ Below W.heap.size W w' := walk_HeapMemory lim l v W f
end Go.Proofs.Ytfhigeefclchiaa
