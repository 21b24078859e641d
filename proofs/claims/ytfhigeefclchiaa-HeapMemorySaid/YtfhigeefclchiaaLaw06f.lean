/- HeapPlays, joined. -/
import Derived.Test.YtfhigeefclchiaaLaw06e
namespace Go.Proofs.Ytfhigeefclchiaa
open Go.RowKit Go.Maps
set_option linter.unusedVariables false
set_option linter.unusedSimpArgs false

theorem few_in64 {W : World} {v : Value} {l : List (Int × Int)} (hv : OSA W v l) (j : Nat) : In64 (opN (fewL l) j) := opN_in _ (fun x hx => (hv.2.2.1 x (fewL_mem l x hx)).2) j
theorem playE_len {lim : Int} {l : List (Int × Int)} (h : playE lim l = 0) : l.length ≤ 1000 := by
  unfold playE at h
  by_cases h1 : lim < 0 ∨ 400000 < lim
  · rw [if_pos h1] at h; simp at h
  · rw [if_neg h1] at h
    by_cases h2 : 1000 < l.length
    · rw [if_pos h2] at h; simp at h
    · omega
theorem run_all (h : HS) (l : List (Int × Int)) : h.run l = h.run (l.take l.length) := by rw [List.take_length]
set_option maxRecDepth 100000 in
set_option maxHeartbeats 1600000 in
theorem walk_HeapPlays (lim : Int) (l : List (Int × Int)) (v : Value) (w : World) (hv : OSA w v l) : Calls Try.prog 10 #[.int .i64 lim, v] w fun e w' => e = .returned (.bool true) ∧ Below w.heap.size w w' := by
  have HV := Lib.hid hv
  have HN := Lib.hid (few_in64 hv)
  have hll := hv.len
  have hfl := fewL_len l
  have FL : Hid ((fewL l).length ≤ 8796093022207 ∧ (fewL l).length ≤ 17592186044416) := Lib.hid (by
    refine ⟨?_, by omega⟩
    unfold fewL
    have := hv.2.2.2
    split
    · rw [List.length_take]; omega
    · omega)
  obtain ⟨E, hE⟩ : ∃ E, playE lim (fewL l) = E := ⟨_, rfl⟩
  have HE := Lib.hid hE
  clear hll hfl hv
  by_cases h0 : E = 0
  · subst h0
    have hlen := playE_len hE
    obtain ⟨gs, hgs⟩ : ∃ gs, (HS.new lim).gots (fewL l) = gs := ⟨_, rfl⟩
    obtain ⟨bl, hbl⟩ : ∃ bl, ((HS.new lim).run (fewL l)).blocks = bl := ⟨_, rfl⟩
    have hgl : gs.length = (fewL l).length := by rw [← hgs, HS.gots_len]
    have hbl2 : bl.length ≤ 1000000 := by
      rw [← hbl, run_all]
      exact Nat.le_trans (HS.blocks_len _) (new_len lim (fewL l) _ (Nat.le_refl _) hlen)
    have GS := Lib.hid hgs; have BL := Lib.hid hbl; have GL := Lib.hid hgl; have B2 : Hid (bl.length ≤ 17592186044416) := Lib.hid (by omega)
    have G2 : Hid (gs.length ≤ 1000000) := Lib.hid (by omega)
    clear hE hgs hbl hgl hbl2 hlen
    go_enter Try.func10, Try.ntmps10
    go_wp2_with (first
      | (go_at_call 28; (with_reducible refine (few_c v l w HV.out _).mono ?_); rintro e w0 ⟨v', rfl, hp, rfl⟩; have HP := Lib.hid (hp w HV.out.2.1); clear hp)
      | (go_at_call 30; (with_reducible refine (ops_c v' (fewL l) w FL.out.1 HP.out).mono ?_); rintro e w1 ⟨ov, rfl, ho, hb1⟩; have HO := Lib.hid (pops_of_row ho); have HB1 := Lib.hid hb1; clear ho hb1)
      | (go_at_call 29; (with_reducible refine (Play_ok lim (fewL l) ov w1 HO.out HN.out HE.out).mono ?_); rintro e w2 ⟨gv, bv, rfl, hg, hb, -, hb2⟩; rw [GS.out] at hg; rw [BL.out] at hb; have HG := Lib.hid (grow_of_row GL.out hg); have HI := Lib.hid (IS.of_row (zs := bl) hb); have HB2 := Lib.hid (below_step HB1.out hb2); clear hg hb hb2)
      | (go_at_call 31; (with_reducible refine (RPlay_ok lim (fewL l) v' w2 (HP.out.below HB2.out) HN.out HE.out).mono ?_); rintro e w3 ⟨gv3, bv3, rfl, hg3, hbo3, hb3⟩; rw [GS.out] at hg3; rw [BL.out] at hbo3; have HG3 := Lib.hid (grow_of_row GL.out hg3); have HI3 := Lib.hid (IS.of_row (zs := bl) hbo3); have HGa := Lib.hid (HG.out.below hb3); have HIa := Lib.hid (HI.out.below hb3); have HB3 := Lib.hid (below_step HB2.out hb3); clear hg3 hbo3 hb3)
      | (go_at_call 32; (with_reducible refine (law06_fixed _).mono ?_); rintro e w4 ⟨rfl, hb4⟩; have HG4 := Lib.hid (HGa.out.below hb4); have HG5 := Lib.hid (HG3.out.below hb4); have HI4 := Lib.hid (HIa.out.below hb4); have HI5 := Lib.hid (HI3.out.below hb4); have HB4 := Lib.hid (below_step HB3.out hb4); clear hb4)
      | (go_at_call 33; (with_reducible refine (same_c _ _ gs w4 G2.out HG4.out HG5.out).mono ?_); rintro e w5 ⟨rfl, hb5⟩; have HI6 := Lib.hid (HI4.out.below hb5); have HI7 := Lib.hid (HI5.out.below hb5); have HB5 := Lib.hid (below_step HB4.out hb5); clear hb5)
      | (go_at_call 19; (with_reducible refine (SameInts _ _ bl bl true (by simp) w5 B2.out B2.out HI6.out HI7.out).mono ?_); rintro e w6 ⟨rfl, hb6⟩; have HB6 := Lib.hid (below_step HB5.out hb6); clear hb6))
    go_ret
    exact ⟨rfl, HB6.out⟩
  · have H0 := Lib.hid h0
    clear hE h0
    go_enter Try.func10, Try.ntmps10
    go_wp2_with (first
      | (go_at_call 28; (with_reducible refine (few_c v l w HV.out _).mono ?_); rintro e w0 ⟨v', rfl, hp, rfl⟩; have HP := Lib.hid (hp w HV.out.2.1); clear hp)
      | (go_at_call 30; (with_reducible refine (ops_c v' (fewL l) w FL.out.1 HP.out).mono ?_); rintro e w1 ⟨ov, rfl, ho, hb1⟩; have HO := Lib.hid (pops_of_row ho); have HB1 := Lib.hid hb1; clear ho hb1)
      | (go_at_call 29; (with_reducible refine (Play_no lim (fewL l) ov w1 FL.out.2 HO.out E HE.out H0.out).mono ?_); rintro e w2 ⟨rfl, hb2⟩; have HB2 := Lib.hid (below_step HB1.out hb2); clear hb2)
      | (go_at_call 31; (with_reducible refine (RPlay_no lim (fewL l) v' w2 FL.out.2 (HP.out.below HB2.out) E HE.out H0.out).mono ?_); rintro e w3 ⟨rfl, hb3⟩; have HB3 := Lib.hid (below_step HB2.out hb3); clear hb3)
      | (go_at_call 32; (with_reducible refine (law06_fixed _).mono ?_); rintro e w4 ⟨rfl, hb4⟩; have HB4 := Lib.hid (below_step HB3.out hb4); clear hb4)
      | (go_at_call 33; (with_reducible refine (same_c nilSl nilSl [] w4 (by decide) (grow_nil _) (grow_nil _)).mono ?_); rintro e w5 ⟨rfl, hb5⟩; have HB5 := Lib.hid (below_step HB4.out hb5); clear hb5)
      | (go_at_call 19; (with_reducible refine (SameInts nilSl nilSl [] [] true (by simp) w5 (by decide) (by decide) (IS.of_row (World.ownsRow_nil _ 0 3 1)) (IS.of_row (World.ownsRow_nil _ 0 3 1))).mono ?_); rintro e w6 ⟨rfl, hb6⟩; have HB6 := Lib.hid (below_step HB5.out hb6); clear hb6))
    go_ret
    exact ⟨rfl, HB6.out⟩
theorem rowHeapPlays {v : Value} {W : World} (lim : Int) (l : List (Int × Int)) (hlim : In64 lim) (f : OSA W v l) (w : World) : Calls Try.prog 10 #[.int .i64 lim, v] W fun e w' => e = .returned (.bool true) ∧ Below W.heap.size W w' := walk_HeapPlays lim l v W f
end Go.Proofs.Ytfhigeefclchiaa
