/- The reference's heap: Blocks, Give, Spend. -/
import Derived.Test.YtfhigeefclchiaaRefH2
import Derived.BigQuiet
namespace Go.Proofs.Ytfhigeefclchiaa
open Go.RowKit Go.Maps RS
set_option linter.unusedVariables false
set_option linter.unusedSimpArgs false

theorem blk_len (l : List (Int × Int)) : ∀ j, (blk l j).length ≤ j
  | 0 => Nat.le_refl _
  | j + 1 => by
    have := blk_len l j
    unfold blk
    split
    · simp; omega
    · omega
set_option maxHeartbeats 1000000 in
theorem RBlocks_c (G : Nat → Prop) (q : Nat) (h : HS) (r : RS) (j : Nat) (s : SR h r j) (hj : j ≤ 2000) (bl : List Int) (hbl : h.blocks = bl) (w : World) (H : RefAt G w q r) : Calls Try.prog 44 #[.pointer (some ⟨q, 0, none⟩)] w fun e w' => ∃ v, e = .returned v ∧ w'.ownsRow w.heap.size 3 1 v bl.length (bl.map (Value.int .i64)) ∧ Below w.heap.size w w' := by
  obtain ⟨i0, hi, hz0, hz1, hz2⟩ := info_parts Try.infoInt
  obtain ⟨av, hin, -⟩ := H
  have C3 := Lib.hid hin.c3
  have PL := Lib.hid hin.pl
  obtain ⟨A, c, rfl, hA⟩ := hin.form
  have HA' := Lib.hid hA
  have hxx : blk r.all r.all.length = bl := by rw [← s.sim.blocks]; exact hbl
  have HX := Lib.hid hxx
  have hlen := s.len
  obtain ⟨l, hl⟩ : ∃ l, r.all = l := ⟨_, rfl⟩
  rw [hl] at C3 HA' HX hlen
  have hlI : (l.length : Int) ≤ 9223372036854775807 := by omega
  clear hin hA hxx hbl s hl
  go_enter Try.func44, Try.ntmps44
  go_wp2
  go_loopw [3, 4] (fun v i wr => ∃ t : Nat, t ≤ l.length ∧ i = .int .i64 t ∧ Hid (wr.ownsRow w.heap.size 3 1 v (blk l t).length ((blk l t).map (Value.int .i64))) ∧ Below w.heap.size w wr) (fun _ i _ => l.length - (intOf i).toNat)
  case atStart => exact ⟨0, Nat.zero_le _, rfl, Lib.hid (World.ownsRow_nil _ _ _ _), Below.refl _ _⟩
  case round =>
    obtain ⟨t, ht, rfl, HO, hB⟩ := hrel
    have c3 := (hB.cell (p := ⟨q, 3, none⟩) PL.out).trans C3.out
    by_cases htl : t < l.length
    · obtain ⟨g, rfl, hgl, hgq, hcell⟩ := HA'.out (by omega)
      obtain ⟨-, cg, -⟩ := hcell t htl
      replace cg := (hB.cell (p := ⟨g, _, none⟩) hgl).trans cg
      clear hcell
      have dt : decide ((t : Int) < (l.length : Int)) = true := by simp; omega
      have tl : (t : Int) < (l.length : Int) := by omega
      have HE : Hid (blk l (t + 1) = if giv l t = 0 then blk l t ++ [(t : Int) + 1] else blk l t) := Lib.hid rfl
      have hbl := blk_len l t
      generalize giv l t = gg at cg HE
      by_cases e : gg = 0
      · have e0 : (gg == 0) = true := by simpa using e
        rw [if_pos e] at HE
        clear e
        have wt : wrap64 ((t : Int) + 1) = (t : Int) + 1 := by unfold wrap64; omega
        have hb8 : ((blk l t).length + 1) * 8 ≤ 140737488355328 := by omega
        go_wp2_with (first
          | (at_builtin; refine wpList_append_own_at _ rfl (Operand.tmp 23) (Operand.tmp 26) 22 rfl w.heap.size 3 i0 (.int .i64 0) 1 8 Try.underlying22 hi hz0 hz1 hz2 rfl (by decide) u3 (blk l t).length ((blk l t).map (Value.int .i64)) (by simp [Act.eval, Act.put]) (ownsRow_below HO.out ((Below.refl _ wr).alloc (Nat.le_refl _) (.cells #[.int .i64 ((t : Int) + 1)] 3))) ⟨wr.heap.size, 0, none⟩ 1 1 [.int .i64 ((t : Int) + 1)] (by simp [Act.eval, Act.put]) rfl (fun q u hq => by match q, hq with | 0, hq => simp at hq; subst hq; simp [Addr.add, go_sem]) (fun u hu => by simp at hu; subst hu; rfl) (by unfold maxLen; omega) hb8 (by have := hB.size; simp [go_sem]; omega) ?_; intro v4 w4 hown4 hg4 hn4 hat4;
              have hB4 : Below w.heap.size w w4 := (hB.alloc hB.size (.cells #[.int .i64 ((t : Int) + 1)] 3)).grown hg4 (by have := hB.size; simp [go_sem]; omega) (fun q e => (HO.out.lt q e).1);
              have HO4 := Lib.hid hown4; clear hown4 hg4 hn4 hat4))
        go_roundw
        case rel => exact ⟨t + 1, by omega, by go_num, Lib.hid (by rw [HE.out, List.length_append, List.map_append]; exact HO4.out), hB4⟩
        case measure => simp [intOf]; omega
      · have e0 : (gg == 0) = false := by simpa using e
        rw [if_neg e] at HE
        clear e
        go_wp2
        go_roundw
        case rel => exact ⟨t + 1, by omega, by go_num, Lib.hid (by rw [HE.out]; exact HO.out), hB⟩
        case measure => simp [intOf]; omega
    · obtain rfl : l.length = t := by omega
      go_wp2
      go_ret
      have := HO.out
      rw [HX.out] at this
      exact ⟨_, rfl, this, hB⟩
theorem getElem_set_blk (l : List (Int × Int)) (b : Nat) (g : Int) (hb : b < l.length) : (blkCells l).set (b * 2 + 1) (.int .i64 g) = blkCells (setG l b g) := by
  apply List.ext_getElem?
  intro i
  rw [List.getElem?_set]
  have hl : (setG l b g).length = l.length := len_set _ _ _
  have hcl := blkCells_len l
  have hcl2 := blkCells_len (setG l b g)
  by_cases hi : i < l.length * 2
  · obtain ⟨m, hm, e | e⟩ : ∃ m, m < l.length ∧ (i = m * 2 ∨ i = m * 2 + 1) := ⟨i / 2, by omega, by omega⟩
    · subst e
      rw [if_neg (by omega), (blkCells_at l m hm).1, (blkCells_at (setG l b g) m (by omega)).1, cel_set]
    · subst e
      rw [(blkCells_at (setG l b g) m (by omega)).2, giv_set _ _ _ _ hb]
      by_cases e2 : m = b
      · subst e2; rw [if_pos rfl, if_pos rfl, if_pos (by omega)]
      · rw [if_neg (by omega), if_neg e2, (blkCells_at l m hm).2]
  · rw [if_neg (by omega), List.getElem?_eq_none (by omega), List.getElem?_eq_none (by omega)]
/-- A store into a block's second cell. -/
theorem RefIn.given {w : World} {q g c b : Nat} {r : RS} (H : RefIn w q (.slice (some ⟨g, 0, none⟩) r.all.length c) r) (hb : b < r.all.length) (x : Int) : RefIn (w.setCell ⟨g, b * 2 + 1, none⟩ (.int .i64 x)) q (.slice (some ⟨g, 0, none⟩) r.all.length c) { r with all := setG r.all b x } := by
  have hgq : q ≠ g := by have := H.off; intro e; subst e; exact this rfl
  have hc : ∀ i, (w.setCell ⟨g, b * 2 + 1, none⟩ (.int .i64 x)).cell? ⟨q, i, none⟩ = w.cell? ⟨q, i, none⟩ := fun i => World.cell?_of_block (a := ⟨q, i, none⟩) (Below.heap_setCell _ _ _ _ hgq)
  have hr := H.row.stored (b * 2 + 1) (.int .i64 x)
  rw [getElem_set_blk _ _ _ hb] at hr
  exact ⟨(hc 0).trans H.c0, (hc 1).trans H.c1, (hc 2).trans H.c2, (hc 3).trans H.c3, fun i => (frozen_set _ _ _ _).trans (H.fz i), by show World.ownsRow _ _ _ _ _ (setG r.all b x).length _; rw [len_set]; exact hr.1, H.off⟩
theorem RefIn.below {w w' : World} {q : Nat} {av : Value} {r : RS} (H : RefIn w q av r) (hb : Below w.heap.size w w') : RefIn w' q av r := H.keep fun k hk => hb.block k (by rcases hk with rfl | e; exact H.pl; exact (H.row.lt k e).2)
theorem ref_cell_other (w : World) (q i j : Nat) (v : Value) (h : j ≠ i) : (w.setCell ⟨q, i, none⟩ v).cell? ⟨q, j, none⟩ = w.cell? ⟨q, j, none⟩ := cell_other w q i j v h
theorem RefIn.spent {w : World} {q : Nat} {av : Value} {r : RS} (H : RefIn w q av r) (x : Int) : RefIn (w.setCell ⟨q, 1, none⟩ (.int .i64 x)) q av { r with spent := x } := by
  refine ⟨?_, ?_, ?_, ?_, fun i => (frozen_set _ _ _ _).trans (H.fz i), ownsRow_setCell_other H.row H.off _, H.off⟩
  · rw [cell_other _ _ _ _ _ (by decide)]; exact H.c0
  · rw [cell_set_self, H.c1]; rfl
  · rw [cell_other _ _ _ _ _ (by decide)]; exact H.c2
  · rw [cell_other _ _ _ _ _ (by decide)]; exact H.c3
theorem RefIn.clock {w : World} {q : Nat} {av : Value} {r : RS} (H : RefIn w q av r) (x : Int) : RefIn (w.setCell ⟨q, 2, none⟩ (.int .i64 x)) q av { r with clock := x } := by
  refine ⟨?_, ?_, ?_, ?_, fun i => (frozen_set _ _ _ _).trans (H.fz i), ownsRow_setCell_other H.row H.off _, H.off⟩
  · rw [cell_other _ _ _ _ _ (by decide)]; exact H.c0
  · rw [cell_other _ _ _ _ _ (by decide)]; exact H.c1
  · rw [cell_set_self, H.c2]; rfl
  · rw [cell_other _ _ _ _ _ (by decide)]; exact H.c3
set_option maxHeartbeats 1000000 in
theorem RSpend_c (G : Nat → Prop) (q : Nat) (h : HS) (r : RS) (j : Nat) (s : SR h r j) (hj : j ≤ 2000) (n e : Int) (he : h.roomE n = e) (w : World) (H : RefAt G w q r) : Calls Try.prog 43 #[.pointer (some ⟨q, 0, none⟩), .int .i64 n] w fun x w' => x = .returned (.int .i64 e) ∧ GoesR G w q (r.spend n) w' := by
  have HH := Lib.hid H
  have HSR := Lib.hid s
  obtain ⟨av, hin, hG⟩ := H
  have c0 := hin.c0
  have c1 := hin.c1
  have f1 := hin.fz 1
  have HI := Lib.hid hin
  have HG := Lib.hid hG
  have hlim := s.sim.lim
  have l1 := s.sim.k.l1; have l2 := s.sim.k.l2; have l0 := s.sim.k.l0
  have hsp := s.sp; have hsp2 := s.spent_in
  obtain ⟨x, hx⟩ : ∃ x, h.live = x := ⟨_, rfl⟩
  have HX := Lib.hid hx
  have hre := s.sim.room n
  unfold RS.spend
  unfold HS.roomE at he
  rw [← s.sim.room]
  unfold HS.roomE
  rw [hlim, hx] at he ⊢
  rw [hx] at l1 l0
  rw [hlim] at l1 l2
  obtain ⟨lim, hlimE⟩ : ∃ y, r.lim = y := ⟨_, rfl⟩
  rw [hlimE] at c0 he l1 l2 ⊢
  obtain ⟨sp, hspE⟩ : ∃ y, r.spent = y := ⟨_, rfl⟩
  rw [hspE] at c1 hsp hsp2
  have HSPE := Lib.hid hspE
  have ws : wrap64 (lim - x) = lim - x := by unfold wrap64; omega
  have HLIM := Lib.hid hlimE
  clear hin hG hre hlimE hspE hx hlim s
  by_cases h1 : n < 0
  · rw [if_pos h1] at he ⊢
    subst he
    have d1 : decide (n < 0) = true := by simpa using h1
    clear h1
    go_enter Try.func43, Try.ntmps43
    go_wp2
    go_ret
    exact ⟨rfl, GoesR.same HH.out (Below.refl _ _)⟩
  · rw [if_neg h1] at he ⊢
    have d1 : decide (n < 0) = false := by simpa using h1
    by_cases h2 : lim - x < n
    · rw [if_pos h2] at he ⊢
      subst he
      have d2 : decide (lim - x < n) = true := by simpa using h2
      clear h1 h2
      go_enter Try.func43, Try.ntmps43
      go_wp2
      go_quiet (first | (go_at_call 45; refine Calls.quiet_of_same (RLive_w G q h r j HSR.out hj x HX.out _ (HH.out.below (below_drewN (Below.refl _ _) _)))))
      go_wp2
      go_ret
      exact ⟨rfl, GoesR.same HH.out (below_drewN (Below.refl _ _) _)⟩
    · rw [if_neg h2] at he ⊢
      subst he
      have d2 : decide (lim - x < n) = false := by simpa using h2
      have ws2 : wrap64 (sp + n) = sp + n := by unfold wrap64; omega
      clear h1 h2
      go_enter Try.func43, Try.ntmps43
      go_wp2
      go_quiet (first | (go_at_call 45; refine Calls.quiet_of_same (RLive_w G q h r j HSR.out hj x HX.out _ (HH.out.below (below_drewN (Below.refl _ _) _)))))
      go_wp2
      go_ret
      all_goals rw [← HLIM.out, ← HSPE.out]
      all_goals exact ⟨rfl, G, ⟨av, (HI.out.below (below_drewN (Below.refl _ _) _)).spent (r.spent + n), HG.out⟩, (below_kp (below_drewN (Below.refl _ _) _)).set _ (.inl (by rw [HG.out]; exact .inl rfl)) _, fun _ h => .inl h⟩
end Go.Proofs.Ytfhigeefclchiaa
