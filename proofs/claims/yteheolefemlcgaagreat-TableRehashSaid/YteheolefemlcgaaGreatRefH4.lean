/- The reference's heap: Give, Take. -/
import Derived.Test.YteheolefemlcgaaGreatRefH3
namespace Go.Proofs.YteheolefemlcgaaGreat
open Go.RowKit Go.Maps RS
set_option linter.unusedVariables false
set_option linter.unusedSimpArgs false

set_option maxHeartbeats 1000000 in
theorem RGive_c (G : Nat → Prop) (q : Nat) (h : HS) (r : RS) (j : Nat) (s : SR h r j) (hj : j ≤ 2000) (id e : Int) (hid : In64 id) (he : h.giveE id = e) (w : World) (H : RefAt G w q r) : Calls Tryz.prog 93 #[.pointer (some ⟨q, 0, none⟩), .int .i64 id] w fun x w' => x = .returned (.int .i64 e) ∧ GoesR G w q (r.give id) w' := by
  have HH := Lib.hid H
  obtain ⟨av, hin, hG⟩ := H
  have c2 := hin.c2
  have c3 := hin.c3
  have f2 := hin.fz 2
  obtain ⟨A, c, rfl, hA⟩ := hin.form
  have HI := Lib.hid hin
  have HG := Lib.hid hG
  have hlen := s.len
  have hclk := s.clk
  have hc0 := s.sim.c0
  rw [s.sim.giveEE] at he
  unfold RS.giveE at he
  unfold RS.give
  have HA' := Lib.hid hA
  clear hin hG hA
  by_cases h0 : id = 0
  · rw [if_pos h0] at he ⊢
    subst h0 he
    go_enter Tryz.func93, Tryz.ntmps93
    go_wp2
    go_ret
    exact ⟨rfl, GoesR.same HH.out (Below.refl _ _)⟩
  rw [if_neg h0] at he ⊢
  have d0 : (id == 0) = false := by simpa using h0
  by_cases h1 : id < 0
  · rw [if_pos (.inl h1)] at he ⊢
    subst he
    have d1 : decide (id < 0) = true := by simpa using h1
    clear h0 h1
    go_enter Tryz.func93, Tryz.ntmps93
    go_wp2
    go_ret
    exact ⟨rfl, GoesR.same HH.out (Below.refl _ _)⟩
  have d1 : decide (id < 0) = false := by simpa using h1
  by_cases h2 : (r.all.length : Int) < id
  · rw [if_pos (.inr (.inl h2))] at he ⊢
    subst he
    have d2 : decide ((r.all.length : Int) < id) = true := by simpa using h2
    generalize r.all.length = L at *
    clear h0 h1 h2
    go_enter Tryz.func93, Tryz.ntmps93
    go_wp2
    go_ret
    exact ⟨rfl, GoesR.same HH.out (Below.refl _ _)⟩
  have d2 : decide ((r.all.length : Int) < id) = false := by simpa using h2
  obtain ⟨b, rfl⟩ : ∃ b : Nat, id = (b : Int) + 1 := ⟨(id - 1).toNat, by omega⟩
  have hbl : b < r.all.length := by omega
  rw [show ((b : Int) + 1 - 1).toNat = b by omega] at he ⊢
  obtain ⟨g, rfl, hgl, hgq, hcell⟩ := HA'.out (by omega)
  obtain ⟨-, cg, fg⟩ := hcell b hbl
  have wb : wrap64 (b : Int) = b := by unfold wrap64; omega
  have wb2 : wrap64 ((b : Int) + 1 - 1) = b := by unfold wrap64; omega
  have hq : ¬ ((b : Int) + 1 < 0 ∨ (r.all.length : Int) < (b : Int) + 1) := by omega
  have HBL := Lib.hid hbl
  have blI : (b : Int) < (r.all.length : Int) := by omega
  obtain ⟨l, hl⟩ : ∃ l, r.all = l := ⟨_, rfl⟩
  rw [hl] at he c3 d2 cg hbl blI hlen hq ⊢
  have HL := Lib.hid hl
  clear hl hcell h0 h1 h2
  have hlI : (l.length : Int) ≤ 9223372036854775807 := by omega
  by_cases h3 : 0 < giv l b
  · rw [if_pos (.inr (.inr h3))] at he ⊢
    subst he
    have d3 : decide (0 < giv l b) = true := by simpa using h3
    generalize giv l b = gg at cg d3
    clear h3
    go_enter Tryz.func93, Tryz.ntmps93
    go_wp2
    go_ret
    exact ⟨rfl, GoesR.same HH.out (Below.refl _ _)⟩
  · have hn : ¬ ((b : Int) + 1 < 0 ∨ (l.length : Int) < (b : Int) + 1 ∨ 0 < giv l b) := by omega
    rw [if_neg hn] at he ⊢
    subst he
    have d3 : decide (0 < giv l b) = false := by simpa using h3
    generalize giv l b = gg at cg d3
    clear h3 hn
    obtain ⟨ck, hck⟩ : ∃ y, r.clock = y := ⟨_, rfl⟩
    rw [hck] at c2 hclk hc0
    have HCK := Lib.hid hck
    have wc : wrap64 (ck + 1) = ck + 1 := by unfold wrap64; omega
    have HH0 := Lib.hid (hgq)
    have hqg : ¬ (q = g) := fun e => hgq e.symm
    clear hck
    go_enter Tryz.func93, Tryz.ntmps93
    go_wp2
    go_region
    all_goals go_wp2
    all_goals go_ret
    all_goals rw [← HCK.out, ← HL.out]
    all_goals have h1 := HI.out.clock (r.clock + 1)
    all_goals have h2 := RefIn.given (r := { r with clock := r.clock + 1 }) h1 HBL.out (r.clock + 1)
    all_goals refine ⟨rfl, G, ⟨_, h2.below ((Below.refl _ _).drew), HG.out⟩, ?_, fun _ h => .inl h⟩
    all_goals exact (((Kp.refl G w).set ⟨q, 2, none⟩ (.inl (by rw [HG.out]; exact .inl rfl)) _).set ⟨g, b * 2 + 1, none⟩ (.inl (by rw [HG.out]; exact .inr rfl)) _).below ((Below.refl _ _).drew)
theorem Tryz.infoBlock : (Tryz.prog.info? 151).map (fun i => (i.zero, i.size, i.bytes)) = some (some (.agg #[.int .i64 0, .int .i64 0]), 2, 16) := by kernel_rfl
/-- 'h.All = append(h.All, Block{..})': the append, then the store. -/
theorem RefIn.grown {w w2 : World} {q : Nat} {av v2 : Value} {r : RS} {n : Int} (H : RefIn w q av r) (hown : w2.ownsRow 0 151 2 v2 (r.all.length + 1) (blkCells r.all ++ [.int .i64 n, .int .i64 0])) (hg : (w.alloc (.cells #[.int .i64 n, .int .i64 0] 151)).grownBy w2 av.ownBlock) (hat : v2.ownBlock = av.ownBlock ∨ v2.ownBlock = some (w.alloc (.cells #[.int .i64 n, .int .i64 0] 151)).heap.size) :
    ∃ g c, v2 = .slice (some ⟨g, 0, none⟩) (r.all.length + 1) c ∧ w2.cell? ⟨q, 3, none⟩ = some av ∧ w2.frozen? ⟨q, 3, none⟩ = false ∧ Hid (RefIn (w2.setCell ⟨q, 3, none⟩ v2) q v2 { r with all := r.all ++ [(n, 0)] } ∧ Kp (fun k => k = q ∨ av.ownBlock = some k) w w2 ∧ (v2.ownBlock = av.ownBlock ∨ ∀ k, v2.ownBlock = some k → w.heap.size ≤ k)) := by
  obtain ⟨g, c, e, -⟩ := row_form hown
  have hB : Below w.heap.size w (w.alloc (.cells #[.int .i64 n, .int .i64 0] 151)) := (Below.refl _ w).alloc (Nat.le_refl _) _
  have H1 := H.below hB
  have hp := hg.block q H1.pl (fun e => H.off e.symm)
  have hc : ∀ i, w2.cell? ⟨q, i, none⟩ = (w.alloc (.cells #[.int .i64 n, .int .i64 0] 151)).cell? ⟨q, i, none⟩ := fun i => World.cell?_of_block (a := ⟨q, i, none⟩) hp
  have hf : ∀ i, w2.frozen? ⟨q, i, none⟩ = false := fun i => (World.frozen?_of_block (a := ⟨q, i, none⟩) hp).trans (H1.fz i)
  have hoff : v2.ownBlock ≠ some q := by
    rcases hat with hat | hat
    · rw [hat]; exact H.off
    · rw [hat]; intro e2; simp only [Option.some.injEq] at e2; have := H1.pl; omega
  refine ⟨g, c, e, (hc 3).trans H1.c3, hf 3, Lib.hid ⟨⟨?_, ?_, ?_, ?_, fun i => (frozen_set _ _ _ _).trans (hf i), ?_, hoff⟩, ?_, ?_⟩⟩
  · rw [cell_other _ _ _ _ _ (by decide), hc]; exact H1.c0
  · rw [cell_other _ _ _ _ _ (by decide), hc]; exact H1.c1
  · rw [cell_other _ _ _ _ _ (by decide), hc]; exact H1.c2
  · rw [cell_set_self, hc, H1.c3]; rfl
  · refine ownsRow_setCell_other ?_ hoff _
    show w2.ownsRow 0 151 2 v2 (r.all ++ [(n, 0)]).length (blkCells (r.all ++ [(n, 0)]))
    rw [List.length_append, blkCells_app]; exact hown
  · exact (below_kp hB).grown hg (fun k e => .inl (.inr e))
  · refine hat.imp id fun e k e2 => ?_
    rw [e] at e2
    simp [go_sem] at e2
    omega
theorem best_nat (l : List (Int × Int)) (n : Int) (t : Nat) (ht : t ≤ l.length) : (best l n t = -1) ∨ ∃ b : Nat, best l n t = b ∧ b < t := by
  rcases Sim.bestSpec l n t ht with ⟨-, h, -⟩ | ⟨b, h, hb, -⟩
  · exact .inl h
  · exact .inr ⟨b, h, hb⟩
theorem best_step_no (l : List (Int × Int)) (n : Int) (t : Nat) (h : ¬ (cel l t = n ∧ 0 < giv l t ∧ (best l n t < 0 ∨ giv l (best l n t).toNat < giv l t))) : best l n (t + 1) = best l n t := by rw [best, if_neg h]
theorem best_step_yes (l : List (Int × Int)) (n : Int) (t : Nat) (h : cel l t = n ∧ 0 < giv l t ∧ (best l n t < 0 ∨ giv l (best l n t).toNat < giv l t)) : best l n (t + 1) = t := by rw [best, if_pos h]
theorem take_end_new {G : Nat → Prop} {w wr w4 : World} {q g2 cc2 c : Nat} {A : Option Addr} {r r' : RS} {l : List (Int × Int)} {n : Int} (hB : Below w.heap.size w wr) (hG : G = fun k => k = q ∨ (Value.slice A l.length c).ownBlock = some k) (hb : best l n l.length = -1) (hr : (if best l n l.length < 0 then { r with all := l ++ [(n, 0)] } else { r with all := setG l (best l n l.length).toNat 0 }) = r')
    (hX : RefIn (w4.setCell ⟨q, 3, none⟩ (.slice (some ⟨g2, 0, none⟩) (l.length + 1) cc2)) q (.slice (some ⟨g2, 0, none⟩) (l.length + 1) cc2) { r with all := l ++ [(n, 0)] } ∧ Kp (fun k => k = q ∨ (Value.slice A l.length c).ownBlock = some k) wr w4 ∧ ((Value.slice (some ⟨g2, 0, none⟩) (l.length + 1) cc2).ownBlock = (Value.slice A l.length c).ownBlock ∨ ∀ k, (Value.slice (some ⟨g2, 0, none⟩) (l.length + 1) cc2).ownBlock = some k → wr.heap.size ≤ k)) :
    GoesR G w q r' (w4.setCell ⟨q, 3, none⟩ (.slice (some ⟨g2, 0, none⟩) (l.length + 1) cc2)) := by
  have h0 : best l n l.length < 0 := by rw [hb]; decide
  rw [if_pos h0] at hr
  subst hr hG
  obtain ⟨h5, h6, h7⟩ := hX
  have hk : Kp (fun k => k = q ∨ (Value.slice A l.length c).ownBlock = some k) w w4 := (below_kp hB).trans h6 (fun k hk => .inl hk)
  refine ⟨_, ⟨_, h5, rfl⟩, hk.set _ (.inl (.inl rfl)) _, fun k hk => ?_⟩
  rcases hk with rfl | hk
  · exact .inl (.inl rfl)
  · rcases h7 with h7 | h7
    · exact .inl (.inr (by rw [← h7]; exact hk))
    · exact .inr (Nat.le_trans hB.size (h7 k hk))
theorem take_end_old {G : Nat → Prop} {w wr : World} {q g b c : Nat} {z n : Int} {r r' : RS} {l : List (Int × Int)} (hB : Below w.heap.size w wr) (hG : G = fun k => k = q ∨ (Value.slice (some ⟨g, 0, none⟩) l.length c).ownBlock = some k) (hb : z = b) (hbt : b < l.length) (hl : r.all = l) (hr : (if z < 0 then { r with all := l ++ [(n, 0)] } else { r with all := setG l z.toNat 0 }) = r')
    (hX : RefIn wr q (.slice (some ⟨g, 0, none⟩) l.length c) r) : GoesR G w q r' (wr.setCell ⟨g, z.toNat * 2 + 1, none⟩ (.int .i64 0)) := by
  subst hb
  have h0 : ¬ (b : Int) < 0 := by omega
  rw [if_neg h0] at hr
  rw [Int.toNat_natCast] at hr ⊢
  subst hr hl
  have h6 := hX.given hbt 0
  have hk : Kp G w wr := below_kp hB
  exact ⟨G, ⟨_, h6, hG⟩, hk.set _ (.inl (by rw [hG]; exact .inr rfl)) _, fun k hk => .inl hk⟩
set_option maxRecDepth 100000 in
set_option maxHeartbeats 3200000 in
theorem RTake_c (G : Nat → Prop) (q : Nat) (h : HS) (r : RS) (j : Nat) (s : SR h r j) (hj : j ≤ 2000) (n id e : Int) (hn64 : In64 n) (hidE : h.takeId n = id) (he : h.roomE n = e) (w : World) (H : RefAt G w q r) : Calls Tryz.prog 92 #[.pointer (some ⟨q, 0, none⟩), .int .i64 n] w fun x w' => x = .returned (.tuple #[.int .i64 id, .int .i64 e]) ∧ GoesR G w q (r.take n) w' := by
  obtain ⟨i0, hi, hz0, hz1, hz2⟩ := info_parts Tryz.infoBlock
  have HH := Lib.hid H
  have HSR := Lib.hid s
  obtain ⟨av, hin, hG⟩ := H
  have c0 := hin.c0
  have c3 := hin.c3
  obtain ⟨A, c, rfl, hA⟩ := hin.form
  have HI := Lib.hid hin
  have HG := Lib.hid hG
  have HA' := Lib.hid hA
  have hlim := s.sim.lim
  have l1 := s.sim.k.l1; have l2 := s.sim.k.l2; have l0 := s.sim.k.l0
  have hlen := s.len
  obtain ⟨x, hx⟩ : ∃ x, h.live = x := ⟨_, rfl⟩
  have HX := Lib.hid hx
  rw [s.sim.takeIdE] at hidE
  have he2 := he
  rw [s.sim.room] at he2
  unfold RS.takeId at hidE
  unfold RS.take
  rw [he2] at hidE ⊢
  unfold HS.roomE at he
  rw [hlim, hx] at he
  rw [hx] at l1 l0
  rw [hlim] at l1 l2
  obtain ⟨lim, hlimE⟩ : ∃ y, r.lim = y := ⟨_, rfl⟩
  rw [hlimE] at c0 he l1 l2
  have ws : wrap64 (lim - x) = lim - x := by unfold wrap64; omega
  have PL := Lib.hid hin.pl
  clear hin hG hlimE hx hlim s he2 hA
  by_cases h1 : n < 0
  · rw [if_pos h1] at he
    subst he
    rw [if_pos (.inl (by decide))] at hidE ⊢
    subst hidE
    have d1 : decide (n < 0) = true := by simpa using h1
    clear h1
    go_enter Tryz.func92, Tryz.ntmps92
    go_wp2
    go_ret2
    exact ⟨rfl, GoesR.same HH.out (Below.refl _ _)⟩
  rw [if_neg h1] at he
  have d1 : decide (n < 0) = false := by simpa using h1
  by_cases h2 : lim - x < n
  · rw [if_pos h2] at he
    subst he
    rw [if_pos (.inl (by decide))] at hidE ⊢
    subst hidE
    have d2 : decide (lim - x < n) = true := by simpa using h2
    clear h1 h2
    go_enter Tryz.func92, Tryz.ntmps92
    go_wp2
    go_quiet (first | (go_at_call 49; refine Calls.quiet_of_same (RLive_w G q h r j HSR.out hj x HX.out _ (HH.out.below (below_drewN (Below.refl _ _) _)))))
    go_wp2
    go_ret2
    exact ⟨rfl, GoesR.same HH.out (below_drewN (Below.refl _ _) _)⟩
  rw [if_neg h2] at he
  subst he
  have d2 : decide (lim - x < n) = false := by simpa using h2
  by_cases h3 : n = 0
  · rw [if_pos (.inr h3)] at hidE ⊢
    subst h3 hidE
    clear h1 h2
    go_enter Tryz.func92, Tryz.ntmps92
    go_wp2
    go_quiet (first | (go_at_call 49; refine Calls.quiet_of_same (RLive_w G q h r j HSR.out hj x HX.out _ (HH.out.below (below_drewN (Below.refl _ _) _)))))
    go_wp2
    go_ret2
    exact ⟨rfl, GoesR.same HH.out (below_drewN (Below.refl _ _) _)⟩
  have hno : ¬ ((0 : Int) ≠ 0 ∨ n = 0) := by simp; exact h3
  rw [if_neg hno] at hidE ⊢
  have d3 : (n == 0) = false := by simpa using h3
  obtain ⟨l, hl⟩ : ∃ l, r.all = l := ⟨_, rfl⟩
  rw [hl] at c3 hlen hidE ⊢
  have HL := Lib.hid hl
  generalize hr' : (if best l n l.length < 0 then (_ : RS) else _) = r'
  have HRR := Lib.hid hr'
  clear hr'
  have HAL : Hid (0 < l.length → ∃ g, A = some ⟨g, 0, none⟩ ∧ g < w.heap.size ∧ g ≠ q ∧ ∀ i, i < l.length → w.cell? ⟨g, i * 2, none⟩ = some (.int .i64 (cel l i)) ∧ w.cell? ⟨g, i * 2 + 1, none⟩ = some (.int .i64 (giv l i)) ∧ w.frozen? ⟨g, i * 2 + 1, none⟩ = false) := Lib.hid (by rw [← hl]; exact HA'.out)
  have HIL : Hid (RefIn w q (.slice A l.length c) r) := Lib.hid (by rw [← hl]; exact HI.out)
  have HGL : Hid (G = fun k => k = q ∨ (Value.slice A l.length c).ownBlock = some k) := Lib.hid (by rw [← hl]; exact HG.out)
  have HID := Lib.hid hidE
  have hlI : (l.length : Int) ≤ 9223372036854775807 := by omega
  have hb16 : (l.length + 1) * 16 ≤ 140737488355328 := by omega
  have C3 := Lib.hid c3
  clear h1 h2 h3 hno hl HA' HI HG hidE c3
  go_enter Tryz.func92, Tryz.ntmps92
  go_wp2
  go_quiet (first | (go_at_call 49; refine Calls.quiet_of_same (RLive_w G q h r j HSR.out hj x HX.out _ (HH.out.below (below_drewN (Below.refl _ _) _)))))
  go_wp2
  have hB0 : Below w.heap.size w (w.drewN nq) := below_drewN (Below.refl _ _) _
  clear c0
  go_loopw [6, 7] (fun bst i wr => ∃ t : Nat, t ≤ l.length ∧ bst = .int .i64 (best l n t) ∧ i = .int .i64 t ∧ Below w.heap.size w wr) (fun _ i _ => l.length - (intOf i).toNat)
  case atStart => exact ⟨0, Nat.zero_le _, rfl, rfl, hB0⟩
  case round =>
    clear hB0
    obtain ⟨t, ht, rfl, rfl, hB⟩ := hrel
    have c3 := (hB.cell (p := ⟨q, 3, none⟩) PL.out).trans C3.out
    by_cases htl : t < l.length
    · obtain ⟨g, rfl, hgl, hgq, hcell⟩ := HAL.out (by omega)
      obtain ⟨cc, cg, -⟩ := hcell t htl
      replace cc := (hB.cell (p := ⟨g, _, none⟩) hgl).trans cc
      replace cg := (hB.cell (p := ⟨g, _, none⟩) hgl).trans cg
      have dt : decide ((t : Int) < (l.length : Int)) = true := by simp; omega
      have tl : (t : Int) < (l.length : Int) := by omega
      have NO := Lib.hid (best_step_no l n t)
      have YES := Lib.hid (best_step_yes l n t)
      obtain ⟨cv, hcv⟩ : ∃ y, cel l t = y := ⟨_, rfl⟩
      obtain ⟨gv, hgv⟩ : ∃ y, giv l t = y := ⟨_, rfl⟩
      rw [hcv] at cc NO YES
      rw [hgv] at cg NO YES
      have HCL := Lib.hid hcell
      have HBN := Lib.hid (best_nat l n t ht)
      clear hcell hcv hgv
      by_cases k1 : cv = n
      · have e1 : (cv == n) = true := by simpa using k1
        by_cases k2 : 0 < gv
        · have e2 : decide (0 < gv) = true := by simpa using k2
          rcases HBN.out with hb | ⟨b, hb, hbt⟩
          · rw [hb] at NO YES ⊢
            have HY := Lib.hid (YES.out ⟨k1, k2, .inl (by decide)⟩)
            clear k1 k2 hb HBN NO YES
            go_wp2
            go_quiet (fail)
            go_wp2
            go_roundw
            case rel => exact ⟨t + 1, by omega, by rw [HY.out], by go_num, below_drewN hB _⟩
            case measure => simp [intOf]; omega
          · obtain ⟨-, cgb, -⟩ := HCL.out b (by omega)
            replace cgb := (hB.cell (p := ⟨g, _, none⟩) hgl).trans cgb
            rw [hb] at NO YES ⊢
            rw [Int.toNat_natCast] at NO YES
            generalize giv l b = gb at cgb NO YES
            have d0 : decide ((b : Int) < 0) = false := by simp
            have bl : (b : Int) < (l.length : Int) := by omega
            have bl2 : b < l.length := by omega
            by_cases k3 : gb < gv
            · have e3 : decide (gb < gv) = true := by simpa using k3
              have HY := Lib.hid (YES.out ⟨k1, k2, .inr k3⟩)
              clear k1 k2 k3 hb HBN NO YES
              go_wp2
              go_quiet (fail)
              go_wp2
              go_roundw
              case rel => exact ⟨t + 1, by omega, by rw [HY.out], by go_num, below_drewN hB _⟩
              case measure => simp [intOf]; omega
            · have e3 : decide (gb < gv) = false := by simpa using k3
              have HY := Lib.hid (NO.out (fun h => by rcases h.2.2 with h | h; omega; exact k3 h))
              clear k1 k2 k3 hb HBN NO YES
              go_wp2
              go_quiet (fail)
              go_wp2
              go_roundw
              case rel => exact ⟨t + 1, by omega, by rw [HY.out], by go_num, below_drewN hB _⟩
              case measure => simp [intOf]; omega
        · have e2 : decide (0 < gv) = false := by simpa using k2
          have HY := Lib.hid (NO.out (fun h => k2 h.2.1))
          clear k1 k2 HBN NO YES
          generalize best l n t = bb at HY ⊢
          go_wp2
          go_quiet (fail)
          go_wp2
          go_roundw
          case rel => exact ⟨t + 1, by omega, by rw [HY.out], by go_num, below_drewN hB _⟩
          case measure => simp [intOf]; omega
      · have e1 : (cv == n) = false := by simpa using k1
        have HY := Lib.hid (NO.out (fun h => k1 h.1))
        clear k1 HBN NO YES
        generalize best l n t = bb at HY ⊢
        go_wp2
        go_quiet (fail)
        go_wp2
        go_roundw
        case rel => exact ⟨t + 1, by omega, by rw [HY.out], by go_num, below_drewN hB _⟩
        case measure => simp [intOf]; omega
    · obtain rfl : l.length = t := by omega
      rcases best_nat l n l.length (Nat.le_refl _) with hb | ⟨b, hb, hbt⟩
      · rw [hb] at HID ⊢
        have HBB := Lib.hid hb
        clear hb
        have HIB := Lib.hid (HIL.out.below hB)
        go_wp2_with (first
          | (at_builtin; refine wpList_append_own_at _ rfl (Operand.tmp 81) (Operand.tmp 84) 99 rfl 0 151 i0 _ 2 16 Tryz.underlying99 hi hz0 hz1 hz2 rfl (by decide) (.slice A l.length c) l.length (blkCells l) (by simp [Act.eval, Act.put]) (by have := (HIB.out.below ((Below.refl _ wr).alloc (Nat.le_refl _) (.cells #[.int .i64 n, .int .i64 0] 151))).row; rw [HL.out] at this; exact this) ⟨wr.heap.size, 0, none⟩ 1 1 [.int .i64 n, .int .i64 0] (by simp [Act.eval, Act.put]) rfl (fun q u hq => by match q, hq with | 0, hq => (simp at hq; subst hq; simp [Addr.add, go_sem]) | 1, hq => (simp at hq; subst hq; simp [Addr.add, go_sem])) (fun u hu => by simp at hu; rcases hu with rfl | rfl <;> rfl) (by unfold maxLen; omega) hb16 (Nat.zero_le _) ?_; intro v4 w4 hown4 hg4 hn4 hat4; obtain ⟨g2, cc2, e2, c3', f3', HX2⟩ := HIB.out.grown (by rw [HL.out]; exact hown4) hg4 hat4; rw [HL.out] at e2; subst e2; clear hown4 hg4 hn4 hat4))
        go_ret2
        rw [if_pos (show (-1 : Int) < 0 by decide)] at HID
        refine ⟨?_, take_end_new hB HGL.out HBB.out HRR.out (by have := HX2.out; rw [HL.out] at this; exact this)⟩
        obtain rfl := HID.out
        rfl
      · have HIB := Lib.hid (HIL.out.below hB)
        have HBT := Lib.hid hbt
        obtain ⟨g, rfl, hgl, hgq, hcell⟩ := HAL.out (by omega)
        obtain ⟨-, cgb, fgb⟩ := hcell b hbt
        replace cgb := (hB.cell (p := ⟨g, _, none⟩) hgl).trans cgb
        replace fgb := (hB.frozen (p := ⟨g, _, none⟩) hgl).trans fgb
        generalize giv l b = gb at cgb
        generalize best l n l.length = z at hb HID HRR ⊢
        have HZB := Lib.hid hb
        have z0 : 0 ≤ z := by omega
        have zl : z < (l.length : Int) := by omega
        have zb : z.toNat = b := by omega
        have dz : decide (z < 0) = false := by simp; omega
        have wz : wrap64 (z + 1) = z + 1 := by unfold wrap64; omega
        rw [← zb] at cgb fgb
        clear hb hcell zb hbt
        go_wp2
        go_ret2
        rw [if_neg (show ¬ z < 0 by omega)] at HID
        refine ⟨?_, take_end_old hB HGL.out HZB.out HBT.out HL.out HRR.out HIB.out⟩
        obtain rfl := HID.out
        rfl
end Go.Proofs.YteheolefemlcgaaGreat
