/- Folded of Heap5, Heap6. -/
import Derived.Test.YteheolefemlcgaaGreatHeaA
import Derived.StillTailTactics
/- The program's heap: Take. -/
namespace Go.Proofs.YteheolefemlcgaaGreat
open Go.RowKit Go.Maps
set_option linter.unusedVariables false
set_option linter.unusedSimpArgs false

theorem tk_upd (tk : Int → Option Int) (id : Int) (n : Option Int) : updI (fun x => (tk x).map (Value.int .i64)) id (n.map (Value.int .i64)) = fun x => ((updI tk id n) x).map (Value.int .i64) := by
  funext x
  by_cases e : x = id
  · subst e; rw [updI_same]; show _ = Option.map _ (updI tk x n x); rw [updI_same]
  · rw [updI_other _ _ _ e]; show _ = Option.map _ (updI tk id n x); rw [updI_other _ _ _ e]
theorem Take_no (F : Nat → Prop) (p : Nat) (h : HS) (n : Int) (r : Int) (hr : h.roomE n = r) (h0 : r ≠ 0 ∨ n = 0) (w : World) (H : HeapAt F w p h) : Calls Tryz.prog 87 #[.pointer (some ⟨p, 0, none⟩), .int .i64 n] w fun e w' => e = .returned (.tuple #[.int .i64 0, .int .i64 r]) ∧ Goes F w p h w' := by
  have HR := Lib.hid hr
  have HH := Lib.hid H
  clear H hr
  by_cases e : r = 0
  · subst e
    obtain rfl : n = 0 := by rcases h0 with h | h; exact absurd rfl h; exact h
    clear h0
    go_enter Tryz.func87, Tryz.ntmps87
    go_wp2_with (first | (go_at_call 107; (with_reducible refine (room_c F p h 0 0 HR.out _ HH.out).mono ?_); rintro e w1 ⟨rfl, hb⟩))
    go_ret2
    exact ⟨rfl, Goes.same HH.out hb⟩
  · have d0 : (r == 0) = false := by simpa using e
    clear h0 e
    go_enter Tryz.func87, Tryz.ntmps87
    go_wp2_with (first | (go_at_call 107; (with_reducible refine (room_c F p h n r HR.out _ HH.out).mono ?_); rintro e w1 ⟨rfl, hb⟩))
    go_ret2
    exact ⟨rfl, Goes.same HH.out hb⟩
/-- A row's value, written out. -/
theorem HeapIn.form {w : World} {p bt br nt nr : Nat} {sv : Value} {rv : Int → Option Value} {h : HS} (H : HeapIn w p bt br nt nr sv rv h) (i : Option Int) (hi : hV i) :
    ∃ A c, hvO sv rv i = .slice A (h.hl i).length c ∧ (0 < (h.hl i).length → ∃ g, A = some ⟨g, 0, none⟩ ∧ ∀ k, k < (h.hl i).length → w.cell? ⟨g, k, none⟩ = some (.int .i64 ((h.hl i).getD k 0))) := by
  have hr := H.fam.row i hi
  rcases hr.2 with ⟨e, h0⟩ | ⟨g, cap, cur, e, hb, hg, hn, hc, hs, ht⟩
  · exact ⟨none, 0, by rw [e, h0], fun h => by omega⟩
  · refine ⟨some ⟨g, 0, none⟩, cap, e, fun h0 => ⟨g, rfl, fun k hk => ?_⟩⟩
    rw [e] at hr
    rw [hr.cellAt k (by omega)]
    simp [hk]
set_option maxRecDepth 100000 in
set_option maxHeartbeats 1000000 in
theorem Take_old (F : Nat → Prop) (p : Nat) (h : HS) (n id : Int) (hr : h.roomE n = 0) (h0 : n ≠ 0) (hl : (h.rd n).getLast? = some id) (hsz : h.sizes.length ≤ 1000000) (w : World) (H : HeapAt F w p h) :
    Calls Tryz.prog 87 #[.pointer (some ⟨p, 0, none⟩), .int .i64 n] w fun e w' => e = .returned (.tuple #[.int .i64 id, .int .i64 0]) ∧ Goes F w p (h.takeOld n id) w' := by
  have HR := Lib.hid hr
  have HH := Lib.hid H
  obtain ⟨k, bt, br, sv, rv, hin, hszs, hF⟩ := H
  have HK := Lib.hid (HS.ok_old k hr hl)
  obtain ⟨e1, e2⟩ := HS.roomE_ok.1 hr
  have l0 := k.l0
  have l2 := k.l2
  have hn : In64 n := by unfold In64; omega
  have hid : In64 id := by
    have := k.rd n id (by rw [HS.getLast_concat hl]; simp)
    unfold In64; omega
  have ha : wrap64 (h.live + n) = h.live + n := by unfold wrap64; omega
  have hcc := HS.getLast_concat hl
  have hlen : (h.rd n).length = (h.rd n).dropLast.length + 1 := by rw [hcc]; simp
  have hsn : n ∈ h.sizes := by
    have hm : id ∈ h.rd n := by rw [hcc]; simp
    obtain ⟨a1, a2, a3, -⟩ := k.rd n id hm
    rw [List.getD_eq_getElem?_getD, List.getElem?_eq_getElem (show (id - 1).toNat < h.sizes.length by omega)] at a3
    rw [← a3]; exact List.getElem_mem _
  have hlast : (h.rd n).getD (h.rd n).dropLast.length 0 = id := by rw [List.getD_eq_getElem?_getD, hcc]; simp
  have hdl : (h.rd n).take (h.rd n).dropLast.length = (h.rd n).dropLast := by rw [List.dropLast_eq_take]; congr 1; simp
  have hnd : (h.rd n).length ≤ h.sizes.length := by
    have := length_le_of_nodup (h.rd n) (Cs.up h.sizes.length) (k.nd n) (fun x hx => by have := k.rd n x hx; rw [Cs.up_mem]; omega)
    rwa [Cs.up_length] at this
  obtain ⟨A, c, hv, hA⟩ := hin.form (some n) (hV_some hn)
  have hrow := hin.fam.row (some n) (hV_some hn)
  change hvO sv rv (some n) = .slice A (h.rd n).length c at hv
  change 0 < (h.rd n).length → ∃ g, A = some ⟨g, 0, none⟩ ∧ ∀ k, k < (h.rd n).length → w.cell? ⟨g, k, none⟩ = some (.int .i64 ((h.rd n).getD k 0)) at hA
  change World.ownsRow w 0 3 1 (hvO sv rv (some n)) (h.rd n).length ((h.rd n).map (Value.int .i64)) at hrow
  obtain ⟨g, rfl, hcell⟩ := hA (by omega)
  have cl := hcell (h.rd n).dropLast.length (by omega)
  rw [hlast] at cl
  rw [hv, hlen] at hrow
  have hpop := ownsRow_pop hrow
  rw [hdl] at hpop
  have hmc : (h.rd n).dropLast.length + 1 ≤ c := by
    rcases hrow.2 with ⟨e, h0⟩ | ⟨g', cap, cur, e, hb, hg, hn, hc, hs, ht⟩
    · omega
    · have := congrArg (fun v => match v with | Value.slice _ _ c => c | _ => 0) e
      simp at this
      omega
  have hgb : g < w.heap.size := (hrow.lt g rfl).2
  have HV := Lib.hid hv
  generalize hm : (h.rd n).dropLast.length = m at cl hpop hlen hmc
  rw [hlen] at hv hnd
  have hnn := Lib.hid hlen
  have HM := Lib.hid hm
  have HI := Lib.hid hin
  have HSZ := Lib.hid hszs
  have HFF := Lib.hid hF
  have HPOP := Lib.hid hpop
  have mc1 : ¬ (c < m) := by omega
  have mc2 : (m : Int) ≤ c := by omega
  have mw : IntKind.i64.wrap (m : Int) = m := by rw [IntKind.wrap_i64]; omega
  have m0 : decide ((0 : Int) < ((m + 1 : Nat) : Int)) = true := by simp
  have m1 : wrap64 (((m + 1 : Nat) : Int) - 1) = (m : Int) := by unfold wrap64; omega
  have nn0 : (n == 0) = false := by simpa using h0
  have hgp : g ≠ p := by
    have := (hin.off (some n) (hV_some hn)).1
    rw [hv] at this
    intro e; subst e; exact this rfl
  have hgr : g ≠ br := by
    have := (hin.off (some n) (hV_some hn)).2.2
    rw [hv] at this
    intro e; subst e; exact this rfl
  clear hm hlen hcell hrow hpop hcc hlast hdl hA hl hr k hszs hF e1 e2 l0 l2
  have c5 := hin.c5
  have pl := hin.pl
  clear hin
  go_enter Tryz.func87, Tryz.ntmps87
  go_wp2_with (first
    | (go_at_call 107; (with_reducible refine (room_c F p h n 0 HR.out _ HH.out).mono ?_); rintro e w1 ⟨rfl, hb⟩; have c5' := (hb.cell (p := ⟨p, 5, none⟩) pl).trans c5; have cl' := (hb.cell (p := ⟨g, m, none⟩) hgb).trans cl)
    | (at_lookup; (refine wpList_look_is rfl _ _ 138 rfl Tryz.underlying138 (zero_ints _) (b := br) (by simp [Act.eval, Act.put]) (HI.out.below hb).mr n hn (by simp [Act.eval, Act.put]) _ hv ?_)))
  go_still_tail 10, (by kernel_rfl)
  change wpList _ _ _ _ _ w1.drew
  have hB1 : Below w.heap.size w w1.drew := hb.drew
  have HI1 := Lib.hid (HI.out.below hB1)
  have hrow1 := ownsRow_below HPOP.out hB1
  clear hb c5' cl' c5 cl
  refine wpList_store_is rfl _ _ _ 138 rfl Tryz.underlying138 (b := br) (by simp [Act.eval, Act.put]) HI1.out.mr (by unfold maxLen; omega) n hn (.slice (some ⟨g, 0, none⟩) m c) (by simp [Act.eval, Act.put]) (by simp [Act.eval, Act.put]) ?_
  intro w2 hm2 hg2
  have HI2 := Lib.hid (HI1.out.ready n hn (World.grownBy.refl _ _) (.slice (some ⟨g, 0, none⟩) m c) (h.rd n).dropLast (by rw [HM.out]; exact hrow1) (.inl (by rw [hv]; rfl)) hm2 hg2)
  have hk2 : Kp F w w2 := (below_kp hB1).grown hg2 (fun q e => .inl (by cases e; rw [HFF.out]; exact .inr (.inr (.inl rfl))))
  have c4 := HI2.out.c4
  have pl2 := HI2.out.pl
  clear hm2 hg2 hrow1 hB1 hv hnd mc1 mc2 mw m0 m1
  go_wp2_with (first
    | (at_mapUpdate; (refine wpList_store_is rfl _ _ _ 137 rfl Tryz.underlying137 (b := bt) (by simp [Act.eval, Act.put]) HI2.out.mt (by unfold maxLen; omega) id hid (.int .i64 n) (by simp [Act.eval, Act.put]) (by simp [Act.eval, Act.put]) ?_); intro w3 hm3 hg3; have HI3 := Lib.hid (HI2.out.taken (tk' := updI h.tk id (some n)) (by rw [← tk_upd]; exact hm3) hg3); have hk3 : Kp F w w3 := hk2.grown hg3 (fun q e => .inl (by cases e; rw [HFF.out]; exact .inr (.inl rfl))); have c1 : w3.cell? ⟨p, 1, none⟩ = some (.int .i64 h.live) := HI3.out.c1; have f1 := HI3.out.fz 1; clear c4 hm3 hg3))
  go_ret2
  refine ⟨rfl, ?_⟩
  have HI4 := HI3.out.live (h.live + n)
  refine HI4.goes HK.out (fun x hx hs => ?_) (hk3.set _ (.inl ?_) _) (fun q hq => .inl ?_)
  · by_cases e : x = n
    · subst e
      exact hsn
    · rw [updI_other _ _ _ e] at hs; exact HSZ.out x hx hs
  · rw [HFF.out]; exact .inl rfl
  · rw [HFF.out]
    rcases hq with rfl | rfl | rfl | ⟨i, hi, e⟩
    · exact .inl rfl
    · exact .inr (.inl rfl)
    · exact .inr (.inr (.inl rfl))
    · rw [hvO_some] at e
      by_cases e2 : i = some n
      · subst e2
        rw [updO_same] at e
        exact .inr (.inr (.inr ⟨some n, hi, by rw [HV.out]; exact e⟩))
      · rw [updO_other _ _ _ e2] at e; exact .inr (.inr (.inr ⟨i, hi, e⟩))
theorem row_form {w : World} {base e size n : Nat} {v : Value} {xs : List Value} (h : w.ownsRow base e size v (n + 1) xs) : ∃ g c, v = .slice (some ⟨g, 0, none⟩) (n + 1) c ∧ g < w.heap.size := by
  rcases h.2 with ⟨e, h0⟩ | ⟨g, cap, cur, e, hb, hg, hn, hc, hs, ht⟩
  · omega
  · exact ⟨g, cap, e, (Array.getElem?_eq_some_iff.1 hg).1⟩
theorem sized_cells {w w2 : World} {p bt br nt nr : Nat} {sv : Value} {rv : Int → Option Value} {h : HS} (H : HeapIn w p bt br nt nr sv rv h) (hg : w.grownBy w2 sv.ownBlock) (i : Nat) : w2.cell? ⟨p, i, none⟩ = w.cell? ⟨p, i, none⟩ ∧ w2.frozen? ⟨p, i, none⟩ = false := by
  have hp := hg.block p H.pl (fun e => (H.off none hV_none).1 e.symm)
  exact ⟨World.cell?_of_block (a := ⟨p, i, none⟩) hp, (World.frozen?_of_block (a := ⟨p, i, none⟩) hp).trans (H.fz i)⟩
theorem take_sized {F : Nat → Prop} {w w1 w2 : World} {p bt br nt nr L : Nat} {sv v2 : Value} {rv : Int → Option Value} {h : HS} {n : Int} (HI1 : HeapIn w1 p bt br nt nr sv rv h) (hb : Below w.heap.size w w1) (hF : F = own p bt br sv rv) (hL : h.sizes.length = L)
    (hown2 : w2.ownsRow 0 3 1 v2 (L + 1) (h.sizes.map (Value.int .i64) ++ [Value.int .i64 n])) (hg2 : (w1.alloc (.cells #[.int .i64 n] 3)).grownBy w2 sv.ownBlock) (hat2 : v2.ownBlock = sv.ownBlock ∨ v2.ownBlock = some (w1.alloc (.cells #[.int .i64 n] 3)).heap.size) :
    ∃ g cc, v2 = .slice (some ⟨g, 0, none⟩) (L + 1) cc ∧ Hid (HeapIn (w2.setCell ⟨p, 3, none⟩ v2) p bt br nt nr v2 rv { h with sizes := h.sizes ++ [n] }) ∧ w2.cell? ⟨p, 2, none⟩ = some (.int .i64 h.laid) ∧ w2.frozen? ⟨p, 2, none⟩ = false ∧ w2.cell? ⟨p, 3, none⟩ = some sv ∧ w2.frozen? ⟨p, 3, none⟩ = false ∧ w2.cell? ⟨p, 4, none⟩ = some (.map (some bt)) ∧ Hid (Kp F w w2 ∧ (v2.ownBlock = sv.ownBlock ∨ ∀ q, v2.ownBlock = some q → w.heap.size ≤ q)) := by
  obtain ⟨g2, cc, e, -⟩ := row_form hown2
  have HI2 := HI1.below ((Below.refl _ w1).alloc (Nat.le_refl _) (.cells #[.int .i64 n] 3))
  have h3 := HI2.sized hg2 v2 (h.sizes ++ [n]) (by rw [List.length_append, List.map_append, hL]; exact hown2) hat2
  refine ⟨g2, cc, e, Lib.hid h3.2, (sized_cells HI2 hg2 2).1.trans HI2.c2, (sized_cells HI2 hg2 2).2, (sized_cells HI2 hg2 3).1.trans HI2.c3, (sized_cells HI2 hg2 3).2, (sized_cells HI2 hg2 4).1.trans HI2.c4, Lib.hid ⟨?_, ?_⟩⟩
  · exact (below_kp (hb.alloc hb.size (.cells #[.int .i64 n] 3))).grown hg2 (fun q e => .inl (by rw [hF]; exact .inr (.inr (.inr ⟨none, hV_none, e⟩))))
  · refine hat2.imp id fun e q e2 => ?_
    rw [e] at e2
    simp [go_sem] at e2
    have := hb.size
    omega
set_option maxRecDepth 100000 in
set_option maxHeartbeats 1000000 in
theorem Take_new (F : Nat → Prop) (p : Nat) (h : HS) (n : Int) (hr : h.roomE n = 0) (h0 : n ≠ 0) (hl : (h.rd n).getLast? = none) (hsz : h.sizes.length ≤ 1000000) (w : World) (H : HeapAt F w p h) :
    Calls Tryz.prog 87 #[.pointer (some ⟨p, 0, none⟩), .int .i64 n] w fun e w' => e = .returned (.tuple #[.int .i64 ((h.sizes.length : Int) + 1), .int .i64 0]) ∧ Goes F w p (h.takeNew n) w' := by
  obtain ⟨i0, hi, hz0, hz1, hz2⟩ := info_parts Tryz.infoInt
  have HR := Lib.hid hr
  have HH := Lib.hid H
  obtain ⟨k, bt, br, sv, rv, hin, hszs, hF⟩ := H
  have HK := Lib.hid (HS.ok_newB k hr h0)
  obtain ⟨e1, e2⟩ := HS.roomE_ok.1 hr
  have l0 := k.l0
  have l2 := k.l2
  have l3 := k.laid_le
  have hn : In64 n := by unfold In64; omega
  have hid : In64 ((h.sizes.length : Int) + 1) := by unfold In64; omega
  have ha : wrap64 (h.live + n) = h.live + n := by unfold wrap64; omega
  have hb2 : wrap64 (h.laid + n) = h.laid + n := by unfold wrap64; omega
  have hnil : h.rd n = [] := List.getLast?_eq_none_iff.1 hl
  obtain ⟨A, c, hv, -⟩ := hin.form (some n) (hV_some hn)
  change hvO sv rv (some n) = .slice A (h.rd n).length c at hv
  rw [hnil] at hv
  change hvO sv rv (some n) = .slice A 0 c at hv
  have HI := Lib.hid hin
  have HSZ := Lib.hid hszs
  have HFF := Lib.hid hF
  have nn0 : (n == 0) = false := by simpa using h0
  have c5 := hin.c5
  have pl := hin.pl
  obtain ⟨L, hL⟩ : ∃ L, h.sizes.length = L := ⟨_, rfl⟩
  have HL := Lib.hid hL
  have hb8 : (L + 1) * 8 ≤ 140737488355328 := by omega
  rw [hL] at hid
  show Calls Tryz.prog 87 #[.pointer (some ⟨p, 0, none⟩), .int .i64 n] w fun e w' => e = .returned (.tuple #[.int .i64 ((h.sizes.length : Int) + 1), .int .i64 0]) ∧ Goes F w p (h.takeNew n) w'
  rw [hL]
  clear hnil hl hr k hszs hF e1 e2 l0 l2 l3 hin
  go_enter Tryz.func87, Tryz.ntmps87
  go_wp2_with (first
    | (go_at_call 107; (with_reducible refine (room_c F p h n 0 HR.out _ HH.out).mono ?_); rintro e w1 ⟨rfl, hb⟩; have c5' := (hb.cell (p := ⟨p, 5, none⟩) pl).trans c5; have HI1 := Lib.hid (HI.out.below hb); have c3 := HI1.out.c3)
    | (at_lookup; (refine wpList_look_is rfl _ _ 138 rfl Tryz.underlying138 (zero_ints _) (b := br) (by simp [Act.eval, Act.put]) HI1.out.mr n hn (by simp [Act.eval, Act.put]) _ hv ?_); clear c5 c5')
    | (at_builtin; refine wpList_append_own_at _ rfl (Operand.tmp 48) (Operand.tmp 50) 128 rfl 0 3 i0 (.int .i64 0) 1 8 Tryz.underlying128 hi hz0 hz1 hz2 rfl (by decide) sv L (h.sizes.map (Value.int .i64)) (by simp [Act.eval, Act.put]) (by rw [← HL.out]; exact ((HI1.out.below ((Below.refl _ _).alloc (Nat.le_refl _) _)).fam.row none hV_none)) ⟨w1.heap.size, 0, none⟩ 1 1 [.int .i64 n] (by simp [Act.eval, Act.put]) rfl (fun q u hq => by match q, hq with | 0, hq => simp at hq; subst hq; simp [Addr.add, go_sem]) (fun u hu => by simp at hu; subst hu; rfl) (by unfold maxLen; omega) (by omega) (Nat.zero_le _) ?_; intro v2 w2 hown2 hg2 hn2 hat2;
        obtain ⟨g2, cc, rfl, HI3, c2a, f2a, c3a, f3a, c4a, hk2⟩ := take_sized HI1.out hb HFF.out HL.out hown2 hg2 hat2; clear hown2 hg2 hn2 hat2 c3)
    | (at_mapUpdate; (refine wpList_store_is rfl _ _ _ 137 rfl Tryz.underlying137 (b := bt) (by simp [Act.eval, Act.put]) (HI3.out.laid (h.laid + n)).mt (by unfold maxLen; omega) ((L : Int) + 1) hid (.int .i64 n) (by simp [Act.eval, Act.put]) (by simp [Act.eval, Act.put]) ?_); intro w3 hm3 hg3; have HI4 := Lib.hid ((HI3.out.laid (h.laid + n)).taken (tk' := updI h.tk ((L : Int) + 1) (some n)) (by rw [← tk_upd]; exact hm3) hg3); have c1 : w3.cell? ⟨p, 1, none⟩ = some (.int .i64 h.live) := HI4.out.c1; have f1 := HI4.out.fz 1; have HG3 := Lib.hid hg3; clear c2a f2a c3a f3a c4a hm3 hg3))
  go_ret2
  refine ⟨rfl, ?_⟩
  have HI5 := HI4.out.live (h.live + n)
  have hFp : F p := by rw [HFF.out]; exact .inl rfl
  have hk3 : Kp F w w3 := ((hk2.out.1.set _ (.inl hFp) _).set _ (.inl hFp) _).grown HG3.out (fun q e => .inl (by cases e; rw [HFF.out]; exact .inr (.inl rfl)))
  have hk := HK.out
  unfold HS.takeNew at hk ⊢
  rw [HL.out] at hk ⊢
  refine HI5.goes hk (fun x hx hs => ?_) (hk3.set _ (.inl hFp) _) (fun q hq => ?_)
  · exact List.mem_append_left _ (HSZ.out x hx hs)
  · rw [HFF.out]
    rcases hq with rfl | rfl | rfl | ⟨i, hi, e⟩
    · exact .inl (.inl rfl)
    · exact .inl (.inr (.inl rfl))
    · exact .inl (.inr (.inr (.inl rfl)))
    · cases i with
      | none =>
        rcases hk2.out.2 with e2 | e2
        · exact .inl (.inr (.inr (.inr ⟨none, hi, e2.symm.trans e⟩)))
        · exact .inr (e2 q e)
      | some x => exact .inl (.inr (.inr (.inr ⟨some x, hi, e⟩)))
theorem Take_c (F : Nat → Prop) (p : Nat) (h : HS) (n id r : Int) (hid : h.takeId n = id) (hr : h.roomE n = r) (hsz : h.sizes.length ≤ 1000000) (w : World) (H : HeapAt F w p h) :
    Calls Tryz.prog 87 #[.pointer (some ⟨p, 0, none⟩), .int .i64 n] w fun e w' => e = .returned (.tuple #[.int .i64 id, .int .i64 r]) ∧ Goes F w p (h.take n) w' := by
  unfold HS.takeId at hid
  unfold HS.take
  by_cases e : h.roomE n ≠ 0 ∨ n = 0
  · rw [if_pos e] at hid ⊢
    subst hid
    exact Take_no F p h n r hr (by rw [← hr]; exact e) w H
  · rw [if_neg e] at hid ⊢
    have h1 : h.roomE n = 0 := by apply Decidable.byContradiction; intro e2; exact e (.inl e2)
    have h2 : n ≠ 0 := fun e2 => e (.inr e2)
    rw [h1] at hr
    subst hr
    cases hl : (h.rd n).getLast? with
    | some x =>
      rw [hl] at hid
      obtain rfl : x = id := hid
      exact Take_old F p h n x h1 h2 hl hsz w H
    | none =>
      rw [hl] at hid
      obtain rfl : (h.sizes.length : Int) + 1 = id := hid
      exact Take_new F p h n h1 h2 hl hsz w H
end Go.Proofs.YteheolefemlcgaaGreat
/- The program's heap: Give. -/
namespace Go.Proofs.YteheolefemlcgaaGreat
open Go.RowKit Go.Maps
set_option linter.unusedVariables false
set_option linter.unusedSimpArgs false

theorem Give_no (F : Nat → Prop) (p : Nat) (h : HS) (id : Int) (hid : In64 id) (ht : h.tk id = none) (r : Int) (hr : (if id = 0 then 0 else 1) = r) (w : World) (H : HeapAt F w p h) : Calls Tryz.prog 90 #[.pointer (some ⟨p, 0, none⟩), .int .i64 id] w fun e w' => e = .returned (.int .i64 r) ∧ Goes F w p h w' := by
  have HH := Lib.hid H
  obtain ⟨k, bt, br, sv, rv, hin, hszs, hF⟩ := H
  have c4 := hin.c4
  have HI := Lib.hid hin
  have hv : ((fun x => (h.tk x).map (Value.int .i64)) id).getD (.int .i64 0) = .int .i64 0 := by simp [ht]
  have hok : ((fun x => (h.tk x).map (Value.int .i64)) id).isSome = false := by simp [ht]
  clear ht hszs hF k hin
  by_cases e : id = 0
  · subst e
    obtain rfl : 0 = r := by simpa using hr
    clear hr
    go_enter Tryz.func90, Tryz.ntmps90
    go_wp2_with (first
      | (at_lookup; (refine wpList_look2_is rfl _ _ 137 rfl Tryz.underlying137 (zero_int _) (b := bt) (by simp [Act.eval, Act.put]) HI.out.mt 0 hid (by simp [Act.eval, Act.put]) _ _ hv hok ?_)))
    go_ret
    exact ⟨rfl, Goes.same HH.out (Below.refl _ _)⟩
  · rw [if_neg e] at hr
    subst hr
    have d0 : (id == 0) = false := by simpa using e
    clear e
    go_enter Tryz.func90, Tryz.ntmps90
    go_wp2_with (first
      | (at_lookup; (refine wpList_look2_is rfl _ _ 137 rfl Tryz.underlying137 (zero_int _) (b := bt) (by simp [Act.eval, Act.put]) HI.out.mt id hid (by simp [Act.eval, Act.put]) _ _ hv hok ?_)))
    go_ret
    exact ⟨rfl, Goes.same HH.out (Below.refl _ _)⟩
/-- 'h.ready[n] = append(h.ready[n], y)': the append, as one step of a region that draws; what the store behind it will do. -/
theorem step_give {ops : Array Oper} {o : Oper} {a : Act} {K : Act → World → Prop} {Q : Exit → Act → World → Prop} {E : Prop} {W : World} {p bt br nt nr : Nat} {sv : Value} {rv : Int → Option Value} {h : HS} (hgd : o.guard = none) (s x : Operand)
    (ho : o.op = .call { callee := .builtin .append, args := #[s, x], argTypes := #[128, 128] }) (H : HeapIn W p bt br nt nr sv rv h) (n : Int) (hn : In64 n) (y : Int) (v : Value) (hv : hvO sv rv (some n) = v) (hs : a.eval s = v) (ad : Addr) (m c : Nat) (hx : a.eval x = .slice (some ad) m c) (hm : m = 1) (hc : W.cell? (ad.add 0) = some (.int .i64 y))
    (hb : ((h.rd n).length + 1) * 8 ≤ 140737488355328) (hnr : nr < maxLen)
    (hK : ∀ (g n' cap : Nat) w' w'', w'.cell? ⟨p, 5, none⟩ = some (.map (some br)) → (Instr.mapUpdate 138 (.map (some br)) (.int .i64 n) (.slice (some ⟨g, 0, none⟩) n' cap)).run Tryz.prog w' = .ok () w'' → Hid (HeapIn w'' p bt br nt (nr + 1) sv (updI rv n (some (.slice (some ⟨g, 0, none⟩) n' cap))) { h with rd := updI h.rd n (h.rd n ++ [y]) }) → Hid (W.grownBy w' v.ownBlock ∧ w'.grownBy w'' (some br) ∧ (g = W.heap.size ∨ v.ownBlock = some g)) → K (a.put o.dst (.slice (some ⟨g, 0, none⟩) n' cap)) w') :
    if Region.wanted o (yielded ops a.tmps) = true then Oper.wp Tryz.prog o a W K Q else E := by
  obtain ⟨i0, hi, hz0, hz1, hz2⟩ := info_parts Tryz.infoInt
  subst hm hv
  refine step_append_lies _ hgd s x 128 ho 0 3 i0 (.int .i64 0) 1 8 Tryz.underlying128 hi hz0 hz1 hz2 rfl (by decide) (hvO sv rv (some n)) (h.rd n).length _ hs (H.fam.row (some n) (hV_some hn)) ad 1 c [.int .i64 y] hx rfl (fun j u hu => ?_) (fun u hu => ?_) (by decide) (by unfold maxLen; omega) hb (Nat.zero_le _) _ rfl (fun g cap w' h1 h2 h3 h4 => ?_)
  · match j, hu with
    | 0, hu => simp at hu; rw [hc, hu]
  · simp at hu; subst hu; rfl
  · have hne : ∀ q, q < W.heap.size → (hvO sv rv (some n)).ownBlock ≠ some q → w'.heap[q]? = W.heap[q]? := fun q hq e => h2.block q hq (fun e2 => e e2.symm)
    have hmr : MapIs w' br nr rv := H.mr.of_block (hne br H.mr.lt (H.off (some n) (hV_some hn)).2.2)
    obtain ⟨w'', hrun, hm, hg⟩ := hmr.store Tryz.underlying138 hnr hn (.slice (some ⟨g, 0, none⟩) ((h.rd n).length + 1) cap)
    have h5 := H.ready n hn h2 (.slice (some ⟨g, 0, none⟩) ((h.rd n).length + 1) cap) (h.rd n ++ [y]) (by rw [List.length_append, List.map_append]; exact h1) (by
      rcases h3 with h3 | h3
      · exact .inl h3.symm
      · exact .inr (by rw [← h3]; rfl)) hm hg
    have h6 := hne p H.pl (H.off (some n) (hV_some hn)).1
    exact hK g _ cap w' w'' ((World.cell?_of_block (a := ⟨p, 5, none⟩) h6).trans H.c5) hrun (Lib.hid h5) (Lib.hid ⟨h2, hg, by
      rcases h3 with h3 | h3
      · exact .inr h3
      · exact .inl h3⟩)
theorem give_goes {F : Nat → Prop} {w w1 w2 w3 : World} {p bt br nt nr g1 n1 c1 m c : Nat} {sv : Value} {rv : Int → Option Value} {h : HS} {n id : Int} {A : Option Addr} (hF : F = own p bt br sv rv) (hsn : n ∈ h.sizes) (hsz : ∀ x, In64 x → (rv x).isSome = true → x ∈ h.sizes) (hV : hvO sv rv (some n) = .slice A m c) (hn : In64 n) (hk1 : Kp F w w1) (hk : (h.giveBack id n).ok)
    (hw : w.heap.size ≤ w1.heap.size) (H : HeapIn w3 p bt br nt nr sv (updI rv n (some (.slice (some ⟨g1, 0, none⟩) n1 c1))) { lim := h.lim, live := h.live, laid := h.laid, sizes := h.sizes, tk := updI h.tk id none, rd := updI h.rd n (h.rd n ++ [id]) })
    (hg : w1.grownBy w2 (Value.slice A m c).ownBlock ∧ w2.grownBy w3 (some br) ∧ (g1 = w1.heap.size ∨ (Value.slice A m c).ownBlock = some g1)) : Goes F w p (h.giveBack id n) (w3.setCell ⟨p, 1, none⟩ (.int .i64 (h.live - n))) := by
  have hk2 := (hk1.grown hg.1 (fun q e => .inl (by rw [hF]; exact .inr (.inr (.inr ⟨some n, hV_some hn, by rw [hV]; exact e⟩))))).grown hg.2.1 (fun q e => .inl (by cases e; rw [hF]; exact .inr (.inr (.inl rfl))))
  refine (H.live (h.live - n)).goes hk (fun x hx hs => ?_) (hk2.set _ (.inl (by rw [hF]; exact .inl rfl)) _) (fun q hq => ?_)
  · by_cases e : x = n
    · subst e; exact hsn
    · rw [updI_other _ _ _ e] at hs; exact hsz x hx hs
  · rw [hF]
    rcases hq with rfl | rfl | rfl | ⟨i, hi, e⟩
    · exact .inl (.inl rfl)
    · exact .inl (.inr (.inl rfl))
    · exact .inl (.inr (.inr (.inl rfl)))
    · rw [hvO_some] at e
      by_cases e2 : i = some n
      · subst e2
        rw [updO_same] at e
        obtain rfl : g1 = q := by simpa [Value.ownBlock] using e
        rcases hg.2.2 with e3 | e3
        · exact .inr (by omega)
        · exact .inl (.inr (.inr (.inr ⟨some n, hi, by rw [hV]; exact e3⟩)))
      · rw [updO_other _ _ _ e2] at e; exact .inl (.inr (.inr (.inr ⟨i, hi, e⟩)))
set_option maxRecDepth 100000 in
set_option maxHeartbeats 1000000 in
theorem Give_yes (F : Nat → Prop) (p : Nat) (h : HS) (id n : Int) (ht : h.tk id = some n) (hsz : h.sizes.length ≤ 1000000) (w : World) (H : HeapAt F w p h) : Calls Tryz.prog 90 #[.pointer (some ⟨p, 0, none⟩), .int .i64 id] w fun e w' => e = .returned (.int .i64 0) ∧ Goes F w p (h.giveBack id n) w' := by
  obtain ⟨i0, hi, hz0, hz1, hz2⟩ := info_parts Tryz.infoInt
  have HH := Lib.hid H
  obtain ⟨k, bt, br, sv, rv, hin, hszs, hF⟩ := H
  obtain ⟨a1, a2, a3⟩ := k.tk _ _ ht
  have hn1 := k.tkn ht
  have hn : In64 n := by unfold In64; omega
  have hid : In64 id := by unfold In64; omega
  have l0 := k.l0
  have l1 := k.l1
  have l2 := k.l2
  have hsn : n ∈ h.sizes := by
    rw [List.getD_eq_getElem?_getD, List.getElem?_eq_getElem (show (id - 1).toNat < h.sizes.length by omega)] at a3
    rw [← a3]; exact List.getElem_mem _
  have hnd : (h.rd n).length ≤ h.sizes.length := by
    have := length_le_of_nodup (h.rd n) (Cs.up h.sizes.length) (k.nd n) (fun x hx => by have := k.rd n x hx; rw [Cs.up_mem]; omega)
    rwa [Cs.up_length] at this
  have c4 := hin.c4
  have HI := Lib.hid hin
  have HK := Lib.hid (HS.ok_giveBack k ht)
  have hv : ((fun x => (h.tk x).map (Value.int .i64)) id).getD (.int .i64 0) = .int .i64 n := by simp [ht]
  have hok : ((fun x => (h.tk x).map (Value.int .i64)) id).isSome = true := by simp [ht]
  have d0 : (id == 0) = false := by simp; omega
  have hs : wrap64 (h.live - n) = h.live - n := by unfold wrap64; omega
  obtain ⟨A, c, hV, -⟩ := hin.form (some n) (hV_some hn)
  change hvO sv rv (some n) = .slice A (h.rd n).length c at hV
  have HSZ := Lib.hid hszs
  have HFF := Lib.hid hF
  have HSN := Lib.hid hsn
  obtain ⟨m, hm⟩ : ∃ m, (h.rd n).length = m := ⟨_, rfl⟩
  rw [hm] at hV hnd
  have HM := Lib.hid hm
  have hb8 : (m + 1) * 8 ≤ 140737488355328 := by omega
  clear hm hsn hszs hF k hin a3 hn1 l0 l1 l2 ht
  go_enter Tryz.func90, Tryz.ntmps90
  go_wp2_with (first
    | (at_lookup; (refine wpList_look2_is rfl _ _ 137 rfl Tryz.underlying137 (zero_int _) (b := bt) (by simp [Act.eval, Act.put]) HI.out.mt id hid (by simp [Act.eval, Act.put]) _ _ hv hok ?_))
    | (at_delete; (refine wpList_drop_is rfl _ _ 137 rfl Tryz.underlying137 (b := bt) (by simp [Act.eval, Act.put]) HI.out.mt id hid (by simp [Act.eval, Act.put]) ?_); intro w1 hm1 hg1; have HI1 := Lib.hid (HI.out.taken (tk' := updI h.tk id none) (by rw [← tk_upd]; exact hm1) hg1); have c5 := HI1.out.c5; have HG1 := Lib.hid hg1; clear hm1 hg1 c4))
  have hlook : ∀ W : World, W.heap = w1.heap → (Instr.lookup 138 (.map (some br)) (.int .i64 n) false).run Tryz.prog W = .ok (.slice A m c) W := fun W hW => by
    have := ((HI1.out.mr.of_block (w' := W) (by rw [hW])).look Tryz.underlying138 (zero_ints W) hn).1
    rw [this]
    exact congrArg (fun v => Result.ok v W) hV
  have hlk := hlook w1.drew rfl
  have hlk2 : (Instr.lookup 138 (.map (some br)) (.int .i64 n) false).run Tryz.prog ((w1.alloc (.cells #[.int .i64 id] 3)).drew) = .ok (.slice A m c) ((w1.alloc (.cells #[.int .i64 id] 3)).drew) := by
    have hB : Below w1.heap.size w1 ((w1.alloc (.cells #[.int .i64 id] 3)).drew) := ((Below.refl _ w1).alloc (Nat.le_refl _) _).drew
    have := ((HI1.out.below hB).mr.look Tryz.underlying138 (zero_ints _) hn).1
    rw [this]
    exact congrArg (fun v => Result.ok v _) hV
  have HI2 := Lib.hid (HI1.out.below ((Below.refl _ w1).alloc (Nat.le_refl _) (.cells #[.int .i64 id] 3)).drew)
  have hk1 := Lib.hid (((Kp.refl F w).grown HG1.out (fun q e => .inl (by cases e; rw [HFF.out]; exact .inr (.inl rfl)))).below ((Below.refl _ w1).alloc (Nat.le_refl _) (.cells #[.int .i64 id] 3)).drew)
  have pl1 := HI1.out.pl
  have hb9 : ((h.rd n).length + 1) * 8 ≤ 140737488355328 := by rw [HM.out]; omega
  have hnr : h.sizes.length < maxLen := by unfold maxLen; omega
  clear hlook hv hok HG1
  go_region_law (refine step_give rfl (.tmp 39) (.tmp 41) rfl HI2.out n hn id _ hV (by simp [Act.eval, Act.put]) ⟨w1.heap.size, 0, none⟩ 1 1 (by simp [Act.eval, Act.put]) rfl (by simp [Addr.add, go_sem]) hb9 hnr ?_; intro g1 n1 c1 w2 w3 c5' hmu HI3 HG3)
  all_goals have e1 : w3.cell? ⟨p, 1, none⟩ = some (.int .i64 h.live) := HI3.out.c1
  all_goals have f1 := HI3.out.fz 1
  all_goals clear hmu hlk hlk2 c5 c5'
  all_goals go_wp2
  all_goals go_ret
  all_goals exact ⟨rfl, give_goes HFF.out HSN.out HSZ.out hV hn hk1.out HK.out (by simp [go_sem]; have := hk1.out.size; simp [go_sem] at this; omega) HI3.out HG3.out⟩
theorem Give_c (F : Nat → Prop) (p : Nat) (h : HS) (id r : Int) (hid : In64 id) (hr : h.giveE id = r) (hsz : h.sizes.length ≤ 1000000) (w : World) (H : HeapAt F w p h) : Calls Tryz.prog 90 #[.pointer (some ⟨p, 0, none⟩), .int .i64 id] w fun e w' => e = .returned (.int .i64 r) ∧ Goes F w p (h.give id) w' := by
  unfold HS.giveE at hr
  unfold HS.give
  cases ht : h.tk id with
  | none =>
    rw [ht] at hr
    have : (if id = 0 then h else match (none : Option Int) with | some n => h.giveBack id n | none => h) = h := by split <;> rfl
    rw [this]
    refine Give_no F p h id hid ht r ?_ w H
    simpa using hr
  | some n =>
    have h0 : id ≠ 0 := by have := H.1.tk _ _ ht; omega
    rw [if_neg h0] at hr ⊢
    rw [ht] at hr
    obtain rfl : 0 = r := by simpa using hr
    exact Give_yes F p h id n ht hsz w H
end Go.Proofs.YteheolefemlcgaaGreat
