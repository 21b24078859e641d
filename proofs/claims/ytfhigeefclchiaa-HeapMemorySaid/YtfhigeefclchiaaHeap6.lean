/- The program's heap: Give. -/
import Derived.Test.YtfhigeefclchiaaHeap5
namespace Go.Proofs.Ytfhigeefclchiaa
open Go.RowKit Go.Maps
set_option linter.unusedVariables false
set_option linter.unusedSimpArgs false

theorem Give_no (F : Nat → Prop) (p : Nat) (h : HS) (id : Int) (hid : In64 id) (ht : h.tk id = none) (r : Int) (hr : (if id = 0 then 0 else 1) = r) (w : World) (H : HeapAt F w p h) : Calls Try.prog 38 #[.pointer (some ⟨p, 0, none⟩), .int .i64 id] w fun e w' => e = .returned (.int .i64 r) ∧ Goes F w p h w' := by
  have HH := Lib.hid H
  obtain ⟨k, bt, br, sv, rv, hin, hszs, hF⟩ := H
  have c4 := hin.c4
  have HI := Lib.hid hin
  have hv : ((fun x => (h.tk x).map (Value.int .i64)) id).getD (.int .i64 0) = .int .i64 0 := by simp [ht]
  have hok : ((fun x => (h.tk x).map (Value.int .i64)) id).isSome = false := by simp [ht]
  clear ht hszs hF k hin
  by_cases e : id = 0
  · subst e
    obtain rfl : 0 = r := by simpa using hr
    clear hr
    go_enter Try.func38, Try.ntmps38
    go_wp2_with (first
      | (at_lookup; (refine wpList_look2_is rfl _ _ 74 rfl Try.underlying74 (zero_int _) (b := bt) (by simp [Act.eval, Act.put]) HI.out.mt 0 hid (by simp [Act.eval, Act.put]) _ _ hv hok ?_)))
    go_ret
    exact ⟨rfl, Goes.same HH.out (Below.refl _ _)⟩
  · rw [if_neg e] at hr
    subst hr
    have d0 : (id == 0) = false := by simpa using e
    clear e
    go_enter Try.func38, Try.ntmps38
    go_wp2_with (first
      | (at_lookup; (refine wpList_look2_is rfl _ _ 74 rfl Try.underlying74 (zero_int _) (b := bt) (by simp [Act.eval, Act.put]) HI.out.mt id hid (by simp [Act.eval, Act.put]) _ _ hv hok ?_)))
    go_ret
    exact ⟨rfl, Goes.same HH.out (Below.refl _ _)⟩
/-- 'h.ready[n] = append(h.ready[n], y)': the append, as one step of a region that draws; what the store behind it will do. -/
theorem step_give {ops : Array Oper} {o : Oper} {a : Act} {K : Act → World → Prop} {Q : Exit → Act → World → Prop} {E : Prop} {W : World} {p bt br nt nr : Nat} {sv : Value} {rv : Int → Option Value} {h : HS} (hgd : o.guard = none) (s x : Operand)
    (ho : o.op = .call { callee := .builtin .append, args := #[s, x], argTypes := #[22, 22] }) (H : HeapIn W p bt br nt nr sv rv h) (n : Int) (hn : In64 n) (y : Int) (v : Value) (hv : hvO sv rv (some n) = v) (hs : a.eval s = v) (ad : Addr) (m c : Nat) (hx : a.eval x = .slice (some ad) m c) (hm : m = 1) (hc : W.cell? (ad.add 0) = some (.int .i64 y))
    (hb : ((h.rd n).length + 1) * 8 ≤ 140737488355328) (hnr : nr < maxLen)
    (hK : ∀ (g n' cap : Nat) w' w'', w'.cell? ⟨p, 5, none⟩ = some (.map (some br)) → (Instr.mapUpdate 75 (.map (some br)) (.int .i64 n) (.slice (some ⟨g, 0, none⟩) n' cap)).run Try.prog w' = .ok () w'' → Hid (HeapIn w'' p bt br nt (nr + 1) sv (updI rv n (some (.slice (some ⟨g, 0, none⟩) n' cap))) { h with rd := updI h.rd n (h.rd n ++ [y]) }) → Hid (W.grownBy w' v.ownBlock ∧ w'.grownBy w'' (some br) ∧ (g = W.heap.size ∨ v.ownBlock = some g)) → K (a.put o.dst (.slice (some ⟨g, 0, none⟩) n' cap)) w') :
    if Region.wanted o (yielded ops a.tmps) = true then Oper.wp Try.prog o a W K Q else E := by
  obtain ⟨i0, hi, hz0, hz1, hz2⟩ := info_parts Try.infoInt
  subst hm hv
  refine step_append_lies _ hgd s x 22 ho 0 3 i0 (.int .i64 0) 1 8 Try.underlying22 hi hz0 hz1 hz2 rfl (by decide) (hvO sv rv (some n)) (h.rd n).length _ hs (H.fam.row (some n) (hV_some hn)) ad 1 c [.int .i64 y] hx rfl (fun j u hu => ?_) (fun u hu => ?_) (by decide) (by unfold maxLen; omega) hb (Nat.zero_le _) _ rfl (fun g cap w' h1 h2 h3 h4 => ?_)
  · match j, hu with
    | 0, hu => simp at hu; rw [hc, hu]
  · simp at hu; subst hu; rfl
  · have hne : ∀ q, q < W.heap.size → (hvO sv rv (some n)).ownBlock ≠ some q → w'.heap[q]? = W.heap[q]? := fun q hq e => h2.block q hq (fun e2 => e e2.symm)
    have hmr : MapIs w' br nr rv := H.mr.of_block (hne br H.mr.lt (H.off (some n) (hV_some hn)).2.2)
    obtain ⟨w'', hrun, hm, hg⟩ := hmr.store Try.underlying75 hnr hn (.slice (some ⟨g, 0, none⟩) ((h.rd n).length + 1) cap)
    have h5 := H.ready n hn h2 (.slice (some ⟨g, 0, none⟩) ((h.rd n).length + 1) cap) (h.rd n ++ [y]) (by rw [List.length_append, List.map_append]; exact h1) (by
      rcases h3 with h3 | h3
      · exact .inl h3.symm
      · exact .inr (by rw [← h3]; rfl)) hm hg
    have h6 := hne p H.pl (H.off (some n) (hV_some hn)).1
    exact hK g _ cap w' w'' ((World.cell?_of_block (a := ⟨p, 5, none⟩) h6).trans H.c5) hrun (Lib.hid h5) (Lib.hid ⟨h2, hg, by
      rcases h3 with h3 | h3
      · exact .inr h3
      · exact .inl h3⟩)
theorem give_goes {F : Nat → Prop} {w w1 w2 w3 : World} {p bt br nt nr g1 n1 c1 m c : Nat} {sv : Value} {rv : Int → Option Value} {h : HS} {n id : Int} {A : Option Addr} (hF : F = own p bt br sv rv) (hsn : n ∈ h.sizes) (hsz : ∀ x, In64 x → (rv x).isSome = true → x ∈ h.sizes) (hV : hvO sv rv (some n) = .slice A m c) (hn : In64 n) (hk1 : Kp F w w1) (hk : (h.giveBack id n).ok)
    (hw : w.heap.size ≤ w1.heap.size) (H : HeapIn w3 p bt br nt nr sv (updI rv n (some (.slice (some ⟨g1, 0, none⟩) n1 c1))) { lim := h.lim, live := h.live, laid := h.laid, sizes := h.sizes, tk := updI h.tk id none, rd := updI h.rd n (h.rd n ++ [id]) })
    (hg : w1.grownBy w2 (Value.slice A m c).ownBlock ∧ w2.grownBy w3 (some br) ∧ (g1 = w1.heap.size ∨ (Value.slice A m c).ownBlock = some g1)) : Goes F w p (h.giveBack id n) (w3.setCell ⟨p, 1, none⟩ (.int .i64 (h.live - n))) := by
  have hk2 := (hk1.grown hg.1 (fun q e => .inl (by rw [hF]; exact .inr (.inr (.inr ⟨some n, hV_some hn, by rw [hV]; exact e⟩))))).grown hg.2.1 (fun q e => .inl (by cases e; rw [hF]; exact .inr (.inr (.inl rfl))))
  refine (H.live (h.live - n)).goes hk (fun x hx hs => ?_) (hk2.set _ (.inl (by rw [hF]; exact .inl rfl)) _) (fun q hq => ?_)
  · by_cases e : x = n
    · subst e; exact hsn
    · rw [updI_other _ _ _ e] at hs; exact hsz x hx hs
  · rw [hF]
    rcases hq with rfl | rfl | rfl | ⟨i, hi, e⟩
    · exact .inl (.inl rfl)
    · exact .inl (.inr (.inl rfl))
    · exact .inl (.inr (.inr (.inl rfl)))
    · rw [hvO_some] at e
      by_cases e2 : i = some n
      · subst e2
        rw [updO_same] at e
        obtain rfl : g1 = q := by simpa [Value.ownBlock] using e
        rcases hg.2.2 with e3 | e3
        · exact .inr (by omega)
        · exact .inl (.inr (.inr (.inr ⟨some n, hi, by rw [hV]; exact e3⟩)))
      · rw [updO_other _ _ _ e2] at e; exact .inl (.inr (.inr (.inr ⟨i, hi, e⟩)))
set_option maxRecDepth 100000 in
set_option maxHeartbeats 1000000 in
theorem Give_yes (F : Nat → Prop) (p : Nat) (h : HS) (id n : Int) (ht : h.tk id = some n) (hsz : h.sizes.length ≤ 1000000) (w : World) (H : HeapAt F w p h) : Calls Try.prog 38 #[.pointer (some ⟨p, 0, none⟩), .int .i64 id] w fun e w' => e = .returned (.int .i64 0) ∧ Goes F w p (h.giveBack id n) w' := by
  obtain ⟨i0, hi, hz0, hz1, hz2⟩ := info_parts Try.infoInt
  have HH := Lib.hid H
  obtain ⟨k, bt, br, sv, rv, hin, hszs, hF⟩ := H
  obtain ⟨a1, a2, a3⟩ := k.tk _ _ ht
  have hn1 := k.tkn ht
  have hn : In64 n := by unfold In64; omega
  have hid : In64 id := by unfold In64; omega
  have l0 := k.l0
  have l1 := k.l1
  have l2 := k.l2
  have hsn : n ∈ h.sizes := by
    rw [List.getD_eq_getElem?_getD, List.getElem?_eq_getElem (show (id - 1).toNat < h.sizes.length by omega)] at a3
    rw [← a3]; exact List.getElem_mem _
  have hnd : (h.rd n).length ≤ h.sizes.length := by
    have := length_le_of_nodup (h.rd n) (Cs.up h.sizes.length) (k.nd n) (fun x hx => by have := k.rd n x hx; rw [Cs.up_mem]; omega)
    rwa [Cs.up_length] at this
  have c4 := hin.c4
  have HI := Lib.hid hin
  have HK := Lib.hid (HS.ok_giveBack k ht)
  have hv : ((fun x => (h.tk x).map (Value.int .i64)) id).getD (.int .i64 0) = .int .i64 n := by simp [ht]
  have hok : ((fun x => (h.tk x).map (Value.int .i64)) id).isSome = true := by simp [ht]
  have d0 : (id == 0) = false := by simp; omega
  have hs : wrap64 (h.live - n) = h.live - n := by unfold wrap64; omega
  obtain ⟨A, c, hV, -⟩ := hin.form (some n) (hV_some hn)
  change hvO sv rv (some n) = .slice A (h.rd n).length c at hV
  have HSZ := Lib.hid hszs
  have HFF := Lib.hid hF
  have HSN := Lib.hid hsn
  obtain ⟨m, hm⟩ : ∃ m, (h.rd n).length = m := ⟨_, rfl⟩
  rw [hm] at hV hnd
  have HM := Lib.hid hm
  have hb8 : (m + 1) * 8 ≤ 140737488355328 := by omega
  clear hm hsn hszs hF k hin a3 hn1 l0 l1 l2 ht
  go_enter Try.func38, Try.ntmps38
  go_wp2_with (first
    | (at_lookup; (refine wpList_look2_is rfl _ _ 74 rfl Try.underlying74 (zero_int _) (b := bt) (by simp [Act.eval, Act.put]) HI.out.mt id hid (by simp [Act.eval, Act.put]) _ _ hv hok ?_))
    | (at_delete; (refine wpList_drop_is rfl _ _ 74 rfl Try.underlying74 (b := bt) (by simp [Act.eval, Act.put]) HI.out.mt id hid (by simp [Act.eval, Act.put]) ?_); intro w1 hm1 hg1; have HI1 := Lib.hid (HI.out.taken (tk' := updI h.tk id none) (by rw [← tk_upd]; exact hm1) hg1); have c5 := HI1.out.c5; have HG1 := Lib.hid hg1; clear hm1 hg1 c4))
  have hlook : ∀ W : World, W.heap = w1.heap → (Instr.lookup 75 (.map (some br)) (.int .i64 n) false).run Try.prog W = .ok (.slice A m c) W := fun W hW => by
    have := ((HI1.out.mr.of_block (w' := W) (by rw [hW])).look Try.underlying75 (zero_ints W) hn).1
    rw [this]
    exact congrArg (fun v => Result.ok v W) hV
  have hlk := hlook w1.drew rfl
  have hlk2 : (Instr.lookup 75 (.map (some br)) (.int .i64 n) false).run Try.prog ((w1.alloc (.cells #[.int .i64 id] 3)).drew) = .ok (.slice A m c) ((w1.alloc (.cells #[.int .i64 id] 3)).drew) := by
    have hB : Below w1.heap.size w1 ((w1.alloc (.cells #[.int .i64 id] 3)).drew) := ((Below.refl _ w1).alloc (Nat.le_refl _) _).drew
    have := ((HI1.out.below hB).mr.look Try.underlying75 (zero_ints _) hn).1
    rw [this]
    exact congrArg (fun v => Result.ok v _) hV
  have HI2 := Lib.hid (HI1.out.below ((Below.refl _ w1).alloc (Nat.le_refl _) (.cells #[.int .i64 id] 3)).drew)
  have hk1 := Lib.hid (((Kp.refl F w).grown HG1.out (fun q e => .inl (by cases e; rw [HFF.out]; exact .inr (.inl rfl)))).below ((Below.refl _ w1).alloc (Nat.le_refl _) (.cells #[.int .i64 id] 3)).drew)
  have pl1 := HI1.out.pl
  have hb9 : ((h.rd n).length + 1) * 8 ≤ 140737488355328 := by rw [HM.out]; omega
  have hnr : h.sizes.length < maxLen := by unfold maxLen; omega
  clear hlook hv hok HG1
  go_region_law (refine step_give rfl (.tmp 39) (.tmp 41) rfl HI2.out n hn id _ hV (by simp [Act.eval, Act.put]) ⟨w1.heap.size, 0, none⟩ 1 1 (by simp [Act.eval, Act.put]) rfl (by simp [Addr.add, go_sem]) hb9 hnr ?_; intro g1 n1 c1 w2 w3 c5' hmu HI3 HG3)
  all_goals have e1 : w3.cell? ⟨p, 1, none⟩ = some (.int .i64 h.live) := HI3.out.c1
  all_goals have f1 := HI3.out.fz 1
  all_goals clear hmu hlk hlk2 c5 c5'
  all_goals go_wp2
  all_goals go_ret
  all_goals exact ⟨rfl, give_goes HFF.out HSN.out HSZ.out hV hn hk1.out HK.out (by simp [go_sem]; have := hk1.out.size; simp [go_sem] at this; omega) HI3.out HG3.out⟩
theorem Give_c (F : Nat → Prop) (p : Nat) (h : HS) (id r : Int) (hid : In64 id) (hr : h.giveE id = r) (hsz : h.sizes.length ≤ 1000000) (w : World) (H : HeapAt F w p h) : Calls Try.prog 38 #[.pointer (some ⟨p, 0, none⟩), .int .i64 id] w fun e w' => e = .returned (.int .i64 r) ∧ Goes F w p (h.give id) w' := by
  unfold HS.giveE at hr
  unfold HS.give
  cases ht : h.tk id with
  | none =>
    rw [ht] at hr
    have : (if id = 0 then h else match (none : Option Int) with | some n => h.giveBack id n | none => h) = h := by split <;> rfl
    rw [this]
    refine Give_no F p h id hid ht r ?_ w H
    simpa using hr
  | some n =>
    have h0 : id ≠ 0 := by have := H.1.tk _ _ ht; omega
    rw [if_neg h0] at hr ⊢
    rw [ht] at hr
    obtain rfl : 0 = r := by simpa using hr
    exact Give_yes F p h id n ht hsz w H
end Go.Proofs.Ytfhigeefclchiaa
