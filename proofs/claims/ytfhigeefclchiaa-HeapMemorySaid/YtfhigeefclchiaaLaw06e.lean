/- HeapPlays: the program's Play and the reference's. -/
import Derived.Test.YtfhigeefclchiaaRPlay
import Derived.Deep.AppendLies
import Derived.Deep.RegionLaw
namespace Go.Proofs.Ytfhigeefclchiaa
open Go.RowKit Go.Maps
set_option linter.unusedVariables false
set_option linter.unusedSimpArgs false

/-- At most 300 of them, or more than 1000. -/
def fewL (l : List (Int × Int)) : List (Int × Int) := if 300 < l.length ∧ l.length ≤ 1000 then l.take 300 else l
theorem fewL_len (l : List (Int × Int)) : (fewL l).length ≤ l.length := by unfold fewL; split; (rw [List.length_take]; omega); omega
theorem fewL_mem (l : List (Int × Int)) : ∀ x ∈ fewL l, x ∈ l := by unfold fewL; split; exact fun x hx => List.mem_of_mem_take hx; exact fun x hx => hx
theorem op_take (l : List (Int × Int)) (n j : Nat) (hj : j < n) : opK (l.take n) j = opK l j ∧ opN (l.take n) j = opN l j := by
  unfold opK opN
  rw [List.getD_eq_getElem?_getD, List.getD_eq_getElem?_getD, List.getElem?_take_of_lt hj]
  exact ⟨rfl, rfl⟩
theorem few_c (v : Value) (l : List (Int × Int)) (W : World) (hv : OSA W v l) (w : World) : Calls Try.prog 28 #[v] w fun e w' => ∃ v', e = .returned v' ∧ (∀ W', POps W' v l → POps W' v' (fewL l)) ∧ w = w' := by
  obtain ⟨A, c, rfl, hc, -⟩ := hv.cells
  have hll := hv.len
  have HC := Lib.hid hc
  have hlI : (l.length : Int) ≤ 9223372036854775807 := by omega
  clear hv
  by_cases h1 : 300 < l.length
  · have d1 : decide ((300 : Int) < (l.length : Int)) = true := by simp; omega
    by_cases h2 : l.length ≤ 1000
    · have d2 : decide ((l.length : Int) ≤ 1000) = true := by simp; omega
      have hcI : (300 : Int) ≤ (c : Int) := by omega
      have HE : Hid (fewL l = l.take 300) := Lib.hid (by unfold fewL; rw [if_pos ⟨h1, h2⟩])
      have HL : Hid (300 < l.length) := Lib.hid h1
      clear h1 h2
      go_enter Try.func28, Try.ntmps28
      go_wp2
      go_ret
      refine ⟨_, rfl, fun W' h => ?_, rfl⟩
      rw [HE.out]
      obtain ⟨A', c', e, hp⟩ := h
      cases e
      have hl3 : (l.take 300).length = 300 := by rw [List.length_take]; have := HL.out; omega
      refine ⟨_, c, by rw [hl3]; rfl, fun _ => ?_⟩
      obtain ⟨b, o, e1, e2, e3⟩ := hp (by have := HL.out; omega)
      refine ⟨b, o, ?_, e2, fun j hj => ?_⟩
      · subst e1; simp
      · rw [hl3] at hj
        have := HL.out
        rw [(op_take l 300 j hj).1, (op_take l 300 j hj).2]
        exact e3 j (by omega)
    · have d2 : decide ((l.length : Int) ≤ 1000) = false := by simp; omega
      have HE : Hid (fewL l = l) := Lib.hid (by unfold fewL; rw [if_neg (fun h => h2 h.2)])
      clear h1 h2
      go_enter Try.func28, Try.ntmps28
      go_wp2
      go_ret
      exact ⟨_, rfl, fun W' h => by rw [HE.out]; exact h, rfl⟩
  · have d1 : decide ((300 : Int) < (l.length : Int)) = false := by simp; omega
    have HE : Hid (fewL l = l) := Lib.hid (by unfold fewL; rw [if_neg (fun h => h1 h.1)])
    clear h1
    go_enter Try.func28, Try.ntmps28
    go_wp2
    go_ret
    exact ⟨_, rfl, fun W' h => by rw [HE.out]; exact h, rfl⟩
theorem Try.infoOp : (Try.prog.info? 49).map (fun i => (i.zero, i.size, i.bytes)) = some (some (.agg #[.int .i64 0, .int .i64 0]), 2, 16) := by kernel_rfl
theorem step_ops {ops : Array Oper} {o : Oper} {a : Act} {K : Act → World → Prop} {Q : Exit → Act → World → Prop} {E : Prop} {W : World} {base n : Nat} {v : Value} {xs : List Value} (hgd : o.guard = none) (s x : Operand)
    (ho : o.op = .call { callee := .builtin .append, args := #[s, x], argTypes := #[41, 41] }) (hown : W.ownsRow base 49 2 v n xs) (hs : a.eval s = v) (ad : Addr) (m c : Nat) (hx : a.eval x = .slice (some ad) m c) (hm : m = 1) (k1 k2 : Int) (hc0 : W.cell? (ad.add 0) = some (.int .i64 k1)) (hc1 : W.cell? (ad.add 1) = some (.int .i64 k2))
    (hb : (n + 1) * 16 ≤ 140737488355328) (hbase : base ≤ W.heap.size)
    (hK : ∀ (g n' cap : Nat) w', w'.ownsRow base 49 2 (.slice (some ⟨g, 0, none⟩) n' cap) (n + 1) (xs ++ [.int .i64 k1, .int .i64 k2]) → W.grownBy w' v.ownBlock → K (a.put o.dst (.slice (some ⟨g, 0, none⟩) n' cap)) w') :
    if Region.wanted o (yielded ops a.tmps) = true then Oper.wp Try.prog o a W K Q else E := by
  obtain ⟨i0, hi, hz0, hz1, hz2⟩ := info_parts Try.infoOp
  subst hm
  refine step_append_lies _ hgd s x 41 ho base 49 i0 _ 2 16 Try.underlying41 hi hz0 hz1 hz2 rfl (by decide) v n xs hs hown ad 1 c [.int .i64 k1, .int .i64 k2] hx rfl (fun j u hu => ?_) (fun u hu => ?_) (by decide) (by unfold maxLen; omega) hb hbase _ rfl (fun g cap w' h1 h2 h3 h4 => hK g _ cap w' h1 h2)
  · match j, hu with
    | 0, hu => simp at hu; rw [hc0, hu]
    | 1, hu => simp at hu; rw [hc1, hu]
  · simp at hu; rcases hu with rfl | rfl <;> rfl
set_option maxHeartbeats 1600000 in
theorem ops_c (v : Value) (l : List (Int × Int)) (w : World) (hl : l.length ≤ 8796093022207) (hv : POps w v l) : Calls Try.prog 30 #[v] w fun e w' => ∃ v', e = .returned v' ∧ w'.ownsRow w.heap.size 49 2 v' l.length (blkCells l) ∧ Below w.heap.size w w' := by
  obtain ⟨A, c, rfl, hA⟩ := hv
  have HA := Lib.hid hA
  have hlI : (l.length : Int) ≤ 9223372036854775807 := by omega
  clear hA
  go_enter Try.func30, Try.ntmps30
  go_wp2
  go_loopw [3, 4] (fun v' i wr => ∃ j : Nat, j ≤ l.length ∧ i = .int .i64 j ∧ Hid (wr.ownsRow w.heap.size 49 2 v' j (blkCells (l.take j))) ∧ Below w.heap.size w wr) (fun _ i _ => l.length - (intOf i).toNat)
  case atStart => exact ⟨0, Nat.zero_le _, rfl, Lib.hid (World.ownsRow_nil _ _ _ _), Below.refl _ _⟩
  case round =>
    obtain ⟨j, hj, rfl, HO, hB⟩ := hrel
    by_cases hjl : j < l.length
    · obtain ⟨b, o, rfl, hbl, hc⟩ := HA.out (by omega)
      obtain ⟨ck, cn⟩ := hc j hjl
      replace ck := (hB.cell (p := ⟨b, _, none⟩) hbl).trans ck
      replace cn := (hB.cell (p := ⟨b, _, none⟩) hbl).trans cn
      clear hc
      have HT : Hid (blkCells (l.take (j + 1)) = blkCells (l.take j) ++ [.int .i64 (opK l j), .int .i64 (opN l j)]) := Lib.hid (by rw [HS.take_op l j hjl, blkCells_app]; rfl)
      generalize opK l j = k at ck HT
      generalize opN l j = n at cn HT
      have dj : decide ((j : Int) < (l.length : Int)) = true := by simp; omega
      have jl : (j : Int) < (l.length : Int) := by omega
      have hb16 : (j + 1) * 16 ≤ 140737488355328 := by omega
      have hbr : b < wr.heap.size := Nat.lt_of_lt_of_le hbl hB.size
      have HO2 := Lib.hid (ownsRow_below HO.out (((Below.refl _ wr).alloc (Nat.le_refl _) (.cells #[.int .i64 k, .int .i64 n] 49)).drew))
      have hbs : w.heap.size ≤ ((wr.alloc (.cells #[.int .i64 k, .int .i64 n] 49)).drew).heap.size := by have := hB.size; simp [go_sem]; omega
      have HB2 := Lib.hid ((hB.alloc hB.size (.cells #[.int .i64 k, .int .i64 n] 49)).drew)
      go_wp2
      go_region_law (refine step_ops rfl (.tmp 11) (.tmp 23) rfl HO2.out (by simp [Act.eval, Act.put]) ⟨wr.heap.size, 0, none⟩ 1 1 (by simp [Act.eval, Act.put]) rfl k n (by simp [Addr.add, go_sem]) (by simp [Addr.add, go_sem]) hb16 hbs ?_; intro g1 n1 c1 w2 hown2 hg2)
      all_goals have HB3 := Lib.hid (HB2.out.grown hg2 hbs (fun q e => (HO.out.lt q e).1))
      all_goals have HO3 := Lib.hid hown2
      all_goals clear hown2 hg2
      all_goals go_wp2
      all_goals go_roundw
      all_goals first | exact ⟨j + 1, by omega, by go_num, Lib.hid (by rw [HT.out]; exact HO3.out), HB3.out⟩ | (simp [intOf]; omega)
    · obtain rfl : l.length = j := by omega
      go_wp2
      go_ret
      have := HO.out
      rw [List.take_length] at this
      exact ⟨_, rfl, this, hB⟩
theorem pops_of_row {w : World} {base : Nat} {v : Value} {l : List (Int × Int)} (h : w.ownsRow base 49 2 v l.length (blkCells l)) : POps w v l := by
  rcases h.2 with ⟨e, h0⟩ | ⟨g, cap, cur, e, hb, hg, hn, hc, hs, ht⟩
  · exact ⟨none, 0, by rw [e, h0], fun h => by omega⟩
  · refine ⟨some ⟨g, 0, none⟩, cap, e, fun h0 => ⟨g, 0, rfl, (Array.getElem?_eq_some_iff.1 hg).1, fun j hj => ?_⟩⟩
    rw [e] at h
    have h1 := blkCells_at l j hj
    rw [Nat.zero_add]
    exact ⟨(h.cellAt (j * 2) (by omega)).trans h1.1, (h.cellAt (j * 2 + 1) (by omega)).trans h1.2⟩
/-- A row of answers. -/
def GRow (w : World) (v : Value) (gs : List (Int × Int × Int × Int)) : Prop :=
  ∃ A c, v = .slice A gs.length c ∧ (0 < gs.length → ∃ g, A = some ⟨g, 0, none⟩ ∧ g < w.heap.size ∧ ∀ j, j < gs.length → ∃ x0 x1 x2 x3, gs[j]? = some (x0, x1, x2, x3) ∧ w.cell? ⟨g, j * 4, none⟩ = some (.int .i64 x0) ∧ w.cell? ⟨g, j * 4 + 1, none⟩ = some (.int .i64 x1) ∧ w.cell? ⟨g, j * 4 + 2, none⟩ = some (.int .i64 x2) ∧ w.cell? ⟨g, j * 4 + 3, none⟩ = some (.int .i64 x3))
theorem gotCells_at (g : List (Int × Int × Int × Int)) : ∀ j x0 x1 x2 x3, g[j]? = some (x0, x1, x2, x3) → (gotCells g)[j * 4]? = some (.int .i64 x0) ∧ (gotCells g)[j * 4 + 1]? = some (.int .i64 x1) ∧ (gotCells g)[j * 4 + 2]? = some (.int .i64 x2) ∧ (gotCells g)[j * 4 + 3]? = some (.int .i64 x3) := by
  induction g with
  | nil => intro j x0 x1 x2 x3 h; simp at h
  | cons y g ih =>
    intro j x0 x1 x2 x3 h
    cases j with
    | zero => simp at h; subst h; exact ⟨rfl, rfl, rfl, rfl⟩
    | succ j =>
      have := ih j x0 x1 x2 x3 (by simpa using h)
      have e : gotCells (y :: g) = Value.int .i64 y.1 :: Value.int .i64 y.2.1 :: Value.int .i64 y.2.2.1 :: Value.int .i64 y.2.2.2 :: gotCells g := rfl
      rw [e, show (j + 1) * 4 = j * 4 + 1 + 1 + 1 + 1 by omega, show j * 4 + 1 + 1 + 1 + 1 + 1 = (j * 4 + 1) + 1 + 1 + 1 + 1 by omega, show j * 4 + 1 + 1 + 1 + 1 + 2 = (j * 4 + 2) + 1 + 1 + 1 + 1 by omega, show j * 4 + 1 + 1 + 1 + 1 + 3 = (j * 4 + 3) + 1 + 1 + 1 + 1 by omega]
      simpa using this
theorem grow_of_row {w : World} {base n : Nat} {e : TypeId} {v : Value} {gs : List (Int × Int × Int × Int)} (hn : gs.length = n) (h : w.ownsRow base e 4 v n (gotCells gs)) : GRow w v gs := by
  subst hn
  rcases h.2 with ⟨e, h0⟩ | ⟨g, cap, cur, e, hb, hg, hn, hc, hs, ht⟩
  · exact ⟨none, 0, by rw [e, h0], fun h => by omega⟩
  · refine ⟨some ⟨g, 0, none⟩, cap, e, fun h0 => ⟨g, rfl, (Array.getElem?_eq_some_iff.1 hg).1, fun j hj => ?_⟩⟩
    rw [e] at h
    have h1 : gs[j]? = some ((gs[j]).1, (gs[j]).2.1, (gs[j]).2.2.1, (gs[j]).2.2.2) := List.getElem?_eq_getElem hj
    obtain ⟨a0, a1, a2, a3⟩ := gotCells_at gs j _ _ _ _ h1
    exact ⟨_, _, _, _, h1, (h.cellAt _ (by omega)).trans a0, (h.cellAt _ (by omega)).trans a1, (h.cellAt _ (by omega)).trans a2, (h.cellAt _ (by omega)).trans a3⟩
theorem GRow.below {w w' : World} {v : Value} {gs : List (Int × Int × Int × Int)} (h : GRow w v gs) (hb : Below w.heap.size w w') : GRow w' v gs := by
  obtain ⟨A, c, e, h⟩ := h
  refine ⟨A, c, e, fun h0 => ?_⟩
  obtain ⟨g, e2, hl, hc⟩ := h h0
  refine ⟨g, e2, Nat.lt_of_lt_of_le hl hb.size, fun j hj => ?_⟩
  obtain ⟨x0, x1, x2, x3, h1, a0, a1, a2, a3⟩ := hc j hj
  exact ⟨x0, x1, x2, x3, h1, (hb.cell (p := ⟨g, _, none⟩) hl).trans a0, (hb.cell (p := ⟨g, _, none⟩) hl).trans a1, (hb.cell (p := ⟨g, _, none⟩) hl).trans a2, (hb.cell (p := ⟨g, _, none⟩) hl).trans a3⟩
theorem grow_nil (w : World) : GRow w nilSl [] := ⟨none, 0, rfl, fun h => by simp at h⟩
set_option maxRecDepth 100000 in
set_option maxHeartbeats 1600000 in
theorem same_c (u v : Value) (gs : List (Int × Int × Int × Int)) (w : World) (hl : gs.length ≤ 1000000) (hu : GRow w u gs) (hv : GRow w v gs) : Calls Try.prog 33 #[u, v] w fun e w' => e = .returned (.bool true) ∧ Below w.heap.size w w' := by
  obtain ⟨A, c, rfl, hA⟩ := hu
  obtain ⟨A', c', rfl, hA'⟩ := hv
  have H1 := Lib.hid hA; have H2 := Lib.hid hA'
  have hlI : (gs.length : Int) ≤ 9223372036854775807 := by omega
  clear hA hA'
  go_enter Try.func33, Try.ntmps33
  go_wp2
  go_loopw [5] (fun i wr => ∃ j : Nat, j ≤ gs.length ∧ i = .int .i64 j ∧ Below w.heap.size w wr) (fun i _ => gs.length - (intOf i).toNat)
  case atStart => exact ⟨0, Nat.zero_le _, rfl, Below.refl _ _⟩
  case round =>
    obtain ⟨j, hj, rfl, hB⟩ := hrel
    by_cases hjl : j < gs.length
    · obtain ⟨g, rfl, hgl, hc⟩ := H1.out (by omega)
      obtain ⟨g', rfl, hgl', hc'⟩ := H2.out (by omega)
      obtain ⟨x0, x1, x2, x3, hx, a0, a1, a2, a3⟩ := hc j hjl
      obtain ⟨y0, y1, y2, y3, hy, b0, b1, b2, b3⟩ := hc' j hjl
      rw [hx] at hy
      obtain ⟨rfl, rfl, rfl, rfl⟩ : x0 = y0 ∧ x1 = y1 ∧ x2 = y2 ∧ x3 = y3 := by simpa using hy
      replace a0 := (hB.cell (p := ⟨g, _, none⟩) hgl).trans a0
      replace a1 := (hB.cell (p := ⟨g, _, none⟩) hgl).trans a1
      replace a2 := (hB.cell (p := ⟨g, _, none⟩) hgl).trans a2
      replace a3 := (hB.cell (p := ⟨g, _, none⟩) hgl).trans a3
      replace b0 := (hB.cell (p := ⟨g', _, none⟩) hgl').trans b0
      replace b1 := (hB.cell (p := ⟨g', _, none⟩) hgl').trans b1
      replace b2 := (hB.cell (p := ⟨g', _, none⟩) hgl').trans b2
      replace b3 := (hB.cell (p := ⟨g', _, none⟩) hgl').trans b3
      have dj : decide ((j : Int) < (gs.length : Int)) = true := by simp; omega
      have jl : (j : Int) < (gs.length : Int) := by omega
      clear hc hc' hx hy
      go_wp2
      go_quiet (fail)
      go_wp2
      go_roundw
      case rel => exact ⟨j + 1, by omega, by go_num, below_drewN hB _⟩
      case measure => simp [intOf]; omega
    · obtain rfl : gs.length = j := by omega
      go_wp2
      go_ret
      exact ⟨rfl, hB⟩
end Go.Proofs.Ytfhigeefclchiaa
