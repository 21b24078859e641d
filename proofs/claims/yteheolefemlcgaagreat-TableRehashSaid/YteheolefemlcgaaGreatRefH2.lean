/- The reference's heap as it lies in memory: Live, Laid, Blocks, Take, Give, Spend. -/
import Derived.Test.YteheolefemlcgaaGreatHeaB
import Derived.Deep.QuietTactic
namespace Go.Proofs.YteheolefemlcgaaGreat
open Go.RowKit Go.Maps RS
set_option linter.unusedVariables false
set_option linter.unusedSimpArgs false

def blkCells (l : List (Int × Int)) : List Value := l.flatMap fun x => [.int .i64 x.1, .int .i64 x.2]
theorem blkCells_app (l m : List (Int × Int)) : blkCells (l ++ m) = blkCells l ++ blkCells m := by simp [blkCells]
theorem blkCells_len (l : List (Int × Int)) : (blkCells l).length = l.length * 2 := by
  induction l with
  | nil => rfl
  | cons x l ih => simp only [blkCells, List.flatMap_cons, List.length_append, List.length_cons, List.length_nil] at ih ⊢; omega
theorem blkCells_at (l : List (Int × Int)) : ∀ i, i < l.length → (blkCells l)[i * 2]? = some (.int .i64 (cel l i)) ∧ (blkCells l)[i * 2 + 1]? = some (.int .i64 (giv l i)) := by
  induction l with
  | nil => intro i hi; simp at hi
  | cons x l ih =>
    intro i hi
    cases i with
    | zero => exact ⟨rfl, rfl⟩
    | succ i =>
      have := ih i (by simpa using hi)
      have e : blkCells (x :: l) = Value.int .i64 x.1 :: Value.int .i64 x.2 :: blkCells l := rfl
      rw [e, show (i + 1) * 2 = i * 2 + 1 + 1 by omega, show i * 2 + 1 + 1 + 1 = (i * 2 + 1) + 1 + 1 by omega]
      simpa [cel, giv] using this
/-- The reference's heap r behind the pointer to block q. -/
structure RefIn (w : World) (q : Nat) (av : Value) (r : RS) : Prop where
  c0 : w.cell? ⟨q, 0, none⟩ = some (.int .i64 r.lim)
  c1 : w.cell? ⟨q, 1, none⟩ = some (.int .i64 r.spent)
  c2 : w.cell? ⟨q, 2, none⟩ = some (.int .i64 r.clock)
  c3 : w.cell? ⟨q, 3, none⟩ = some av
  fz : ∀ i, w.frozen? ⟨q, i, none⟩ = false
  row : w.ownsRow 0 151 2 av r.all.length (blkCells r.all)
  off : av.ownBlock ≠ some q
def RefAt (G : Nat → Prop) (w : World) (q : Nat) (r : RS) : Prop := ∃ av, RefIn w q av r ∧ G = fun k => k = q ∨ av.ownBlock = some k
def GoesR (G : Nat → Prop) (w : World) (q : Nat) (r' : RS) (w' : World) : Prop := ∃ G', RefAt G' w' q r' ∧ Kp G w w' ∧ ∀ k, G' k → G k ∨ w.heap.size ≤ k
theorem RefIn.pl {w : World} {q : Nat} {av : Value} {r : RS} (H : RefIn w q av r) : q < w.heap.size := by obtain ⟨b, o, e, hl⟩ := spot_of_cell H.c0; cases e; exact hl
theorem RefIn.keep {w w' : World} {q : Nat} {av : Value} {r : RS} (H : RefIn w q av r) (hb : ∀ k, k = q ∨ av.ownBlock = some k → w'.heap[k]? = w.heap[k]?) : RefIn w' q av r := by
  have hp := hb q (.inl rfl)
  have hc : ∀ i, w'.cell? ⟨q, i, none⟩ = w.cell? ⟨q, i, none⟩ := fun i => World.cell?_of_block (a := ⟨q, i, none⟩) hp
  exact ⟨(hc 0).trans H.c0, (hc 1).trans H.c1, (hc 2).trans H.c2, (hc 3).trans H.c3, fun i => (World.frozen?_of_block (a := ⟨q, i, none⟩) hp).trans (H.fz i), ownsRow_of_block H.row (fun k e => hb k (.inr e)), H.off⟩
theorem RefAt.lt {G : Nat → Prop} {w : World} {q : Nat} {r : RS} (H : RefAt G w q r) (k : Nat) (hk : G k) : k < w.heap.size := by
  obtain ⟨av, h, rfl⟩ := H
  rcases hk with rfl | e
  · exact h.pl
  · exact (h.row.lt k e).2
theorem RefAt.kp {F G : Nat → Prop} {w w' : World} {q : Nat} {r : RS} (H : RefAt G w q r) (hk : Kp F w w') (hF : ∀ k, G k → ¬ F k) : RefAt G w' q r := by
  have hl := H.lt
  obtain ⟨av, h, rfl⟩ := H
  exact ⟨av, h.keep fun k e => hk.block k (hl k e) (hF k e), rfl⟩
theorem RefAt.below {G : Nat → Prop} {w w' : World} {q : Nat} {r : RS} (H : RefAt G w q r) (hb : Below w.heap.size w w') : RefAt G w' q r := H.kp (F := fun _ => False) (below_kp hb) (fun _ _ h => h)
theorem GoesR.same {G : Nat → Prop} {w w' : World} {q : Nat} {r : RS} (H : RefAt G w q r) (hb : Below w.heap.size w w') : GoesR G w q r w' := ⟨G, H.below hb, below_kp hb, fun _ h => .inl h⟩
/-- A block's cells. -/
theorem RefIn.form {w : World} {q : Nat} {av : Value} {r : RS} (H : RefIn w q av r) : ∃ A c, av = .slice A r.all.length c ∧ (0 < r.all.length → ∃ g, A = some ⟨g, 0, none⟩ ∧ g < w.heap.size ∧ g ≠ q ∧ ∀ i, i < r.all.length → w.cell? ⟨g, i * 2, none⟩ = some (.int .i64 (cel r.all i)) ∧ w.cell? ⟨g, i * 2 + 1, none⟩ = some (.int .i64 (giv r.all i)) ∧ w.frozen? ⟨g, i * 2 + 1, none⟩ = false) := by
  have hr := H.row
  have ho := H.off
  rcases hr.2 with ⟨e, h0⟩ | ⟨g, cap, cur, e, hb, hg, hn, hc, hs, ht⟩
  · exact ⟨none, 0, by rw [e, h0], fun h => by omega⟩
  · refine ⟨some ⟨g, 0, none⟩, cap, e, fun h0 => ⟨g, rfl, (Array.getElem?_eq_some_iff.1 hg).1, ?_, fun i hi => ?_⟩⟩
    · rw [e] at ho; intro e2; subst e2; exact ho rfl
    · rw [e] at hr
      have h1 := blkCells_at r.all i hi
      exact ⟨(hr.cellAt (i * 2) (by omega)).trans h1.1, (hr.cellAt (i * 2 + 1) (by omega)).trans h1.2, hr.frozenAt _⟩
/-- The two heaps are the same, and small. -/
structure SR (h : HS) (r : RS) (j : Nat) : Prop where
  sim : Sim h r
  sp : 0 ≤ r.spent
  len : r.all.length ≤ j
  clk : r.clock ≤ j
namespace SR
variable {h : HS} {r : RS} {j : Nat}
theorem cel_in (s : SR h r j) (i : Nat) (hi : i < r.all.length) : 1 ≤ cel r.all i ∧ cel r.all i ≤ 400000 := by
  have e : r.all[i]? = some r.all[i] := List.getElem?_eq_getElem hi
  have := s.sim.k.sz (cel r.all i) (by
    rw [s.sim.sizes]
    unfold cel
    rw [List.getD_eq_getElem?_getD, e]
    exact List.mem_map.2 ⟨_, List.getElem_mem hi, rfl⟩)
  exact this
theorem sums (s : SR h r j) : ∀ i, i ≤ r.all.length → 0 ≤ lsum r.all i ∧ lsum r.all i ≤ dsum r.all i ∧ dsum r.all i ≤ 400000 * i
  | 0, _ => by simp [lsum, dsum]
  | i + 1, hi => by
    have ih := sums s i (by omega)
    have := s.cel_in i (by omega)
    rw [lsum, dsum]
    split <;> omega
theorem spent_in (s : SR h r j) : r.spent ≤ 400000 := by
  have h1 := s.sums r.all.length (Nat.le_refl _)
  have h2 := s.sim.live
  unfold liveR at h2
  have h3 := s.sim.k.l1
  have h4 := s.sim.k.l2
  omega
theorem mono (s : SR h r j) : SR h r (j + 1) := ⟨s.sim, s.sp, by have := s.len; omega, by have := s.clk; omega⟩
theorem take (s : SR h r j) (n : Int) : SR (h.take n) (r.take n) (j + 1) := by
  refine ⟨s.sim.take_sim n, ?_, ?_, ?_⟩ <;> (unfold RS.take; split)
  · exact s.sp
  · split <;> exact s.sp
  · exact Nat.le_succ_of_le s.len
  · split
    · have := s.len; simp; omega
    · rw [show (RS.mk r.lim r.spent r.clock (setG r.all (best r.all n r.all.length).toNat 0)).all.length = r.all.length from len_set _ _ _]; exact Nat.le_succ_of_le s.len
  · have := s.clk; push_cast; omega
  · split <;> (have := s.clk; push_cast; show r.clock ≤ _; omega)
theorem give (s : SR h r j) (id : Int) : SR (h.give id) (r.give id) (j + 1) := by
  refine ⟨s.sim.give_sim id, ?_, ?_, ?_⟩ <;> (unfold RS.give; split)
  · exact s.sp
  · split <;> exact s.sp
  · exact Nat.le_succ_of_le s.len
  · split
    · exact Nat.le_succ_of_le s.len
    · rw [show (RS.mk r.lim r.spent (r.clock + 1) (setG r.all (id - 1).toNat (r.clock + 1))).all.length = r.all.length from len_set _ _ _]; exact Nat.le_succ_of_le s.len
  · have := s.clk; push_cast; omega
  · split
    · have := s.clk; push_cast; omega
    · have := s.clk; push_cast; show r.clock + 1 ≤ _; omega
theorem spend (s : SR h r j) (n : Int) : SR (h.spend n) (r.spend n) (j + 1) := by
  refine ⟨s.sim.spend_sim n, ?_, ?_, ?_⟩ <;> (unfold RS.spend; split)
  · rename_i hr
    rw [← s.sim.room] at hr
    have := (HS.roomE_ok.1 hr).1
    have := s.sp
    show 0 ≤ r.spent + n; omega
  · exact s.sp
  · exact Nat.le_succ_of_le s.len
  · exact Nat.le_succ_of_le s.len
  · have := s.clk; push_cast; show r.clock ≤ _; omega
  · have := s.clk; push_cast; omega
theorem new (lim : Int) (h0 : 0 ≤ lim) (h1 : lim ≤ 400000) : SR (HS.new lim) (RS.new lim) 0 := ⟨Sim.new_sim lim h0 h1, Int.le_refl _, Nat.le_refl _, Int.le_refl _⟩
end SR
set_option maxHeartbeats 1000000 in
theorem RLive_w (G : Nat → Prop) (q : Nat) (h : HS) (r : RS) (j : Nat) (s : SR h r j) (hj : j ≤ 2000) (x : Int) (hx : h.live = x) (w : World) (H : RefAt G w q r) : Calls Tryz.prog 49 #[.pointer (some ⟨q, 0, none⟩)] w fun e w' => e = .returned (.int .i64 x) ∧ w' = w := by
  obtain ⟨av, hin, -⟩ := H
  have c1 := hin.c1
  have c3 := hin.c3
  obtain ⟨A, c, rfl, hA⟩ := hin.form
  have HA' := Lib.hid hA
  have HS' := Lib.hid s
  have hxx : r.liveR = x := by rw [← s.sim.live]; exact hx
  unfold liveR at hxx
  have HX := Lib.hid hxx
  have hsp := s.sp; have hsp2 := s.spent_in
  have hlen := s.len
  obtain ⟨sp, hspE⟩ : ∃ sp, r.spent = sp := ⟨_, rfl⟩
  rw [hspE] at c1 hsp hsp2
  have HSP := Lib.hid hspE
  obtain ⟨l, hl⟩ : ∃ l, r.all = l := ⟨_, rfl⟩
  rw [hl] at c3 HA' HX hlen
  have HLL := Lib.hid hl
  have hlI : (l.length : Int) ≤ 9223372036854775807 := by omega
  clear hin hA hxx hx s hspE hl
  go_enter Tryz.func49, Tryz.ntmps49
  go_wp2
  go_loopw [3, 4] (fun n i wr => ∃ t : Nat, t ≤ l.length ∧ n = .int .i64 (sp + lsum l t) ∧ i = .int .i64 t ∧ w = wr) (fun _ i _ => l.length - (intOf i).toNat)
  case atStart => exact ⟨0, Nat.zero_le _, by simp [lsum], rfl, rfl⟩
  case round =>
    obtain ⟨t, ht, rfl, rfl, rfl⟩ := hrel
    by_cases htl : t < l.length
    · obtain ⟨g, rfl, hgl, hgq, hcell⟩ := HA'.out (by omega)
      obtain ⟨cc, cg, -⟩ := hcell t htl
      clear hcell
      have dt : decide ((t : Int) < (l.length : Int)) = true := by simp; omega
      have tl : (t : Int) < (l.length : Int) := by omega
      have h1 := HS'.out.sums t (by rw [HLL.out]; omega)
      have h2 := HS'.out.cel_in t (by rw [HLL.out]; exact htl)
      rw [HLL.out] at h1 h2
      have HE : Hid (lsum l (t + 1) = lsum l t + if giv l t = 0 then cel l t else 0) := Lib.hid rfl
      generalize giv l t = gg at cg HE
      generalize cel l t = cc' at cc HE h2
      generalize lsum l t = ss at HE h1 ⊢
      have wa : wrap64 (sp + (ss + cc')) = sp + (ss + cc') := by unfold wrap64; omega
      have wa2 : wrap64 (sp + ss + cc') = sp + (ss + cc') := by unfold wrap64; omega
      by_cases e : gg = 0
      · have e0 : (gg == 0) = true := by simpa using e
        rw [if_pos e] at HE
        clear h1 h2 e
        go_wp2
        go_roundw
        case rel => exact ⟨t + 1, by omega, by rw [HE.out]; first | rw [wa2] | rw [wa] | rfl, by go_num, (by first | rfl | trivial)⟩
        case measure => simp [intOf]; omega
      · have e0 : (gg == 0) = false := by simpa using e
        rw [if_neg e] at HE
        clear h1 h2 e
        go_wp2
        go_roundw
        case rel => exact ⟨t + 1, by omega, by rw [HE.out]; simp, by go_num, (by first | rfl | trivial)⟩
        case measure => simp [intOf]; omega
    · obtain rfl : l.length = t := by omega
      go_wp2
      go_ret
      exact ⟨by rw [← HX.out, HSP.out]; rfl, rfl⟩
theorem RLive_c (G : Nat → Prop) (q : Nat) (h : HS) (r : RS) (j : Nat) (s : SR h r j) (hj : j ≤ 2000) (x : Int) (hx : h.live = x) (w : World) (H : RefAt G w q r) : Calls Tryz.prog 49 #[.pointer (some ⟨q, 0, none⟩)] w fun e w' => e = .returned (.int .i64 x) ∧ w = w' := (RLive_w G q h r j s hj x hx w H).mono fun _ _ h => ⟨h.1, h.2.symm⟩
set_option maxHeartbeats 1000000 in
theorem RLaid_c (G : Nat → Prop) (q : Nat) (h : HS) (r : RS) (j : Nat) (s : SR h r j) (hj : j ≤ 2000) (x : Int) (hx : h.laid = x) (w : World) (H : RefAt G w q r) : Calls Tryz.prog 51 #[.pointer (some ⟨q, 0, none⟩)] w fun e w' => e = .returned (.int .i64 x) ∧ w = w' := by
  obtain ⟨av, hin, -⟩ := H
  have c3 := hin.c3
  obtain ⟨A, c, rfl, hA⟩ := hin.form
  have HA' := Lib.hid hA
  have HS' := Lib.hid s
  have hxx : r.laidR = x := by rw [← s.sim.laid]; exact hx
  unfold laidR at hxx
  have HX := Lib.hid hxx
  have hlen := s.len
  obtain ⟨l, hl⟩ : ∃ l, r.all = l := ⟨_, rfl⟩
  rw [hl] at c3 HA' HX hlen
  have HLL := Lib.hid hl
  have hlI : (l.length : Int) ≤ 9223372036854775807 := by omega
  clear hin hA hxx hx s hl
  go_enter Tryz.func51, Tryz.ntmps51
  go_wp2
  go_loopw [3, 4] (fun n i wr => ∃ t : Nat, t ≤ l.length ∧ n = .int .i64 (dsum l t) ∧ i = .int .i64 t ∧ w = wr) (fun _ i _ => l.length - (intOf i).toNat)
  case atStart => exact ⟨0, Nat.zero_le _, rfl, rfl, rfl⟩
  case round =>
    obtain ⟨t, ht, rfl, rfl, rfl⟩ := hrel
    by_cases htl : t < l.length
    · obtain ⟨g, rfl, hgl, hgq, hcell⟩ := HA'.out (by omega)
      obtain ⟨cc, -, -⟩ := hcell t htl
      clear hcell
      have dt : decide ((t : Int) < (l.length : Int)) = true := by simp; omega
      have tl : (t : Int) < (l.length : Int) := by omega
      have h1 := HS'.out.sums t (by rw [HLL.out]; omega)
      have h2 := HS'.out.cel_in t (by rw [HLL.out]; exact htl)
      rw [HLL.out] at h1 h2
      have HE : Hid (dsum l (t + 1) = dsum l t + cel l t) := Lib.hid rfl
      generalize cel l t = cc' at cc HE h2
      generalize dsum l t = ss at HE h1 ⊢
      have wa : wrap64 (ss + cc') = ss + cc' := by unfold wrap64; omega
      clear h1 h2
      go_wp2
      go_roundw
      case rel => exact ⟨t + 1, by omega, by rw [HE.out]; first | rw [wa] | rfl, by go_num, (by first | rfl | trivial)⟩
      case measure => simp [intOf]; omega
    · obtain rfl : l.length = t := by omega
      go_wp2
      go_ret
      exact ⟨by rw [← HX.out]; rfl, rfl⟩
end Go.Proofs.YteheolefemlcgaaGreat
