/- The program's heap: New, room, Live, Laid, Spend. -/
import Derived.Test.YtfhigeefclchiaaRefH
import Derived.BigQuiet
namespace Go.Proofs.Ytfhigeefclchiaa
open Go.RowKit Go.Maps
set_option linter.unusedVariables false
set_option linter.unusedSimpArgs false

theorem heap_New_bad (lim : Int) (h : lim < 0 ∨ 400000 < lim) (w : World) : Calls Try.prog 34 #[.int .i64 lim] w fun e w' => e = .returned (.tuple #[.pointer none, .int .i64 1]) ∧ w = w' := by
  by_cases h1 : lim < 0
  · have d1 : decide (lim < 0) = true := by simpa using h1
    clear h
    go_enter Try.func34, Try.ntmps34
    go_wp2
    go_ret2
    exact ⟨rfl, rfl⟩
  · have d1 : decide (lim < 0) = false := by simpa using h1
    have d2 : decide (400000 < lim) = true := by simp; omega
    clear h
    go_enter Try.func34, Try.ntmps34
    go_wp2
    go_ret2
    exact ⟨rfl, rfl⟩
theorem HeapAt.fresh (lim : Int) (h0 : 0 ≤ lim) (h1 : lim ≤ 400000) (w : World) :
    ∃ F, HeapAt F (((w.alloc (Obj.map #[] 0)).alloc (Obj.map #[] 0)).alloc (Obj.cells #[Value.int IntKind.i64 lim, Value.int IntKind.i64 0, Value.int IntKind.i64 0, Value.slice none 0 0, Value.map (some w.heap.size), Value.map (some (w.heap.size + 1))] 77)) (w.heap.size + 1 + 1) (HS.new lim) ∧ ∀ q, F q → w.heap.size ≤ q := by
  have hb : ∀ (u : World) (o : Obj) (q : Nat), q < u.heap.size → (u.alloc o).heap[q]? = u.heap[q]? := fun u o q h => Below.heap_alloc _ _ q h
  have hob : ∀ i, (hvO nilSl (fun _ => none) i).ownBlock = none := fun i => by cases i <;> rfl
  refine ⟨own (w.heap.size + 1 + 1) w.heap.size (w.heap.size + 1) nilSl (fun _ => none), ⟨HS.ok_new lim h0 h1, w.heap.size, w.heap.size + 1, nilSl, fun _ => none, ⟨?_, ?_, ?_, ?_, ?_, ?_, fun i => ?_, ?_, ?_, ?_, fun i hi => ?_, by omega, by omega, by omega⟩, fun x hx h => by simp at h, rfl⟩, fun q hq => ?_⟩
  · simp [go_sem, HS.new]
  · simp [go_sem, HS.new]
  · simp [go_sem, HS.new]
  · simp [go_sem, nilSl]
  · simp [go_sem]
  · simp [go_sem]
  · simp [go_sem]
  · exact ((MapIs.made w).of_block (by rw [hb _ _ _ (by simp [go_sem]), hb _ _ _ (by simp [go_sem])])).congr (fun x hx => rfl)
  · have := (MapIs.made (w.alloc (.map #[] 0))).of_block (w' := ((w.alloc (Obj.map #[] 0)).alloc (Obj.map #[] 0)).alloc (Obj.cells #[Value.int IntKind.i64 lim, Value.int IntKind.i64 0, Value.int IntKind.i64 0, Value.slice none 0 0, Value.map (some w.heap.size), Value.map (some (w.heap.size + 1))] 77)) (by rw [hb _ _ _ (by simp [go_sem])])
    simpa [go_sem, HS.new] using this
  · refine ⟨fun i hi => ?_, fun i j _ _ _ => .inl (hob i)⟩
    cases i <;> exact World.ownsRow_nil _ _ _ _
  · rw [hob]; simp
  · rcases hq with rfl | rfl | rfl | ⟨i, hi, e⟩
    · omega
    · omega
    · omega
    · rw [hob] at e; simp at e
theorem heap_New (lim : Int) (h0 : 0 ≤ lim) (h1 : lim ≤ 400000) (w : World) : Calls Try.prog 34 #[.int .i64 lim] w fun e w' => ∃ p F, e = .returned (.tuple #[.pointer (some ⟨p, 0, none⟩), .int .i64 0]) ∧ w.heap.size ≤ p ∧ HeapAt F w' p (HS.new lim) ∧ (∀ q, F q → w.heap.size ≤ q) ∧ Below w.heap.size w w' := by
  have d1 : decide (lim < 0) = false := by simp; omega
  have d2 : decide (400000 < lim) = false := by simp; omega
  have hmm := @run_makeMap Try.prog
  go_enter Try.func34, Try.ntmps34
  go_wp2
  go_ret2
  obtain ⟨F, h2, h3⟩ := HeapAt.fresh lim h0 h1 w
  exact ⟨_, F, rfl, by omega, h2, h3, (((Below.refl _ w).alloc (Nat.le_refl _) _).alloc (by simp [go_sem]) _).alloc (by simp [go_sem]; omega) _⟩
theorem room_c (F : Nat → Prop) (p : Nat) (h : HS) (n : Int) (r : Int) (hr : h.roomE n = r) (w : World) (H : HeapAt F w p h) : Calls Try.prog 59 #[.pointer (some ⟨p, 0, none⟩), .int .i64 n] w fun e w' => e = .returned (.int .i64 r) ∧ Below w.heap.size w w' := by
  obtain ⟨k, bt, br, sv, rv, hin, -, -⟩ := H
  have c0 := hin.c0
  have c1 := hin.c1
  have l0 := k.l0
  have l1 := k.l1
  have l2 := k.l2
  have hs : wrap64 (h.lim - h.live) = h.lim - h.live := by unfold wrap64; omega
  clear hin
  obtain ⟨lim, hlim⟩ : ∃ x, h.lim = x := ⟨_, rfl⟩
  obtain ⟨live, hlive⟩ : ∃ x, h.live = x := ⟨_, rfl⟩
  unfold HS.roomE at hr
  rw [hlim, hlive] at hr hs
  rw [hlim] at c0
  rw [hlive] at c1
  clear hlim hlive l0 l1 l2 k
  by_cases h1 : n < 0
  · rw [if_pos h1] at hr
    subst hr
    have d1 : decide (n < 0) = true := by simpa using h1
    go_enter Try.func59, Try.ntmps59
    go_wp2
    go_ret
    exact ⟨rfl, Below.refl _ _⟩
  · rw [if_neg h1] at hr
    have d1 : decide (n < 0) = false := by simpa using h1
    by_cases h2 : lim - live < n
    · rw [if_pos h2] at hr
      subst hr
      have d2 : decide (lim - live < n) = true := by simpa using h2
      go_enter Try.func59, Try.ntmps59
      go_wp2
      go_quiet (fail)
      go_wp2
      go_ret
      exact ⟨rfl, below_drewN (Below.refl _ _) _⟩
    · rw [if_neg h2] at hr
      subst hr
      have d2 : decide (lim - live < n) = false := by simpa using h2
      go_enter Try.func59, Try.ntmps59
      go_wp2
      go_quiet (fail)
      go_wp2
      go_ret
      exact ⟨rfl, below_drewN (Below.refl _ _) _⟩
theorem Live_c (F : Nat → Prop) (p : Nat) (h : HS) (x : Int) (hx : h.live = x) (w : World) (H : HeapAt F w p h) : Calls Try.prog 35 #[.pointer (some ⟨p, 0, none⟩)] w fun e w' => e = .returned (.int .i64 x) ∧ w = w' := by
  obtain ⟨k, bt, br, sv, rv, hin, -, -⟩ := H
  have c1 := hin.c1
  rw [hx] at c1
  clear hin
  go_enter Try.func35, Try.ntmps35
  go_wp2
  go_ret
  exact ⟨rfl, rfl⟩
theorem Laid_c (F : Nat → Prop) (p : Nat) (h : HS) (x : Int) (hx : h.laid = x) (w : World) (H : HeapAt F w p h) : Calls Try.prog 36 #[.pointer (some ⟨p, 0, none⟩)] w fun e w' => e = .returned (.int .i64 x) ∧ w = w' := by
  obtain ⟨k, bt, br, sv, rv, hin, -, -⟩ := H
  have c2 := hin.c2
  rw [hx] at c2
  clear hin
  go_enter Try.func36, Try.ntmps36
  go_wp2
  go_ret
  exact ⟨rfl, rfl⟩
theorem HeapIn.goes {F : Nat → Prop} {w w1 : World} {p bt br nt nr : Nat} {sv : Value} {rv : Int → Option Value} {h' : HS} (k : h'.ok) (H : HeapIn w1 p bt br nt nr sv rv h') (hr : ∀ x, In64 x → (rv x).isSome = true → x ∈ h'.sizes) (hk : Kp F w w1) (hF : ∀ q, own p bt br sv rv q → F q ∨ w.heap.size ≤ q) : Goes F w p h' w1 := ⟨_, HeapAt.shut k H hr, hk, hF⟩
theorem Spend_c (F : Nat → Prop) (p : Nat) (h : HS) (n : Int) (r : Int) (hr : h.roomE n = r) (w : World) (H : HeapAt F w p h) : Calls Try.prog 39 #[.pointer (some ⟨p, 0, none⟩), .int .i64 n] w fun e w' => e = .returned (.int .i64 r) ∧ Goes F w p (h.spend n) w' := by
  have HR := Lib.hid hr
  have HH := Lib.hid H
  by_cases h0 : r = 0
  · subst h0
    obtain ⟨k, bt, br, sv, rv, hin, hsz, hF⟩ := H
    have c1 := hin.c1
    have f1 := hin.fz 1
    obtain ⟨e1, e2⟩ := HS.roomE_ok.1 hr
    have l0 := k.l0
    have l2 := k.l2
    have HI := Lib.hid hin
    have ha : wrap64 (h.live + n) = h.live + n := by unfold wrap64; omega
    have HSZ := Lib.hid hsz
    have HFF := Lib.hid hF
    have HK := Lib.hid (HS.ok_spend k n)
    have hsp : h.spend n = { h with live := h.live + n } := by unfold HS.spend; rw [if_pos hr]
    have HSP := Lib.hid hsp
    clear hin hsz hF hr e1 e2 l0 l2 k hsp
    obtain ⟨live, hlive⟩ : ∃ x, h.live = x := ⟨_, rfl⟩
    rw [hlive] at c1 ha
    have HL := Lib.hid hlive
    clear hlive
    go_enter Try.func39, Try.ntmps39
    go_wp2_with (first | (go_at_call 59; (with_reducible refine (room_c F p h n 0 HR.out _ HH.out).mono ?_); rintro e w1 ⟨rfl, hb⟩; have c1' := (hb.cell (p := ⟨p, 1, none⟩) HI.out.pl).trans c1; have f1' := (hb.frozen (p := ⟨p, 1, none⟩) HI.out.pl).trans f1; clear c1 f1))
    go_ret
    have h2 := (HI.out.below hb).live (live + n)
    refine ⟨rfl, ?_⟩
    have hk := HK.out
    rw [HSP.out, HL.out] at hk ⊢
    refine h2.goes hk HSZ.out ((below_kp hb).set _ (.inl ?_) _) fun q hq => .inl ?_
    · rw [HFF.out]; exact .inl rfl
    · rw [HFF.out]; exact hq
  · have hsp : h.spend n = h := by unfold HS.spend; rw [if_neg (by rw [hr]; exact h0)]
    rw [hsp]
    have d0 : (r == 0) = false := by simpa using h0
    clear hr hsp h0
    go_enter Try.func39, Try.ntmps39
    go_wp2_with (first | (go_at_call 59; (with_reducible refine (room_c F p h n r HR.out _ HH.out).mono ?_); rintro e w1 ⟨rfl, hb⟩))
    go_ret
    exact ⟨rfl, Goes.same HH.out hb⟩
end Go.Proofs.Ytfhigeefclchiaa
