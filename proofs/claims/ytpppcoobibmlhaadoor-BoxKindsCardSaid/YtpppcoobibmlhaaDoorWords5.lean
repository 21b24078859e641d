/- Contracts of the package words: Parse and Read. -/
import Derived.Test.YtpppcoobibmlhaaDoorWords4
import Derived.RegionTactic
import Derived.ChangeAlike
namespace Go.Proofs.YtpppcoobibmlhaaDoor
open Go.RowKit
set_option linter.unusedVariables false
set_option linter.unusedSimpArgs false

set_option maxRecDepth 100000 in
theorem catch_panicking (p q : Addr) (c x y : Int) (older : List PanicEntry) (w : World) (hc : w.cell? p = some (.int .i64 x)) (hz : w.frozen? p = false) (hc2 : w.cell? q = some (.int .i64 y)) (hz2 : w.frozen? q = false) (hpq : p ≠ q) :
    CallsD Tryd.prog 77 #[.pointer (some p), .pointer (some q)] (.panicking ({ v := .iface 89 (.agg #[.int .i64 c]), recovered := false } :: older)) w fun e u' w' =>
      e = .returned (.tuple #[]) ∧ u' = .panicking ({ v := .iface 89 (.agg #[.int .i64 c]), recovered := true } :: older) ∧ w' = ((w.setCell p (.int .i64 0)).setCell q (.int .i64 c)).drew := by
  have hta : ∀ (v : Value) (W : World), (Instr.typeAssert (.iface 89 v) 20 89 false).run Tryd.prog W = .ok v W := fun v W => by rfl
  have hfd : ∀ (v : Int) (W : World), (Instr.field 89 (.agg #[.int .i64 v]) 0).run Tryd.prog W = .ok (.int .i64 v) W := fun v W => by rfl
  have hq : (w.setCell p (.int .i64 0)).cell? q = some (.int .i64 y) := by rw [World.cell?_setCell_other _ _ _ _ hpq]; exact hc2
  have hp' : (w.setCell q (.int .i64 c)).cell? p = some (.int .i64 x) := by rw [World.cell?_setCell_other _ _ _ _ (Ne.symm hpq)]; exact hc
  refine callsD_of_wpS Tryd.func77 rfl fun c₀ cs hu => ?_
  apply wpS_seq
  apply wpS_region
  simp [wpOpsS, go_sem, recoverD, hu, Tryd.ntmps77, Exit.thenS]
  apply wpS_seq
  apply wpS_region
  simp [wpOpsS, go_sem, recoverD, hu, Tryd.ntmps77, Exit.thenS]
  refine wpS_cond (t := true) (by simp [Act.eval, Array.replicate]) ?_
  simp only [if_true]
  refine wpS_of_wp ?_
  simp [Array.replicate]
  go_region
  simp [bodyPostS, results, Tryd.results77]
set_option maxRecDepth 100000 in
theorem catch_idle (p q : Addr) (w : World) :
    CallsD Tryd.prog 77 #[.pointer (some p), .pointer (some q)] .returning w fun e u' w' => e = .returned (.tuple #[]) ∧ u' = .returning ∧ w' = w := by
  refine callsD_of_wpS Tryd.func77 rfl fun c₀ cs hu => ?_
  apply wpS_seq
  apply wpS_region
  simp [wpOpsS, go_sem, recoverD, hu, Tryd.ntmps77, Exit.thenS]
  apply wpS_seq
  apply wpS_region
  simp [wpOpsS, go_sem, recoverD, hu, Tryd.ntmps77, Exit.thenS]
  refine wpS_cond (t := false) (by simp [Act.eval, Array.replicate]) ?_
  simp only [Bool.false_eq_true, if_false]
  refine wpS_of_wp (wp_skip ?_)
  cases c₀
  simp_all [bodyPostS, results, Tryd.results77]
theorem size_good (s : ByteArray) (hx : Bool) (u : Int) (w : World) (h : Num.good s.data.toList = true) (h1 : Num.hexOf s.data.toList = hx) (h2 : Num.sat hx (Num.val hx (Num.rest s.data.toList)) = u) :
    Calls Tryd.prog 78 #[.string s] w fun e w' => e = .returned (.tuple #[.int .u64 u, .bool hx]) ∧ Below w.heap.size w w' := by
  refine (words_size s w).mono ?_
  rintro e w' h'
  unfold SizeEnd at h'
  rw [if_pos h, h1, h2] at h'
  exact h'
theorem size_bad (s : ByteArray) (w : World) (h : Num.good s.data.toList = false) :
    Calls Tryd.prog 78 #[.string s] w fun e w' => e = .panicked [{ v := .iface 89 (.agg #[.int .i64 4]), recovered := false }] ∧ Below w.heap.size w w' := by
  refine (words_size s w).mono ?_
  rintro e w' h'
  unfold SizeEnd at h'
  rw [if_neg (by simp [h])] at h'
  exact h'
/-- The two new variables of 'read', as they stand behind a call. -/
theorem two_cells {w w1 : World} {T1 T2 : TypeId} {x y : Value} (hb : Below ((w.alloc (.cells #[x] T1)).alloc (.cells #[y] T2)).heap.size ((w.alloc (.cells #[x] T1)).alloc (.cells #[y] T2)) w1) :
    w1.cell? ⟨w.heap.size, 0, none⟩ = some x ∧ w1.frozen? ⟨w.heap.size, 0, none⟩ = false ∧ w1.cell? ⟨w.heap.size + 1, 0, none⟩ = some y ∧ w1.frozen? ⟨w.heap.size + 1, 0, none⟩ = false ∧ Below w.heap.size w w1 ∧ w.heap.size + 2 ≤ w1.heap.size := by
  have e1 := hb.cell (p := ⟨w.heap.size, 0, none⟩) (by simp; omega)
  have e2 := hb.cell (p := ⟨w.heap.size + 1, 0, none⟩) (by simp)
  have e3 := hb.frozen (p := ⟨w.heap.size, 0, none⟩) (by simp; omega)
  have e4 := hb.frozen (p := ⟨w.heap.size + 1, 0, none⟩) (by simp)
  have hs := hb.size
  refine ⟨by rw [e1]; simp [go_sem], by rw [e3]; simp [go_sem], by rw [e2]; simp [go_sem], by rw [e4]; simp [go_sem], ?_, by simp at hs; omega⟩
  exact (((Below.refl _ _).alloc (Nat.le_refl _) _).alloc (by simp) _).trans (hb.mono (by simp; omega))
set_option maxHeartbeats 1000000 in
theorem words_read (s : ByteArray) (neg : Bool) (w : World) : Calls Tryd.prog 61 #[.string s, .bool neg] w fun e w' =>
    e = .returned (.tuple #[.int .i64 (Num.readN s.data.toList neg), .int .i64 (Num.readE s.data.toList neg)]) ∧ Below w.heap.size w w' := by
  have hmf : ∀ (fn : Fn) (first cap : Array Value) (w : World), (Instr.makeFunc fn first cap).run Tryd.prog w = .ok (.func fn first cap) w := fun _ _ _ _ => rfl
  cases hg : Num.good s.data.toList with
  | false =>
    have HG := Lib.hid hg
    have HN := Lib.hid (Num.readN_bad s.data.toList neg hg)
    have HE := Lib.hid (Num.readE_bad s.data.toList neg hg)
    clear hg
    go_enter_defers Tryd.func61, Tryd.ntmps61
    go_wp2_with (go_at_call 78; refine (size_bad s _ HG.out).mono ?_; rintro e w1 ⟨rfl, hb⟩; obtain ⟨c1, c2, c3, c4, hb, hz⟩ := two_cells hb)
    refine leaves_cons (f := 77) (args := #[.pointer (some ⟨w.heap.size, 0, none⟩), .pointer (some ⟨w.heap.size + 1, 0, none⟩)]) (by simp) (by simp [go_sem]) ?_
    refine (catch_panicking _ _ 4 0 0 [] _ c1 c2 c3 c4 (by simp)).mono ?_
    rintro e u' w'' ⟨rfl, rfl, rfl⟩
    simp [Leaves, settle, results, Tryd.results61, go_sem, c1, c2, c3, c4]
    exact ⟨⟨HN.out.symm, HE.out.symm⟩, ((hb.setCell (Nat.le_refl _) _).setCell (by simp) _).drew⟩
  | true =>
    obtain ⟨hx, h1⟩ : ∃ h, Num.hexOf s.data.toList = h := ⟨_, rfl⟩
    obtain ⟨u, h2⟩ : ∃ u, Num.sat hx (Num.val hx (Num.rest s.data.toList)) = u := ⟨_, rfl⟩
    have hu0 := (Num.sat_bound hx (Num.val hx (Num.rest s.data.toList))).1
    have hu1 := (Num.sat_bound hx (Num.val hx (Num.rest s.data.toList))).2
    rw [h2] at hu0 hu1
    have HN0 := Lib.hid (Num.readN_good s.data.toList neg hx u hg h1 h2)
    have HE0 := Lib.hid (Num.readE_good s.data.toList neg hx u hg h1 h2)
    have HG := Lib.hid hg; have H1 := Lib.hid h1; have H2 := Lib.hid h2
    clear hg h1 h2
    by_cases hm : hx = false ∧ Num.most neg < u
    · obtain ⟨rfl, hm⟩ := hm
      have HN := Lib.hid (HN0.out.trans (by rw [if_neg (by decide), if_pos hm]))
      have HE := Lib.hid (HE0.out.trans (by rw [if_neg (by decide), if_pos hm]))
      clear HN0 HE0
      cases neg with
      | true =>
        have hm : 9223372036854775808 < u := hm
        go_enter_defers Tryd.func61, Tryd.ntmps61
        go_wp2_with (go_at_call 78; refine (size_good s _ u _ HG.out H1.out H2.out).mono ?_; rintro e w1 ⟨rfl, hb⟩; obtain ⟨c1, c2, c3, c4, hb, hz⟩ := two_cells hb)
        refine leaves_cons (f := 77) (args := #[.pointer (some ⟨w.heap.size, 0, none⟩), .pointer (some ⟨w.heap.size + 1, 0, none⟩)]) (by simp) (by simp [go_sem]) ?_
        refine (catch_panicking _ _ 14 0 0 [] _ c1 c2 c3 c4 (by simp)).mono ?_
        rintro e u' w'' ⟨rfl, rfl, rfl⟩
        simp [Leaves, settle, results, Tryd.results61, go_sem, c1, c2, c3, c4]
        exact ⟨⟨HN.out.symm, HE.out.symm⟩, ((hb.setCell (Nat.le_refl _) _).setCell (by simp) _).drew⟩
      | false =>
        have hm : 9223372036854775807 < u := hm
        go_enter_defers Tryd.func61, Tryd.ntmps61
        go_wp2_with (go_at_call 78; refine (size_good s _ u _ HG.out H1.out H2.out).mono ?_; rintro e w1 ⟨rfl, hb⟩; obtain ⟨c1, c2, c3, c4, hb, hz⟩ := two_cells hb)
        refine leaves_cons (f := 77) (args := #[.pointer (some ⟨w.heap.size, 0, none⟩), .pointer (some ⟨w.heap.size + 1, 0, none⟩)]) (by simp) (by simp [go_sem]) ?_
        refine (catch_panicking _ _ 14 0 0 [] _ c1 c2 c3 c4 (by simp)).mono ?_
        rintro e u' w'' ⟨rfl, rfl, rfl⟩
        simp [Leaves, settle, results, Tryd.results61, go_sem, c1, c2, c3, c4]
        exact ⟨⟨HN.out.symm, HE.out.symm⟩, ((hb.setCell (Nat.le_refl _) _).setCell (by simp) _).drew⟩
    · have HE := Lib.hid (HE0.out.trans (show _ = (0 : Int) by by_cases h : hx = true; rw [if_pos h]; rw [if_neg h, if_neg (fun h' => hm ⟨by simpa using h, h'⟩)]))
      clear HE0
      cases neg with
      | true =>
        have hgu : hx = false → u ≤ 9223372036854775808 := fun h => Int.not_lt.mp fun h' => hm ⟨h, h'⟩
        cases hx with
        | true =>
          have HN : Hid (Num.readN s.data.toList true = wrap64 (-wrap64 u)) := (HN0.out.trans (by rw [if_pos rfl]; rfl))
          have hgu : True := trivial
          clear HN0 hm
          go_enter_defers Tryd.func61, Tryd.ntmps61
          go_wp2_with (go_at_call 78; refine (size_good s _ u _ HG.out H1.out H2.out).mono ?_; rintro e w1 ⟨rfl, hb⟩; obtain ⟨c1, c2, c3, c4, hb, hz⟩ := two_cells hb)
          refine leaves_cons (f := 77) (args := #[.pointer (some ⟨w.heap.size, 0, none⟩), .pointer (some ⟨w.heap.size + 1, 0, none⟩)]) (by simp) (by simp [go_sem]) ?_
          refine (catch_idle _ _ _).mono ?_
          rintro e u' w'' ⟨rfl, rfl, rfl⟩
          simp [Leaves, settle, results, Tryd.results61, go_sem, c1, c2, c3, c4, cell_set_self]
          refine ⟨⟨?_, HE.out.symm⟩, ?_⟩
          · first | exact HN.out.symm | (rw [HN.out]; simp only [wrap64]; omega)
          · repeat (first | exact hb | refine Below.setCell ?_ (by simp) _)
        | false =>
          have HN : Hid (Num.readN s.data.toList true = wrap64 (-wrap64 u)) := (HN0.out.trans (by rw [if_neg (by decide), if_neg (fun h => hm ⟨rfl, h⟩)]; have := hgu rfl; simp only [wrap64]; simp; omega))
          have hgu : u ≤ 9223372036854775808 := hgu rfl
          clear HN0 hm
          go_enter_defers Tryd.func61, Tryd.ntmps61
          go_wp2_with (go_at_call 78; refine (size_good s _ u _ HG.out H1.out H2.out).mono ?_; rintro e w1 ⟨rfl, hb⟩; obtain ⟨c1, c2, c3, c4, hb, hz⟩ := two_cells hb)
          refine leaves_cons (f := 77) (args := #[.pointer (some ⟨w.heap.size, 0, none⟩), .pointer (some ⟨w.heap.size + 1, 0, none⟩)]) (by simp) (by simp [go_sem]) ?_
          refine (catch_idle _ _ _).mono ?_
          rintro e u' w'' ⟨rfl, rfl, rfl⟩
          simp [Leaves, settle, results, Tryd.results61, go_sem, c1, c2, c3, c4, cell_set_self]
          refine ⟨⟨?_, HE.out.symm⟩, ?_⟩
          · first | exact HN.out.symm | (rw [HN.out]; simp only [wrap64]; omega)
          · repeat (first | exact hb | refine Below.setCell ?_ (by simp) _)
      | false =>
        have hgu : hx = false → u ≤ 9223372036854775807 := fun h => Int.not_lt.mp fun h' => hm ⟨h, h'⟩
        cases hx with
        | true =>
          have HN : Hid (Num.readN s.data.toList false = wrap64 u) := (HN0.out.trans (by rw [if_pos rfl]; rfl))
          have hgu : True := trivial
          clear HN0 hm
          go_enter_defers Tryd.func61, Tryd.ntmps61
          go_wp2_with (go_at_call 78; refine (size_good s _ u _ HG.out H1.out H2.out).mono ?_; rintro e w1 ⟨rfl, hb⟩; obtain ⟨c1, c2, c3, c4, hb, hz⟩ := two_cells hb)
          refine leaves_cons (f := 77) (args := #[.pointer (some ⟨w.heap.size, 0, none⟩), .pointer (some ⟨w.heap.size + 1, 0, none⟩)]) (by simp) (by simp [go_sem]) ?_
          refine (catch_idle _ _ _).mono ?_
          rintro e u' w'' ⟨rfl, rfl, rfl⟩
          simp [Leaves, settle, results, Tryd.results61, go_sem, c1, c2, c3, c4, cell_set_self]
          refine ⟨⟨?_, HE.out.symm⟩, ?_⟩
          · first | exact HN.out.symm | (rw [HN.out]; simp only [wrap64]; omega)
          · repeat (first | exact hb | refine Below.setCell ?_ (by simp) _)
        | false =>
          have HN : Hid (Num.readN s.data.toList false = wrap64 u) := (HN0.out.trans (by rw [if_neg (by decide), if_neg (fun h => hm ⟨rfl, h⟩)]; have := hgu rfl; simp only [wrap64]; simp; omega))
          have hgu : u ≤ 9223372036854775807 := hgu rfl
          clear HN0 hm
          go_enter_defers Tryd.func61, Tryd.ntmps61
          go_wp2_with (go_at_call 78; refine (size_good s _ u _ HG.out H1.out H2.out).mono ?_; rintro e w1 ⟨rfl, hb⟩; obtain ⟨c1, c2, c3, c4, hb, hz⟩ := two_cells hb)
          refine leaves_cons (f := 77) (args := #[.pointer (some ⟨w.heap.size, 0, none⟩), .pointer (some ⟨w.heap.size + 1, 0, none⟩)]) (by simp) (by simp [go_sem]) ?_
          refine (catch_idle _ _ _).mono ?_
          rintro e u' w'' ⟨rfl, rfl, rfl⟩
          simp [Leaves, settle, results, Tryd.results61, go_sem, c1, c2, c3, c4, cell_set_self]
          refine ⟨⟨?_, HE.out.symm⟩, ?_⟩
          · first | exact HN.out.symm | (rw [HN.out]; simp only [wrap64]; omega)
          · repeat (first | exact hb | refine Below.setCell ?_ (by simp) _)
theorem words_Parse (s : ByteArray) (w : World) : Calls Tryd.prog 17 #[.string s] w fun e w' =>
    e = .returned (.tuple #[.int .i64 (Num.readN s.data.toList false), .int .i64 (Num.readE s.data.toList false)]) ∧ Below w.heap.size w w' := by
  go_enter Tryd.func17, Tryd.ntmps17
  go_wp2_with (go_at_call 61; refine (words_read _ _ _).mono ?_; rintro e w' ⟨rfl, hb⟩)
  go_ret2
  exact ⟨rfl, hb⟩
theorem words_Read (s : ByteArray) (w : World) : Calls Tryd.prog 22 #[.string s] w fun e w' =>
    e = .returned (.tuple #[.int .i64 (Num.readN (Num.unsign s.data.toList) (Num.signed s.data.toList)), .int .i64 (Num.readE (Num.unsign s.data.toList) (Num.signed s.data.toList))]) ∧ Below w.heap.size w w' := by
  obtain ⟨r, hr⟩ : ∃ r : ByteArray, ByteArray.mk (Lib.trimPrefix s.data.toList [45]).toArray = r := ⟨_, rfl⟩
  have HR : Hid (r.data.toList = Num.unsign s.data.toList) := by rw [← hr]; simp [Num.unsign, Hid]
  have H1 := Lib.hid hr
  clear hr
  go_enter Tryd.func22, Tryd.ntmps22
  go_wp2_with (first | (go_at_call 64; refine (cutPrefix _ _ r (Num.signed s.data.toList) H1.out rfl _).mono ?_; rintro e w' ⟨rfl, rfl⟩) | (go_at_call 61; refine (words_read _ _ _).mono ?_; rintro e w' ⟨rfl, hb⟩))
  go_ret2
  exact ⟨ret_ints (by rw [HR.out]) (by rw [HR.out]), hb⟩
end Go.Proofs.YtpppcoobibmlhaaDoor
