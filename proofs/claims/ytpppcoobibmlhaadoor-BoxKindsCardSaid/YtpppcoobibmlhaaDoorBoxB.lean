/- Merged of Box5, Box6, Box7, Box8, Box9, Box10. -/
import Derived.Test.YtpppcoobibmlhaaDoorBoxA
/- Contracts of the package box: Round, As, Must, panics. -/
namespace Go.Proofs.YtpppcoobibmlhaaDoor
open Go.RowKit
set_option linter.unusedVariables false
set_option linter.unusedSimpArgs false

set_option maxRecDepth 100000 in
theorem box_Round_bad (v : V) (h : okV v = false) (w : World) : Calls Tryd.prog 55 #[vv v] w fun e w' => e = .returned (.tuple #[vv nilV, .int .i64 2]) ∧ Below w.heap.size w w' := by
  have hu := Tryd.underlying33
  have HO := Lib.hid h
  clear h
  unfold vv
  go_enter Tryd.func55, Tryd.ntmps55
  go_wp2_with (first | (go_at_call 70; refine (box_box_c v _ false rfl HO.out _).mono ?_; rintro e w1 ⟨rfl, hb1⟩; have hB1 : Below w.heap.size w w1 := below_step (by repeat (first | exact Below.refl _ _ | assumption | refine below_drewN ?_ _ | refine Below.drew ?_ | refine Below.alloc ?_ (by first | exact Nat.le_refl _ | (simp; omega) | omega | simp) _ | refine Below.setCell ?_ (by first | exact Nat.le_refl _ | (simp; omega) | simp | omega) _)) hb1; obtain ⟨hc1, hf1, hz1⟩ := bcell hb1; (try simp only [sz_alloc, sz_set, sz_drew, sz_drewN] at hc1 hf1 hz1); clear hb1))
  exact bodyPost_ret (v := .tuple #[.agg #[.int .i64 0, .int .i64 0, .string ⟨#[]⟩], .int .i64 2]) (by simp [results, Tryd.results55, go_sem, cell_set_self, *]) rfl ⟨rfl, (by repeat (first | exact Below.refl _ _ | assumption | refine below_drewN ?_ _ | refine Below.drew ?_ | refine Below.alloc ?_ (by first | exact Nat.le_refl _ | (simp; omega) | omega | simp) _ | refine Below.setCell ?_ (by first | exact Nat.le_refl _ | (simp; omega) | simp | omega) _))⟩
theorem box_of_c (x : Bx) (k : Int) (b : Bool) (h0 : 0 ≤ k) (h6 : k ≤ 6) (hb : (k == x.kind) = b) (w : World) : Calls Tryd.prog 74 #[bxv x, .int .i64 k] w fun e w' => e = .returned (.bool b) ∧ w = w' := by
  rw [← hb]; exact box_of x k h0 h6 w
set_option maxRecDepth 100000 in
theorem box_As_yes (v : V) (k : Int) (h : okV v = true) (hk : k = v.k) (w : World) : Calls Tryd.prog 46 #[vv v, .int .i64 k] w fun e w' => e = .returned (.tuple #[vv v, .bool true, .int .i64 0]) ∧ Below w.heap.size w w' := by
  have hu := Tryd.underlying33
  have HO := Lib.hid h
  obtain ⟨h0, h6⟩ := okV_kind v h
  rw [← hk] at h0 h6
  have HV := Lib.hid (ofBx_toBx v h)
  have HK := Lib.hid (Bx.kind_of v h)
  obtain ⟨x, hx⟩ : ∃ x, toBx v = x := ⟨_, rfl⟩
  have HX := Lib.hid hx
  rw [hx] at HV HK
  clear h hx
  unfold vv
  have HE := Lib.hid (show (k == x.kind) = true by rw [HK.out]; simpa using hk)
  clear hk
  go_enter Tryd.func46, Tryd.ntmps46
  go_wp2_with (first | (go_at_call 70; refine (box_box_c v x true HX.out HO.out _).mono ?_; rintro e w1 ⟨rfl, hb1⟩; have hB1 : Below w.heap.size w w1 := below_step (by repeat (first | exact Below.refl _ _ | assumption | refine below_drewN ?_ _ | refine Below.drew ?_ | refine Below.alloc ?_ (by first | exact Nat.le_refl _ | (simp; omega) | omega | simp) _ | refine Below.setCell ?_ (by first | exact Nat.le_refl _ | (simp; omega) | simp | omega) _)) hb1; obtain ⟨hc1, hf1, hz1⟩ := bcell hb1; (try simp only [sz_alloc, sz_set, sz_drew, sz_drewN] at hc1 hf1 hz1); clear hb1) | (go_at_call 74; refine (box_of_c x k true h0 h6 HE.out _).mono ?_; rintro e w3 ⟨rfl, rfl⟩) | (go_at_call 69; refine (box_out x _).mono ?_; rintro e w2 ⟨rfl, hb2⟩; have hB2 : Below w.heap.size w w2 := below_step (by repeat (first | exact Below.refl _ _ | assumption | refine below_drewN ?_ _ | refine Below.drew ?_ | refine Below.alloc ?_ (by first | exact Nat.le_refl _ | (simp; omega) | omega | simp) _ | refine Below.setCell ?_ (by first | exact Nat.le_refl _ | (simp; omega) | simp | omega) _)) hb2; obtain ⟨hc2, hf2, hz2⟩ := bcell hb2; (try simp only [sz_alloc, sz_set, sz_drew, sz_drewN] at hc2 hf2 hz2); clear hb2; rw [HV.out]; unfold vv))
  exact bodyPost_ret (v := .tuple #[.agg #[.int .i64 v.k, .int .i64 v.n, .string v.s], .bool true, .int .i64 0]) (by simp [results, Tryd.results46, go_sem, cell_set_self, *]) rfl ⟨rfl, (by repeat (first | exact Below.refl _ _ | assumption | refine below_drewN ?_ _ | refine Below.drew ?_ | refine Below.alloc ?_ (by first | exact Nat.le_refl _ | (simp; omega) | omega | simp) _ | refine Below.setCell ?_ (by first | exact Nat.le_refl _ | (simp; omega) | simp | omega) _))⟩
set_option maxRecDepth 100000 in
theorem box_As_no (v : V) (k : Int) (h : okV v = true) (h0 : 0 ≤ k) (h6 : k ≤ 6) (hk : k ≠ v.k) (w : World) : Calls Tryd.prog 46 #[vv v, .int .i64 k] w fun e w' => e = .returned (.tuple #[vv nilV, .bool false, .int .i64 0]) ∧ Below w.heap.size w w' := by
  have hu := Tryd.underlying33
  have HO := Lib.hid h
  have HV := Lib.hid (ofBx_toBx v h)
  have HK := Lib.hid (Bx.kind_of v h)
  obtain ⟨x, hx⟩ : ∃ x, toBx v = x := ⟨_, rfl⟩
  have HX := Lib.hid hx
  rw [hx] at HV HK
  clear h hx
  unfold vv
  have HE := Lib.hid (show (k == x.kind) = false by rw [HK.out]; simpa using hk)
  clear hk
  go_enter Tryd.func46, Tryd.ntmps46
  go_wp2_with (first | (go_at_call 70; refine (box_box_c v x true HX.out HO.out _).mono ?_; rintro e w1 ⟨rfl, hb1⟩; have hB1 : Below w.heap.size w w1 := below_step (by repeat (first | exact Below.refl _ _ | assumption | refine below_drewN ?_ _ | refine Below.drew ?_ | refine Below.alloc ?_ (by first | exact Nat.le_refl _ | (simp; omega) | omega | simp) _ | refine Below.setCell ?_ (by first | exact Nat.le_refl _ | (simp; omega) | simp | omega) _)) hb1; obtain ⟨hc1, hf1, hz1⟩ := bcell hb1; (try simp only [sz_alloc, sz_set, sz_drew, sz_drewN] at hc1 hf1 hz1); clear hb1) | (go_at_call 74; refine (box_of_c x k false h0 h6 HE.out _).mono ?_; rintro e w3 ⟨rfl, rfl⟩))
  exact bodyPost_ret (v := .tuple #[.agg #[.int .i64 0, .int .i64 0, .string ⟨#[]⟩], .bool false, .int .i64 0]) (by simp [results, Tryd.results46, go_sem, cell_set_self, *]) rfl ⟨rfl, (by repeat (first | exact Below.refl _ _ | assumption | refine below_drewN ?_ _ | refine Below.drew ?_ | refine Below.alloc ?_ (by first | exact Nat.le_refl _ | (simp; omega) | omega | simp) _ | refine Below.setCell ?_ (by first | exact Nat.le_refl _ | (simp; omega) | simp | omega) _))⟩
set_option maxRecDepth 100000 in
theorem box_As_lo (v : V) (k : Int) (h : okV v = true) (h0 : k < 0) (w : World) : Calls Tryd.prog 46 #[vv v, .int .i64 k] w fun e w' => e = .returned (.tuple #[vv nilV, .bool false, .int .i64 1]) ∧ Below w.heap.size w w' := by
  have hu := Tryd.underlying33
  have HO := Lib.hid h
  have HV := Lib.hid (ofBx_toBx v h)
  have HK := Lib.hid (Bx.kind_of v h)
  obtain ⟨x, hx⟩ : ∃ x, toBx v = x := ⟨_, rfl⟩
  have HX := Lib.hid hx
  rw [hx] at HV HK
  clear h hx
  unfold vv
  have d1 : decide (k < 0) = true := by simpa using h0
  go_enter Tryd.func46, Tryd.ntmps46
  go_wp2_with (first | (go_at_call 70; refine (box_box_c v x true HX.out HO.out _).mono ?_; rintro e w1 ⟨rfl, hb1⟩; have hB1 : Below w.heap.size w w1 := below_step (by repeat (first | exact Below.refl _ _ | assumption | refine below_drewN ?_ _ | refine Below.drew ?_ | refine Below.alloc ?_ (by first | exact Nat.le_refl _ | (simp; omega) | omega | simp) _ | refine Below.setCell ?_ (by first | exact Nat.le_refl _ | (simp; omega) | simp | omega) _)) hb1; obtain ⟨hc1, hf1, hz1⟩ := bcell hb1; (try simp only [sz_alloc, sz_set, sz_drew, sz_drewN] at hc1 hf1 hz1); clear hb1))
  exact bodyPost_ret (v := .tuple #[.agg #[.int .i64 0, .int .i64 0, .string ⟨#[]⟩], .bool false, .int .i64 1]) (by simp [results, Tryd.results46, go_sem, cell_set_self, *]) rfl ⟨rfl, (by repeat (first | exact Below.refl _ _ | assumption | refine below_drewN ?_ _ | refine Below.drew ?_ | refine Below.alloc ?_ (by first | exact Nat.le_refl _ | (simp; omega) | omega | simp) _ | refine Below.setCell ?_ (by first | exact Nat.le_refl _ | (simp; omega) | simp | omega) _))⟩
set_option maxRecDepth 100000 in
theorem box_As_hi (v : V) (k : Int) (h : okV v = true) (h0 : 6 < k) (w : World) : Calls Tryd.prog 46 #[vv v, .int .i64 k] w fun e w' => e = .returned (.tuple #[vv nilV, .bool false, .int .i64 1]) ∧ Below w.heap.size w w' := by
  have hu := Tryd.underlying33
  have HO := Lib.hid h
  have HV := Lib.hid (ofBx_toBx v h)
  have HK := Lib.hid (Bx.kind_of v h)
  obtain ⟨x, hx⟩ : ∃ x, toBx v = x := ⟨_, rfl⟩
  have HX := Lib.hid hx
  rw [hx] at HV HK
  clear h hx
  unfold vv
  have d1 : decide (6 < k) = true := by simpa using h0
  have d2 : decide (k < 0) = false := by simp; omega
  go_enter Tryd.func46, Tryd.ntmps46
  go_wp2_with (first | (go_at_call 70; refine (box_box_c v x true HX.out HO.out _).mono ?_; rintro e w1 ⟨rfl, hb1⟩; have hB1 : Below w.heap.size w w1 := below_step (by repeat (first | exact Below.refl _ _ | assumption | refine below_drewN ?_ _ | refine Below.drew ?_ | refine Below.alloc ?_ (by first | exact Nat.le_refl _ | (simp; omega) | omega | simp) _ | refine Below.setCell ?_ (by first | exact Nat.le_refl _ | (simp; omega) | simp | omega) _)) hb1; obtain ⟨hc1, hf1, hz1⟩ := bcell hb1; (try simp only [sz_alloc, sz_set, sz_drew, sz_drewN] at hc1 hf1 hz1); clear hb1))
  exact bodyPost_ret (v := .tuple #[.agg #[.int .i64 0, .int .i64 0, .string ⟨#[]⟩], .bool false, .int .i64 1]) (by simp [results, Tryd.results46, go_sem, cell_set_self, *]) rfl ⟨rfl, (by repeat (first | exact Below.refl _ _ | assumption | refine below_drewN ?_ _ | refine Below.drew ?_ | refine Below.alloc ?_ (by first | exact Nat.le_refl _ | (simp; omega) | omega | simp) _ | refine Below.setCell ?_ (by first | exact Nat.le_refl _ | (simp; omega) | simp | omega) _))⟩
set_option maxRecDepth 100000 in
theorem box_As_bad (v : V) (k : Int) (h : okV v = false) (w : World) : Calls Tryd.prog 46 #[vv v, .int .i64 k] w fun e w' => e = .returned (.tuple #[vv nilV, .bool false, .int .i64 2]) ∧ Below w.heap.size w w' := by
  have hu := Tryd.underlying33
  have HO := Lib.hid h
  clear h
  unfold vv
  go_enter Tryd.func46, Tryd.ntmps46
  go_wp2_with (first | (go_at_call 70; refine (box_box_c v _ false rfl HO.out _).mono ?_; rintro e w1 ⟨rfl, hb1⟩; have hB1 : Below w.heap.size w w1 := below_step (by repeat (first | exact Below.refl _ _ | assumption | refine below_drewN ?_ _ | refine Below.drew ?_ | refine Below.alloc ?_ (by first | exact Nat.le_refl _ | (simp; omega) | omega | simp) _ | refine Below.setCell ?_ (by first | exact Nat.le_refl _ | (simp; omega) | simp | omega) _)) hb1; obtain ⟨hc1, hf1, hz1⟩ := bcell hb1; (try simp only [sz_alloc, sz_set, sz_drew, sz_drewN] at hc1 hf1 hz1); clear hb1))
  exact bodyPost_ret (v := .tuple #[.agg #[.int .i64 0, .int .i64 0, .string ⟨#[]⟩], .bool false, .int .i64 2]) (by simp [results, Tryd.results46, go_sem, cell_set_self, *]) rfl ⟨rfl, (by repeat (first | exact Below.refl _ _ | assumption | refine below_drewN ?_ _ | refine Below.drew ?_ | refine Below.alloc ?_ (by first | exact Nat.le_refl _ | (simp; omega) | omega | simp) _ | refine Below.setCell ?_ (by first | exact Nat.le_refl _ | (simp; omega) | simp | omega) _))⟩
theorem box_must_c (x : Bx) (k : Int) (hk : k = x.kind) (w : World) : Calls Tryd.prog 75 #[bxv x, .int .i64 k] w fun e w' => e = .returned (bxv x) ∧ w = w' := by
  rw [hk]; exact box_must x w
set_option maxRecDepth 100000 in
theorem box_Must_yes (v : V) (k : Int) (h : okV v = true) (hk : k = v.k) (w : World) : Calls Tryd.prog 49 #[vv v, .int .i64 k] w fun e w' => e = .returned (vv v) ∧ Below w.heap.size w w' := by
  have hu := Tryd.underlying33
  have HO := Lib.hid h
  have HV := Lib.hid (ofBx_toBx v h)
  have HK := Lib.hid (Bx.kind_of v h)
  obtain ⟨x, hx⟩ : ∃ x, toBx v = x := ⟨_, rfl⟩
  have HX := Lib.hid hx
  rw [hx] at HV HK
  clear h hx
  unfold vv
  have HE := Lib.hid (show k = x.kind by rw [HK.out]; exact hk)
  clear hk
  go_enter Tryd.func49, Tryd.ntmps49
  go_wp2_with (first | (go_at_call 70; refine (box_box_c v x true HX.out HO.out _).mono ?_; rintro e w1 ⟨rfl, hb1⟩; have hB1 : Below w.heap.size w w1 := below_step (by repeat (first | exact Below.refl _ _ | assumption | refine below_drewN ?_ _ | refine Below.drew ?_ | refine Below.alloc ?_ (by first | exact Nat.le_refl _ | (simp; omega) | omega | simp) _ | refine Below.setCell ?_ (by first | exact Nat.le_refl _ | (simp; omega) | simp | omega) _)) hb1; obtain ⟨hc1, hf1, hz1⟩ := bcell hb1; (try simp only [sz_alloc, sz_set, sz_drew, sz_drewN] at hc1 hf1 hz1); clear hb1) | (go_at_call 75; refine (box_must_c x k HE.out _).mono ?_; rintro e w3 ⟨rfl, rfl⟩) | (go_at_call 69; refine (box_out x _).mono ?_; rintro e w2 ⟨rfl, hb2⟩; have hB2 : Below w.heap.size w w2 := below_step (by repeat (first | exact Below.refl _ _ | assumption | refine below_drewN ?_ _ | refine Below.drew ?_ | refine Below.alloc ?_ (by first | exact Nat.le_refl _ | (simp; omega) | omega | simp) _ | refine Below.setCell ?_ (by first | exact Nat.le_refl _ | (simp; omega) | simp | omega) _)) hb2; obtain ⟨hc2, hf2, hz2⟩ := bcell hb2; (try simp only [sz_alloc, sz_set, sz_drew, sz_drewN] at hc2 hf2 hz2); clear hb2; rw [HV.out]; unfold vv))
  exact bodyPost_ret (v := .agg #[.int .i64 v.k, .int .i64 v.n, .string v.s]) (by simp [results, Tryd.results49, go_sem, cell_set_self, *]) rfl ⟨rfl, (by repeat (first | exact Below.refl _ _ | assumption | refine below_drewN ?_ _ | refine Below.drew ?_ | refine Below.alloc ?_ (by first | exact Nat.le_refl _ | (simp; omega) | omega | simp) _ | refine Below.setCell ?_ (by first | exact Nat.le_refl _ | (simp; omega) | simp | omega) _))⟩
set_option maxRecDepth 100000 in
theorem box_Must_no (v : V) (k : Int) (h : okV v = true) (hk : k ≠ v.k) (w : World) : Calls Tryd.prog 49 #[vv v, .int .i64 k] w (Panics w) := by
  have hu := Tryd.underlying33
  have HO := Lib.hid h
  have HV := Lib.hid (ofBx_toBx v h)
  have HK := Lib.hid (Bx.kind_of v h)
  obtain ⟨x, hx⟩ : ∃ x, toBx v = x := ⟨_, rfl⟩
  have HX := Lib.hid hx
  rw [hx] at HV HK
  clear h hx
  unfold vv
  have HE := Lib.hid (show k ≠ x.kind by rw [HK.out]; exact hk)
  clear hk
  go_enter Tryd.func49, Tryd.ntmps49
  go_wp2_with (first | (go_at_call 70; refine (box_box_c v x true HX.out HO.out _).mono ?_; rintro e w1 ⟨rfl, hb1⟩; have hB1 : Below w.heap.size w w1 := below_step (by repeat (first | exact Below.refl _ _ | assumption | refine below_drewN ?_ _ | refine Below.drew ?_ | refine Below.alloc ?_ (by first | exact Nat.le_refl _ | (simp; omega) | omega | simp) _ | refine Below.setCell ?_ (by first | exact Nat.le_refl _ | (simp; omega) | simp | omega) _)) hb1; obtain ⟨hc1, hf1, hz1⟩ := bcell hb1; (try simp only [sz_alloc, sz_set, sz_drew, sz_drewN] at hc1 hf1 hz1); clear hb1) | (go_at_call 75; refine (box_mustnt x k HE.out _).mono ?_; rintro e w3 ⟨⟨T, p, rfl⟩, hb3⟩))
  exact ⟨rfl, ⟨T, p, rfl⟩, below_step hB1 hb3⟩
set_option maxRecDepth 100000 in
theorem box_Must_bad (v : V) (k : Int) (h : okV v = false) (w : World) : Calls Tryd.prog 49 #[vv v, .int .i64 k] w (Panics w) := by
  have hu := Tryd.underlying33
  have HO := Lib.hid h
  clear h
  unfold vv
  go_enter Tryd.func49, Tryd.ntmps49
  go_wp2_with (first | (go_at_call 70; refine (box_box_c v _ false rfl HO.out _).mono ?_; rintro e w1 ⟨rfl, hb1⟩; have hB1 : Below w.heap.size w w1 := below_step (by repeat (first | exact Below.refl _ _ | assumption | refine below_drewN ?_ _ | refine Below.drew ?_ | refine Below.alloc ?_ (by first | exact Nat.le_refl _ | (simp; omega) | omega | simp) _ | refine Below.setCell ?_ (by first | exact Nat.le_refl _ | (simp; omega) | simp | omega) _)) hb1; obtain ⟨hc1, hf1, hz1⟩ := bcell hb1; (try simp only [sz_alloc, sz_set, sz_drew, sz_drewN] at hc1 hf1 hz1); clear hb1))
  exact ⟨rfl, ⟨_, _, rfl⟩, hB1⟩
end Go.Proofs.YtpppcoobibmlhaaDoor
/- Contracts of the package box: does Must panic; two boxes at once; what is equal. -/
namespace Go.Proofs.YtpppcoobibmlhaaDoor
open Go.RowKit
set_option linter.unusedVariables false
set_option linter.unusedSimpArgs false

def fits (v : V) (k : Int) : Bool := okV v && k == v.k
set_option maxRecDepth 100000 in
theorem panics_caught (p : Addr) (b : Bool) (T : TypeId) (pv : Value) (older : List PanicEntry) (w : World) (hc : w.cell? p = some (.bool b)) (hz : w.frozen? p = false) :
    CallsD Tryd.prog 84 #[.pointer (some p)] (.panicking ({ v := .iface T pv, recovered := false } :: older)) w fun e u' w' =>
      e = .returned (.tuple #[]) ∧ u' = .panicking ({ v := .iface T pv, recovered := true } :: older) ∧ w' = w.setCell p (.bool true) := by
  refine callsD_of_wpS Tryd.func84 rfl fun c₀ cs hu => ?_
  apply wpS_region
  simp [wpOpsS, go_sem, recoverD, hu, Tryd.ntmps84, Exit.thenS, hc, hz, bodyPostS, results, Tryd.results84]
set_option maxRecDepth 100000 in
theorem panics_idle (p : Addr) (b : Bool) (w : World) (hc : w.cell? p = some (.bool b)) (hz : w.frozen? p = false) :
    CallsD Tryd.prog 84 #[.pointer (some p)] .returning w fun e u' w' => e = .returned (.tuple #[]) ∧ u' = .returning ∧ w' = w.setCell p (.bool false) := by
  refine callsD_of_wpS Tryd.func84 rfl fun c₀ cs hu => ?_
  apply wpS_region
  simp [wpOpsS, go_sem, recoverD, hu, Tryd.ntmps84, Exit.thenS, hc, hz, bodyPostS, results, Tryd.results84]
  cases c₀
  simp_all
set_option maxRecDepth 100000 in
theorem box_panics (v : V) (k : Int) (w : World) : Calls Tryd.prog 73 #[vv v, .int .i64 k] w fun e w' => e = .returned (.bool (!fits v k)) ∧ Below w.heap.size w w' := by
  have hu := Tryd.underlying33
  have hmf : ∀ (fn : Fn) (first cap : Array Value) (w : World), (Instr.makeFunc fn first cap).run Tryd.prog w = .ok (.func fn first cap) w := fun _ _ _ _ => rfl
  by_cases hf : okV v = true ∧ k = v.k
  · obtain ⟨h, hk⟩ := hf
    have HF := Lib.hid (show (!fits v k) = false by simp [fits, h, hk])
    have HO := Lib.hid h; have HK := Lib.hid hk
    clear h hk
    unfold vv
    go_enter_defers Tryd.func73, Tryd.ntmps73
    go_wp2_with (first | (go_at_call 49; refine (box_Must_yes v k HO.out HK.out _).mono ?_; rintro e w1 ⟨rfl, hb1⟩; have hB1 : Below w.heap.size w w1 := below_step (by repeat (first | exact Below.refl _ _ | assumption | refine below_drewN ?_ _ | refine Below.drew ?_ | refine Below.alloc ?_ (by first | exact Nat.le_refl _ | (simp; omega) | omega | simp) _ | refine Below.setCell ?_ (by first | exact Nat.le_refl _ | (simp; omega) | simp | omega) _)) hb1; obtain ⟨hc1, hf1, hz1⟩ := bcell hb1; (try simp only [sz_alloc, sz_set, sz_drew, sz_drewN] at hc1 hf1 hz1); clear hb1))
    refine leaves_cons (f := 84) (args := #[.pointer (some ⟨w.heap.size + 1, 0, none⟩)]) (by simp) (by simp [go_sem]) ?_
    refine (panics_idle _ false _ ?_ ?_).mono ?_
    · simp [go_sem, cell_set_self, *]
    · simp [go_sem, cell_set_self, *]
    rintro e u' w'' ⟨rfl, rfl, rfl⟩
    simp [Leaves, settle, results, Tryd.results73, go_sem, cell_set_self, *]
    exact ⟨by simpa using HF.out, (by repeat (first | exact Below.refl _ _ | assumption | refine below_drewN ?_ _ | refine Below.drew ?_ | refine Below.alloc ?_ (by first | exact Nat.le_refl _ | (simp; omega) | omega | simp) _ | refine Below.setCell ?_ (by first | exact Nat.le_refl _ | (simp; omega) | simp | omega) _))⟩
  · have HF := Lib.hid (show (!fits v k) = true by
      simp only [fits, Bool.not_eq_true', Bool.and_eq_false_iff]
      by_cases h : okV v = true
      · right; simp; intro h'; exact hf ⟨h, h'⟩
      · left; simpa using h)
    have HM : ∀ w, Calls Tryd.prog 49 #[vv v, .int .i64 k] w (Panics w) := fun w => by
      cases h : okV v with
      | true => exact box_Must_no v k h (fun h' => hf ⟨h, h'⟩) w
      | false => exact box_Must_bad v k h w
    have HM := Lib.hid HM
    clear hf
    unfold vv
    go_enter_defers Tryd.func73, Tryd.ntmps73
    go_wp2_with (first | (go_at_call 49; refine (HM.out _).mono ?_; rintro e w1 ⟨⟨T, p, rfl⟩, hb1⟩; have hB1 : Below w.heap.size w w1 := below_step (by repeat (first | exact Below.refl _ _ | assumption | refine below_drewN ?_ _ | refine Below.drew ?_ | refine Below.alloc ?_ (by first | exact Nat.le_refl _ | (simp; omega) | omega | simp) _ | refine Below.setCell ?_ (by first | exact Nat.le_refl _ | (simp; omega) | simp | omega) _)) hb1; obtain ⟨hc1, hf1, hz1⟩ := bcell hb1; (try simp only [sz_alloc, sz_set, sz_drew, sz_drewN] at hc1 hf1 hz1); clear hb1))
    refine leaves_cons (f := 84) (args := #[.pointer (some ⟨w.heap.size + 1, 0, none⟩)]) (by simp) (by simp [go_sem]) ?_
    refine (panics_caught _ false _ _ _ _ ?_ ?_).mono ?_
    · simp [go_sem, cell_set_self, *]
    · simp [go_sem, cell_set_self, *]
    rintro e u' w'' ⟨rfl, rfl, rfl⟩
    simp [Leaves, settle, results, Tryd.results73, go_sem, cell_set_self, *]
    exact ⟨by simpa using HF.out, (by repeat (first | exact Below.refl _ _ | assumption | refine below_drewN ?_ _ | refine Below.drew ?_ | refine Below.alloc ?_ (by first | exact Nat.le_refl _ | (simp; omega) | omega | simp) _ | refine Below.setCell ?_ (by first | exact Nat.le_refl _ | (simp; omega) | simp | omega) _))⟩
end Go.Proofs.YtpppcoobibmlhaaDoor
/- Contracts of the package box: two boxes at once; what is equal. -/
namespace Go.Proofs.YtpppcoobibmlhaaDoor
open Go.RowKit
set_option linter.unusedVariables false
set_option linter.unusedSimpArgs false

theorem box_box_f (k n : Int) (s : ByteArray) (x : Bx) (ok : Bool) (hx : toBx ⟨k, n, s⟩ = x) (ho : okV ⟨k, n, s⟩ = ok) (w : World) : Calls Tryd.prog 70 #[.agg #[.int .i64 k, .int .i64 n, .string s]] w fun e w' => e = .returned (.tuple #[bxv x, .bool ok]) ∧ Below w.heap.size w w' := box_box_c ⟨k, n, s⟩ x ok hx ho w
theorem ret_xye {v v' u u' : Value} {a b : Int} (h1 : v = v') (h2 : u = u') (h3 : a = b) : Ending.returned (.tuple #[v, u, .int .i64 a]) = .returned (.tuple #[v', u', .int .i64 b]) := by rw [h1, h2, h3]
set_option maxRecDepth 100000 in
theorem box_two_ok (a b : V) (x : Bx) (hx : toBx a = x) (ha : okV a = true) (y : Bx) (hy : toBx b = y) (hb : okV b = true) (w : World) : Calls Tryd.prog 67 #[vv a, vv b] w fun e w' => e = .returned (.tuple #[bxv x, bxv y, .int .i64 0]) ∧ Below w.heap.size w w' := by
  have hu := Tryd.underlying33
  obtain ⟨ak, an, az⟩ := a
  obtain ⟨bk, bn, bz⟩ := b
  have HX := Lib.hid hx; have HA := Lib.hid ha; have HY := Lib.hid hy; have HB := Lib.hid hb
  clear hx ha hy hb
  unfold vv
  go_enter Tryd.func67, Tryd.ntmps67
  go_wp2_with (first | (go_at_call 70; (with_reducible refine (box_box_f ak an az x true HX.out HA.out _).mono ?_); rintro e w1 ⟨rfl, hb1⟩; have hB1 : Below w.heap.size w w1 := below_step (by repeat (first | exact Below.refl _ _ | assumption | refine below_drewN ?_ _ | refine Below.drew ?_ | refine Below.alloc ?_ (by first | exact Nat.le_refl _ | (simp; omega) | omega | simp) _ | refine Below.setCell ?_ (by first | exact Nat.le_refl _ | (simp; omega) | simp | omega) _)) hb1; obtain ⟨hc1, hf1, hz1⟩ := bcell hb1; (try simp only [sz_alloc, sz_set, sz_drew, sz_drewN] at hc1 hf1 hz1); clear hb1) | (go_at_call 70; (with_reducible refine (box_box_f bk bn bz y true HY.out HB.out _).mono ?_); rintro e w2 ⟨rfl, hb2⟩; have hB2 : Below w.heap.size w w2 := below_step (by repeat (first | exact Below.refl _ _ | assumption | refine below_drewN ?_ _ | refine Below.drew ?_ | refine Below.alloc ?_ (by first | exact Nat.le_refl _ | (simp; omega) | omega | simp) _ | refine Below.setCell ?_ (by first | exact Nat.le_refl _ | (simp; omega) | simp | omega) _)) hb2; obtain ⟨hc2, hf2, hz2⟩ := bcell hb2; (try simp only [sz_alloc, sz_set, sz_drew, sz_drewN] at hc2 hf2 hz2); clear hb2))
  go_ret3
  exact ⟨rfl, (by repeat (first | exact Below.refl _ _ | assumption | refine below_drewN ?_ _ | refine Below.drew ?_ | refine Below.alloc ?_ (by first | exact Nat.le_refl _ | (simp; omega) | omega | simp) _ | refine Below.setCell ?_ (by first | exact Nat.le_refl _ | (simp; omega) | simp | omega) _))⟩
set_option maxRecDepth 100000 in
theorem box_two_badl (a b : V) (x : Bx) (hx : toBx a = x) (ha : okV a = false) (w : World) : Calls Tryd.prog 67 #[vv a, vv b] w fun e w' => e = .returned (.tuple #[.nilIface, .nilIface, .int .i64 2]) ∧ Below w.heap.size w w' := by
  have hu := Tryd.underlying33
  obtain ⟨ok, hb⟩ : ∃ o, okV b = o := ⟨_, rfl⟩
  obtain ⟨y, hy⟩ : ∃ o, toBx b = o := ⟨_, rfl⟩
  obtain ⟨ak, an, az⟩ := a
  obtain ⟨bk, bn, bz⟩ := b
  have HX := Lib.hid hx; have HA := Lib.hid ha; have HY := Lib.hid hy; have HB := Lib.hid hb
  clear hx ha hy hb
  unfold vv
  go_enter Tryd.func67, Tryd.ntmps67
  go_wp2_with (first | (go_at_call 70; (with_reducible refine (box_box_f ak an az x false HX.out HA.out _).mono ?_); rintro e w1 ⟨rfl, hb1⟩; have hB1 : Below w.heap.size w w1 := below_step (by repeat (first | exact Below.refl _ _ | assumption | refine below_drewN ?_ _ | refine Below.drew ?_ | refine Below.alloc ?_ (by first | exact Nat.le_refl _ | (simp; omega) | omega | simp) _ | refine Below.setCell ?_ (by first | exact Nat.le_refl _ | (simp; omega) | simp | omega) _)) hb1; obtain ⟨hc1, hf1, hz1⟩ := bcell hb1; (try simp only [sz_alloc, sz_set, sz_drew, sz_drewN] at hc1 hf1 hz1); clear hb1) | (go_at_call 70; (with_reducible refine (box_box_f bk bn bz y ok HY.out HB.out _).mono ?_); rintro e w2 ⟨rfl, hb2⟩; have hB2 : Below w.heap.size w w2 := below_step (by repeat (first | exact Below.refl _ _ | assumption | refine below_drewN ?_ _ | refine Below.drew ?_ | refine Below.alloc ?_ (by first | exact Nat.le_refl _ | (simp; omega) | omega | simp) _ | refine Below.setCell ?_ (by first | exact Nat.le_refl _ | (simp; omega) | simp | omega) _)) hb2; obtain ⟨hc2, hf2, hz2⟩ := bcell hb2; (try simp only [sz_alloc, sz_set, sz_drew, sz_drewN] at hc2 hf2 hz2); clear hb2))
  go_ret3
  exact ⟨rfl, (by repeat (first | exact Below.refl _ _ | assumption | refine below_drewN ?_ _ | refine Below.drew ?_ | refine Below.alloc ?_ (by first | exact Nat.le_refl _ | (simp; omega) | omega | simp) _ | refine Below.setCell ?_ (by first | exact Nat.le_refl _ | (simp; omega) | simp | omega) _))⟩
set_option maxRecDepth 100000 in
theorem box_two_badr (a b : V) (x : Bx) (hx : toBx a = x) (ha : okV a = true) (y : Bx) (hy : toBx b = y) (hb : okV b = false) (w : World) : Calls Tryd.prog 67 #[vv a, vv b] w fun e w' => e = .returned (.tuple #[.nilIface, .nilIface, .int .i64 2]) ∧ Below w.heap.size w w' := by
  have hu := Tryd.underlying33
  obtain ⟨ak, an, az⟩ := a
  obtain ⟨bk, bn, bz⟩ := b
  have HX := Lib.hid hx; have HA := Lib.hid ha; have HY := Lib.hid hy; have HB := Lib.hid hb
  clear hx ha hy hb
  unfold vv
  go_enter Tryd.func67, Tryd.ntmps67
  go_wp2_with (first | (go_at_call 70; (with_reducible refine (box_box_f ak an az x true HX.out HA.out _).mono ?_); rintro e w1 ⟨rfl, hb1⟩; have hB1 : Below w.heap.size w w1 := below_step (by repeat (first | exact Below.refl _ _ | assumption | refine below_drewN ?_ _ | refine Below.drew ?_ | refine Below.alloc ?_ (by first | exact Nat.le_refl _ | (simp; omega) | omega | simp) _ | refine Below.setCell ?_ (by first | exact Nat.le_refl _ | (simp; omega) | simp | omega) _)) hb1; obtain ⟨hc1, hf1, hz1⟩ := bcell hb1; (try simp only [sz_alloc, sz_set, sz_drew, sz_drewN] at hc1 hf1 hz1); clear hb1) | (go_at_call 70; (with_reducible refine (box_box_f bk bn bz y false HY.out HB.out _).mono ?_); rintro e w2 ⟨rfl, hb2⟩; have hB2 : Below w.heap.size w w2 := below_step (by repeat (first | exact Below.refl _ _ | assumption | refine below_drewN ?_ _ | refine Below.drew ?_ | refine Below.alloc ?_ (by first | exact Nat.le_refl _ | (simp; omega) | omega | simp) _ | refine Below.setCell ?_ (by first | exact Nat.le_refl _ | (simp; omega) | simp | omega) _)) hb2; obtain ⟨hc2, hf2, hz2⟩ := bcell hb2; (try simp only [sz_alloc, sz_set, sz_drew, sz_drewN] at hc2 hf2 hz2); clear hb2))
  go_ret3
  exact ⟨rfl, (by repeat (first | exact Below.refl _ _ | assumption | refine below_drewN ?_ _ | refine Below.drew ?_ | refine Below.alloc ?_ (by first | exact Nat.le_refl _ | (simp; omega) | omega | simp) _ | refine Below.setCell ?_ (by first | exact Nat.le_refl _ | (simp; omega) | simp | omega) _))⟩
theorem box_two_bad (a b : V) (h : ¬ (okV a = true ∧ okV b = true)) (w : World) : Calls Tryd.prog 67 #[vv a, vv b] w fun e w' => e = .returned (.tuple #[.nilIface, .nilIface, .int .i64 2]) ∧ Below w.heap.size w w' := by
  cases ha : okV a with
  | false => exact box_two_badl a b _ rfl ha w
  | true =>
    cases hb : okV b with
    | false => exact box_two_badr a b _ rfl ha _ rfl hb w
    | true => exact absurd ⟨ha, hb⟩ h
def bxEq : Bx → Bx → Bool
  | .nil, .nil => true
  | .b x, .b y => x == y
  | .i x, .i y => x == y
  | .s x, .s y => x == y
  | .t x, .t y => x == y
  | .f x, .f y => x == y
  | .l x, .l y => x == y
  | _, _ => false
set_option maxRecDepth 100000 in
theorem bx_eql (x y : Bx) (W : World) : (binOp .eql 20 (bxv x) (bxv y)).run Tryd.prog W = .ok (.bool (bxEq x y)) W := by
  cases x <;> cases y
  all_goals kernel_rfl
set_option maxRecDepth 100000 in
theorem bx_guard (i j : Tmp) (x y : Bx) (W : World) : (eqGuard .eql 20 (.tmp i) (.tmp j) (bxv x) (bxv y)).run Tryd.prog W = .ok () W := by
  cases x <;> cases y
  all_goals kernel_rfl
set_option maxRecDepth 100000 in
theorem box_Same_ok (a b : V) (ha : okV a = true) (hb : okV b = true) (w : World) : Calls Tryd.prog 50 #[vv a, vv b] w fun e w' => e = .returned (.tuple #[.bool (bxEq (toBx a) (toBx b)), .int .i64 0]) ∧ Below w.heap.size w w' := by
  have hu := Tryd.underlying33
  obtain ⟨x, hx⟩ : ∃ o, toBx a = o := ⟨_, rfl⟩
  obtain ⟨y, hy⟩ : ∃ o, toBx b = o := ⟨_, rfl⟩
  have HT : ∀ w, Calls Tryd.prog 67 #[vv a, vv b] w fun e w' => e = .returned (.tuple #[bxv x, bxv y, .int .i64 0]) ∧ Below w.heap.size w w' := fun w => box_two_ok a b _ hx ha _ hy hb w
  have HT2 := Lib.hid HT
  rw [hx, hy]
  have hq := bx_eql x y
  have hq2 := fun i j => bx_guard i j x y
  clear HT ha hb hx hy
  unfold vv
  go_enter Tryd.func50, Tryd.ntmps50
  go_wp2_with (first | (go_at_call 67; refine (HT2.out _).mono ?_; rintro e w1 ⟨rfl, hb1⟩; have hB1 : Below w.heap.size w w1 := below_step (by repeat (first | exact Below.refl _ _ | assumption | refine below_drewN ?_ _ | refine Below.drew ?_ | refine Below.alloc ?_ (by first | exact Nat.le_refl _ | (simp; omega) | omega | simp) _ | refine Below.setCell ?_ (by first | exact Nat.le_refl _ | (simp; omega) | simp | omega) _)) hb1; obtain ⟨hc1, hf1, hz1⟩ := bcell hb1; (try simp only [sz_alloc, sz_set, sz_drew, sz_drewN] at hc1 hf1 hz1); clear hb1))
  go_ret2
  exact ⟨rfl, (by repeat (first | exact Below.refl _ _ | assumption | refine below_drewN ?_ _ | refine Below.drew ?_ | refine Below.alloc ?_ (by first | exact Nat.le_refl _ | (simp; omega) | omega | simp) _ | refine Below.setCell ?_ (by first | exact Nat.le_refl _ | (simp; omega) | simp | omega) _))⟩
set_option maxRecDepth 100000 in
theorem box_Same_bad (a b : V) (h : ¬ (okV a = true ∧ okV b = true)) (w : World) : Calls Tryd.prog 50 #[vv a, vv b] w fun e w' => e = .returned (.tuple #[.bool false, .int .i64 2]) ∧ Below w.heap.size w w' := by
  have hu := Tryd.underlying33
  have HT2 := Lib.hid (fun w => box_two_bad a b h w)
  clear h
  unfold vv
  go_enter Tryd.func50, Tryd.ntmps50
  go_wp2_with (first | (go_at_call 67; refine (HT2.out _).mono ?_; rintro e w1 ⟨rfl, hb1⟩; have hB1 : Below w.heap.size w w1 := below_step (by repeat (first | exact Below.refl _ _ | assumption | refine below_drewN ?_ _ | refine Below.drew ?_ | refine Below.alloc ?_ (by first | exact Nat.le_refl _ | (simp; omega) | omega | simp) _ | refine Below.setCell ?_ (by first | exact Nat.le_refl _ | (simp; omega) | simp | omega) _)) hb1; obtain ⟨hc1, hf1, hz1⟩ := bcell hb1; (try simp only [sz_alloc, sz_set, sz_drew, sz_drewN] at hc1 hf1 hz1); clear hb1))
  go_ret2
  exact ⟨rfl, (by repeat (first | exact Below.refl _ _ | assumption | refine below_drewN ?_ _ | refine Below.drew ?_ | refine Below.alloc ?_ (by first | exact Nat.le_refl _ | (simp; omega) | omega | simp) _ | refine Below.setCell ?_ (by first | exact Nat.le_refl _ | (simp; omega) | simp | omega) _))⟩
end Go.Proofs.YtpppcoobibmlhaaDoor
/- Contracts of the package box: truth, types, texts. -/
namespace Go.Proofs.YtpppcoobibmlhaaDoor
open Go.RowKit
set_option linter.unusedVariables false
set_option linter.unusedSimpArgs false

theorem box_box_x (k n : Int) (s : ByteArray) (x : Bx) (v : Value) (hx : toBx ⟨k, n, s⟩ = x) (hv : bxv x = v) (ho : okV ⟨k, n, s⟩ = true) (w : World) : Calls Tryd.prog 70 #[.agg #[.int .i64 k, .int .i64 n, .string s]] w fun e w' => e = .returned (.tuple #[v, .bool true]) ∧ Below w.heap.size w w' := by
  rw [← hv]; exact box_box_f k n s x true hx ho w
def Bx.truth : Bx → Bool
  | .nil => false | .b y => y | _ => true
def bytes (l : List UInt8) : ByteArray := ⟨l.toArray⟩
def Bx.type : Bx → ByteArray
  | .nil => bytes [110, 105, 108]
  | .b _ => bytes [98, 111, 111, 108, 101, 97, 110]
  | .i _ => bytes [110, 117, 109, 98, 101, 114]
  | .s _ => bytes [115, 116, 114, 105, 110, 103]
  | .t _ => bytes [116, 97, 98, 108, 101]
  | .f _ => bytes [102, 117, 110, 99, 116, 105, 111, 110]
  | .l _ => bytes [102, 117, 110, 99, 116, 105, 111, 110]
def itoaB (n : Int) : ByteArray := ⟨(Lib.itoa n).toArray⟩
def Bx.show : Bx → ByteArray
  | .nil => bytes [110, 105, 108]
  | .b y => if y = true then bytes [116, 114, 117, 101] else bytes [102, 97, 108, 115, 101]
  | .i y => itoaB y
  | .s y => y
  | .t y => bytes [116, 97, 98, 108, 101, 58, 32] ++ itoaB y
  | .f y => bytes [102, 117, 110, 99, 116, 105, 111, 110, 58, 32] ++ itoaB y
  | .l y => bytes [98, 117, 105, 108, 116, 105, 110, 58, 32] ++ itoaB y
/-- Numbers in a box are of 64 bits. -/
def Bx.fine : Bx → Prop
  | .i y => In64 y | .t y => In64 y | .f y => In64 y | .l y => In64 y | _ => True
theorem words_Format_B (n : Int) (hn : In64 n) (w : World) (hE : Env w) : Calls Tryd.prog 20 #[.int .i64 n] w fun e w' => e = .returned (.string (itoaB n)) ∧ Below w.heap.size w w' := words_Format n hn w hE
theorem itoaB_size (n : Int) (hn : In64 n) : (itoaB n).size ≤ 20 := Num.itoa_size n hn _ rfl
set_option maxRecDepth 100000 in
theorem box_Truth_nil (v : V) (h : okV v = true) (hx : toBx v = .nil) (w : World) : Calls Tryd.prog 56 #[vv v] w fun e w' => e = .returned (.tuple #[.bool (Bx.truth (.nil : Bx)), .int .i64 0]) ∧ Below w.heap.size w w' := by
  have hu := Tryd.underlying33
  obtain ⟨vk, vn, vs⟩ := v
  have HX := Lib.hid hx; have HO := Lib.hid h
  clear h hx
  have qb := ta_nil_b
  have qi := ta_nil_i
  have qs := ta_nil_s
  have qt := ta_nil_t
  have qf := ta_nil_f
  have ql := ta_nil_l
  unfold vv
  go_enter Tryd.func56, Tryd.ntmps56
  go_wp2_with (first | (go_at_call 70; refine (box_box_x vk vn vs (.nil) (.nilIface) HX.out rfl HO.out _).mono ?_; rintro e w1 ⟨rfl, hb1⟩; have hB1 : Below w.heap.size w w1 := below_step (by repeat (first | exact Below.refl _ _ | assumption | refine below_drewN ?_ _ | refine Below.drew ?_ | refine Below.alloc ?_ (by first | exact Nat.le_refl _ | (simp; omega) | omega | simp) _ | refine Below.setCell ?_ (by first | exact Nat.le_refl _ | (simp; omega) | simp | omega) _)) hb1; obtain ⟨hc1, hf1, hz1⟩ := bcell hb1; (try simp only [sz_alloc, sz_set, sz_drew, sz_drewN] at hc1 hf1 hz1); clear hb1))
  go_ret2
  exact ⟨rfl, (by repeat (first | exact Below.refl _ _ | assumption | refine below_drewN ?_ _ | refine Below.drew ?_ | refine Below.alloc ?_ (by first | exact Nat.le_refl _ | (simp; omega) | omega | simp) _ | refine Below.setCell ?_ (by first | exact Nat.le_refl _ | (simp; omega) | simp | omega) _))⟩
set_option maxRecDepth 100000 in
theorem box_Truth_b (v : V) (x : Bool) (h : okV v = true) (hx : toBx v = .b x) (w : World) : Calls Tryd.prog 56 #[vv v] w fun e w' => e = .returned (.tuple #[.bool (Bx.truth (.b x : Bx)), .int .i64 0]) ∧ Below w.heap.size w w' := by
  have hu := Tryd.underlying33
  obtain ⟨vk, vn, vs⟩ := v
  have HX := Lib.hid hx; have HO := Lib.hid h
  clear h hx
  have qb := ta_b_b x
  have qi := ta_b_i x
  have qs := ta_b_s x
  have qt := ta_b_t x
  have qf := ta_b_f x
  have ql := ta_b_l x
  unfold vv
  go_enter Tryd.func56, Tryd.ntmps56
  go_wp2_with (first | (go_at_call 70; refine (box_box_x vk vn vs (.b x) (.iface 4 (.bool x)) HX.out rfl HO.out _).mono ?_; rintro e w1 ⟨rfl, hb1⟩; have hB1 : Below w.heap.size w w1 := below_step (by repeat (first | exact Below.refl _ _ | assumption | refine below_drewN ?_ _ | refine Below.drew ?_ | refine Below.alloc ?_ (by first | exact Nat.le_refl _ | (simp; omega) | omega | simp) _ | refine Below.setCell ?_ (by first | exact Nat.le_refl _ | (simp; omega) | simp | omega) _)) hb1; obtain ⟨hc1, hf1, hz1⟩ := bcell hb1; (try simp only [sz_alloc, sz_set, sz_drew, sz_drewN] at hc1 hf1 hz1); clear hb1))
  go_ret2
  exact ⟨rfl, (by repeat (first | exact Below.refl _ _ | assumption | refine below_drewN ?_ _ | refine Below.drew ?_ | refine Below.alloc ?_ (by first | exact Nat.le_refl _ | (simp; omega) | omega | simp) _ | refine Below.setCell ?_ (by first | exact Nat.le_refl _ | (simp; omega) | simp | omega) _))⟩
set_option maxRecDepth 100000 in
theorem box_Truth_i (v : V) (n : Int) (h : okV v = true) (hx : toBx v = .i n) (w : World) : Calls Tryd.prog 56 #[vv v] w fun e w' => e = .returned (.tuple #[.bool (Bx.truth (.i n : Bx)), .int .i64 0]) ∧ Below w.heap.size w w' := by
  have hu := Tryd.underlying33
  obtain ⟨vk, vn, vs⟩ := v
  have HX := Lib.hid hx; have HO := Lib.hid h
  clear h hx
  have qb := ta_i_b n
  have qi := ta_i_i n
  have qs := ta_i_s n
  have qt := ta_i_t n
  have qf := ta_i_f n
  have ql := ta_i_l n
  unfold vv
  go_enter Tryd.func56, Tryd.ntmps56
  go_wp2_with (first | (go_at_call 70; refine (box_box_x vk vn vs (.i n) (.iface 3 (.int .i64 n)) HX.out rfl HO.out _).mono ?_; rintro e w1 ⟨rfl, hb1⟩; have hB1 : Below w.heap.size w w1 := below_step (by repeat (first | exact Below.refl _ _ | assumption | refine below_drewN ?_ _ | refine Below.drew ?_ | refine Below.alloc ?_ (by first | exact Nat.le_refl _ | (simp; omega) | omega | simp) _ | refine Below.setCell ?_ (by first | exact Nat.le_refl _ | (simp; omega) | simp | omega) _)) hb1; obtain ⟨hc1, hf1, hz1⟩ := bcell hb1; (try simp only [sz_alloc, sz_set, sz_drew, sz_drewN] at hc1 hf1 hz1); clear hb1))
  go_ret2
  exact ⟨rfl, (by repeat (first | exact Below.refl _ _ | assumption | refine below_drewN ?_ _ | refine Below.drew ?_ | refine Below.alloc ?_ (by first | exact Nat.le_refl _ | (simp; omega) | omega | simp) _ | refine Below.setCell ?_ (by first | exact Nat.le_refl _ | (simp; omega) | simp | omega) _))⟩
set_option maxRecDepth 100000 in
theorem box_Truth_s (v : V) (t : ByteArray) (h : okV v = true) (hx : toBx v = .s t) (w : World) : Calls Tryd.prog 56 #[vv v] w fun e w' => e = .returned (.tuple #[.bool (Bx.truth (.s t : Bx)), .int .i64 0]) ∧ Below w.heap.size w w' := by
  have hu := Tryd.underlying33
  obtain ⟨vk, vn, vs⟩ := v
  have HX := Lib.hid hx; have HO := Lib.hid h
  clear h hx
  have qb := ta_s_b t
  have qi := ta_s_i t
  have qs := ta_s_s t
  have qt := ta_s_t t
  have qf := ta_s_f t
  have ql := ta_s_l t
  unfold vv
  go_enter Tryd.func56, Tryd.ntmps56
  go_wp2_with (first | (go_at_call 70; refine (box_box_x vk vn vs (.s t) (.iface 9 (.string t)) HX.out rfl HO.out _).mono ?_; rintro e w1 ⟨rfl, hb1⟩; have hB1 : Below w.heap.size w w1 := below_step (by repeat (first | exact Below.refl _ _ | assumption | refine below_drewN ?_ _ | refine Below.drew ?_ | refine Below.alloc ?_ (by first | exact Nat.le_refl _ | (simp; omega) | omega | simp) _ | refine Below.setCell ?_ (by first | exact Nat.le_refl _ | (simp; omega) | simp | omega) _)) hb1; obtain ⟨hc1, hf1, hz1⟩ := bcell hb1; (try simp only [sz_alloc, sz_set, sz_drew, sz_drewN] at hc1 hf1 hz1); clear hb1))
  go_ret2
  exact ⟨rfl, (by repeat (first | exact Below.refl _ _ | assumption | refine below_drewN ?_ _ | refine Below.drew ?_ | refine Below.alloc ?_ (by first | exact Nat.le_refl _ | (simp; omega) | omega | simp) _ | refine Below.setCell ?_ (by first | exact Nat.le_refl _ | (simp; omega) | simp | omega) _))⟩
set_option maxRecDepth 100000 in
theorem box_Truth_t (v : V) (n : Int) (h : okV v = true) (hx : toBx v = .t n) (w : World) : Calls Tryd.prog 56 #[vv v] w fun e w' => e = .returned (.tuple #[.bool (Bx.truth (.t n : Bx)), .int .i64 0]) ∧ Below w.heap.size w w' := by
  have hu := Tryd.underlying33
  obtain ⟨vk, vn, vs⟩ := v
  have HX := Lib.hid hx; have HO := Lib.hid h
  clear h hx
  have qb := ta_t_b n
  have qi := ta_t_i n
  have qs := ta_t_s n
  have qt := ta_t_t n
  have qf := ta_t_f n
  have ql := ta_t_l n
  unfold vv
  go_enter Tryd.func56, Tryd.ntmps56
  go_wp2_with (first | (go_at_call 70; refine (box_box_x vk vn vs (.t n) (.iface 85 (.int .i64 n)) HX.out rfl HO.out _).mono ?_; rintro e w1 ⟨rfl, hb1⟩; have hB1 : Below w.heap.size w w1 := below_step (by repeat (first | exact Below.refl _ _ | assumption | refine below_drewN ?_ _ | refine Below.drew ?_ | refine Below.alloc ?_ (by first | exact Nat.le_refl _ | (simp; omega) | omega | simp) _ | refine Below.setCell ?_ (by first | exact Nat.le_refl _ | (simp; omega) | simp | omega) _)) hb1; obtain ⟨hc1, hf1, hz1⟩ := bcell hb1; (try simp only [sz_alloc, sz_set, sz_drew, sz_drewN] at hc1 hf1 hz1); clear hb1))
  go_ret2
  exact ⟨rfl, (by repeat (first | exact Below.refl _ _ | assumption | refine below_drewN ?_ _ | refine Below.drew ?_ | refine Below.alloc ?_ (by first | exact Nat.le_refl _ | (simp; omega) | omega | simp) _ | refine Below.setCell ?_ (by first | exact Nat.le_refl _ | (simp; omega) | simp | omega) _))⟩
set_option maxRecDepth 100000 in
theorem box_Truth_f (v : V) (n : Int) (h : okV v = true) (hx : toBx v = .f n) (w : World) : Calls Tryd.prog 56 #[vv v] w fun e w' => e = .returned (.tuple #[.bool (Bx.truth (.f n : Bx)), .int .i64 0]) ∧ Below w.heap.size w w' := by
  have hu := Tryd.underlying33
  obtain ⟨vk, vn, vs⟩ := v
  have HX := Lib.hid hx; have HO := Lib.hid h
  clear h hx
  have qb := ta_f_b n
  have qi := ta_f_i n
  have qs := ta_f_s n
  have qt := ta_f_t n
  have qf := ta_f_f n
  have ql := ta_f_l n
  unfold vv
  go_enter Tryd.func56, Tryd.ntmps56
  go_wp2_with (first | (go_at_call 70; refine (box_box_x vk vn vs (.f n) (.iface 86 (.int .i64 n)) HX.out rfl HO.out _).mono ?_; rintro e w1 ⟨rfl, hb1⟩; have hB1 : Below w.heap.size w w1 := below_step (by repeat (first | exact Below.refl _ _ | assumption | refine below_drewN ?_ _ | refine Below.drew ?_ | refine Below.alloc ?_ (by first | exact Nat.le_refl _ | (simp; omega) | omega | simp) _ | refine Below.setCell ?_ (by first | exact Nat.le_refl _ | (simp; omega) | simp | omega) _)) hb1; obtain ⟨hc1, hf1, hz1⟩ := bcell hb1; (try simp only [sz_alloc, sz_set, sz_drew, sz_drewN] at hc1 hf1 hz1); clear hb1))
  go_ret2
  exact ⟨rfl, (by repeat (first | exact Below.refl _ _ | assumption | refine below_drewN ?_ _ | refine Below.drew ?_ | refine Below.alloc ?_ (by first | exact Nat.le_refl _ | (simp; omega) | omega | simp) _ | refine Below.setCell ?_ (by first | exact Nat.le_refl _ | (simp; omega) | simp | omega) _))⟩
set_option maxRecDepth 100000 in
theorem box_Truth_l (v : V) (n : Int) (h : okV v = true) (hx : toBx v = .l n) (w : World) : Calls Tryd.prog 56 #[vv v] w fun e w' => e = .returned (.tuple #[.bool (Bx.truth (.l n : Bx)), .int .i64 0]) ∧ Below w.heap.size w w' := by
  have hu := Tryd.underlying33
  obtain ⟨vk, vn, vs⟩ := v
  have HX := Lib.hid hx; have HO := Lib.hid h
  clear h hx
  have qb := ta_l_b n
  have qi := ta_l_i n
  have qs := ta_l_s n
  have qt := ta_l_t n
  have qf := ta_l_f n
  have ql := ta_l_l n
  unfold vv
  go_enter Tryd.func56, Tryd.ntmps56
  go_wp2_with (first | (go_at_call 70; refine (box_box_x vk vn vs (.l n) (.iface 87 (.int .i64 n)) HX.out rfl HO.out _).mono ?_; rintro e w1 ⟨rfl, hb1⟩; have hB1 : Below w.heap.size w w1 := below_step (by repeat (first | exact Below.refl _ _ | assumption | refine below_drewN ?_ _ | refine Below.drew ?_ | refine Below.alloc ?_ (by first | exact Nat.le_refl _ | (simp; omega) | omega | simp) _ | refine Below.setCell ?_ (by first | exact Nat.le_refl _ | (simp; omega) | simp | omega) _)) hb1; obtain ⟨hc1, hf1, hz1⟩ := bcell hb1; (try simp only [sz_alloc, sz_set, sz_drew, sz_drewN] at hc1 hf1 hz1); clear hb1))
  go_ret2
  exact ⟨rfl, (by repeat (first | exact Below.refl _ _ | assumption | refine below_drewN ?_ _ | refine Below.drew ?_ | refine Below.alloc ?_ (by first | exact Nat.le_refl _ | (simp; omega) | omega | simp) _ | refine Below.setCell ?_ (by first | exact Nat.le_refl _ | (simp; omega) | simp | omega) _))⟩
theorem box_Truth_ok (v : V) (h : okV v = true) (w : World) : Calls Tryd.prog 56 #[vv v] w fun e w' => e = .returned (.tuple #[.bool (Bx.truth (toBx v)), .int .i64 0]) ∧ Below w.heap.size w w' := by
  cases hx : toBx v with
  | nil => exact box_Truth_nil v h hx w
  | b y => exact box_Truth_b v y h hx w
  | i y => exact box_Truth_i v y h hx w
  | s y => exact box_Truth_s v y h hx w
  | t y => exact box_Truth_t v y h hx w
  | f y => exact box_Truth_f v y h hx w
  | l y => exact box_Truth_l v y h hx w
set_option maxRecDepth 100000 in
theorem box_Truth_bad (v : V) (h : okV v = false) (w : World) : Calls Tryd.prog 56 #[vv v] w fun e w' => e = .returned (.tuple #[.bool false, .int .i64 2]) ∧ Below w.heap.size w w' := by
  have hu := Tryd.underlying33
  have HO := Lib.hid h
  clear h
  unfold vv
  go_enter Tryd.func56, Tryd.ntmps56
  go_wp2_with (first | (go_at_call 70; refine (box_box_c v _ false rfl HO.out _).mono ?_; rintro e w1 ⟨rfl, hb1⟩; have hB1 : Below w.heap.size w w1 := below_step (by repeat (first | exact Below.refl _ _ | assumption | refine below_drewN ?_ _ | refine Below.drew ?_ | refine Below.alloc ?_ (by first | exact Nat.le_refl _ | (simp; omega) | omega | simp) _ | refine Below.setCell ?_ (by first | exact Nat.le_refl _ | (simp; omega) | simp | omega) _)) hb1; obtain ⟨hc1, hf1, hz1⟩ := bcell hb1; (try simp only [sz_alloc, sz_set, sz_drew, sz_drewN] at hc1 hf1 hz1); clear hb1))
  go_ret2
  exact ⟨rfl, (by repeat (first | exact Below.refl _ _ | assumption | refine below_drewN ?_ _ | refine Below.drew ?_ | refine Below.alloc ?_ (by first | exact Nat.le_refl _ | (simp; omega) | omega | simp) _ | refine Below.setCell ?_ (by first | exact Nat.le_refl _ | (simp; omega) | simp | omega) _))⟩
set_option maxRecDepth 100000 in
theorem box_Type_nil (v : V) (h : okV v = true) (hx : toBx v = .nil) (w : World) : Calls Tryd.prog 57 #[vv v] w fun e w' => e = .returned (.tuple #[.string (Bx.type (.nil : Bx)), .int .i64 0]) ∧ Below w.heap.size w w' := by
  have hu := Tryd.underlying33
  obtain ⟨vk, vn, vs⟩ := v
  have HX := Lib.hid hx; have HO := Lib.hid h
  clear h hx
  have qb := ta_nil_b
  have qi := ta_nil_i
  have qs := ta_nil_s
  have qt := ta_nil_t
  have qf := ta_nil_f
  have ql := ta_nil_l
  unfold vv
  go_enter Tryd.func57, Tryd.ntmps57
  go_wp2_with (first | (go_at_call 70; refine (box_box_x vk vn vs (.nil) (.nilIface) HX.out rfl HO.out _).mono ?_; rintro e w1 ⟨rfl, hb1⟩; have hB1 : Below w.heap.size w w1 := below_step (by repeat (first | exact Below.refl _ _ | assumption | refine below_drewN ?_ _ | refine Below.drew ?_ | refine Below.alloc ?_ (by first | exact Nat.le_refl _ | (simp; omega) | omega | simp) _ | refine Below.setCell ?_ (by first | exact Nat.le_refl _ | (simp; omega) | simp | omega) _)) hb1; obtain ⟨hc1, hf1, hz1⟩ := bcell hb1; (try simp only [sz_alloc, sz_set, sz_drew, sz_drewN] at hc1 hf1 hz1); clear hb1))
  go_ret2
  exact ⟨rfl, (by repeat (first | exact Below.refl _ _ | assumption | refine below_drewN ?_ _ | refine Below.drew ?_ | refine Below.alloc ?_ (by first | exact Nat.le_refl _ | (simp; omega) | omega | simp) _ | refine Below.setCell ?_ (by first | exact Nat.le_refl _ | (simp; omega) | simp | omega) _))⟩
set_option maxRecDepth 100000 in
theorem box_Type_b (v : V) (x : Bool) (h : okV v = true) (hx : toBx v = .b x) (w : World) : Calls Tryd.prog 57 #[vv v] w fun e w' => e = .returned (.tuple #[.string (Bx.type (.b x : Bx)), .int .i64 0]) ∧ Below w.heap.size w w' := by
  have hu := Tryd.underlying33
  obtain ⟨vk, vn, vs⟩ := v
  have HX := Lib.hid hx; have HO := Lib.hid h
  clear h hx
  have qb := ta_b_b x
  have qi := ta_b_i x
  have qs := ta_b_s x
  have qt := ta_b_t x
  have qf := ta_b_f x
  have ql := ta_b_l x
  unfold vv
  go_enter Tryd.func57, Tryd.ntmps57
  go_wp2_with (first | (go_at_call 70; refine (box_box_x vk vn vs (.b x) (.iface 4 (.bool x)) HX.out rfl HO.out _).mono ?_; rintro e w1 ⟨rfl, hb1⟩; have hB1 : Below w.heap.size w w1 := below_step (by repeat (first | exact Below.refl _ _ | assumption | refine below_drewN ?_ _ | refine Below.drew ?_ | refine Below.alloc ?_ (by first | exact Nat.le_refl _ | (simp; omega) | omega | simp) _ | refine Below.setCell ?_ (by first | exact Nat.le_refl _ | (simp; omega) | simp | omega) _)) hb1; obtain ⟨hc1, hf1, hz1⟩ := bcell hb1; (try simp only [sz_alloc, sz_set, sz_drew, sz_drewN] at hc1 hf1 hz1); clear hb1))
  go_ret2
  exact ⟨rfl, (by repeat (first | exact Below.refl _ _ | assumption | refine below_drewN ?_ _ | refine Below.drew ?_ | refine Below.alloc ?_ (by first | exact Nat.le_refl _ | (simp; omega) | omega | simp) _ | refine Below.setCell ?_ (by first | exact Nat.le_refl _ | (simp; omega) | simp | omega) _))⟩
set_option maxRecDepth 100000 in
theorem box_Type_i (v : V) (n : Int) (h : okV v = true) (hx : toBx v = .i n) (w : World) : Calls Tryd.prog 57 #[vv v] w fun e w' => e = .returned (.tuple #[.string (Bx.type (.i n : Bx)), .int .i64 0]) ∧ Below w.heap.size w w' := by
  have hu := Tryd.underlying33
  obtain ⟨vk, vn, vs⟩ := v
  have HX := Lib.hid hx; have HO := Lib.hid h
  clear h hx
  have qb := ta_i_b n
  have qi := ta_i_i n
  have qs := ta_i_s n
  have qt := ta_i_t n
  have qf := ta_i_f n
  have ql := ta_i_l n
  unfold vv
  go_enter Tryd.func57, Tryd.ntmps57
  go_wp2_with (first | (go_at_call 70; refine (box_box_x vk vn vs (.i n) (.iface 3 (.int .i64 n)) HX.out rfl HO.out _).mono ?_; rintro e w1 ⟨rfl, hb1⟩; have hB1 : Below w.heap.size w w1 := below_step (by repeat (first | exact Below.refl _ _ | assumption | refine below_drewN ?_ _ | refine Below.drew ?_ | refine Below.alloc ?_ (by first | exact Nat.le_refl _ | (simp; omega) | omega | simp) _ | refine Below.setCell ?_ (by first | exact Nat.le_refl _ | (simp; omega) | simp | omega) _)) hb1; obtain ⟨hc1, hf1, hz1⟩ := bcell hb1; (try simp only [sz_alloc, sz_set, sz_drew, sz_drewN] at hc1 hf1 hz1); clear hb1))
  go_ret2
  exact ⟨rfl, (by repeat (first | exact Below.refl _ _ | assumption | refine below_drewN ?_ _ | refine Below.drew ?_ | refine Below.alloc ?_ (by first | exact Nat.le_refl _ | (simp; omega) | omega | simp) _ | refine Below.setCell ?_ (by first | exact Nat.le_refl _ | (simp; omega) | simp | omega) _))⟩
set_option maxRecDepth 100000 in
theorem box_Type_s (v : V) (t : ByteArray) (h : okV v = true) (hx : toBx v = .s t) (w : World) : Calls Tryd.prog 57 #[vv v] w fun e w' => e = .returned (.tuple #[.string (Bx.type (.s t : Bx)), .int .i64 0]) ∧ Below w.heap.size w w' := by
  have hu := Tryd.underlying33
  obtain ⟨vk, vn, vs⟩ := v
  have HX := Lib.hid hx; have HO := Lib.hid h
  clear h hx
  have qb := ta_s_b t
  have qi := ta_s_i t
  have qs := ta_s_s t
  have qt := ta_s_t t
  have qf := ta_s_f t
  have ql := ta_s_l t
  unfold vv
  go_enter Tryd.func57, Tryd.ntmps57
  go_wp2_with (first | (go_at_call 70; refine (box_box_x vk vn vs (.s t) (.iface 9 (.string t)) HX.out rfl HO.out _).mono ?_; rintro e w1 ⟨rfl, hb1⟩; have hB1 : Below w.heap.size w w1 := below_step (by repeat (first | exact Below.refl _ _ | assumption | refine below_drewN ?_ _ | refine Below.drew ?_ | refine Below.alloc ?_ (by first | exact Nat.le_refl _ | (simp; omega) | omega | simp) _ | refine Below.setCell ?_ (by first | exact Nat.le_refl _ | (simp; omega) | simp | omega) _)) hb1; obtain ⟨hc1, hf1, hz1⟩ := bcell hb1; (try simp only [sz_alloc, sz_set, sz_drew, sz_drewN] at hc1 hf1 hz1); clear hb1))
  go_ret2
  exact ⟨rfl, (by repeat (first | exact Below.refl _ _ | assumption | refine below_drewN ?_ _ | refine Below.drew ?_ | refine Below.alloc ?_ (by first | exact Nat.le_refl _ | (simp; omega) | omega | simp) _ | refine Below.setCell ?_ (by first | exact Nat.le_refl _ | (simp; omega) | simp | omega) _))⟩
set_option maxRecDepth 100000 in
theorem box_Type_t (v : V) (n : Int) (h : okV v = true) (hx : toBx v = .t n) (w : World) : Calls Tryd.prog 57 #[vv v] w fun e w' => e = .returned (.tuple #[.string (Bx.type (.t n : Bx)), .int .i64 0]) ∧ Below w.heap.size w w' := by
  have hu := Tryd.underlying33
  obtain ⟨vk, vn, vs⟩ := v
  have HX := Lib.hid hx; have HO := Lib.hid h
  clear h hx
  have qb := ta_t_b n
  have qi := ta_t_i n
  have qs := ta_t_s n
  have qt := ta_t_t n
  have qf := ta_t_f n
  have ql := ta_t_l n
  unfold vv
  go_enter Tryd.func57, Tryd.ntmps57
  go_wp2_with (first | (go_at_call 70; refine (box_box_x vk vn vs (.t n) (.iface 85 (.int .i64 n)) HX.out rfl HO.out _).mono ?_; rintro e w1 ⟨rfl, hb1⟩; have hB1 : Below w.heap.size w w1 := below_step (by repeat (first | exact Below.refl _ _ | assumption | refine below_drewN ?_ _ | refine Below.drew ?_ | refine Below.alloc ?_ (by first | exact Nat.le_refl _ | (simp; omega) | omega | simp) _ | refine Below.setCell ?_ (by first | exact Nat.le_refl _ | (simp; omega) | simp | omega) _)) hb1; obtain ⟨hc1, hf1, hz1⟩ := bcell hb1; (try simp only [sz_alloc, sz_set, sz_drew, sz_drewN] at hc1 hf1 hz1); clear hb1))
  go_ret2
  exact ⟨rfl, (by repeat (first | exact Below.refl _ _ | assumption | refine below_drewN ?_ _ | refine Below.drew ?_ | refine Below.alloc ?_ (by first | exact Nat.le_refl _ | (simp; omega) | omega | simp) _ | refine Below.setCell ?_ (by first | exact Nat.le_refl _ | (simp; omega) | simp | omega) _))⟩
set_option maxRecDepth 100000 in
theorem box_Type_f (v : V) (n : Int) (h : okV v = true) (hx : toBx v = .f n) (w : World) : Calls Tryd.prog 57 #[vv v] w fun e w' => e = .returned (.tuple #[.string (Bx.type (.f n : Bx)), .int .i64 0]) ∧ Below w.heap.size w w' := by
  have hu := Tryd.underlying33
  obtain ⟨vk, vn, vs⟩ := v
  have HX := Lib.hid hx; have HO := Lib.hid h
  clear h hx
  have qb := ta_f_b n
  have qi := ta_f_i n
  have qs := ta_f_s n
  have qt := ta_f_t n
  have qf := ta_f_f n
  have ql := ta_f_l n
  unfold vv
  go_enter Tryd.func57, Tryd.ntmps57
  go_wp2_with (first | (go_at_call 70; refine (box_box_x vk vn vs (.f n) (.iface 86 (.int .i64 n)) HX.out rfl HO.out _).mono ?_; rintro e w1 ⟨rfl, hb1⟩; have hB1 : Below w.heap.size w w1 := below_step (by repeat (first | exact Below.refl _ _ | assumption | refine below_drewN ?_ _ | refine Below.drew ?_ | refine Below.alloc ?_ (by first | exact Nat.le_refl _ | (simp; omega) | omega | simp) _ | refine Below.setCell ?_ (by first | exact Nat.le_refl _ | (simp; omega) | simp | omega) _)) hb1; obtain ⟨hc1, hf1, hz1⟩ := bcell hb1; (try simp only [sz_alloc, sz_set, sz_drew, sz_drewN] at hc1 hf1 hz1); clear hb1))
  go_ret2
  exact ⟨rfl, (by repeat (first | exact Below.refl _ _ | assumption | refine below_drewN ?_ _ | refine Below.drew ?_ | refine Below.alloc ?_ (by first | exact Nat.le_refl _ | (simp; omega) | omega | simp) _ | refine Below.setCell ?_ (by first | exact Nat.le_refl _ | (simp; omega) | simp | omega) _))⟩
set_option maxRecDepth 100000 in
theorem box_Type_l (v : V) (n : Int) (h : okV v = true) (hx : toBx v = .l n) (w : World) : Calls Tryd.prog 57 #[vv v] w fun e w' => e = .returned (.tuple #[.string (Bx.type (.l n : Bx)), .int .i64 0]) ∧ Below w.heap.size w w' := by
  have hu := Tryd.underlying33
  obtain ⟨vk, vn, vs⟩ := v
  have HX := Lib.hid hx; have HO := Lib.hid h
  clear h hx
  have qb := ta_l_b n
  have qi := ta_l_i n
  have qs := ta_l_s n
  have qt := ta_l_t n
  have qf := ta_l_f n
  have ql := ta_l_l n
  unfold vv
  go_enter Tryd.func57, Tryd.ntmps57
  go_wp2_with (first | (go_at_call 70; refine (box_box_x vk vn vs (.l n) (.iface 87 (.int .i64 n)) HX.out rfl HO.out _).mono ?_; rintro e w1 ⟨rfl, hb1⟩; have hB1 : Below w.heap.size w w1 := below_step (by repeat (first | exact Below.refl _ _ | assumption | refine below_drewN ?_ _ | refine Below.drew ?_ | refine Below.alloc ?_ (by first | exact Nat.le_refl _ | (simp; omega) | omega | simp) _ | refine Below.setCell ?_ (by first | exact Nat.le_refl _ | (simp; omega) | simp | omega) _)) hb1; obtain ⟨hc1, hf1, hz1⟩ := bcell hb1; (try simp only [sz_alloc, sz_set, sz_drew, sz_drewN] at hc1 hf1 hz1); clear hb1))
  go_ret2
  exact ⟨rfl, (by repeat (first | exact Below.refl _ _ | assumption | refine below_drewN ?_ _ | refine Below.drew ?_ | refine Below.alloc ?_ (by first | exact Nat.le_refl _ | (simp; omega) | omega | simp) _ | refine Below.setCell ?_ (by first | exact Nat.le_refl _ | (simp; omega) | simp | omega) _))⟩
theorem box_Type_ok (v : V) (h : okV v = true) (w : World) : Calls Tryd.prog 57 #[vv v] w fun e w' => e = .returned (.tuple #[.string (Bx.type (toBx v)), .int .i64 0]) ∧ Below w.heap.size w w' := by
  cases hx : toBx v with
  | nil => exact box_Type_nil v h hx w
  | b y => exact box_Type_b v y h hx w
  | i y => exact box_Type_i v y h hx w
  | s y => exact box_Type_s v y h hx w
  | t y => exact box_Type_t v y h hx w
  | f y => exact box_Type_f v y h hx w
  | l y => exact box_Type_l v y h hx w
set_option maxRecDepth 100000 in
theorem box_Type_bad (v : V) (h : okV v = false) (w : World) : Calls Tryd.prog 57 #[vv v] w fun e w' => e = .returned (.tuple #[.string ⟨#[]⟩, .int .i64 2]) ∧ Below w.heap.size w w' := by
  have hu := Tryd.underlying33
  have HO := Lib.hid h
  clear h
  unfold vv
  go_enter Tryd.func57, Tryd.ntmps57
  go_wp2_with (first | (go_at_call 70; refine (box_box_c v _ false rfl HO.out _).mono ?_; rintro e w1 ⟨rfl, hb1⟩; have hB1 : Below w.heap.size w w1 := below_step (by repeat (first | exact Below.refl _ _ | assumption | refine below_drewN ?_ _ | refine Below.drew ?_ | refine Below.alloc ?_ (by first | exact Nat.le_refl _ | (simp; omega) | omega | simp) _ | refine Below.setCell ?_ (by first | exact Nat.le_refl _ | (simp; omega) | simp | omega) _)) hb1; obtain ⟨hc1, hf1, hz1⟩ := bcell hb1; (try simp only [sz_alloc, sz_set, sz_drew, sz_drewN] at hc1 hf1 hz1); clear hb1))
  go_ret2
  exact ⟨rfl, (by repeat (first | exact Below.refl _ _ | assumption | refine below_drewN ?_ _ | refine Below.drew ?_ | refine Below.alloc ?_ (by first | exact Nat.le_refl _ | (simp; omega) | omega | simp) _ | refine Below.setCell ?_ (by first | exact Nat.le_refl _ | (simp; omega) | simp | omega) _))⟩
end Go.Proofs.YtpppcoobibmlhaaDoor
/- Contracts of the package box: texts, order, joining. -/
namespace Go.Proofs.YtpppcoobibmlhaaDoor
open Go.RowKit
set_option linter.unusedVariables false
set_option linter.unusedSimpArgs false

theorem words_Format_u (n : Int) (u : ByteArray) (hn : In64 n) (hu : itoaB n = u) (w : World) (hE : Env w) : Calls Tryd.prog 20 #[.int .i64 n] w fun e w' => e = .returned (.string u) ∧ Below w.heap.size w w' := by
  rw [← hu]; exact words_Format_B n hn w hE
set_option maxRecDepth 100000 in
theorem box_show_nil (w : World) (hE : Env w) : Calls Tryd.prog 71 #[.nilIface] w fun e w' => e = .returned (.string (Bx.show (.nil))) ∧ Below w.heap.size w w' := by
  have qb := ta_nil_b
  have qi := ta_nil_i
  have qs := ta_nil_s
  have qt := ta_nil_t
  have qf := ta_nil_f
  have ql := ta_nil_l
  go_enter Tryd.func71, Tryd.ntmps71
  go_wp2
  go_ret
  exact ⟨rfl, Below.refl _ _⟩
set_option maxRecDepth 100000 in
theorem box_show_b (x : Bool) (w : World) (hE : Env w) : Calls Tryd.prog 71 #[.iface 4 (.bool x)] w fun e w' => e = .returned (.string (Bx.show (.b x))) ∧ Below w.heap.size w w' := by
  have qb := ta_b_b x
  have qi := ta_b_i x
  have qs := ta_b_s x
  have qt := ta_b_t x
  have qf := ta_b_f x
  have ql := ta_b_l x
  cases x
  all_goals go_enter Tryd.func71, Tryd.ntmps71
  all_goals go_wp2
  all_goals go_ret
  all_goals exact ⟨rfl, Below.refl _ _⟩
set_option maxRecDepth 100000 in
theorem box_show_i (n : Int) (hn : In64 n) (w : World) (hE : Env w) : Calls Tryd.prog 71 #[.iface 3 (.int .i64 n)] w fun e w' => e = .returned (.string (Bx.show (.i n))) ∧ Below w.heap.size w w' := by
  have qb := ta_i_b n
  have qi := ta_i_i n
  have qs := ta_i_s n
  have qt := ta_i_t n
  have qf := ta_i_f n
  have ql := ta_i_l n
  have h20 := itoaB_size n hn
  obtain ⟨u, hu⟩ : ∃ u, itoaB n = u := ⟨_, rfl⟩
  have HS : Hid (Bx.show (.i n) = u) := by rw [← hu]; rfl
  rw [hu] at h20
  have HU := Lib.hid hu
  clear hu
  go_enter Tryd.func71, Tryd.ntmps71
  go_wp2_with (first | (go_at_call 20; refine (words_Format_u n u hn HU.out _ hE).mono ?_; rintro e w1 ⟨rfl, hb1⟩))
  go_ret
  exact ⟨ret_str HS.out.symm, hb1⟩
set_option maxRecDepth 100000 in
theorem box_show_s (t : ByteArray) (w : World) (hE : Env w) : Calls Tryd.prog 71 #[.iface 9 (.string t)] w fun e w' => e = .returned (.string (Bx.show (.s t))) ∧ Below w.heap.size w w' := by
  have qb := ta_s_b t
  have qi := ta_s_i t
  have qs := ta_s_s t
  have qt := ta_s_t t
  have qf := ta_s_f t
  have ql := ta_s_l t
  go_enter Tryd.func71, Tryd.ntmps71
  go_wp2
  go_ret
  exact ⟨rfl, Below.refl _ _⟩
set_option maxRecDepth 100000 in
theorem box_show_t (n : Int) (hn : In64 n) (w : World) (hE : Env w) : Calls Tryd.prog 71 #[.iface 85 (.int .i64 n)] w fun e w' => e = .returned (.string (Bx.show (.t n))) ∧ Below w.heap.size w w' := by
  have qb := ta_t_b n
  have qi := ta_t_i n
  have qs := ta_t_s n
  have qt := ta_t_t n
  have qf := ta_t_f n
  have ql := ta_t_l n
  have h20 := itoaB_size n hn
  obtain ⟨u, hu⟩ : ∃ u, itoaB n = u := ⟨_, rfl⟩
  have HS : Hid (Bx.show (.t n) = bytes [116, 97, 98, 108, 101, 58, 32] ++ u) := by rw [← hu]; rfl
  rw [hu] at h20
  have HU := Lib.hid hu
  clear hu
  go_enter Tryd.func71, Tryd.ntmps71
  go_wp2_with (first | (go_at_call 20; refine (words_Format_u n u hn HU.out _ hE).mono ?_; rintro e w1 ⟨rfl, hb1⟩))
  go_ret
  exact ⟨ret_str HS.out.symm, hb1⟩
set_option maxRecDepth 100000 in
theorem box_show_f (n : Int) (hn : In64 n) (w : World) (hE : Env w) : Calls Tryd.prog 71 #[.iface 86 (.int .i64 n)] w fun e w' => e = .returned (.string (Bx.show (.f n))) ∧ Below w.heap.size w w' := by
  have qb := ta_f_b n
  have qi := ta_f_i n
  have qs := ta_f_s n
  have qt := ta_f_t n
  have qf := ta_f_f n
  have ql := ta_f_l n
  have h20 := itoaB_size n hn
  obtain ⟨u, hu⟩ : ∃ u, itoaB n = u := ⟨_, rfl⟩
  have HS : Hid (Bx.show (.f n) = bytes [102, 117, 110, 99, 116, 105, 111, 110, 58, 32] ++ u) := by rw [← hu]; rfl
  rw [hu] at h20
  have HU := Lib.hid hu
  clear hu
  go_enter Tryd.func71, Tryd.ntmps71
  go_wp2_with (first | (go_at_call 20; refine (words_Format_u n u hn HU.out _ hE).mono ?_; rintro e w1 ⟨rfl, hb1⟩))
  go_ret
  exact ⟨ret_str HS.out.symm, hb1⟩
set_option maxRecDepth 100000 in
theorem box_show_l (n : Int) (hn : In64 n) (w : World) (hE : Env w) : Calls Tryd.prog 71 #[.iface 87 (.int .i64 n)] w fun e w' => e = .returned (.string (Bx.show (.l n))) ∧ Below w.heap.size w w' := by
  have qb := ta_l_b n
  have qi := ta_l_i n
  have qs := ta_l_s n
  have qt := ta_l_t n
  have qf := ta_l_f n
  have ql := ta_l_l n
  have h20 := itoaB_size n hn
  obtain ⟨u, hu⟩ : ∃ u, itoaB n = u := ⟨_, rfl⟩
  have HS : Hid (Bx.show (.l n) = bytes [98, 117, 105, 108, 116, 105, 110, 58, 32] ++ u) := by rw [← hu]; rfl
  rw [hu] at h20
  have HU := Lib.hid hu
  clear hu
  go_enter Tryd.func71, Tryd.ntmps71
  go_wp2_with (first | (go_at_call 20; refine (words_Format_u n u hn HU.out _ hE).mono ?_; rintro e w1 ⟨rfl, hb1⟩))
  go_ret
  exact ⟨ret_str HS.out.symm, hb1⟩
theorem box_show (x : Bx) (hx : x.fine) (w : World) (hE : Env w) : Calls Tryd.prog 71 #[bxv x] w fun e w' => e = .returned (.string x.show) ∧ Below w.heap.size w w' := by
  cases x with
  | nil => exact box_show_nil w hE
  | b y => exact box_show_b y w hE
  | s y => exact box_show_s y w hE
  | i y => exact box_show_i y hx w hE
  | t y => exact box_show_t y hx w hE
  | f y => exact box_show_f y hx w hE
  | l y => exact box_show_l y hx w hE
theorem box_show_c (x : Bx) (hx : x.fine) (t : ByteArray) (ht : x.show = t) (w : World) (hE : Env w) : Calls Tryd.prog 71 #[bxv x] w fun e w' => e = .returned (.string t) ∧ Below w.heap.size w w' := by
  rw [← ht]; exact box_show x hx w hE
theorem fine_of (v : V) (h : okV v = true) (hn : In64 v.n) : (toBx v).fine := by
  have := ofBx_toBx v h
  cases hx : toBx v <;> (try trivial)
  all_goals (rw [hx] at this; rw [← this] at hn; exact hn)
set_option maxRecDepth 100000 in
theorem box_Show_ok (v : V) (h : okV v = true) (hn : In64 v.n) (w : World) (hE : Env w) : Calls Tryd.prog 29 #[vv v] w fun e w' => e = .returned (.tuple #[.string (Bx.show (toBx v)), .int .i64 0]) ∧ Below w.heap.size w w' := by
  have hu := Tryd.underlying33
  have HF := Lib.hid (fine_of v h hn)
  have HO := Lib.hid h
  obtain ⟨x, hx⟩ : ∃ x, toBx v = x := ⟨_, rfl⟩
  have HX := Lib.hid hx
  rw [hx] at HF
  rw [hx]
  obtain ⟨t, ht⟩ : ∃ t, x.show = t := ⟨_, rfl⟩
  have HT := Lib.hid ht
  rw [ht]
  clear h hx ht
  unfold vv
  go_enter Tryd.func29, Tryd.ntmps29
  go_wp2_with (first | (go_at_call 70; refine (box_box_c v x true HX.out HO.out _).mono ?_; rintro e w1 ⟨rfl, hb1⟩; have hB1 : Below w.heap.size w w1 := below_step (by repeat (first | exact Below.refl _ _ | assumption | refine below_drewN ?_ _ | refine Below.drew ?_ | refine Below.alloc ?_ (by first | exact Nat.le_refl _ | (simp; omega) | omega | simp) _ | refine Below.setCell ?_ (by first | exact Nat.le_refl _ | (simp; omega) | simp | omega) _)) hb1; obtain ⟨hc1, hf1, hz1⟩ := bcell hb1; (try simp only [sz_alloc, sz_set, sz_drew, sz_drewN] at hc1 hf1 hz1); clear hb1; have hE1 := hE.of_below hB1) | (go_at_call 71; refine (box_show_c x HF.out t HT.out _ hE1).mono ?_; rintro e w2 ⟨rfl, hb2⟩))
  go_ret2
  exact ⟨rfl, below_step hB1 hb2⟩
set_option maxRecDepth 100000 in
theorem box_Show_bad (v : V) (h : okV v = false) (w : World) : Calls Tryd.prog 29 #[vv v] w fun e w' => e = .returned (.tuple #[.string ⟨#[]⟩, .int .i64 2]) ∧ Below w.heap.size w w' := by
  have hu := Tryd.underlying33
  have HO := Lib.hid h
  clear h
  unfold vv
  go_enter Tryd.func29, Tryd.ntmps29
  go_wp2_with (first | (go_at_call 70; refine (box_box_c v _ false rfl HO.out _).mono ?_; rintro e w1 ⟨rfl, hb1⟩; have hB1 : Below w.heap.size w w1 := below_step (by repeat (first | exact Below.refl _ _ | assumption | refine below_drewN ?_ _ | refine Below.drew ?_ | refine Below.alloc ?_ (by first | exact Nat.le_refl _ | (simp; omega) | omega | simp) _ | refine Below.setCell ?_ (by first | exact Nat.le_refl _ | (simp; omega) | simp | omega) _)) hb1; obtain ⟨hc1, hf1, hz1⟩ := bcell hb1; (try simp only [sz_alloc, sz_set, sz_drew, sz_drewN] at hc1 hf1 hz1); clear hb1))
  go_ret2
  exact ⟨rfl, hB1⟩
set_option maxRecDepth 100000 in
theorem box_text_nil (w : World) : Calls Tryd.prog 68 #[.nilIface] w fun e w' => e = .returned (.tuple #[.string ⟨#[]⟩, .bool false]) ∧ w = w' := by
  have qi := ta_nil_i
  have qs := ta_nil_s
  go_enter Tryd.func68, Tryd.ntmps68
  go_wp2
  go_ret2
  exact ⟨rfl, rfl⟩
set_option maxRecDepth 100000 in
theorem box_text_b (x : Bool) (w : World) : Calls Tryd.prog 68 #[.iface 4 (.bool x)] w fun e w' => e = .returned (.tuple #[.string ⟨#[]⟩, .bool false]) ∧ w = w' := by
  have qi := ta_b_i x
  have qs := ta_b_s x
  go_enter Tryd.func68, Tryd.ntmps68
  go_wp2
  go_ret2
  exact ⟨rfl, rfl⟩
set_option maxRecDepth 100000 in
theorem box_text_i (n : Int) (hn : In64 n) (u : ByteArray) (hu : Bx.show (.i n) = u) (w : World) (hE : Env w) : Calls Tryd.prog 68 #[.iface 3 (.int .i64 n)] w fun e w' => e = .returned (.tuple #[.string u, .bool true]) ∧ Below w.heap.size w w' := by
  have qi := ta_i_i n
  have qs := ta_i_s n
  have HU := Lib.hid hu
  clear hu
  go_enter Tryd.func68, Tryd.ntmps68
  go_wp2_with (first | (go_at_call 71; refine (box_show_c (.i n) hn u HU.out _ hE).mono ?_; rintro e w2 ⟨rfl, hb2⟩))
  go_ret2
  exact ⟨rfl, hb2⟩
set_option maxRecDepth 100000 in
theorem box_text_s (t : ByteArray) (u : ByteArray) (hu : Bx.show (.s t) = u) (w : World) (hE : Env w) : Calls Tryd.prog 68 #[.iface 9 (.string t)] w fun e w' => e = .returned (.tuple #[.string u, .bool true]) ∧ Below w.heap.size w w' := by
  have qi := ta_s_i t
  have qs := ta_s_s t
  have HU := Lib.hid hu
  clear hu
  go_enter Tryd.func68, Tryd.ntmps68
  go_wp2_with (first | (go_at_call 71; refine (box_show_c (.s t) trivial u HU.out _ hE).mono ?_; rintro e w2 ⟨rfl, hb2⟩))
  go_ret2
  exact ⟨rfl, hb2⟩
set_option maxRecDepth 100000 in
theorem box_text_t (n : Int) (w : World) : Calls Tryd.prog 68 #[.iface 85 (.int .i64 n)] w fun e w' => e = .returned (.tuple #[.string ⟨#[]⟩, .bool false]) ∧ w = w' := by
  have qi := ta_t_i n
  have qs := ta_t_s n
  go_enter Tryd.func68, Tryd.ntmps68
  go_wp2
  go_ret2
  exact ⟨rfl, rfl⟩
set_option maxRecDepth 100000 in
theorem box_text_f (n : Int) (w : World) : Calls Tryd.prog 68 #[.iface 86 (.int .i64 n)] w fun e w' => e = .returned (.tuple #[.string ⟨#[]⟩, .bool false]) ∧ w = w' := by
  have qi := ta_f_i n
  have qs := ta_f_s n
  go_enter Tryd.func68, Tryd.ntmps68
  go_wp2
  go_ret2
  exact ⟨rfl, rfl⟩
set_option maxRecDepth 100000 in
theorem box_text_l (n : Int) (w : World) : Calls Tryd.prog 68 #[.iface 87 (.int .i64 n)] w fun e w' => e = .returned (.tuple #[.string ⟨#[]⟩, .bool false]) ∧ w = w' := by
  have qi := ta_l_i n
  have qs := ta_l_s n
  go_enter Tryd.func68, Tryd.ntmps68
  go_wp2
  go_ret2
  exact ⟨rfl, rfl⟩
def Bx.isText : Bx → Bool
  | .i _ => true | .s _ => true | _ => false
def Bx.text (x : Bx) : ByteArray := if x.isText = true then x.show else ⟨#[]⟩
theorem box_text (x : Bx) (hx : x.fine) (u : ByteArray) (b : Bool) (hu : x.text = u) (hb : x.isText = b) (w : World) (hE : Env w) : Calls Tryd.prog 68 #[bxv x] w fun e w' => e = .returned (.tuple #[.string u, .bool b]) ∧ Below w.heap.size w w' := by
  subst hu hb
  cases x with
  | i y => exact box_text_i y hx _ rfl w hE
  | s y => exact box_text_s y _ rfl w hE
  | nil => exact (box_text_nil w).mono fun e w' ⟨h1, h2⟩ => ⟨h1, h2 ▸ Below.refl _ _⟩
  | b y => exact (box_text_b y w).mono fun e w' ⟨h1, h2⟩ => ⟨h1, h2 ▸ Below.refl _ _⟩
  | t y => exact (box_text_t y w).mono fun e w' ⟨h1, h2⟩ => ⟨h1, h2 ▸ Below.refl _ _⟩
  | f y => exact (box_text_f y w).mono fun e w' ⟨h1, h2⟩ => ⟨h1, h2 ▸ Below.refl _ _⟩
  | l y => exact (box_text_l y w).mono fun e w' ⟨h1, h2⟩ => ⟨h1, h2 ▸ Below.refl _ _⟩
end Go.Proofs.YtpppcoobibmlhaaDoor
/- Contracts of the package box: order, joining. -/
namespace Go.Proofs.YtpppcoobibmlhaaDoor
open Go.RowKit
set_option linter.unusedVariables false
set_option linter.unusedSimpArgs false

def orderN : Bx → Bx → Int
  | .i m, .i n => if m < n then -1 else if n < m then 1 else 0
  | .s a, .s b => Lib.compareBytes a.data.toList b.data.toList
  | _, _ => 0
def orderE : Bx → Bx → Int
  | .i _, .i _ => 0
  | .s _, .s _ => 0
  | _, _ => 8
theorem strings_Compare (a b : ByteArray) (w : World) : Calls Tryd.prog 76 #[.string a, .string b] w fun e w' => e = .returned (.int .i64 (Lib.compareBytes a.data.toList b.data.toList)) ∧ w = w' := by
  refine (Tryd.strings_Compare a b w).mono ?_
  rintro e w' ⟨rfl, rfl⟩
  exact ⟨rfl, rfl⟩
theorem box_two_v (a b : V) (x y : Bx) (u v : Value) (hx : toBx a = x) (hy : toBx b = y) (hu : bxv x = u) (hv : bxv y = v) (ha : okV a = true) (hb : okV b = true) (w : World) :
    Calls Tryd.prog 67 #[vv a, vv b] w fun e w' => e = .returned (.tuple #[u, v, .int .i64 0]) ∧ Below w.heap.size w w' := by
  rw [← hu, ← hv]; exact box_two_ok a b x hx ha y hy hb w
set_option maxRecDepth 100000 in
theorem box_Order_i_nil (a b : V) (n0 : Int) (ha : okV a = true) (hb : okV b = true) (hx : toBx a = .i n0) (hy : toBx b = .nil) (w : World) :
    Calls Tryd.prog 51 #[vv a, vv b] w fun e w' => e = .returned (.tuple #[.int .i64 (orderN (.i n0) (.nil)), .int .i64 (orderE (.i n0) (.nil))]) ∧ Below w.heap.size w w' := by
  have hu := Tryd.underlying33
  have qi := ta_i_i n0
  have qs := ta_i_s n0
  have pi := ta_nil_i 
  have ps := ta_nil_s 
  have HT := Lib.hid (fun w => box_two_v a b (.i n0) (.nil) (.iface 3 (.int .i64 n0)) (.nilIface) hx hy rfl rfl ha hb w)
  clear hx hy ha hb
  unfold vv
  go_enter Tryd.func51, Tryd.ntmps51
  go_wp2_with (first | (go_at_call 67; refine (HT.out _).mono ?_; rintro e w1 ⟨rfl, hb1⟩; have hB1 : Below w.heap.size w w1 := below_step (by repeat (first | exact Below.refl _ _ | assumption | refine below_drewN ?_ _ | refine Below.drew ?_ | refine Below.alloc ?_ (by first | exact Nat.le_refl _ | (simp; omega) | omega | simp) _ | refine Below.setCell ?_ (by first | exact Nat.le_refl _ | (simp; omega) | simp | omega) _)) hb1; obtain ⟨hc1, hf1, hz1⟩ := bcell hb1; (try simp only [sz_alloc, sz_set, sz_drew, sz_drewN] at hc1 hf1 hz1); clear hb1) | (go_at_call 76; refine (strings_Compare _ _ _).mono ?_; rintro e w' ⟨rfl, rfl⟩))
  go_ret2
  exact ⟨ret_ints rfl rfl, (by repeat (first | exact Below.refl _ _ | assumption | refine below_drewN ?_ _ | refine Below.drew ?_ | refine Below.alloc ?_ (by first | exact Nat.le_refl _ | (simp; omega) | omega | simp) _ | refine Below.setCell ?_ (by first | exact Nat.le_refl _ | (simp; omega) | simp | omega) _))⟩
set_option maxRecDepth 100000 in
theorem box_Order_i_b (a b : V) (n0 : Int) (x1 : Bool) (ha : okV a = true) (hb : okV b = true) (hx : toBx a = .i n0) (hy : toBx b = .b x1) (w : World) :
    Calls Tryd.prog 51 #[vv a, vv b] w fun e w' => e = .returned (.tuple #[.int .i64 (orderN (.i n0) (.b x1)), .int .i64 (orderE (.i n0) (.b x1))]) ∧ Below w.heap.size w w' := by
  have hu := Tryd.underlying33
  have qi := ta_i_i n0
  have qs := ta_i_s n0
  have pi := ta_b_i x1
  have ps := ta_b_s x1
  have HT := Lib.hid (fun w => box_two_v a b (.i n0) (.b x1) (.iface 3 (.int .i64 n0)) (.iface 4 (.bool x1)) hx hy rfl rfl ha hb w)
  clear hx hy ha hb
  unfold vv
  go_enter Tryd.func51, Tryd.ntmps51
  go_wp2_with (first | (go_at_call 67; refine (HT.out _).mono ?_; rintro e w1 ⟨rfl, hb1⟩; have hB1 : Below w.heap.size w w1 := below_step (by repeat (first | exact Below.refl _ _ | assumption | refine below_drewN ?_ _ | refine Below.drew ?_ | refine Below.alloc ?_ (by first | exact Nat.le_refl _ | (simp; omega) | omega | simp) _ | refine Below.setCell ?_ (by first | exact Nat.le_refl _ | (simp; omega) | simp | omega) _)) hb1; obtain ⟨hc1, hf1, hz1⟩ := bcell hb1; (try simp only [sz_alloc, sz_set, sz_drew, sz_drewN] at hc1 hf1 hz1); clear hb1) | (go_at_call 76; refine (strings_Compare _ _ _).mono ?_; rintro e w' ⟨rfl, rfl⟩))
  go_ret2
  exact ⟨ret_ints rfl rfl, (by repeat (first | exact Below.refl _ _ | assumption | refine below_drewN ?_ _ | refine Below.drew ?_ | refine Below.alloc ?_ (by first | exact Nat.le_refl _ | (simp; omega) | omega | simp) _ | refine Below.setCell ?_ (by first | exact Nat.le_refl _ | (simp; omega) | simp | omega) _))⟩
set_option maxRecDepth 100000 in
theorem box_Order_i_i (a b : V) (n0 : Int) (n1 : Int) (ha : okV a = true) (hb : okV b = true) (hx : toBx a = .i n0) (hy : toBx b = .i n1) (w : World) :
    Calls Tryd.prog 51 #[vv a, vv b] w fun e w' => e = .returned (.tuple #[.int .i64 (orderN (.i n0) (.i n1)), .int .i64 (orderE (.i n0) (.i n1))]) ∧ Below w.heap.size w w' := by
  have hu := Tryd.underlying33
  have qi := ta_i_i n0
  have qs := ta_i_s n0
  have pi := ta_i_i n1
  have ps := ta_i_s n1
  have HT := Lib.hid (fun w => box_two_v a b (.i n0) (.i n1) (.iface 3 (.int .i64 n0)) (.iface 3 (.int .i64 n1)) hx hy rfl rfl ha hb w)
  clear hx hy ha hb
  rcases Int.lt_trichotomy n0 n1 with h | h | h
  · have d1 : decide (n0 < n1) = true := by simpa using h
    unfold vv
    go_enter Tryd.func51, Tryd.ntmps51
    go_wp2_with (first | (go_at_call 67; refine (HT.out _).mono ?_; rintro e w1 ⟨rfl, hb1⟩; have hB1 : Below w.heap.size w w1 := below_step (by repeat (first | exact Below.refl _ _ | assumption | refine below_drewN ?_ _ | refine Below.drew ?_ | refine Below.alloc ?_ (by first | exact Nat.le_refl _ | (simp; omega) | omega | simp) _ | refine Below.setCell ?_ (by first | exact Nat.le_refl _ | (simp; omega) | simp | omega) _)) hb1; obtain ⟨hc1, hf1, hz1⟩ := bcell hb1; (try simp only [sz_alloc, sz_set, sz_drew, sz_drewN] at hc1 hf1 hz1); clear hb1) | (go_at_call 76; refine (strings_Compare _ _ _).mono ?_; rintro e w' ⟨rfl, rfl⟩))
    go_ret2
    exact ⟨ret_ints (by simp [orderN, h]) rfl, (by repeat (first | exact Below.refl _ _ | assumption | refine below_drewN ?_ _ | refine Below.drew ?_ | refine Below.alloc ?_ (by first | exact Nat.le_refl _ | (simp; omega) | omega | simp) _ | refine Below.setCell ?_ (by first | exact Nat.le_refl _ | (simp; omega) | simp | omega) _))⟩
  · have d1 : decide (n0 < n1) = false := by simp; omega
    have d2 : decide (n1 < n0) = false := by simp; omega
    clear h
    unfold vv
    go_enter Tryd.func51, Tryd.ntmps51
    go_wp2_with (first | (go_at_call 67; refine (HT.out _).mono ?_; rintro e w1 ⟨rfl, hb1⟩; have hB1 : Below w.heap.size w w1 := below_step (by repeat (first | exact Below.refl _ _ | assumption | refine below_drewN ?_ _ | refine Below.drew ?_ | refine Below.alloc ?_ (by first | exact Nat.le_refl _ | (simp; omega) | omega | simp) _ | refine Below.setCell ?_ (by first | exact Nat.le_refl _ | (simp; omega) | simp | omega) _)) hb1; obtain ⟨hc1, hf1, hz1⟩ := bcell hb1; (try simp only [sz_alloc, sz_set, sz_drew, sz_drewN] at hc1 hf1 hz1); clear hb1) | (go_at_call 76; refine (strings_Compare _ _ _).mono ?_; rintro e w' ⟨rfl, rfl⟩))
    go_ret2
    exact ⟨ret_ints (by simp only [orderN]; rw [if_neg (by simpa using d1), if_neg (by simpa using d2)]) rfl, (by repeat (first | exact Below.refl _ _ | assumption | refine below_drewN ?_ _ | refine Below.drew ?_ | refine Below.alloc ?_ (by first | exact Nat.le_refl _ | (simp; omega) | omega | simp) _ | refine Below.setCell ?_ (by first | exact Nat.le_refl _ | (simp; omega) | simp | omega) _))⟩
  · have d1 : decide (n0 < n1) = false := by simp; omega
    have d2 : decide (n1 < n0) = true := by simpa using h
    unfold vv
    go_enter Tryd.func51, Tryd.ntmps51
    go_wp2_with (first | (go_at_call 67; refine (HT.out _).mono ?_; rintro e w1 ⟨rfl, hb1⟩; have hB1 : Below w.heap.size w w1 := below_step (by repeat (first | exact Below.refl _ _ | assumption | refine below_drewN ?_ _ | refine Below.drew ?_ | refine Below.alloc ?_ (by first | exact Nat.le_refl _ | (simp; omega) | omega | simp) _ | refine Below.setCell ?_ (by first | exact Nat.le_refl _ | (simp; omega) | simp | omega) _)) hb1; obtain ⟨hc1, hf1, hz1⟩ := bcell hb1; (try simp only [sz_alloc, sz_set, sz_drew, sz_drewN] at hc1 hf1 hz1); clear hb1) | (go_at_call 76; refine (strings_Compare _ _ _).mono ?_; rintro e w' ⟨rfl, rfl⟩))
    go_ret2
    exact ⟨ret_ints (by simp only [orderN]; rw [if_neg (by omega), if_pos h]) rfl, (by repeat (first | exact Below.refl _ _ | assumption | refine below_drewN ?_ _ | refine Below.drew ?_ | refine Below.alloc ?_ (by first | exact Nat.le_refl _ | (simp; omega) | omega | simp) _ | refine Below.setCell ?_ (by first | exact Nat.le_refl _ | (simp; omega) | simp | omega) _))⟩
set_option maxRecDepth 100000 in
theorem box_Order_i_s (a b : V) (n0 : Int) (t1 : ByteArray) (ha : okV a = true) (hb : okV b = true) (hx : toBx a = .i n0) (hy : toBx b = .s t1) (w : World) :
    Calls Tryd.prog 51 #[vv a, vv b] w fun e w' => e = .returned (.tuple #[.int .i64 (orderN (.i n0) (.s t1)), .int .i64 (orderE (.i n0) (.s t1))]) ∧ Below w.heap.size w w' := by
  have hu := Tryd.underlying33
  have qi := ta_i_i n0
  have qs := ta_i_s n0
  have pi := ta_s_i t1
  have ps := ta_s_s t1
  have HT := Lib.hid (fun w => box_two_v a b (.i n0) (.s t1) (.iface 3 (.int .i64 n0)) (.iface 9 (.string t1)) hx hy rfl rfl ha hb w)
  clear hx hy ha hb
  unfold vv
  go_enter Tryd.func51, Tryd.ntmps51
  go_wp2_with (first | (go_at_call 67; refine (HT.out _).mono ?_; rintro e w1 ⟨rfl, hb1⟩; have hB1 : Below w.heap.size w w1 := below_step (by repeat (first | exact Below.refl _ _ | assumption | refine below_drewN ?_ _ | refine Below.drew ?_ | refine Below.alloc ?_ (by first | exact Nat.le_refl _ | (simp; omega) | omega | simp) _ | refine Below.setCell ?_ (by first | exact Nat.le_refl _ | (simp; omega) | simp | omega) _)) hb1; obtain ⟨hc1, hf1, hz1⟩ := bcell hb1; (try simp only [sz_alloc, sz_set, sz_drew, sz_drewN] at hc1 hf1 hz1); clear hb1) | (go_at_call 76; refine (strings_Compare _ _ _).mono ?_; rintro e w' ⟨rfl, rfl⟩))
  go_ret2
  exact ⟨ret_ints rfl rfl, (by repeat (first | exact Below.refl _ _ | assumption | refine below_drewN ?_ _ | refine Below.drew ?_ | refine Below.alloc ?_ (by first | exact Nat.le_refl _ | (simp; omega) | omega | simp) _ | refine Below.setCell ?_ (by first | exact Nat.le_refl _ | (simp; omega) | simp | omega) _))⟩
set_option maxRecDepth 100000 in
theorem box_Order_i_t (a b : V) (n0 : Int) (n1 : Int) (ha : okV a = true) (hb : okV b = true) (hx : toBx a = .i n0) (hy : toBx b = .t n1) (w : World) :
    Calls Tryd.prog 51 #[vv a, vv b] w fun e w' => e = .returned (.tuple #[.int .i64 (orderN (.i n0) (.t n1)), .int .i64 (orderE (.i n0) (.t n1))]) ∧ Below w.heap.size w w' := by
  have hu := Tryd.underlying33
  have qi := ta_i_i n0
  have qs := ta_i_s n0
  have pi := ta_t_i n1
  have ps := ta_t_s n1
  have HT := Lib.hid (fun w => box_two_v a b (.i n0) (.t n1) (.iface 3 (.int .i64 n0)) (.iface 85 (.int .i64 n1)) hx hy rfl rfl ha hb w)
  clear hx hy ha hb
  unfold vv
  go_enter Tryd.func51, Tryd.ntmps51
  go_wp2_with (first | (go_at_call 67; refine (HT.out _).mono ?_; rintro e w1 ⟨rfl, hb1⟩; have hB1 : Below w.heap.size w w1 := below_step (by repeat (first | exact Below.refl _ _ | assumption | refine below_drewN ?_ _ | refine Below.drew ?_ | refine Below.alloc ?_ (by first | exact Nat.le_refl _ | (simp; omega) | omega | simp) _ | refine Below.setCell ?_ (by first | exact Nat.le_refl _ | (simp; omega) | simp | omega) _)) hb1; obtain ⟨hc1, hf1, hz1⟩ := bcell hb1; (try simp only [sz_alloc, sz_set, sz_drew, sz_drewN] at hc1 hf1 hz1); clear hb1) | (go_at_call 76; refine (strings_Compare _ _ _).mono ?_; rintro e w' ⟨rfl, rfl⟩))
  go_ret2
  exact ⟨ret_ints rfl rfl, (by repeat (first | exact Below.refl _ _ | assumption | refine below_drewN ?_ _ | refine Below.drew ?_ | refine Below.alloc ?_ (by first | exact Nat.le_refl _ | (simp; omega) | omega | simp) _ | refine Below.setCell ?_ (by first | exact Nat.le_refl _ | (simp; omega) | simp | omega) _))⟩
set_option maxRecDepth 100000 in
theorem box_Order_i_f (a b : V) (n0 : Int) (n1 : Int) (ha : okV a = true) (hb : okV b = true) (hx : toBx a = .i n0) (hy : toBx b = .f n1) (w : World) :
    Calls Tryd.prog 51 #[vv a, vv b] w fun e w' => e = .returned (.tuple #[.int .i64 (orderN (.i n0) (.f n1)), .int .i64 (orderE (.i n0) (.f n1))]) ∧ Below w.heap.size w w' := by
  have hu := Tryd.underlying33
  have qi := ta_i_i n0
  have qs := ta_i_s n0
  have pi := ta_f_i n1
  have ps := ta_f_s n1
  have HT := Lib.hid (fun w => box_two_v a b (.i n0) (.f n1) (.iface 3 (.int .i64 n0)) (.iface 86 (.int .i64 n1)) hx hy rfl rfl ha hb w)
  clear hx hy ha hb
  unfold vv
  go_enter Tryd.func51, Tryd.ntmps51
  go_wp2_with (first | (go_at_call 67; refine (HT.out _).mono ?_; rintro e w1 ⟨rfl, hb1⟩; have hB1 : Below w.heap.size w w1 := below_step (by repeat (first | exact Below.refl _ _ | assumption | refine below_drewN ?_ _ | refine Below.drew ?_ | refine Below.alloc ?_ (by first | exact Nat.le_refl _ | (simp; omega) | omega | simp) _ | refine Below.setCell ?_ (by first | exact Nat.le_refl _ | (simp; omega) | simp | omega) _)) hb1; obtain ⟨hc1, hf1, hz1⟩ := bcell hb1; (try simp only [sz_alloc, sz_set, sz_drew, sz_drewN] at hc1 hf1 hz1); clear hb1) | (go_at_call 76; refine (strings_Compare _ _ _).mono ?_; rintro e w' ⟨rfl, rfl⟩))
  go_ret2
  exact ⟨ret_ints rfl rfl, (by repeat (first | exact Below.refl _ _ | assumption | refine below_drewN ?_ _ | refine Below.drew ?_ | refine Below.alloc ?_ (by first | exact Nat.le_refl _ | (simp; omega) | omega | simp) _ | refine Below.setCell ?_ (by first | exact Nat.le_refl _ | (simp; omega) | simp | omega) _))⟩
set_option maxRecDepth 100000 in
theorem box_Order_i_l (a b : V) (n0 : Int) (n1 : Int) (ha : okV a = true) (hb : okV b = true) (hx : toBx a = .i n0) (hy : toBx b = .l n1) (w : World) :
    Calls Tryd.prog 51 #[vv a, vv b] w fun e w' => e = .returned (.tuple #[.int .i64 (orderN (.i n0) (.l n1)), .int .i64 (orderE (.i n0) (.l n1))]) ∧ Below w.heap.size w w' := by
  have hu := Tryd.underlying33
  have qi := ta_i_i n0
  have qs := ta_i_s n0
  have pi := ta_l_i n1
  have ps := ta_l_s n1
  have HT := Lib.hid (fun w => box_two_v a b (.i n0) (.l n1) (.iface 3 (.int .i64 n0)) (.iface 87 (.int .i64 n1)) hx hy rfl rfl ha hb w)
  clear hx hy ha hb
  unfold vv
  go_enter Tryd.func51, Tryd.ntmps51
  go_wp2_with (first | (go_at_call 67; refine (HT.out _).mono ?_; rintro e w1 ⟨rfl, hb1⟩; have hB1 : Below w.heap.size w w1 := below_step (by repeat (first | exact Below.refl _ _ | assumption | refine below_drewN ?_ _ | refine Below.drew ?_ | refine Below.alloc ?_ (by first | exact Nat.le_refl _ | (simp; omega) | omega | simp) _ | refine Below.setCell ?_ (by first | exact Nat.le_refl _ | (simp; omega) | simp | omega) _)) hb1; obtain ⟨hc1, hf1, hz1⟩ := bcell hb1; (try simp only [sz_alloc, sz_set, sz_drew, sz_drewN] at hc1 hf1 hz1); clear hb1) | (go_at_call 76; refine (strings_Compare _ _ _).mono ?_; rintro e w' ⟨rfl, rfl⟩))
  go_ret2
  exact ⟨ret_ints rfl rfl, (by repeat (first | exact Below.refl _ _ | assumption | refine below_drewN ?_ _ | refine Below.drew ?_ | refine Below.alloc ?_ (by first | exact Nat.le_refl _ | (simp; omega) | omega | simp) _ | refine Below.setCell ?_ (by first | exact Nat.le_refl _ | (simp; omega) | simp | omega) _))⟩
set_option maxRecDepth 100000 in
theorem box_Order_s_nil (a b : V) (t0 : ByteArray) (ha : okV a = true) (hb : okV b = true) (hx : toBx a = .s t0) (hy : toBx b = .nil) (w : World) :
    Calls Tryd.prog 51 #[vv a, vv b] w fun e w' => e = .returned (.tuple #[.int .i64 (orderN (.s t0) (.nil)), .int .i64 (orderE (.s t0) (.nil))]) ∧ Below w.heap.size w w' := by
  have hu := Tryd.underlying33
  have qi := ta_s_i t0
  have qs := ta_s_s t0
  have pi := ta_nil_i 
  have ps := ta_nil_s 
  have HT := Lib.hid (fun w => box_two_v a b (.s t0) (.nil) (.iface 9 (.string t0)) (.nilIface) hx hy rfl rfl ha hb w)
  clear hx hy ha hb
  unfold vv
  go_enter Tryd.func51, Tryd.ntmps51
  go_wp2_with (first | (go_at_call 67; refine (HT.out _).mono ?_; rintro e w1 ⟨rfl, hb1⟩; have hB1 : Below w.heap.size w w1 := below_step (by repeat (first | exact Below.refl _ _ | assumption | refine below_drewN ?_ _ | refine Below.drew ?_ | refine Below.alloc ?_ (by first | exact Nat.le_refl _ | (simp; omega) | omega | simp) _ | refine Below.setCell ?_ (by first | exact Nat.le_refl _ | (simp; omega) | simp | omega) _)) hb1; obtain ⟨hc1, hf1, hz1⟩ := bcell hb1; (try simp only [sz_alloc, sz_set, sz_drew, sz_drewN] at hc1 hf1 hz1); clear hb1) | (go_at_call 76; refine (strings_Compare _ _ _).mono ?_; rintro e w' ⟨rfl, rfl⟩))
  go_ret2
  exact ⟨ret_ints rfl rfl, (by repeat (first | exact Below.refl _ _ | assumption | refine below_drewN ?_ _ | refine Below.drew ?_ | refine Below.alloc ?_ (by first | exact Nat.le_refl _ | (simp; omega) | omega | simp) _ | refine Below.setCell ?_ (by first | exact Nat.le_refl _ | (simp; omega) | simp | omega) _))⟩
set_option maxRecDepth 100000 in
theorem box_Order_s_b (a b : V) (t0 : ByteArray) (x1 : Bool) (ha : okV a = true) (hb : okV b = true) (hx : toBx a = .s t0) (hy : toBx b = .b x1) (w : World) :
    Calls Tryd.prog 51 #[vv a, vv b] w fun e w' => e = .returned (.tuple #[.int .i64 (orderN (.s t0) (.b x1)), .int .i64 (orderE (.s t0) (.b x1))]) ∧ Below w.heap.size w w' := by
  have hu := Tryd.underlying33
  have qi := ta_s_i t0
  have qs := ta_s_s t0
  have pi := ta_b_i x1
  have ps := ta_b_s x1
  have HT := Lib.hid (fun w => box_two_v a b (.s t0) (.b x1) (.iface 9 (.string t0)) (.iface 4 (.bool x1)) hx hy rfl rfl ha hb w)
  clear hx hy ha hb
  unfold vv
  go_enter Tryd.func51, Tryd.ntmps51
  go_wp2_with (first | (go_at_call 67; refine (HT.out _).mono ?_; rintro e w1 ⟨rfl, hb1⟩; have hB1 : Below w.heap.size w w1 := below_step (by repeat (first | exact Below.refl _ _ | assumption | refine below_drewN ?_ _ | refine Below.drew ?_ | refine Below.alloc ?_ (by first | exact Nat.le_refl _ | (simp; omega) | omega | simp) _ | refine Below.setCell ?_ (by first | exact Nat.le_refl _ | (simp; omega) | simp | omega) _)) hb1; obtain ⟨hc1, hf1, hz1⟩ := bcell hb1; (try simp only [sz_alloc, sz_set, sz_drew, sz_drewN] at hc1 hf1 hz1); clear hb1) | (go_at_call 76; refine (strings_Compare _ _ _).mono ?_; rintro e w' ⟨rfl, rfl⟩))
  go_ret2
  exact ⟨ret_ints rfl rfl, (by repeat (first | exact Below.refl _ _ | assumption | refine below_drewN ?_ _ | refine Below.drew ?_ | refine Below.alloc ?_ (by first | exact Nat.le_refl _ | (simp; omega) | omega | simp) _ | refine Below.setCell ?_ (by first | exact Nat.le_refl _ | (simp; omega) | simp | omega) _))⟩
set_option maxRecDepth 100000 in
theorem box_Order_s_i (a b : V) (t0 : ByteArray) (n1 : Int) (ha : okV a = true) (hb : okV b = true) (hx : toBx a = .s t0) (hy : toBx b = .i n1) (w : World) :
    Calls Tryd.prog 51 #[vv a, vv b] w fun e w' => e = .returned (.tuple #[.int .i64 (orderN (.s t0) (.i n1)), .int .i64 (orderE (.s t0) (.i n1))]) ∧ Below w.heap.size w w' := by
  have hu := Tryd.underlying33
  have qi := ta_s_i t0
  have qs := ta_s_s t0
  have pi := ta_i_i n1
  have ps := ta_i_s n1
  have HT := Lib.hid (fun w => box_two_v a b (.s t0) (.i n1) (.iface 9 (.string t0)) (.iface 3 (.int .i64 n1)) hx hy rfl rfl ha hb w)
  clear hx hy ha hb
  unfold vv
  go_enter Tryd.func51, Tryd.ntmps51
  go_wp2_with (first | (go_at_call 67; refine (HT.out _).mono ?_; rintro e w1 ⟨rfl, hb1⟩; have hB1 : Below w.heap.size w w1 := below_step (by repeat (first | exact Below.refl _ _ | assumption | refine below_drewN ?_ _ | refine Below.drew ?_ | refine Below.alloc ?_ (by first | exact Nat.le_refl _ | (simp; omega) | omega | simp) _ | refine Below.setCell ?_ (by first | exact Nat.le_refl _ | (simp; omega) | simp | omega) _)) hb1; obtain ⟨hc1, hf1, hz1⟩ := bcell hb1; (try simp only [sz_alloc, sz_set, sz_drew, sz_drewN] at hc1 hf1 hz1); clear hb1) | (go_at_call 76; refine (strings_Compare _ _ _).mono ?_; rintro e w' ⟨rfl, rfl⟩))
  go_ret2
  exact ⟨ret_ints rfl rfl, (by repeat (first | exact Below.refl _ _ | assumption | refine below_drewN ?_ _ | refine Below.drew ?_ | refine Below.alloc ?_ (by first | exact Nat.le_refl _ | (simp; omega) | omega | simp) _ | refine Below.setCell ?_ (by first | exact Nat.le_refl _ | (simp; omega) | simp | omega) _))⟩
set_option maxRecDepth 100000 in
theorem box_Order_s_s (a b : V) (t0 : ByteArray) (t1 : ByteArray) (ha : okV a = true) (hb : okV b = true) (hx : toBx a = .s t0) (hy : toBx b = .s t1) (w : World) :
    Calls Tryd.prog 51 #[vv a, vv b] w fun e w' => e = .returned (.tuple #[.int .i64 (orderN (.s t0) (.s t1)), .int .i64 (orderE (.s t0) (.s t1))]) ∧ Below w.heap.size w w' := by
  have hu := Tryd.underlying33
  have qi := ta_s_i t0
  have qs := ta_s_s t0
  have pi := ta_s_i t1
  have ps := ta_s_s t1
  have HT := Lib.hid (fun w => box_two_v a b (.s t0) (.s t1) (.iface 9 (.string t0)) (.iface 9 (.string t1)) hx hy rfl rfl ha hb w)
  clear hx hy ha hb
  unfold vv
  go_enter Tryd.func51, Tryd.ntmps51
  go_wp2_with (first | (go_at_call 67; refine (HT.out _).mono ?_; rintro e w1 ⟨rfl, hb1⟩; have hB1 : Below w.heap.size w w1 := below_step (by repeat (first | exact Below.refl _ _ | assumption | refine below_drewN ?_ _ | refine Below.drew ?_ | refine Below.alloc ?_ (by first | exact Nat.le_refl _ | (simp; omega) | omega | simp) _ | refine Below.setCell ?_ (by first | exact Nat.le_refl _ | (simp; omega) | simp | omega) _)) hb1; obtain ⟨hc1, hf1, hz1⟩ := bcell hb1; (try simp only [sz_alloc, sz_set, sz_drew, sz_drewN] at hc1 hf1 hz1); clear hb1) | (go_at_call 76; refine (strings_Compare _ _ _).mono ?_; rintro e w' ⟨rfl, rfl⟩))
  go_ret2
  exact ⟨ret_ints rfl rfl, (by repeat (first | exact Below.refl _ _ | assumption | refine below_drewN ?_ _ | refine Below.drew ?_ | refine Below.alloc ?_ (by first | exact Nat.le_refl _ | (simp; omega) | omega | simp) _ | refine Below.setCell ?_ (by first | exact Nat.le_refl _ | (simp; omega) | simp | omega) _))⟩
set_option maxRecDepth 100000 in
theorem box_Order_s_t (a b : V) (t0 : ByteArray) (n1 : Int) (ha : okV a = true) (hb : okV b = true) (hx : toBx a = .s t0) (hy : toBx b = .t n1) (w : World) :
    Calls Tryd.prog 51 #[vv a, vv b] w fun e w' => e = .returned (.tuple #[.int .i64 (orderN (.s t0) (.t n1)), .int .i64 (orderE (.s t0) (.t n1))]) ∧ Below w.heap.size w w' := by
  have hu := Tryd.underlying33
  have qi := ta_s_i t0
  have qs := ta_s_s t0
  have pi := ta_t_i n1
  have ps := ta_t_s n1
  have HT := Lib.hid (fun w => box_two_v a b (.s t0) (.t n1) (.iface 9 (.string t0)) (.iface 85 (.int .i64 n1)) hx hy rfl rfl ha hb w)
  clear hx hy ha hb
  unfold vv
  go_enter Tryd.func51, Tryd.ntmps51
  go_wp2_with (first | (go_at_call 67; refine (HT.out _).mono ?_; rintro e w1 ⟨rfl, hb1⟩; have hB1 : Below w.heap.size w w1 := below_step (by repeat (first | exact Below.refl _ _ | assumption | refine below_drewN ?_ _ | refine Below.drew ?_ | refine Below.alloc ?_ (by first | exact Nat.le_refl _ | (simp; omega) | omega | simp) _ | refine Below.setCell ?_ (by first | exact Nat.le_refl _ | (simp; omega) | simp | omega) _)) hb1; obtain ⟨hc1, hf1, hz1⟩ := bcell hb1; (try simp only [sz_alloc, sz_set, sz_drew, sz_drewN] at hc1 hf1 hz1); clear hb1) | (go_at_call 76; refine (strings_Compare _ _ _).mono ?_; rintro e w' ⟨rfl, rfl⟩))
  go_ret2
  exact ⟨ret_ints rfl rfl, (by repeat (first | exact Below.refl _ _ | assumption | refine below_drewN ?_ _ | refine Below.drew ?_ | refine Below.alloc ?_ (by first | exact Nat.le_refl _ | (simp; omega) | omega | simp) _ | refine Below.setCell ?_ (by first | exact Nat.le_refl _ | (simp; omega) | simp | omega) _))⟩
set_option maxRecDepth 100000 in
theorem box_Order_s_f (a b : V) (t0 : ByteArray) (n1 : Int) (ha : okV a = true) (hb : okV b = true) (hx : toBx a = .s t0) (hy : toBx b = .f n1) (w : World) :
    Calls Tryd.prog 51 #[vv a, vv b] w fun e w' => e = .returned (.tuple #[.int .i64 (orderN (.s t0) (.f n1)), .int .i64 (orderE (.s t0) (.f n1))]) ∧ Below w.heap.size w w' := by
  have hu := Tryd.underlying33
  have qi := ta_s_i t0
  have qs := ta_s_s t0
  have pi := ta_f_i n1
  have ps := ta_f_s n1
  have HT := Lib.hid (fun w => box_two_v a b (.s t0) (.f n1) (.iface 9 (.string t0)) (.iface 86 (.int .i64 n1)) hx hy rfl rfl ha hb w)
  clear hx hy ha hb
  unfold vv
  go_enter Tryd.func51, Tryd.ntmps51
  go_wp2_with (first | (go_at_call 67; refine (HT.out _).mono ?_; rintro e w1 ⟨rfl, hb1⟩; have hB1 : Below w.heap.size w w1 := below_step (by repeat (first | exact Below.refl _ _ | assumption | refine below_drewN ?_ _ | refine Below.drew ?_ | refine Below.alloc ?_ (by first | exact Nat.le_refl _ | (simp; omega) | omega | simp) _ | refine Below.setCell ?_ (by first | exact Nat.le_refl _ | (simp; omega) | simp | omega) _)) hb1; obtain ⟨hc1, hf1, hz1⟩ := bcell hb1; (try simp only [sz_alloc, sz_set, sz_drew, sz_drewN] at hc1 hf1 hz1); clear hb1) | (go_at_call 76; refine (strings_Compare _ _ _).mono ?_; rintro e w' ⟨rfl, rfl⟩))
  go_ret2
  exact ⟨ret_ints rfl rfl, (by repeat (first | exact Below.refl _ _ | assumption | refine below_drewN ?_ _ | refine Below.drew ?_ | refine Below.alloc ?_ (by first | exact Nat.le_refl _ | (simp; omega) | omega | simp) _ | refine Below.setCell ?_ (by first | exact Nat.le_refl _ | (simp; omega) | simp | omega) _))⟩
set_option maxRecDepth 100000 in
theorem box_Order_s_l (a b : V) (t0 : ByteArray) (n1 : Int) (ha : okV a = true) (hb : okV b = true) (hx : toBx a = .s t0) (hy : toBx b = .l n1) (w : World) :
    Calls Tryd.prog 51 #[vv a, vv b] w fun e w' => e = .returned (.tuple #[.int .i64 (orderN (.s t0) (.l n1)), .int .i64 (orderE (.s t0) (.l n1))]) ∧ Below w.heap.size w w' := by
  have hu := Tryd.underlying33
  have qi := ta_s_i t0
  have qs := ta_s_s t0
  have pi := ta_l_i n1
  have ps := ta_l_s n1
  have HT := Lib.hid (fun w => box_two_v a b (.s t0) (.l n1) (.iface 9 (.string t0)) (.iface 87 (.int .i64 n1)) hx hy rfl rfl ha hb w)
  clear hx hy ha hb
  unfold vv
  go_enter Tryd.func51, Tryd.ntmps51
  go_wp2_with (first | (go_at_call 67; refine (HT.out _).mono ?_; rintro e w1 ⟨rfl, hb1⟩; have hB1 : Below w.heap.size w w1 := below_step (by repeat (first | exact Below.refl _ _ | assumption | refine below_drewN ?_ _ | refine Below.drew ?_ | refine Below.alloc ?_ (by first | exact Nat.le_refl _ | (simp; omega) | omega | simp) _ | refine Below.setCell ?_ (by first | exact Nat.le_refl _ | (simp; omega) | simp | omega) _)) hb1; obtain ⟨hc1, hf1, hz1⟩ := bcell hb1; (try simp only [sz_alloc, sz_set, sz_drew, sz_drewN] at hc1 hf1 hz1); clear hb1) | (go_at_call 76; refine (strings_Compare _ _ _).mono ?_; rintro e w' ⟨rfl, rfl⟩))
  go_ret2
  exact ⟨ret_ints rfl rfl, (by repeat (first | exact Below.refl _ _ | assumption | refine below_drewN ?_ _ | refine Below.drew ?_ | refine Below.alloc ?_ (by first | exact Nat.le_refl _ | (simp; omega) | omega | simp) _ | refine Below.setCell ?_ (by first | exact Nat.le_refl _ | (simp; omega) | simp | omega) _))⟩
set_option maxRecDepth 100000 in
theorem box_Order_nil_y (a b : V) (y : Bx) (ha : okV a = true) (hb : okV b = true) (hx : toBx a = .nil) (hy : toBx b = y) (w : World) :
    Calls Tryd.prog 51 #[vv a, vv b] w fun e w' => e = .returned (.tuple #[.int .i64 (orderN (.nil) (y)), .int .i64 (orderE (.nil) (y))]) ∧ Below w.heap.size w w' := by
  have hu := Tryd.underlying33
  have qi := ta_nil_i 
  have qs := ta_nil_s 
  have HT := Lib.hid (fun w => box_two_v a b (.nil) (y) (.nilIface) (bxv y) hx hy rfl rfl ha hb w)
  clear hx hy ha hb
  unfold vv
  go_enter Tryd.func51, Tryd.ntmps51
  go_wp2_with (first | (go_at_call 67; refine (HT.out _).mono ?_; rintro e w1 ⟨rfl, hb1⟩; have hB1 : Below w.heap.size w w1 := below_step (by repeat (first | exact Below.refl _ _ | assumption | refine below_drewN ?_ _ | refine Below.drew ?_ | refine Below.alloc ?_ (by first | exact Nat.le_refl _ | (simp; omega) | omega | simp) _ | refine Below.setCell ?_ (by first | exact Nat.le_refl _ | (simp; omega) | simp | omega) _)) hb1; obtain ⟨hc1, hf1, hz1⟩ := bcell hb1; (try simp only [sz_alloc, sz_set, sz_drew, sz_drewN] at hc1 hf1 hz1); clear hb1) | (go_at_call 76; refine (strings_Compare _ _ _).mono ?_; rintro e w' ⟨rfl, rfl⟩))
  go_ret2
  exact ⟨ret_ints rfl rfl, (by repeat (first | exact Below.refl _ _ | assumption | refine below_drewN ?_ _ | refine Below.drew ?_ | refine Below.alloc ?_ (by first | exact Nat.le_refl _ | (simp; omega) | omega | simp) _ | refine Below.setCell ?_ (by first | exact Nat.le_refl _ | (simp; omega) | simp | omega) _))⟩
set_option maxRecDepth 100000 in
theorem box_Order_b_y (a b : V) (x0 : Bool) (y : Bx) (ha : okV a = true) (hb : okV b = true) (hx : toBx a = .b x0) (hy : toBx b = y) (w : World) :
    Calls Tryd.prog 51 #[vv a, vv b] w fun e w' => e = .returned (.tuple #[.int .i64 (orderN (.b x0) (y)), .int .i64 (orderE (.b x0) (y))]) ∧ Below w.heap.size w w' := by
  have hu := Tryd.underlying33
  have qi := ta_b_i x0
  have qs := ta_b_s x0
  have HT := Lib.hid (fun w => box_two_v a b (.b x0) (y) (.iface 4 (.bool x0)) (bxv y) hx hy rfl rfl ha hb w)
  clear hx hy ha hb
  unfold vv
  go_enter Tryd.func51, Tryd.ntmps51
  go_wp2_with (first | (go_at_call 67; refine (HT.out _).mono ?_; rintro e w1 ⟨rfl, hb1⟩; have hB1 : Below w.heap.size w w1 := below_step (by repeat (first | exact Below.refl _ _ | assumption | refine below_drewN ?_ _ | refine Below.drew ?_ | refine Below.alloc ?_ (by first | exact Nat.le_refl _ | (simp; omega) | omega | simp) _ | refine Below.setCell ?_ (by first | exact Nat.le_refl _ | (simp; omega) | simp | omega) _)) hb1; obtain ⟨hc1, hf1, hz1⟩ := bcell hb1; (try simp only [sz_alloc, sz_set, sz_drew, sz_drewN] at hc1 hf1 hz1); clear hb1) | (go_at_call 76; refine (strings_Compare _ _ _).mono ?_; rintro e w' ⟨rfl, rfl⟩))
  go_ret2
  exact ⟨ret_ints rfl rfl, (by repeat (first | exact Below.refl _ _ | assumption | refine below_drewN ?_ _ | refine Below.drew ?_ | refine Below.alloc ?_ (by first | exact Nat.le_refl _ | (simp; omega) | omega | simp) _ | refine Below.setCell ?_ (by first | exact Nat.le_refl _ | (simp; omega) | simp | omega) _))⟩
set_option maxRecDepth 100000 in
theorem box_Order_t_y (a b : V) (n0 : Int) (y : Bx) (ha : okV a = true) (hb : okV b = true) (hx : toBx a = .t n0) (hy : toBx b = y) (w : World) :
    Calls Tryd.prog 51 #[vv a, vv b] w fun e w' => e = .returned (.tuple #[.int .i64 (orderN (.t n0) (y)), .int .i64 (orderE (.t n0) (y))]) ∧ Below w.heap.size w w' := by
  have hu := Tryd.underlying33
  have qi := ta_t_i n0
  have qs := ta_t_s n0
  have HT := Lib.hid (fun w => box_two_v a b (.t n0) (y) (.iface 85 (.int .i64 n0)) (bxv y) hx hy rfl rfl ha hb w)
  clear hx hy ha hb
  unfold vv
  go_enter Tryd.func51, Tryd.ntmps51
  go_wp2_with (first | (go_at_call 67; refine (HT.out _).mono ?_; rintro e w1 ⟨rfl, hb1⟩; have hB1 : Below w.heap.size w w1 := below_step (by repeat (first | exact Below.refl _ _ | assumption | refine below_drewN ?_ _ | refine Below.drew ?_ | refine Below.alloc ?_ (by first | exact Nat.le_refl _ | (simp; omega) | omega | simp) _ | refine Below.setCell ?_ (by first | exact Nat.le_refl _ | (simp; omega) | simp | omega) _)) hb1; obtain ⟨hc1, hf1, hz1⟩ := bcell hb1; (try simp only [sz_alloc, sz_set, sz_drew, sz_drewN] at hc1 hf1 hz1); clear hb1) | (go_at_call 76; refine (strings_Compare _ _ _).mono ?_; rintro e w' ⟨rfl, rfl⟩))
  go_ret2
  exact ⟨ret_ints rfl rfl, (by repeat (first | exact Below.refl _ _ | assumption | refine below_drewN ?_ _ | refine Below.drew ?_ | refine Below.alloc ?_ (by first | exact Nat.le_refl _ | (simp; omega) | omega | simp) _ | refine Below.setCell ?_ (by first | exact Nat.le_refl _ | (simp; omega) | simp | omega) _))⟩
set_option maxRecDepth 100000 in
theorem box_Order_f_y (a b : V) (n0 : Int) (y : Bx) (ha : okV a = true) (hb : okV b = true) (hx : toBx a = .f n0) (hy : toBx b = y) (w : World) :
    Calls Tryd.prog 51 #[vv a, vv b] w fun e w' => e = .returned (.tuple #[.int .i64 (orderN (.f n0) (y)), .int .i64 (orderE (.f n0) (y))]) ∧ Below w.heap.size w w' := by
  have hu := Tryd.underlying33
  have qi := ta_f_i n0
  have qs := ta_f_s n0
  have HT := Lib.hid (fun w => box_two_v a b (.f n0) (y) (.iface 86 (.int .i64 n0)) (bxv y) hx hy rfl rfl ha hb w)
  clear hx hy ha hb
  unfold vv
  go_enter Tryd.func51, Tryd.ntmps51
  go_wp2_with (first | (go_at_call 67; refine (HT.out _).mono ?_; rintro e w1 ⟨rfl, hb1⟩; have hB1 : Below w.heap.size w w1 := below_step (by repeat (first | exact Below.refl _ _ | assumption | refine below_drewN ?_ _ | refine Below.drew ?_ | refine Below.alloc ?_ (by first | exact Nat.le_refl _ | (simp; omega) | omega | simp) _ | refine Below.setCell ?_ (by first | exact Nat.le_refl _ | (simp; omega) | simp | omega) _)) hb1; obtain ⟨hc1, hf1, hz1⟩ := bcell hb1; (try simp only [sz_alloc, sz_set, sz_drew, sz_drewN] at hc1 hf1 hz1); clear hb1) | (go_at_call 76; refine (strings_Compare _ _ _).mono ?_; rintro e w' ⟨rfl, rfl⟩))
  go_ret2
  exact ⟨ret_ints rfl rfl, (by repeat (first | exact Below.refl _ _ | assumption | refine below_drewN ?_ _ | refine Below.drew ?_ | refine Below.alloc ?_ (by first | exact Nat.le_refl _ | (simp; omega) | omega | simp) _ | refine Below.setCell ?_ (by first | exact Nat.le_refl _ | (simp; omega) | simp | omega) _))⟩
set_option maxRecDepth 100000 in
theorem box_Order_l_y (a b : V) (n0 : Int) (y : Bx) (ha : okV a = true) (hb : okV b = true) (hx : toBx a = .l n0) (hy : toBx b = y) (w : World) :
    Calls Tryd.prog 51 #[vv a, vv b] w fun e w' => e = .returned (.tuple #[.int .i64 (orderN (.l n0) (y)), .int .i64 (orderE (.l n0) (y))]) ∧ Below w.heap.size w w' := by
  have hu := Tryd.underlying33
  have qi := ta_l_i n0
  have qs := ta_l_s n0
  have HT := Lib.hid (fun w => box_two_v a b (.l n0) (y) (.iface 87 (.int .i64 n0)) (bxv y) hx hy rfl rfl ha hb w)
  clear hx hy ha hb
  unfold vv
  go_enter Tryd.func51, Tryd.ntmps51
  go_wp2_with (first | (go_at_call 67; refine (HT.out _).mono ?_; rintro e w1 ⟨rfl, hb1⟩; have hB1 : Below w.heap.size w w1 := below_step (by repeat (first | exact Below.refl _ _ | assumption | refine below_drewN ?_ _ | refine Below.drew ?_ | refine Below.alloc ?_ (by first | exact Nat.le_refl _ | (simp; omega) | omega | simp) _ | refine Below.setCell ?_ (by first | exact Nat.le_refl _ | (simp; omega) | simp | omega) _)) hb1; obtain ⟨hc1, hf1, hz1⟩ := bcell hb1; (try simp only [sz_alloc, sz_set, sz_drew, sz_drewN] at hc1 hf1 hz1); clear hb1) | (go_at_call 76; refine (strings_Compare _ _ _).mono ?_; rintro e w' ⟨rfl, rfl⟩))
  go_ret2
  exact ⟨ret_ints rfl rfl, (by repeat (first | exact Below.refl _ _ | assumption | refine below_drewN ?_ _ | refine Below.drew ?_ | refine Below.alloc ?_ (by first | exact Nat.le_refl _ | (simp; omega) | omega | simp) _ | refine Below.setCell ?_ (by first | exact Nat.le_refl _ | (simp; omega) | simp | omega) _))⟩
theorem box_Order_ok (a b : V) (ha : okV a = true) (hb : okV b = true) (w : World) : Calls Tryd.prog 51 #[vv a, vv b] w fun e w' => e = .returned (.tuple #[.int .i64 (orderN (toBx a) (toBx b)), .int .i64 (orderE (toBx a) (toBx b))]) ∧ Below w.heap.size w w' := by
  cases hx : toBx a with
  | nil =>
    exact box_Order_nil_y a b _ ha hb hx rfl w
  | b u =>
    exact box_Order_b_y a b u _ ha hb hx rfl w
  | i u =>
    cases hy : toBx b with
    | nil => exact box_Order_i_nil a b u ha hb hx hy w
    | b v => exact box_Order_i_b a b u v ha hb hx hy w
    | i v => exact box_Order_i_i a b u v ha hb hx hy w
    | s v => exact box_Order_i_s a b u v ha hb hx hy w
    | t v => exact box_Order_i_t a b u v ha hb hx hy w
    | f v => exact box_Order_i_f a b u v ha hb hx hy w
    | l v => exact box_Order_i_l a b u v ha hb hx hy w
  | s u =>
    cases hy : toBx b with
    | nil => exact box_Order_s_nil a b u ha hb hx hy w
    | b v => exact box_Order_s_b a b u v ha hb hx hy w
    | i v => exact box_Order_s_i a b u v ha hb hx hy w
    | s v => exact box_Order_s_s a b u v ha hb hx hy w
    | t v => exact box_Order_s_t a b u v ha hb hx hy w
    | f v => exact box_Order_s_f a b u v ha hb hx hy w
    | l v => exact box_Order_s_l a b u v ha hb hx hy w
  | t u =>
    exact box_Order_t_y a b u _ ha hb hx rfl w
  | f u =>
    exact box_Order_f_y a b u _ ha hb hx rfl w
  | l u =>
    exact box_Order_l_y a b u _ ha hb hx rfl w
set_option maxRecDepth 100000 in
theorem box_Order_bad (a b : V) (h : ¬ (okV a = true ∧ okV b = true)) (w : World) : Calls Tryd.prog 51 #[vv a, vv b] w fun e w' => e = .returned (.tuple #[.int .i64 0, .int .i64 2]) ∧ Below w.heap.size w w' := by
  have hu := Tryd.underlying33
  have HT := Lib.hid (fun w => box_two_bad a b h w)
  clear h
  unfold vv
  go_enter Tryd.func51, Tryd.ntmps51
  go_wp2_with (first | (go_at_call 67; refine (HT.out _).mono ?_; rintro e w1 ⟨rfl, hb1⟩; have hB1 : Below w.heap.size w w1 := below_step (by repeat (first | exact Below.refl _ _ | assumption | refine below_drewN ?_ _ | refine Below.drew ?_ | refine Below.alloc ?_ (by first | exact Nat.le_refl _ | (simp; omega) | omega | simp) _ | refine Below.setCell ?_ (by first | exact Nat.le_refl _ | (simp; omega) | simp | omega) _)) hb1; obtain ⟨hc1, hf1, hz1⟩ := bcell hb1; (try simp only [sz_alloc, sz_set, sz_drew, sz_drewN] at hc1 hf1 hz1); clear hb1))
  go_ret2
  exact ⟨rfl, (by repeat (first | exact Below.refl _ _ | assumption | refine below_drewN ?_ _ | refine Below.drew ?_ | refine Below.alloc ?_ (by first | exact Nat.le_refl _ | (simp; omega) | omega | simp) _ | refine Below.setCell ?_ (by first | exact Nat.le_refl _ | (simp; omega) | simp | omega) _))⟩
theorem empty_le : (⟨#[]⟩ : ByteArray).size ≤ 10000 := by decide
theorem text_size (v : V) (h : okV v = true) (hn : In64 v.n) : (toBx v).text.size ≤ 10000 := by
  have hf := fine_of v h hn
  obtain ⟨k, n, t⟩ := v
  unfold toBx at *
  simp only at *
  by_cases h1 : k = 1
  · rw [if_pos h1]; exact empty_le
  rw [if_neg h1] at *
  by_cases h2 : k = 2
  · rw [if_pos h2] at *
    have := itoaB_size n hf
    show (itoaB n).size ≤ 10000
    omega
  rw [if_neg h2] at *
  by_cases h3 : k = 3
  · rw [if_pos h3]
    unfold okV at h
    simp only [h3] at h
    simp at h
    show t.size ≤ 10000
    omega
  rw [if_neg h3]
  by_cases h4 : k = 4
  · rw [if_pos h4]; exact empty_le
  rw [if_neg h4]
  by_cases h5 : k = 5
  · rw [if_pos h5]; exact empty_le
  rw [if_neg h5]
  by_cases h6 : k = 6
  · rw [if_pos h6]; exact empty_le
  · rw [if_neg h6]; exact empty_le
def joinE (x y : Bx) : Int := if x.isText = true ∧ y.isText = true then (if 10000 < x.text.size + y.text.size then 14 else 0) else 8
def joinV (x y : Bx) : V := if joinE x y = 0 then ⟨3, 0, x.text ++ y.text⟩ else nilV
set_option maxRecDepth 100000 in
theorem box_Join_no1 (a b : V) (x y : Bx) (t u : ByteArray) (hx : toBx a = x) (hy : toBx b = y) (ha : okV a = true) (hb : okV b = true) (fx : x.fine) (fy : y.fine) (tx : x.text = t) (ty : y.text = u) (ix : x.isText = false) (iy : y.isText = false) (st : t.size ≤ 10000) (su : u.size ≤ 10000) (w : World) (hE : Env w) :
    Calls Tryd.prog 27 #[vv a, vv b] w fun e w' => e = .returned (.tuple #[vv nilV, .int .i64 8]) ∧ Below w.heap.size w w' := by
  have hu := Tryd.underlying33
  have HT := Lib.hid (fun w => box_two_ok a b x hx ha y hy hb w)
  have FX := Lib.hid fx; have FY := Lib.hid fy; have TX := Lib.hid tx; have TY := Lib.hid ty; have IX := Lib.hid ix; have IY := Lib.hid iy
  clear hx hy ha hb fx fy tx ty ix iy
  unfold vv
  go_enter Tryd.func27, Tryd.ntmps27
  go_wp2_with (first | (go_at_call 67; refine (HT.out _).mono ?_; rintro e w1 ⟨rfl, hb1⟩; have hB1 : Below w.heap.size w w1 := below_step (by repeat (first | exact Below.refl _ _ | assumption | refine below_drewN ?_ _ | refine Below.drew ?_ | refine Below.alloc ?_ (by first | exact Nat.le_refl _ | (simp; omega) | omega | simp) _ | refine Below.setCell ?_ (by first | exact Nat.le_refl _ | (simp; omega) | simp | omega) _)) hb1; obtain ⟨hc1, hf1, hz1⟩ := bcell hb1; (try simp only [sz_alloc, sz_set, sz_drew, sz_drewN] at hc1 hf1 hz1); clear hb1; have hE1 := hE.of_below hB1) | (go_at_call 68; (with_reducible refine (box_text x FX.out t false TX.out IX.out _ hE1).mono ?_); rintro e w2 ⟨rfl, hb2⟩; have hB2 : Below w.heap.size w w2 := below_step (by repeat (first | exact Below.refl _ _ | assumption | refine below_drewN ?_ _ | refine Below.drew ?_ | refine Below.alloc ?_ (by first | exact Nat.le_refl _ | (simp; omega) | omega | simp) _ | refine Below.setCell ?_ (by first | exact Nat.le_refl _ | (simp; omega) | simp | omega) _)) hb2; obtain ⟨hc2, hf2, hz2⟩ := bcell hb2; (try simp only [sz_alloc, sz_set, sz_drew, sz_drewN] at hc2 hf2 hz2); clear hb2; replace hc2 := fun b o h => (hc2 b o (hz1 b h)).trans (hc1 b o h); replace hf2 := fun b o h => (hf2 b o (hz1 b h)).trans (hf1 b o h); replace hz2 := fun n h => hz2 n (hz1 n h); clear hc1 hf1 hz1; have hE2 := hE.of_below hB2) | (go_at_call 68; (with_reducible refine (box_text y FY.out u false TY.out IY.out _ hE2).mono ?_); rintro e w3 ⟨rfl, hb3⟩; have hB3 : Below w.heap.size w w3 := below_step (by repeat (first | exact Below.refl _ _ | assumption | refine below_drewN ?_ _ | refine Below.drew ?_ | refine Below.alloc ?_ (by first | exact Nat.le_refl _ | (simp; omega) | omega | simp) _ | refine Below.setCell ?_ (by first | exact Nat.le_refl _ | (simp; omega) | simp | omega) _)) hb3; obtain ⟨hc3, hf3, hz3⟩ := bcell hb3; (try simp only [sz_alloc, sz_set, sz_drew, sz_drewN] at hc3 hf3 hz3); clear hb3))
  exact bodyPost_ret (v := .tuple #[.agg #[.int .i64 0, .int .i64 0, .string ⟨#[]⟩], .int .i64 8]) (by simp [results, Tryd.results27, go_sem, cell_set_self, *]) rfl ⟨rfl, (by repeat (first | exact Below.refl _ _ | assumption | refine below_drewN ?_ _ | refine Below.drew ?_ | refine Below.alloc ?_ (by first | exact Nat.le_refl _ | (simp; omega) | omega | simp) _ | refine Below.setCell ?_ (by first | exact Nat.le_refl _ | (simp; omega) | simp | omega) _))⟩
set_option maxRecDepth 100000 in
theorem box_Join_no2 (a b : V) (x y : Bx) (t u : ByteArray) (hx : toBx a = x) (hy : toBx b = y) (ha : okV a = true) (hb : okV b = true) (fx : x.fine) (fy : y.fine) (tx : x.text = t) (ty : y.text = u) (ix : x.isText = false) (iy : y.isText = true) (st : t.size ≤ 10000) (su : u.size ≤ 10000) (w : World) (hE : Env w) :
    Calls Tryd.prog 27 #[vv a, vv b] w fun e w' => e = .returned (.tuple #[vv nilV, .int .i64 8]) ∧ Below w.heap.size w w' := by
  have hu := Tryd.underlying33
  have HT := Lib.hid (fun w => box_two_ok a b x hx ha y hy hb w)
  have FX := Lib.hid fx; have FY := Lib.hid fy; have TX := Lib.hid tx; have TY := Lib.hid ty; have IX := Lib.hid ix; have IY := Lib.hid iy
  clear hx hy ha hb fx fy tx ty ix iy
  unfold vv
  go_enter Tryd.func27, Tryd.ntmps27
  go_wp2_with (first | (go_at_call 67; refine (HT.out _).mono ?_; rintro e w1 ⟨rfl, hb1⟩; have hB1 : Below w.heap.size w w1 := below_step (by repeat (first | exact Below.refl _ _ | assumption | refine below_drewN ?_ _ | refine Below.drew ?_ | refine Below.alloc ?_ (by first | exact Nat.le_refl _ | (simp; omega) | omega | simp) _ | refine Below.setCell ?_ (by first | exact Nat.le_refl _ | (simp; omega) | simp | omega) _)) hb1; obtain ⟨hc1, hf1, hz1⟩ := bcell hb1; (try simp only [sz_alloc, sz_set, sz_drew, sz_drewN] at hc1 hf1 hz1); clear hb1; have hE1 := hE.of_below hB1) | (go_at_call 68; (with_reducible refine (box_text x FX.out t false TX.out IX.out _ hE1).mono ?_); rintro e w2 ⟨rfl, hb2⟩; have hB2 : Below w.heap.size w w2 := below_step (by repeat (first | exact Below.refl _ _ | assumption | refine below_drewN ?_ _ | refine Below.drew ?_ | refine Below.alloc ?_ (by first | exact Nat.le_refl _ | (simp; omega) | omega | simp) _ | refine Below.setCell ?_ (by first | exact Nat.le_refl _ | (simp; omega) | simp | omega) _)) hb2; obtain ⟨hc2, hf2, hz2⟩ := bcell hb2; (try simp only [sz_alloc, sz_set, sz_drew, sz_drewN] at hc2 hf2 hz2); clear hb2; replace hc2 := fun b o h => (hc2 b o (hz1 b h)).trans (hc1 b o h); replace hf2 := fun b o h => (hf2 b o (hz1 b h)).trans (hf1 b o h); replace hz2 := fun n h => hz2 n (hz1 n h); clear hc1 hf1 hz1; have hE2 := hE.of_below hB2) | (go_at_call 68; (with_reducible refine (box_text y FY.out u true TY.out IY.out _ hE2).mono ?_); rintro e w3 ⟨rfl, hb3⟩; have hB3 : Below w.heap.size w w3 := below_step (by repeat (first | exact Below.refl _ _ | assumption | refine below_drewN ?_ _ | refine Below.drew ?_ | refine Below.alloc ?_ (by first | exact Nat.le_refl _ | (simp; omega) | omega | simp) _ | refine Below.setCell ?_ (by first | exact Nat.le_refl _ | (simp; omega) | simp | omega) _)) hb3; obtain ⟨hc3, hf3, hz3⟩ := bcell hb3; (try simp only [sz_alloc, sz_set, sz_drew, sz_drewN] at hc3 hf3 hz3); clear hb3))
  exact bodyPost_ret (v := .tuple #[.agg #[.int .i64 0, .int .i64 0, .string ⟨#[]⟩], .int .i64 8]) (by simp [results, Tryd.results27, go_sem, cell_set_self, *]) rfl ⟨rfl, (by repeat (first | exact Below.refl _ _ | assumption | refine below_drewN ?_ _ | refine Below.drew ?_ | refine Below.alloc ?_ (by first | exact Nat.le_refl _ | (simp; omega) | omega | simp) _ | refine Below.setCell ?_ (by first | exact Nat.le_refl _ | (simp; omega) | simp | omega) _))⟩
set_option maxRecDepth 100000 in
theorem box_Join_no3 (a b : V) (x y : Bx) (t u : ByteArray) (hx : toBx a = x) (hy : toBx b = y) (ha : okV a = true) (hb : okV b = true) (fx : x.fine) (fy : y.fine) (tx : x.text = t) (ty : y.text = u) (ix : x.isText = true) (iy : y.isText = false) (st : t.size ≤ 10000) (su : u.size ≤ 10000) (w : World) (hE : Env w) :
    Calls Tryd.prog 27 #[vv a, vv b] w fun e w' => e = .returned (.tuple #[vv nilV, .int .i64 8]) ∧ Below w.heap.size w w' := by
  have hu := Tryd.underlying33
  have HT := Lib.hid (fun w => box_two_ok a b x hx ha y hy hb w)
  have FX := Lib.hid fx; have FY := Lib.hid fy; have TX := Lib.hid tx; have TY := Lib.hid ty; have IX := Lib.hid ix; have IY := Lib.hid iy
  clear hx hy ha hb fx fy tx ty ix iy
  unfold vv
  go_enter Tryd.func27, Tryd.ntmps27
  go_wp2_with (first | (go_at_call 67; refine (HT.out _).mono ?_; rintro e w1 ⟨rfl, hb1⟩; have hB1 : Below w.heap.size w w1 := below_step (by repeat (first | exact Below.refl _ _ | assumption | refine below_drewN ?_ _ | refine Below.drew ?_ | refine Below.alloc ?_ (by first | exact Nat.le_refl _ | (simp; omega) | omega | simp) _ | refine Below.setCell ?_ (by first | exact Nat.le_refl _ | (simp; omega) | simp | omega) _)) hb1; obtain ⟨hc1, hf1, hz1⟩ := bcell hb1; (try simp only [sz_alloc, sz_set, sz_drew, sz_drewN] at hc1 hf1 hz1); clear hb1; have hE1 := hE.of_below hB1) | (go_at_call 68; (with_reducible refine (box_text x FX.out t true TX.out IX.out _ hE1).mono ?_); rintro e w2 ⟨rfl, hb2⟩; have hB2 : Below w.heap.size w w2 := below_step (by repeat (first | exact Below.refl _ _ | assumption | refine below_drewN ?_ _ | refine Below.drew ?_ | refine Below.alloc ?_ (by first | exact Nat.le_refl _ | (simp; omega) | omega | simp) _ | refine Below.setCell ?_ (by first | exact Nat.le_refl _ | (simp; omega) | simp | omega) _)) hb2; obtain ⟨hc2, hf2, hz2⟩ := bcell hb2; (try simp only [sz_alloc, sz_set, sz_drew, sz_drewN] at hc2 hf2 hz2); clear hb2; replace hc2 := fun b o h => (hc2 b o (hz1 b h)).trans (hc1 b o h); replace hf2 := fun b o h => (hf2 b o (hz1 b h)).trans (hf1 b o h); replace hz2 := fun n h => hz2 n (hz1 n h); clear hc1 hf1 hz1; have hE2 := hE.of_below hB2) | (go_at_call 68; (with_reducible refine (box_text y FY.out u false TY.out IY.out _ hE2).mono ?_); rintro e w3 ⟨rfl, hb3⟩; have hB3 : Below w.heap.size w w3 := below_step (by repeat (first | exact Below.refl _ _ | assumption | refine below_drewN ?_ _ | refine Below.drew ?_ | refine Below.alloc ?_ (by first | exact Nat.le_refl _ | (simp; omega) | omega | simp) _ | refine Below.setCell ?_ (by first | exact Nat.le_refl _ | (simp; omega) | simp | omega) _)) hb3; obtain ⟨hc3, hf3, hz3⟩ := bcell hb3; (try simp only [sz_alloc, sz_set, sz_drew, sz_drewN] at hc3 hf3 hz3); clear hb3))
  exact bodyPost_ret (v := .tuple #[.agg #[.int .i64 0, .int .i64 0, .string ⟨#[]⟩], .int .i64 8]) (by simp [results, Tryd.results27, go_sem, cell_set_self, *]) rfl ⟨rfl, (by repeat (first | exact Below.refl _ _ | assumption | refine below_drewN ?_ _ | refine Below.drew ?_ | refine Below.alloc ?_ (by first | exact Nat.le_refl _ | (simp; omega) | omega | simp) _ | refine Below.setCell ?_ (by first | exact Nat.le_refl _ | (simp; omega) | simp | omega) _))⟩
set_option maxRecDepth 100000 in
theorem box_Join_big (a b : V) (x y : Bx) (t u : ByteArray) (hx : toBx a = x) (hy : toBx b = y) (ha : okV a = true) (hb : okV b = true) (fx : x.fine) (fy : y.fine) (tx : x.text = t) (ty : y.text = u) (ix : x.isText = true) (iy : y.isText = true) (st : t.size ≤ 10000) (su : u.size ≤ 10000) (hs : 10000 < (t.size : Int) + u.size) (w : World) (hE : Env w) :
    Calls Tryd.prog 27 #[vv a, vv b] w fun e w' => e = .returned (.tuple #[vv nilV, .int .i64 14]) ∧ Below w.heap.size w w' := by
  have hu := Tryd.underlying33
  have HT := Lib.hid (fun w => box_two_ok a b x hx ha y hy hb w)
  have FX := Lib.hid fx; have FY := Lib.hid fy; have TX := Lib.hid tx; have TY := Lib.hid ty; have IX := Lib.hid ix; have IY := Lib.hid iy
  clear hx hy ha hb fx fy tx ty ix iy
  unfold vv
  go_enter Tryd.func27, Tryd.ntmps27
  go_wp2_with (first | (go_at_call 67; refine (HT.out _).mono ?_; rintro e w1 ⟨rfl, hb1⟩; have hB1 : Below w.heap.size w w1 := below_step (by repeat (first | exact Below.refl _ _ | assumption | refine below_drewN ?_ _ | refine Below.drew ?_ | refine Below.alloc ?_ (by first | exact Nat.le_refl _ | (simp; omega) | omega | simp) _ | refine Below.setCell ?_ (by first | exact Nat.le_refl _ | (simp; omega) | simp | omega) _)) hb1; obtain ⟨hc1, hf1, hz1⟩ := bcell hb1; (try simp only [sz_alloc, sz_set, sz_drew, sz_drewN] at hc1 hf1 hz1); clear hb1; have hE1 := hE.of_below hB1) | (go_at_call 68; (with_reducible refine (box_text x FX.out t true TX.out IX.out _ hE1).mono ?_); rintro e w2 ⟨rfl, hb2⟩; have hB2 : Below w.heap.size w w2 := below_step (by repeat (first | exact Below.refl _ _ | assumption | refine below_drewN ?_ _ | refine Below.drew ?_ | refine Below.alloc ?_ (by first | exact Nat.le_refl _ | (simp; omega) | omega | simp) _ | refine Below.setCell ?_ (by first | exact Nat.le_refl _ | (simp; omega) | simp | omega) _)) hb2; obtain ⟨hc2, hf2, hz2⟩ := bcell hb2; (try simp only [sz_alloc, sz_set, sz_drew, sz_drewN] at hc2 hf2 hz2); clear hb2; replace hc2 := fun b o h => (hc2 b o (hz1 b h)).trans (hc1 b o h); replace hf2 := fun b o h => (hf2 b o (hz1 b h)).trans (hf1 b o h); replace hz2 := fun n h => hz2 n (hz1 n h); clear hc1 hf1 hz1; have hE2 := hE.of_below hB2) | (go_at_call 68; (with_reducible refine (box_text y FY.out u true TY.out IY.out _ hE2).mono ?_); rintro e w3 ⟨rfl, hb3⟩; have hB3 : Below w.heap.size w w3 := below_step (by repeat (first | exact Below.refl _ _ | assumption | refine below_drewN ?_ _ | refine Below.drew ?_ | refine Below.alloc ?_ (by first | exact Nat.le_refl _ | (simp; omega) | omega | simp) _ | refine Below.setCell ?_ (by first | exact Nat.le_refl _ | (simp; omega) | simp | omega) _)) hb3; obtain ⟨hc3, hf3, hz3⟩ := bcell hb3; (try simp only [sz_alloc, sz_set, sz_drew, sz_drewN] at hc3 hf3 hz3); clear hb3))
  exact bodyPost_ret (v := .tuple #[.agg #[.int .i64 0, .int .i64 0, .string ⟨#[]⟩], .int .i64 14]) (by simp [results, Tryd.results27, go_sem, cell_set_self, *]) rfl ⟨rfl, (by repeat (first | exact Below.refl _ _ | assumption | refine below_drewN ?_ _ | refine Below.drew ?_ | refine Below.alloc ?_ (by first | exact Nat.le_refl _ | (simp; omega) | omega | simp) _ | refine Below.setCell ?_ (by first | exact Nat.le_refl _ | (simp; omega) | simp | omega) _))⟩
set_option maxRecDepth 100000 in
theorem box_Join_yes (a b : V) (x y : Bx) (t u : ByteArray) (hx : toBx a = x) (hy : toBx b = y) (ha : okV a = true) (hb : okV b = true) (fx : x.fine) (fy : y.fine) (tx : x.text = t) (ty : y.text = u) (ix : x.isText = true) (iy : y.isText = true) (st : t.size ≤ 10000) (su : u.size ≤ 10000) (hs : (t.size : Int) + u.size ≤ 10000) (w : World) (hE : Env w) :
    Calls Tryd.prog 27 #[vv a, vv b] w fun e w' => e = .returned (.tuple #[vv ⟨3, 0, t ++ u⟩, .int .i64 0]) ∧ Below w.heap.size w w' := by
  have hu := Tryd.underlying33
  have HT := Lib.hid (fun w => box_two_ok a b x hx ha y hy hb w)
  have FX := Lib.hid fx; have FY := Lib.hid fy; have TX := Lib.hid tx; have TY := Lib.hid ty; have IX := Lib.hid ix; have IY := Lib.hid iy
  clear hx hy ha hb fx fy tx ty ix iy
  unfold vv
  go_enter Tryd.func27, Tryd.ntmps27
  go_wp2_with (first | (go_at_call 67; refine (HT.out _).mono ?_; rintro e w1 ⟨rfl, hb1⟩; have hB1 : Below w.heap.size w w1 := below_step (by repeat (first | exact Below.refl _ _ | assumption | refine below_drewN ?_ _ | refine Below.drew ?_ | refine Below.alloc ?_ (by first | exact Nat.le_refl _ | (simp; omega) | omega | simp) _ | refine Below.setCell ?_ (by first | exact Nat.le_refl _ | (simp; omega) | simp | omega) _)) hb1; obtain ⟨hc1, hf1, hz1⟩ := bcell hb1; (try simp only [sz_alloc, sz_set, sz_drew, sz_drewN] at hc1 hf1 hz1); clear hb1; have hE1 := hE.of_below hB1) | (go_at_call 68; (with_reducible refine (box_text x FX.out t true TX.out IX.out _ hE1).mono ?_); rintro e w2 ⟨rfl, hb2⟩; have hB2 : Below w.heap.size w w2 := below_step (by repeat (first | exact Below.refl _ _ | assumption | refine below_drewN ?_ _ | refine Below.drew ?_ | refine Below.alloc ?_ (by first | exact Nat.le_refl _ | (simp; omega) | omega | simp) _ | refine Below.setCell ?_ (by first | exact Nat.le_refl _ | (simp; omega) | simp | omega) _)) hb2; obtain ⟨hc2, hf2, hz2⟩ := bcell hb2; (try simp only [sz_alloc, sz_set, sz_drew, sz_drewN] at hc2 hf2 hz2); clear hb2; replace hc2 := fun b o h => (hc2 b o (hz1 b h)).trans (hc1 b o h); replace hf2 := fun b o h => (hf2 b o (hz1 b h)).trans (hf1 b o h); replace hz2 := fun n h => hz2 n (hz1 n h); clear hc1 hf1 hz1; have hE2 := hE.of_below hB2) | (go_at_call 68; (with_reducible refine (box_text y FY.out u true TY.out IY.out _ hE2).mono ?_); rintro e w3 ⟨rfl, hb3⟩; have hB3 : Below w.heap.size w w3 := below_step (by repeat (first | exact Below.refl _ _ | assumption | refine below_drewN ?_ _ | refine Below.drew ?_ | refine Below.alloc ?_ (by first | exact Nat.le_refl _ | (simp; omega) | omega | simp) _ | refine Below.setCell ?_ (by first | exact Nat.le_refl _ | (simp; omega) | simp | omega) _)) hb3; obtain ⟨hc3, hf3, hz3⟩ := bcell hb3; (try simp only [sz_alloc, sz_set, sz_drew, sz_drewN] at hc3 hf3 hz3); clear hb3) | (go_at_call 69; refine (box_out_s (t ++ u) _).mono ?_; rintro e w4 ⟨rfl, hb4⟩; have hB4 : Below w.heap.size w w4 := below_step (by repeat (first | exact Below.refl _ _ | assumption | refine below_drewN ?_ _ | refine Below.drew ?_ | refine Below.alloc ?_ (by first | exact Nat.le_refl _ | (simp; omega) | omega | simp) _ | refine Below.setCell ?_ (by first | exact Nat.le_refl _ | (simp; omega) | simp | omega) _)) hb4; obtain ⟨hc4, hf4, hz4⟩ := bcell hb4; (try simp only [sz_alloc, sz_set, sz_drew, sz_drewN] at hc4 hf4 hz4); clear hb4; replace hc4 := fun b o h => (hc4 b o (hz3 b h)).trans (hc3 b o h); replace hf4 := fun b o h => (hf4 b o (hz3 b h)).trans (hf3 b o h); replace hz4 := fun n h => hz4 n (hz3 n h); clear hc3 hf3 hz3; unfold vv))
  exact bodyPost_ret (v := .tuple #[.agg #[.int .i64 3, .int .i64 0, .string (t ++ u)], .int .i64 0]) (by simp [results, Tryd.results27, go_sem, cell_set_self, *]) rfl ⟨rfl, (by repeat (first | exact Below.refl _ _ | assumption | refine below_drewN ?_ _ | refine Below.drew ?_ | refine Below.alloc ?_ (by first | exact Nat.le_refl _ | (simp; omega) | omega | simp) _ | refine Below.setCell ?_ (by first | exact Nat.le_refl _ | (simp; omega) | simp | omega) _))⟩
theorem box_Join_ok (a b : V) (ha : okV a = true) (hb : okV b = true) (na : In64 a.n) (nb : In64 b.n) (w : World) (hE : Env w) :
    Calls Tryd.prog 27 #[vv a, vv b] w fun e w' => e = .returned (.tuple #[vv (joinV (toBx a) (toBx b)), .int .i64 (joinE (toBx a) (toBx b))]) ∧ Below w.heap.size w w' := by
  have fa := fine_of a ha na; have fb := fine_of b hb nb
  have sa := text_size a ha na; have sb := text_size b hb nb
  cases ix : (toBx a).isText with
  | false =>
    have e : joinE (toBx a) (toBx b) = 8 := by unfold joinE; rw [ix, if_neg (by simp)]
    have v : joinV (toBx a) (toBx b) = nilV := by unfold joinV; rw [e]; rfl
    rw [e, v]
    cases iy : (toBx b).isText with
    | false => exact box_Join_no1 a b _ _ _ _ rfl rfl ha hb fa fb rfl rfl ix iy sa sb w hE
    | true => exact box_Join_no2 a b _ _ _ _ rfl rfl ha hb fa fb rfl rfl ix iy sa sb w hE
  | true =>
    cases iy : (toBx b).isText with
    | false =>
      have e : joinE (toBx a) (toBx b) = 8 := by unfold joinE; rw [iy, if_neg (by simp)]
      have v : joinV (toBx a) (toBx b) = nilV := by unfold joinV; rw [e]; rfl
      rw [e, v]
      exact box_Join_no3 a b _ _ _ _ rfl rfl ha hb fa fb rfl rfl ix iy sa sb w hE
    | true =>
      by_cases hs : 10000 < (toBx a).text.size + (toBx b).text.size
      · have e : joinE (toBx a) (toBx b) = 14 := by unfold joinE; rw [if_pos ⟨ix, iy⟩, if_pos hs]
        have v : joinV (toBx a) (toBx b) = nilV := by unfold joinV; rw [e]; rfl
        rw [e, v]
        exact box_Join_big a b _ _ _ _ rfl rfl ha hb fa fb rfl rfl ix iy sa sb (by omega) w hE
      · have e : joinE (toBx a) (toBx b) = 0 := by unfold joinE; rw [if_pos ⟨ix, iy⟩, if_neg hs]
        have v : joinV (toBx a) (toBx b) = ⟨3, 0, (toBx a).text ++ (toBx b).text⟩ := by unfold joinV; rw [e]; rfl
        rw [e, v]
        exact box_Join_yes a b _ _ _ _ rfl rfl ha hb fa fb rfl rfl ix iy sa sb (by omega) w hE
set_option maxRecDepth 100000 in
theorem box_Join_bad (a b : V) (h : ¬ (okV a = true ∧ okV b = true)) (w : World) : Calls Tryd.prog 27 #[vv a, vv b] w fun e w' => e = .returned (.tuple #[vv nilV, .int .i64 2]) ∧ Below w.heap.size w w' := by
  have hu := Tryd.underlying33
  have HT := Lib.hid (fun w => box_two_bad a b h w)
  clear h
  unfold vv
  go_enter Tryd.func27, Tryd.ntmps27
  go_wp2_with (first | (go_at_call 67; refine (HT.out _).mono ?_; rintro e w1 ⟨rfl, hb1⟩; have hB1 : Below w.heap.size w w1 := below_step (by repeat (first | exact Below.refl _ _ | assumption | refine below_drewN ?_ _ | refine Below.drew ?_ | refine Below.alloc ?_ (by first | exact Nat.le_refl _ | (simp; omega) | omega | simp) _ | refine Below.setCell ?_ (by first | exact Nat.le_refl _ | (simp; omega) | simp | omega) _)) hb1; obtain ⟨hc1, hf1, hz1⟩ := bcell hb1; (try simp only [sz_alloc, sz_set, sz_drew, sz_drewN] at hc1 hf1 hz1); clear hb1))
  exact bodyPost_ret (v := .tuple #[.agg #[.int .i64 0, .int .i64 0, .string ⟨#[]⟩], .int .i64 2]) (by simp [results, Tryd.results27, go_sem, cell_set_self, *]) rfl ⟨rfl, (by repeat (first | exact Below.refl _ _ | assumption | refine below_drewN ?_ _ | refine Below.drew ?_ | refine Below.alloc ?_ (by first | exact Nat.le_refl _ | (simp; omega) | omega | simp) _ | refine Below.setCell ?_ (by first | exact Nat.le_refl _ | (simp; omega) | simp | omega) _))⟩
end Go.Proofs.YtpppcoobibmlhaaDoor
