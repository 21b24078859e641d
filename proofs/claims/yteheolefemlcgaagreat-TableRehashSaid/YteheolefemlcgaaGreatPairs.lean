/- A table: Pair. -/
import Derived.Test.YteheolefemlcgaaGreatTabV
import Derived.Deep.RegionHeld3
namespace Go.Proofs.YteheolefemlcgaaGreat
open Go.RowKit
set_option linter.unusedVariables false
set_option linter.unusedSimpArgs false

set_option maxRecDepth 100000 in
set_option maxHeartbeats 800000 in
theorem Nd_At (b g : Nat) (h : PH) (hz : h.n ≤ 65536) (i : Nat) (hi : i < h.n) (w : World) (hin : NdIn w b g h) : Calls Tryz.prog 70 #[.pointer (some ⟨b, 0, none⟩), .int .i64 i] w fun e w' => e = .returned (.agg #[.int .i64 (h.key i).k, .int .i64 (h.key i).n, .string (h.key i).s, .int .i64 (h.val i).k, .int .i64 (h.val i).n, .string (h.val i).s, .int .i64 (h.nxt (mpos h.n) i)]) ∧ Below w.heap.size w w' := by
  have HI := Lib.hid hin
  have hb := (Below.refl w.heap.size w).alloc (Nat.le_refl _) (.cells #[.int .i64 0, .int .i64 0, .string ⟨#[]⟩, .int .i64 0, .int .i64 0, .string ⟨#[]⟩, .int .i64 0] 44)
  have HB := Lib.hid hb
  have hin' := hin.belowM hb
  obtain ⟨k0, k1, k2⟩ := hin'.key i hi
  obtain ⟨v0, v1, v2⟩ := hin'.val i hi
  have nx := hin'.nx i hi
  have c0 := hin'.c0
  have HI' := Lib.hid hin'
  obtain ⟨n, hn⟩ : ∃ n, h.n = n := ⟨_, rfl⟩
  have HN := Lib.hid hn
  rw [hn] at hz hi c0
  have d1 : decide ((i : Int) < 0) = false := by simp
  have d2 : decide ((n : Int) ≤ (i : Int)) = false := by simp; omega
  have i1 : (i : Int) < (n : Int) := by omega
  clear hin hn hin' hb
  go_enter Tryz.func70, Tryz.ntmps70
  go_wp2_with (first | (go_at_call 68; (with_reducible refine (Nd_SizeI b g h _ HI'.out).mono ?_); rintro e w1 ⟨rfl, rfl⟩; rw [HN.out]))
  exact bodyPost_ret (v := .agg #[.int .i64 (h.key i).k, .int .i64 (h.key i).n, .string (h.key i).s, .int .i64 (h.val i).k, .int .i64 (h.val i).n, .string (h.val i).s, .int .i64 (h.nxt (mpos h.n) i)]) (by simp [results, Tryz.results70, go_sem, cell_set_self, *]) rfl ⟨rfl, (Below.refl _ w).alloc (Nat.le_refl _) _⟩
theorem Nd_At_no (b g : Nat) (h : PH) (hz : h.n ≤ 65536) (i : Int) (hi : i < 0 ∨ (h.n : Int) ≤ i) (w : World) (hin : NdIn w b g h) : Calls Tryz.prog 70 #[.pointer (some ⟨b, 0, none⟩), .int .i64 i] w fun e w' => e = .returned (.agg #[.int .i64 0, .int .i64 0, .string ⟨#[]⟩, .int .i64 0, .int .i64 0, .string ⟨#[]⟩, .int .i64 0]) ∧ Below w.heap.size w w' := by
  have hb := (Below.refl w.heap.size w).alloc (Nat.le_refl _) (.cells #[.int .i64 0, .int .i64 0, .string ⟨#[]⟩, .int .i64 0, .int .i64 0, .string ⟨#[]⟩, .int .i64 0] 44)
  have HB := Lib.hid hb
  have HI' := Lib.hid (hin.belowM hb)
  obtain ⟨n, hn⟩ : ∃ n, h.n = n := ⟨_, rfl⟩
  have HN := Lib.hid hn
  rw [hn] at hz hi
  clear hin hn hb
  by_cases h0 : i < 0
  · have d1 : decide (i < 0) = true := by simpa using h0
    go_enter Tryz.func70, Tryz.ntmps70
    go_wp2
    exact bodyPost_ret (v := .agg #[.int .i64 0, .int .i64 0, .string ⟨#[]⟩, .int .i64 0, .int .i64 0, .string ⟨#[]⟩, .int .i64 0]) (by simp [results, Tryz.results70, go_sem, cell_set_self, *]) rfl ⟨rfl, HB.out⟩
  · have d1 : decide (i < 0) = false := by simpa using h0
    have d2 : decide ((n : Int) ≤ i) = true := by simpa using hi.resolve_left h0
    go_enter Tryz.func70, Tryz.ntmps70
    go_wp2_with (first | (go_at_call 68; (with_reducible refine (Nd_SizeI b g h _ HI'.out).mono ?_); rintro e w1 ⟨rfl, rfl⟩; rw [HN.out]))
    exact bodyPost_ret (v := .agg #[.int .i64 0, .int .i64 0, .string ⟨#[]⟩, .int .i64 0, .int .i64 0, .string ⟨#[]⟩, .int .i64 0]) (by simp [results, Tryz.results70, go_sem, cell_set_self, *]) rfl ⟨rfl, HB.out⟩
/-- The key and the value at a place. -/
def PT.pair (p : PT) (i : Int) : V × V := if i < 1 then (nilV, nilV) else if i ≤ p.sn then (iV i, p.sv (i - 1).toNat) else if i - 1 - p.sn < p.h.n then (p.h.key (i - 1 - p.sn).toNat, p.h.val (i - 1 - p.sn).toNat) else (nilV, nilV)
def vagg (v : V) : Value := .agg #[.int .i64 v.k, .int .i64 v.n, .string v.s]
set_option maxRecDepth 100000 in
set_option maxHeartbeats 800000 in
/-- Pair of a slot. -/
theorem tab_Pair_in (a s b g hp : Nat) (t : Tbl) (hz : t.p.sn ≤ 65536) (i : Nat) (h2 : i < t.p.sn) (v : V) (hv : t.p.sv i = v) (w : World) (H : TabIn w a s b g hp t) : Calls Tryz.prog 21 #[.pointer (some ⟨a, 0, none⟩), .int .i64 ((i : Int) + 1)] w fun e w' => e = .returned (.tuple #[vagg (iV ((i : Int) + 1)), vagg v]) ∧ Below w.heap.size w w' := by
  have HI := Lib.hid H
  have HV := Lib.hid hv
  obtain ⟨n, hn⟩ : ∃ n, t.p.sn = n := ⟨_, rfl⟩
  have HN := Lib.hid hn
  rw [hn] at hz h2
  have d0 : decide ((i : Int) + 1 < 1) = false := by simp; omega
  have d1 : decide ((i : Int) + 1 ≤ (n : Int)) = true := by simp; omega
  have wi : wrap64 ((i : Int) + 1 - 1) = (i : Int) := by rw [wrap64_id (by unfold In64; omega)]; omega
  have i1 : (i : Int) < (n : Int) := by omega
  have i2 : (i : Int) + 1 - 1 = (i : Int) := by omega
  have w0 : wrap64 (i : Int) = (i : Int) := wrap64_id (by unfold In64; omega)
  have w1 : IntKind.i64.wrap (i : Int) = (i : Int) := Go.IntWalk.i64_in _ (by omega)
  have i3 : (n : Int) ≤ 65536 := by omega
  have i4 : i < n := h2
  have i5 : (0 : Int) ≤ (i : Int) := by omega
  have i6 : (i : Int) ≤ (n : Int) := by omega
  obtain ⟨vk, vn, vs⟩ := v
  have HC : Hid (∀ w', Below w.heap.size w w' → w'.cell? ⟨a, 0, none⟩ = some (.slice (some ⟨s, 0, none⟩) n n) ∧ w'.cell? ⟨s, i * 3, none⟩ = some (.int .i64 vk) ∧ w'.cell? ⟨s, i * 3 + 1, none⟩ = some (.int .i64 vn) ∧ w'.cell? ⟨s, i * 3 + 2, none⟩ = some (.string vs)) := Lib.hid (fun w' hb => by
    have h := HI.out.below hb
    have h3 := h.pt.sl i (by rw [HN.out]; omega)
    rw [HV.out] at h3
    exact ⟨by rw [← HN.out]; exact h.pt.c0, h3.c0, h3.c1, h3.c2⟩)
  have hb2 := ((Below.refl w.heap.size w).alloc (Nat.le_refl _) (.cells #[.int .i64 0, .int .i64 0, .string ⟨#[]⟩] 35)).alloc (by simp) (.cells #[.int .i64 0, .int .i64 0, .string ⟨#[]⟩] 35)
  obtain ⟨c0, k0, k1, k2⟩ := HC.out _ hb2
  clear H hv hn
  unfold vagg iV
  go_enter Tryz.func21, Tryz.ntmps21
  go_wp2
  go_region_held3 (fun w' => w'.cell? ⟨a, 0, none⟩ = some (.slice (some ⟨s, 0, none⟩) n n) ∧ w'.cell? ⟨s, i * 3, none⟩ = some (.int .i64 vk) ∧ w'.cell? ⟨s, i * 3 + 1, none⟩ = some (.int .i64 vn) ∧ w'.cell? ⟨s, i * 3 + 2, none⟩ = some (.string vs))
    (first | (refine HC.out _ ?_; (repeat (first | exact Below.refl _ w | refine Below.drew ?_ | refine Below.alloc ?_ (by simp [go_sem]) _ | refine Below.setCell ?_ (by simp [go_sem]) _)); done) | assumption)
    (fail)
  all_goals go_wp2
  all_goals exact bodyPost_ret (v := .tuple #[.agg #[.int .i64 2, .int .i64 ((i : Int) + 1), .string ⟨#[]⟩], .agg #[.int .i64 vk, .int .i64 vn, .string vs]]) (by simp [results, Tryz.results21, go_sem, cell_set_self, *]) rfl ⟨rfl, (((Below.refl _ w).alloc (Nat.le_refl _) _).alloc (by simp) _).drew⟩
end Go.Proofs.YteheolefemlcgaaGreat
