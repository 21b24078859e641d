/- Merged of Box15, Box16, Box17. -/
import Derived.Test.YtpppcoobibmlhaaDoorBoxC
import Derived.Deep.RegionHeld3
/- The reference's answers on values: Join. -/
namespace Go.Proofs.YtpppcoobibmlhaaDoor
open Go.RowKit
set_option linter.unusedVariables false
set_option linter.unusedSimpArgs false

def JS (w1 : World) (z : Nat) (ak an : Int) (az : ByteArray) (bk bn : Int) (bz : ByteArray) (wr : World) : Prop :=
  wr.cell? ⟨z, 0, none⟩ = some (.int .i64 ak) ∧ wr.cell? ⟨z, 1, none⟩ = some (.int .i64 an) ∧ wr.cell? ⟨z, 2, none⟩ = some (.string az) ∧
  wr.cell? ⟨z + 1, 0, none⟩ = some (.int .i64 bk) ∧ wr.cell? ⟨z + 1, 1, none⟩ = some (.int .i64 bn) ∧ wr.cell? ⟨z + 1, 2, none⟩ = some (.string bz) ∧ Below (z + 3) w1 wr ∧ z + 3 ≤ wr.heap.size
theorem JS_drew {w1 : World} {z : Nat} {ak an : Int} {az : ByteArray} {bk bn : Int} {bz : ByteArray} {wr : World} (h : JS w1 z ak an az bk bn bz wr) : JS w1 z ak an az bk bn bz wr.drew := by
  obtain ⟨a, b, c, d, e, f, g, i⟩ := h
  exact ⟨a, b, c, d, e, f, g.drew, i⟩
theorem JS_step {w1 : World} {z : Nat} {ak an : Int} {az : ByteArray} {bk bn : Int} {bz : ByteArray} {wr w2 : World} (h : JS w1 z ak an az bk bn bz wr) (hb : Below wr.heap.size wr w2) : JS w1 z ak an az bk bn bz w2 := by
  obtain ⟨a, b, c, d, e, f, g, i⟩ := h
  exact ⟨by rw [hb.cell (by simp; omega)]; exact a, by rw [hb.cell (by simp; omega)]; exact b, by rw [hb.cell (by simp; omega)]; exact c, by rw [hb.cell (by simp; omega)]; exact d, by rw [hb.cell (by simp; omega)]; exact e, by rw [hb.cell (by simp; omega)]; exact f, g.trans (hb.mono i), Nat.le_trans i hb.size⟩
theorem ref_S_c (t : ByteArray) (w : World) : Calls Tryd.prog 31 #[.string t] w fun e w' => e = .returned (.agg #[.int .i64 3, .int .i64 0, .string t]) ∧ Below w.heap.size w w' := ref_S t w
set_option maxRecDepth 100000 in
theorem ref_Join_bad (ak an : Int) (az : ByteArray) (bk bn : Int) (bz : ByteArray) (h : bothE ⟨ak, an, az⟩ ⟨bk, bn, bz⟩ = 2) (w : World) :
    Calls Tryd.prog 53 #[.agg #[.int .i64 ak, .int .i64 an, .string az], .agg #[.int .i64 bk, .int .i64 bn, .string bz]] w fun e w' => e = .returned (.tuple #[vv nilV, .int .i64 (2)]) ∧ Below w.heap.size w w' := by
  have hu := Tryd.underlying33
  have HB := Lib.hid h
  clear h
  go_enter Tryd.func53, Tryd.ntmps53
  go_wp2_with (first | (go_at_call 28; (with_reducible refine (ref_Both_g ak an az bk bn bz _ HB.out _).mono ?_); rintro e w1 ⟨rfl, hb1⟩; have hB1 : Below w.heap.size w w1 := below_step (by repeat (first | exact Below.refl _ _ | assumption | refine below_drewN ?_ _ | refine Below.drew ?_ | refine Below.alloc ?_ (by first | exact Nat.le_refl _ | (simp; omega) | omega | simp) _ | refine Below.setCell ?_ (by first | exact Nat.le_refl _ | (simp; omega) | simp | omega) _)) hb1; obtain ⟨hc1, hf1, hz1⟩ := bcell hb1; (try simp only [sz_alloc, sz_set, sz_drew, sz_drewN] at hc1 hf1 hz1); clear hb1))
  exact bodyPost_ret (v := .tuple #[.agg #[.int .i64 0, .int .i64 0, .string ⟨#[]⟩], .int .i64 2]) (by simp [results, Tryd.results53, go_sem, cell_set_self, *]) rfl ⟨rfl, (by repeat (first | exact Below.refl _ _ | assumption | refine below_drewN ?_ _ | refine Below.drew ?_ | refine Below.alloc ?_ (by first | exact Nat.le_refl _ | (simp; omega) | omega | simp) _ | refine Below.setCell ?_ (by first | exact Nat.le_refl _ | (simp; omega) | simp | omega) _))⟩
set_option maxRecDepth 100000 in
theorem ref_Join_x (ak an : Int) (az : ByteArray) (bk bn : Int) (bz : ByteArray) (h : bothE ⟨ak, an, az⟩ ⟨bk, bn, bz⟩ = 0) (h2 : ak ≠ 2) (h3 : ak ≠ 3) (w : World) :
    Calls Tryd.prog 53 #[.agg #[.int .i64 ak, .int .i64 an, .string az], .agg #[.int .i64 bk, .int .i64 bn, .string bz]] w fun e w' => e = .returned (.tuple #[vv nilV, .int .i64 (8)]) ∧ Below w.heap.size w w' := by
  have hu := Tryd.underlying33
  have HB := Lib.hid h
  clear h
  have d1 : (ak != 2) = true := by simpa using h2
  have d2 : (ak != 3) = true := by simpa using h3
  clear h2 h3
  go_enter Tryd.func53, Tryd.ntmps53
  go_wp2_with (first | (go_at_call 28; (with_reducible refine (ref_Both_g ak an az bk bn bz _ HB.out _).mono ?_); rintro e w1 ⟨rfl, hb1⟩; have hB1 : Below w.heap.size w w1 := below_step (by repeat (first | exact Below.refl _ _ | assumption | refine below_drewN ?_ _ | refine Below.drew ?_ | refine Below.alloc ?_ (by first | exact Nat.le_refl _ | (simp; omega) | omega | simp) _ | refine Below.setCell ?_ (by first | exact Nat.le_refl _ | (simp; omega) | simp | omega) _)) hb1; obtain ⟨hc1, hf1, hz1⟩ := bcell hb1; (try simp only [sz_alloc, sz_set, sz_drew, sz_drewN] at hc1 hf1 hz1); clear hb1))
  exact bodyPost_ret (v := .tuple #[.agg #[.int .i64 0, .int .i64 0, .string ⟨#[]⟩], .int .i64 8]) (by simp [results, Tryd.results53, go_sem, cell_set_self, *]) rfl ⟨rfl, (by repeat (first | exact Below.refl _ _ | assumption | refine below_drewN ?_ _ | refine Below.drew ?_ | refine Below.alloc ?_ (by first | exact Nat.le_refl _ | (simp; omega) | omega | simp) _ | refine Below.setCell ?_ (by first | exact Nat.le_refl _ | (simp; omega) | simp | omega) _))⟩
set_option maxRecDepth 100000 in
theorem ref_Join_i_x (an : Int) (az : ByteArray) (bk bn : Int) (bz : ByteArray) (h : bothE ⟨2, an, az⟩ ⟨bk, bn, bz⟩ = 0) (h2 : bk ≠ 2) (h3 : bk ≠ 3) (w : World) :
    Calls Tryd.prog 53 #[.agg #[.int .i64 2, .int .i64 an, .string az], .agg #[.int .i64 bk, .int .i64 bn, .string bz]] w fun e w' => e = .returned (.tuple #[vv nilV, .int .i64 (8)]) ∧ Below w.heap.size w w' := by
  have hu := Tryd.underlying33
  have HB := Lib.hid h
  clear h
  have d1 : (bk != 2) = true := by simpa using h2
  have d2 : (bk != 3) = true := by simpa using h3
  clear h2 h3
  go_enter Tryd.func53, Tryd.ntmps53
  go_wp2_with (first | (go_at_call 28; (with_reducible refine (ref_Both_g 2 an az bk bn bz _ HB.out _).mono ?_); rintro e w1 ⟨rfl, hb1⟩; have hB1 : Below w.heap.size w w1 := below_step (by repeat (first | exact Below.refl _ _ | assumption | refine below_drewN ?_ _ | refine Below.drew ?_ | refine Below.alloc ?_ (by first | exact Nat.le_refl _ | (simp; omega) | omega | simp) _ | refine Below.setCell ?_ (by first | exact Nat.le_refl _ | (simp; omega) | simp | omega) _)) hb1; obtain ⟨hc1, hf1, hz1⟩ := bcell hb1; (try simp only [sz_alloc, sz_set, sz_drew, sz_drewN] at hc1 hf1 hz1); clear hb1))
  exact bodyPost_ret (v := .tuple #[.agg #[.int .i64 0, .int .i64 0, .string ⟨#[]⟩], .int .i64 8]) (by simp [results, Tryd.results53, go_sem, cell_set_self, *]) rfl ⟨rfl, (by repeat (first | exact Below.refl _ _ | assumption | refine below_drewN ?_ _ | refine Below.drew ?_ | refine Below.alloc ?_ (by first | exact Nat.le_refl _ | (simp; omega) | omega | simp) _ | refine Below.setCell ?_ (by first | exact Nat.le_refl _ | (simp; omega) | simp | omega) _))⟩
set_option maxRecDepth 100000 in
theorem ref_Join_s_x (an : Int) (az : ByteArray) (bk bn : Int) (bz : ByteArray) (h : bothE ⟨3, an, az⟩ ⟨bk, bn, bz⟩ = 0) (h2 : bk ≠ 2) (h3 : bk ≠ 3) (w : World) :
    Calls Tryd.prog 53 #[.agg #[.int .i64 3, .int .i64 an, .string az], .agg #[.int .i64 bk, .int .i64 bn, .string bz]] w fun e w' => e = .returned (.tuple #[vv nilV, .int .i64 (8)]) ∧ Below w.heap.size w w' := by
  have hu := Tryd.underlying33
  have HB := Lib.hid h
  clear h
  have d1 : (bk != 2) = true := by simpa using h2
  have d2 : (bk != 3) = true := by simpa using h3
  clear h2 h3
  go_enter Tryd.func53, Tryd.ntmps53
  go_wp2_with (first | (go_at_call 28; (with_reducible refine (ref_Both_g 3 an az bk bn bz _ HB.out _).mono ?_); rintro e w1 ⟨rfl, hb1⟩; have hB1 : Below w.heap.size w w1 := below_step (by repeat (first | exact Below.refl _ _ | assumption | refine below_drewN ?_ _ | refine Below.drew ?_ | refine Below.alloc ?_ (by first | exact Nat.le_refl _ | (simp; omega) | omega | simp) _ | refine Below.setCell ?_ (by first | exact Nat.le_refl _ | (simp; omega) | simp | omega) _)) hb1; obtain ⟨hc1, hf1, hz1⟩ := bcell hb1; (try simp only [sz_alloc, sz_set, sz_drew, sz_drewN] at hc1 hf1 hz1); clear hb1))
  exact bodyPost_ret (v := .tuple #[.agg #[.int .i64 0, .int .i64 0, .string ⟨#[]⟩], .int .i64 8]) (by simp [results, Tryd.results53, go_sem, cell_set_self, *]) rfl ⟨rfl, (by repeat (first | exact Below.refl _ _ | assumption | refine below_drewN ?_ _ | refine Below.drew ?_ | refine Below.alloc ?_ (by first | exact Nat.le_refl _ | (simp; omega) | omega | simp) _ | refine Below.setCell ?_ (by first | exact Nat.le_refl _ | (simp; omega) | simp | omega) _))⟩
set_option maxRecDepth 100000 in
theorem ref_Join_ii_big (an : Int) (az : ByteArray) (bn : Int) (bz : ByteArray) (h : bothE ⟨2, an, az⟩ ⟨2, bn, bz⟩ = 0) (t u : ByteArray) (st : t.size ≤ 10000) (su : u.size ≤ 10000)
    (hs : 10000 < t.size + u.size)
    (ht : ∀ w, Calls Tryd.prog 60 #[.agg #[.int .i64 2, .int .i64 an, .string az]] w fun e w' => e = .returned (.string t) ∧ Below w.heap.size w w')
    (hv : ∀ w, Calls Tryd.prog 60 #[.agg #[.int .i64 2, .int .i64 bn, .string bz]] w fun e w' => e = .returned (.string u) ∧ Below w.heap.size w w') (w : World) :
    Calls Tryd.prog 53 #[.agg #[.int .i64 2, .int .i64 an, .string az], .agg #[.int .i64 2, .int .i64 bn, .string bz]] w fun e w' => e = .returned (.tuple #[vv nilV, .int .i64 14]) ∧ Below w.heap.size w w' := by
  have hu := Tryd.underlying33
  have HB := Lib.hid h; have HT := Lib.hid ht; have HV := Lib.hid hv
  clear h ht hv
  go_enter Tryd.func53, Tryd.ntmps53
  go_wp2_with (first | (go_at_call 28; (with_reducible refine (ref_Both_g 2 an az 2 bn bz _ HB.out _).mono ?_); rintro e w1 ⟨rfl, hb1⟩; have hB1 : Below w.heap.size w w1 := below_step (by repeat (first | exact Below.refl _ _ | assumption | refine below_drewN ?_ _ | refine Below.drew ?_ | refine Below.alloc ?_ (by first | exact Nat.le_refl _ | (simp; omega) | omega | simp) _ | refine Below.setCell ?_ (by first | exact Nat.le_refl _ | (simp; omega) | simp | omega) _)) hb1; obtain ⟨hc1, hf1, hz1⟩ := bcell hb1; (try simp only [sz_alloc, sz_set, sz_drew, sz_drewN] at hc1 hf1 hz1); clear hb1))
  have z3 : w.heap.size + 3 ≤ w1.heap.size := by have := hz1 (w.heap.size + 2) (by omega); omega
  have S0 : JS w1 w.heap.size 2 an az 2 bn bz w1 := by
    refine ⟨?_, ?_, ?_, ?_, ?_, ?_, Below.refl _ _, z3⟩ <;> (rw [hc1 _ _ (by omega)]; simp [go_sem])
  have m1 : (9223372036854775807 < t.size + u.size) = False := by simp; omega
  have m2 : decide (9223372036854775807 < t.size + u.size) = false := by simp; omega
  have m3 : t.size + u.size ≤ 9223372036854775807 := by omega
  have m4 : ¬ (9223372036854775807 < t.size + u.size) := by omega
  have S1 : ∀ wr w2, JS w1 w.heap.size 2 an az 2 bn bz wr → Below wr.heap.size wr w2 → JS w1 w.heap.size 2 an az 2 bn bz w2 := fun wr w2 h hb => JS_step h hb
  go_region_held3 (fun wr => wr.cell? ⟨w.heap.size, 0, none⟩ = some (.int .i64 2) ∧ wr.cell? ⟨w.heap.size, 1, none⟩ = some (.int .i64 an) ∧ wr.cell? ⟨w.heap.size, 2, none⟩ = some (.string az) ∧
    wr.cell? ⟨w.heap.size + 1, 0, none⟩ = some (.int .i64 2) ∧ wr.cell? ⟨w.heap.size + 1, 1, none⟩ = some (.int .i64 bn) ∧ wr.cell? ⟨w.heap.size + 1, 2, none⟩ = some (.string bz) ∧ Below (w.heap.size + 3) w1 wr ∧ w.heap.size + 3 ≤ wr.heap.size)
    (first | exact JS_drew S0 | assumption | (go_split_ands; refine ⟨?_, ?_, ?_, ?_, ?_, ?_, ?_, ?_⟩ <;> assumption) | (refine S1 _ _ ?_ (by assumption); first | assumption | (go_split_ands; refine ⟨?_, ?_, ?_, ?_, ?_, ?_, ?_, ?_⟩ <;> assumption)))
    (first | (go_at_call 60; (with_reducible refine (HT.out _).mono ?_); rintro e w2 ⟨rfl, hb2⟩) | (go_at_call 60; (with_reducible refine (HV.out _).mono ?_); rintro e w2 ⟨rfl, hb2⟩))
  rename_i hH
  obtain ⟨-, -, -, -, -, -, hBw, hzw⟩ := hH
  have hB3 : Below w.heap.size w w2 := hB1.trans (hBw.mono (by omega))
  have hc3 := fun b o (h : b < w.heap.size + 1 + 1 + 1) => (hBw.cell (p := ⟨b, o, none⟩) h).trans (hc1 b o h)
  have hf3 := fun b o (h : b < w.heap.size + 1 + 1 + 1) => (hBw.frozen (p := ⟨b, o, none⟩) h).trans (hf1 b o h)
  have hz3 : ∀ n, n < w.heap.size + 1 + 1 + 1 → n < w2.heap.size := fun n h => by omega
  clear hBw hc1 hf1 hz1 S0 S1 hB1
  have d3 : decide (10000 < (t.size : Int) + u.size) = true := by simp; omega
  go_wp2_with (first | (go_at_call 31; refine (ref_S_c _ _).mono ?_; rintro e w4 ⟨rfl, hb4⟩; have hB4 : Below w.heap.size w w4 := below_step (by repeat (first | exact Below.refl _ _ | assumption | refine below_drewN ?_ _ | refine Below.drew ?_ | refine Below.alloc ?_ (by first | exact Nat.le_refl _ | (simp; omega) | omega | simp) _ | refine Below.setCell ?_ (by first | exact Nat.le_refl _ | (simp; omega) | simp | omega) _)) hb4; obtain ⟨hc4, hf4, hz4⟩ := bcell hb4; (try simp only [sz_alloc, sz_set, sz_drew, sz_drewN] at hc4 hf4 hz4); clear hb4; replace hc4 := fun b o h => (hc4 b o (hz3 b h)).trans (hc3 b o h); replace hf4 := fun b o h => (hf4 b o (hz3 b h)).trans (hf3 b o h); replace hz4 := fun n h => hz4 n (hz3 n h); clear hc3 hf3 hz3))
  exact bodyPost_ret (v := .tuple #[.agg #[.int .i64 0, .int .i64 0, .string ⟨#[]⟩], .int .i64 14]) (by simp [results, Tryd.results53, go_sem, cell_set_self, *]) rfl ⟨rfl, (by repeat (first | exact Below.refl _ _ | assumption | refine below_drewN ?_ _ | refine Below.drew ?_ | refine Below.alloc ?_ (by first | exact Nat.le_refl _ | (simp; omega) | omega | simp) _ | refine Below.setCell ?_ (by first | exact Nat.le_refl _ | (simp; omega) | simp | omega) _))⟩
set_option maxRecDepth 100000 in
theorem ref_Join_ii_yes (an : Int) (az : ByteArray) (bn : Int) (bz : ByteArray) (h : bothE ⟨2, an, az⟩ ⟨2, bn, bz⟩ = 0) (t u : ByteArray) (st : t.size ≤ 10000) (su : u.size ≤ 10000)
    (hs : t.size + u.size ≤ 10000)
    (ht : ∀ w, Calls Tryd.prog 60 #[.agg #[.int .i64 2, .int .i64 an, .string az]] w fun e w' => e = .returned (.string t) ∧ Below w.heap.size w w')
    (hv : ∀ w, Calls Tryd.prog 60 #[.agg #[.int .i64 2, .int .i64 bn, .string bz]] w fun e w' => e = .returned (.string u) ∧ Below w.heap.size w w') (w : World) :
    Calls Tryd.prog 53 #[.agg #[.int .i64 2, .int .i64 an, .string az], .agg #[.int .i64 2, .int .i64 bn, .string bz]] w fun e w' => e = .returned (.tuple #[vv ⟨3, 0, t ++ u⟩, .int .i64 0]) ∧ Below w.heap.size w w' := by
  have hu := Tryd.underlying33
  have HB := Lib.hid h; have HT := Lib.hid ht; have HV := Lib.hid hv
  clear h ht hv
  go_enter Tryd.func53, Tryd.ntmps53
  go_wp2_with (first | (go_at_call 28; (with_reducible refine (ref_Both_g 2 an az 2 bn bz _ HB.out _).mono ?_); rintro e w1 ⟨rfl, hb1⟩; have hB1 : Below w.heap.size w w1 := below_step (by repeat (first | exact Below.refl _ _ | assumption | refine below_drewN ?_ _ | refine Below.drew ?_ | refine Below.alloc ?_ (by first | exact Nat.le_refl _ | (simp; omega) | omega | simp) _ | refine Below.setCell ?_ (by first | exact Nat.le_refl _ | (simp; omega) | simp | omega) _)) hb1; obtain ⟨hc1, hf1, hz1⟩ := bcell hb1; (try simp only [sz_alloc, sz_set, sz_drew, sz_drewN] at hc1 hf1 hz1); clear hb1))
  have z3 : w.heap.size + 3 ≤ w1.heap.size := by have := hz1 (w.heap.size + 2) (by omega); omega
  have S0 : JS w1 w.heap.size 2 an az 2 bn bz w1 := by
    refine ⟨?_, ?_, ?_, ?_, ?_, ?_, Below.refl _ _, z3⟩ <;> (rw [hc1 _ _ (by omega)]; simp [go_sem])
  have m1 : (9223372036854775807 < t.size + u.size) = False := by simp; omega
  have m2 : decide (9223372036854775807 < t.size + u.size) = false := by simp; omega
  have m3 : t.size + u.size ≤ 9223372036854775807 := by omega
  have m4 : ¬ (9223372036854775807 < t.size + u.size) := by omega
  have S1 : ∀ wr w2, JS w1 w.heap.size 2 an az 2 bn bz wr → Below wr.heap.size wr w2 → JS w1 w.heap.size 2 an az 2 bn bz w2 := fun wr w2 h hb => JS_step h hb
  go_region_held3 (fun wr => wr.cell? ⟨w.heap.size, 0, none⟩ = some (.int .i64 2) ∧ wr.cell? ⟨w.heap.size, 1, none⟩ = some (.int .i64 an) ∧ wr.cell? ⟨w.heap.size, 2, none⟩ = some (.string az) ∧
    wr.cell? ⟨w.heap.size + 1, 0, none⟩ = some (.int .i64 2) ∧ wr.cell? ⟨w.heap.size + 1, 1, none⟩ = some (.int .i64 bn) ∧ wr.cell? ⟨w.heap.size + 1, 2, none⟩ = some (.string bz) ∧ Below (w.heap.size + 3) w1 wr ∧ w.heap.size + 3 ≤ wr.heap.size)
    (first | exact JS_drew S0 | assumption | (go_split_ands; refine ⟨?_, ?_, ?_, ?_, ?_, ?_, ?_, ?_⟩ <;> assumption) | (refine S1 _ _ ?_ (by assumption); first | assumption | (go_split_ands; refine ⟨?_, ?_, ?_, ?_, ?_, ?_, ?_, ?_⟩ <;> assumption)))
    (first | (go_at_call 60; (with_reducible refine (HT.out _).mono ?_); rintro e w2 ⟨rfl, hb2⟩) | (go_at_call 60; (with_reducible refine (HV.out _).mono ?_); rintro e w2 ⟨rfl, hb2⟩))
  rename_i hH
  obtain ⟨-, -, -, -, -, -, hBw, hzw⟩ := hH
  have hB3 : Below w.heap.size w w2 := hB1.trans (hBw.mono (by omega))
  have hc3 := fun b o (h : b < w.heap.size + 1 + 1 + 1) => (hBw.cell (p := ⟨b, o, none⟩) h).trans (hc1 b o h)
  have hf3 := fun b o (h : b < w.heap.size + 1 + 1 + 1) => (hBw.frozen (p := ⟨b, o, none⟩) h).trans (hf1 b o h)
  have hz3 : ∀ n, n < w.heap.size + 1 + 1 + 1 → n < w2.heap.size := fun n h => by omega
  clear hBw hc1 hf1 hz1 S0 S1 hB1
  have d3 : decide (10000 < (t.size : Int) + u.size) = false := by simp; omega
  go_wp2_with (first | (go_at_call 31; refine (ref_S_c _ _).mono ?_; rintro e w4 ⟨rfl, hb4⟩; have hB4 : Below w.heap.size w w4 := below_step (by repeat (first | exact Below.refl _ _ | assumption | refine below_drewN ?_ _ | refine Below.drew ?_ | refine Below.alloc ?_ (by first | exact Nat.le_refl _ | (simp; omega) | omega | simp) _ | refine Below.setCell ?_ (by first | exact Nat.le_refl _ | (simp; omega) | simp | omega) _)) hb4; obtain ⟨hc4, hf4, hz4⟩ := bcell hb4; (try simp only [sz_alloc, sz_set, sz_drew, sz_drewN] at hc4 hf4 hz4); clear hb4; replace hc4 := fun b o h => (hc4 b o (hz3 b h)).trans (hc3 b o h); replace hf4 := fun b o h => (hf4 b o (hz3 b h)).trans (hf3 b o h); replace hz4 := fun n h => hz4 n (hz3 n h); clear hc3 hf3 hz3))
  exact bodyPost_ret (v := .tuple #[.agg #[.int .i64 3, .int .i64 0, .string (t ++ u)], .int .i64 0]) (by simp [results, Tryd.results53, go_sem, cell_set_self, *]) rfl ⟨rfl, (by repeat (first | exact Below.refl _ _ | assumption | refine below_drewN ?_ _ | refine Below.drew ?_ | refine Below.alloc ?_ (by first | exact Nat.le_refl _ | (simp; omega) | omega | simp) _ | refine Below.setCell ?_ (by first | exact Nat.le_refl _ | (simp; omega) | simp | omega) _))⟩
set_option maxRecDepth 100000 in
theorem ref_Join_is_big (an : Int) (az : ByteArray) (bn : Int) (bz : ByteArray) (h : bothE ⟨2, an, az⟩ ⟨3, bn, bz⟩ = 0) (t u : ByteArray) (st : t.size ≤ 10000) (su : u.size ≤ 10000)
    (hs : 10000 < t.size + u.size)
    (ht : ∀ w, Calls Tryd.prog 60 #[.agg #[.int .i64 2, .int .i64 an, .string az]] w fun e w' => e = .returned (.string t) ∧ Below w.heap.size w w')
    (hv : ∀ w, Calls Tryd.prog 60 #[.agg #[.int .i64 3, .int .i64 bn, .string bz]] w fun e w' => e = .returned (.string u) ∧ Below w.heap.size w w') (w : World) :
    Calls Tryd.prog 53 #[.agg #[.int .i64 2, .int .i64 an, .string az], .agg #[.int .i64 3, .int .i64 bn, .string bz]] w fun e w' => e = .returned (.tuple #[vv nilV, .int .i64 14]) ∧ Below w.heap.size w w' := by
  have hu := Tryd.underlying33
  have HB := Lib.hid h; have HT := Lib.hid ht; have HV := Lib.hid hv
  clear h ht hv
  go_enter Tryd.func53, Tryd.ntmps53
  go_wp2_with (first | (go_at_call 28; (with_reducible refine (ref_Both_g 2 an az 3 bn bz _ HB.out _).mono ?_); rintro e w1 ⟨rfl, hb1⟩; have hB1 : Below w.heap.size w w1 := below_step (by repeat (first | exact Below.refl _ _ | assumption | refine below_drewN ?_ _ | refine Below.drew ?_ | refine Below.alloc ?_ (by first | exact Nat.le_refl _ | (simp; omega) | omega | simp) _ | refine Below.setCell ?_ (by first | exact Nat.le_refl _ | (simp; omega) | simp | omega) _)) hb1; obtain ⟨hc1, hf1, hz1⟩ := bcell hb1; (try simp only [sz_alloc, sz_set, sz_drew, sz_drewN] at hc1 hf1 hz1); clear hb1))
  have z3 : w.heap.size + 3 ≤ w1.heap.size := by have := hz1 (w.heap.size + 2) (by omega); omega
  have S0 : JS w1 w.heap.size 2 an az 3 bn bz w1 := by
    refine ⟨?_, ?_, ?_, ?_, ?_, ?_, Below.refl _ _, z3⟩ <;> (rw [hc1 _ _ (by omega)]; simp [go_sem])
  have m1 : (9223372036854775807 < t.size + u.size) = False := by simp; omega
  have m2 : decide (9223372036854775807 < t.size + u.size) = false := by simp; omega
  have m3 : t.size + u.size ≤ 9223372036854775807 := by omega
  have m4 : ¬ (9223372036854775807 < t.size + u.size) := by omega
  have S1 : ∀ wr w2, JS w1 w.heap.size 2 an az 3 bn bz wr → Below wr.heap.size wr w2 → JS w1 w.heap.size 2 an az 3 bn bz w2 := fun wr w2 h hb => JS_step h hb
  go_region_held3 (fun wr => wr.cell? ⟨w.heap.size, 0, none⟩ = some (.int .i64 2) ∧ wr.cell? ⟨w.heap.size, 1, none⟩ = some (.int .i64 an) ∧ wr.cell? ⟨w.heap.size, 2, none⟩ = some (.string az) ∧
    wr.cell? ⟨w.heap.size + 1, 0, none⟩ = some (.int .i64 3) ∧ wr.cell? ⟨w.heap.size + 1, 1, none⟩ = some (.int .i64 bn) ∧ wr.cell? ⟨w.heap.size + 1, 2, none⟩ = some (.string bz) ∧ Below (w.heap.size + 3) w1 wr ∧ w.heap.size + 3 ≤ wr.heap.size)
    (first | exact JS_drew S0 | assumption | (go_split_ands; refine ⟨?_, ?_, ?_, ?_, ?_, ?_, ?_, ?_⟩ <;> assumption) | (refine S1 _ _ ?_ (by assumption); first | assumption | (go_split_ands; refine ⟨?_, ?_, ?_, ?_, ?_, ?_, ?_, ?_⟩ <;> assumption)))
    (first | (go_at_call 60; (with_reducible refine (HT.out _).mono ?_); rintro e w2 ⟨rfl, hb2⟩) | (go_at_call 60; (with_reducible refine (HV.out _).mono ?_); rintro e w2 ⟨rfl, hb2⟩))
  rename_i hH
  obtain ⟨-, -, -, -, -, -, hBw, hzw⟩ := hH
  have hB3 : Below w.heap.size w w2 := hB1.trans (hBw.mono (by omega))
  have hc3 := fun b o (h : b < w.heap.size + 1 + 1 + 1) => (hBw.cell (p := ⟨b, o, none⟩) h).trans (hc1 b o h)
  have hf3 := fun b o (h : b < w.heap.size + 1 + 1 + 1) => (hBw.frozen (p := ⟨b, o, none⟩) h).trans (hf1 b o h)
  have hz3 : ∀ n, n < w.heap.size + 1 + 1 + 1 → n < w2.heap.size := fun n h => by omega
  clear hBw hc1 hf1 hz1 S0 S1 hB1
  have d3 : decide (10000 < (t.size : Int) + u.size) = true := by simp; omega
  go_wp2_with (first | (go_at_call 31; refine (ref_S_c _ _).mono ?_; rintro e w4 ⟨rfl, hb4⟩; have hB4 : Below w.heap.size w w4 := below_step (by repeat (first | exact Below.refl _ _ | assumption | refine below_drewN ?_ _ | refine Below.drew ?_ | refine Below.alloc ?_ (by first | exact Nat.le_refl _ | (simp; omega) | omega | simp) _ | refine Below.setCell ?_ (by first | exact Nat.le_refl _ | (simp; omega) | simp | omega) _)) hb4; obtain ⟨hc4, hf4, hz4⟩ := bcell hb4; (try simp only [sz_alloc, sz_set, sz_drew, sz_drewN] at hc4 hf4 hz4); clear hb4; replace hc4 := fun b o h => (hc4 b o (hz3 b h)).trans (hc3 b o h); replace hf4 := fun b o h => (hf4 b o (hz3 b h)).trans (hf3 b o h); replace hz4 := fun n h => hz4 n (hz3 n h); clear hc3 hf3 hz3))
  exact bodyPost_ret (v := .tuple #[.agg #[.int .i64 0, .int .i64 0, .string ⟨#[]⟩], .int .i64 14]) (by simp [results, Tryd.results53, go_sem, cell_set_self, *]) rfl ⟨rfl, (by repeat (first | exact Below.refl _ _ | assumption | refine below_drewN ?_ _ | refine Below.drew ?_ | refine Below.alloc ?_ (by first | exact Nat.le_refl _ | (simp; omega) | omega | simp) _ | refine Below.setCell ?_ (by first | exact Nat.le_refl _ | (simp; omega) | simp | omega) _))⟩
set_option maxRecDepth 100000 in
theorem ref_Join_is_yes (an : Int) (az : ByteArray) (bn : Int) (bz : ByteArray) (h : bothE ⟨2, an, az⟩ ⟨3, bn, bz⟩ = 0) (t u : ByteArray) (st : t.size ≤ 10000) (su : u.size ≤ 10000)
    (hs : t.size + u.size ≤ 10000)
    (ht : ∀ w, Calls Tryd.prog 60 #[.agg #[.int .i64 2, .int .i64 an, .string az]] w fun e w' => e = .returned (.string t) ∧ Below w.heap.size w w')
    (hv : ∀ w, Calls Tryd.prog 60 #[.agg #[.int .i64 3, .int .i64 bn, .string bz]] w fun e w' => e = .returned (.string u) ∧ Below w.heap.size w w') (w : World) :
    Calls Tryd.prog 53 #[.agg #[.int .i64 2, .int .i64 an, .string az], .agg #[.int .i64 3, .int .i64 bn, .string bz]] w fun e w' => e = .returned (.tuple #[vv ⟨3, 0, t ++ u⟩, .int .i64 0]) ∧ Below w.heap.size w w' := by
  have hu := Tryd.underlying33
  have HB := Lib.hid h; have HT := Lib.hid ht; have HV := Lib.hid hv
  clear h ht hv
  go_enter Tryd.func53, Tryd.ntmps53
  go_wp2_with (first | (go_at_call 28; (with_reducible refine (ref_Both_g 2 an az 3 bn bz _ HB.out _).mono ?_); rintro e w1 ⟨rfl, hb1⟩; have hB1 : Below w.heap.size w w1 := below_step (by repeat (first | exact Below.refl _ _ | assumption | refine below_drewN ?_ _ | refine Below.drew ?_ | refine Below.alloc ?_ (by first | exact Nat.le_refl _ | (simp; omega) | omega | simp) _ | refine Below.setCell ?_ (by first | exact Nat.le_refl _ | (simp; omega) | simp | omega) _)) hb1; obtain ⟨hc1, hf1, hz1⟩ := bcell hb1; (try simp only [sz_alloc, sz_set, sz_drew, sz_drewN] at hc1 hf1 hz1); clear hb1))
  have z3 : w.heap.size + 3 ≤ w1.heap.size := by have := hz1 (w.heap.size + 2) (by omega); omega
  have S0 : JS w1 w.heap.size 2 an az 3 bn bz w1 := by
    refine ⟨?_, ?_, ?_, ?_, ?_, ?_, Below.refl _ _, z3⟩ <;> (rw [hc1 _ _ (by omega)]; simp [go_sem])
  have m1 : (9223372036854775807 < t.size + u.size) = False := by simp; omega
  have m2 : decide (9223372036854775807 < t.size + u.size) = false := by simp; omega
  have m3 : t.size + u.size ≤ 9223372036854775807 := by omega
  have m4 : ¬ (9223372036854775807 < t.size + u.size) := by omega
  have S1 : ∀ wr w2, JS w1 w.heap.size 2 an az 3 bn bz wr → Below wr.heap.size wr w2 → JS w1 w.heap.size 2 an az 3 bn bz w2 := fun wr w2 h hb => JS_step h hb
  go_region_held3 (fun wr => wr.cell? ⟨w.heap.size, 0, none⟩ = some (.int .i64 2) ∧ wr.cell? ⟨w.heap.size, 1, none⟩ = some (.int .i64 an) ∧ wr.cell? ⟨w.heap.size, 2, none⟩ = some (.string az) ∧
    wr.cell? ⟨w.heap.size + 1, 0, none⟩ = some (.int .i64 3) ∧ wr.cell? ⟨w.heap.size + 1, 1, none⟩ = some (.int .i64 bn) ∧ wr.cell? ⟨w.heap.size + 1, 2, none⟩ = some (.string bz) ∧ Below (w.heap.size + 3) w1 wr ∧ w.heap.size + 3 ≤ wr.heap.size)
    (first | exact JS_drew S0 | assumption | (go_split_ands; refine ⟨?_, ?_, ?_, ?_, ?_, ?_, ?_, ?_⟩ <;> assumption) | (refine S1 _ _ ?_ (by assumption); first | assumption | (go_split_ands; refine ⟨?_, ?_, ?_, ?_, ?_, ?_, ?_, ?_⟩ <;> assumption)))
    (first | (go_at_call 60; (with_reducible refine (HT.out _).mono ?_); rintro e w2 ⟨rfl, hb2⟩) | (go_at_call 60; (with_reducible refine (HV.out _).mono ?_); rintro e w2 ⟨rfl, hb2⟩))
  rename_i hH
  obtain ⟨-, -, -, -, -, -, hBw, hzw⟩ := hH
  have hB3 : Below w.heap.size w w2 := hB1.trans (hBw.mono (by omega))
  have hc3 := fun b o (h : b < w.heap.size + 1 + 1 + 1) => (hBw.cell (p := ⟨b, o, none⟩) h).trans (hc1 b o h)
  have hf3 := fun b o (h : b < w.heap.size + 1 + 1 + 1) => (hBw.frozen (p := ⟨b, o, none⟩) h).trans (hf1 b o h)
  have hz3 : ∀ n, n < w.heap.size + 1 + 1 + 1 → n < w2.heap.size := fun n h => by omega
  clear hBw hc1 hf1 hz1 S0 S1 hB1
  have d3 : decide (10000 < (t.size : Int) + u.size) = false := by simp; omega
  go_wp2_with (first | (go_at_call 31; refine (ref_S_c _ _).mono ?_; rintro e w4 ⟨rfl, hb4⟩; have hB4 : Below w.heap.size w w4 := below_step (by repeat (first | exact Below.refl _ _ | assumption | refine below_drewN ?_ _ | refine Below.drew ?_ | refine Below.alloc ?_ (by first | exact Nat.le_refl _ | (simp; omega) | omega | simp) _ | refine Below.setCell ?_ (by first | exact Nat.le_refl _ | (simp; omega) | simp | omega) _)) hb4; obtain ⟨hc4, hf4, hz4⟩ := bcell hb4; (try simp only [sz_alloc, sz_set, sz_drew, sz_drewN] at hc4 hf4 hz4); clear hb4; replace hc4 := fun b o h => (hc4 b o (hz3 b h)).trans (hc3 b o h); replace hf4 := fun b o h => (hf4 b o (hz3 b h)).trans (hf3 b o h); replace hz4 := fun n h => hz4 n (hz3 n h); clear hc3 hf3 hz3))
  exact bodyPost_ret (v := .tuple #[.agg #[.int .i64 3, .int .i64 0, .string (t ++ u)], .int .i64 0]) (by simp [results, Tryd.results53, go_sem, cell_set_self, *]) rfl ⟨rfl, (by repeat (first | exact Below.refl _ _ | assumption | refine below_drewN ?_ _ | refine Below.drew ?_ | refine Below.alloc ?_ (by first | exact Nat.le_refl _ | (simp; omega) | omega | simp) _ | refine Below.setCell ?_ (by first | exact Nat.le_refl _ | (simp; omega) | simp | omega) _))⟩
set_option maxRecDepth 100000 in
theorem ref_Join_si_big (an : Int) (az : ByteArray) (bn : Int) (bz : ByteArray) (h : bothE ⟨3, an, az⟩ ⟨2, bn, bz⟩ = 0) (t u : ByteArray) (st : t.size ≤ 10000) (su : u.size ≤ 10000)
    (hs : 10000 < t.size + u.size)
    (ht : ∀ w, Calls Tryd.prog 60 #[.agg #[.int .i64 3, .int .i64 an, .string az]] w fun e w' => e = .returned (.string t) ∧ Below w.heap.size w w')
    (hv : ∀ w, Calls Tryd.prog 60 #[.agg #[.int .i64 2, .int .i64 bn, .string bz]] w fun e w' => e = .returned (.string u) ∧ Below w.heap.size w w') (w : World) :
    Calls Tryd.prog 53 #[.agg #[.int .i64 3, .int .i64 an, .string az], .agg #[.int .i64 2, .int .i64 bn, .string bz]] w fun e w' => e = .returned (.tuple #[vv nilV, .int .i64 14]) ∧ Below w.heap.size w w' := by
  have hu := Tryd.underlying33
  have HB := Lib.hid h; have HT := Lib.hid ht; have HV := Lib.hid hv
  clear h ht hv
  go_enter Tryd.func53, Tryd.ntmps53
  go_wp2_with (first | (go_at_call 28; (with_reducible refine (ref_Both_g 3 an az 2 bn bz _ HB.out _).mono ?_); rintro e w1 ⟨rfl, hb1⟩; have hB1 : Below w.heap.size w w1 := below_step (by repeat (first | exact Below.refl _ _ | assumption | refine below_drewN ?_ _ | refine Below.drew ?_ | refine Below.alloc ?_ (by first | exact Nat.le_refl _ | (simp; omega) | omega | simp) _ | refine Below.setCell ?_ (by first | exact Nat.le_refl _ | (simp; omega) | simp | omega) _)) hb1; obtain ⟨hc1, hf1, hz1⟩ := bcell hb1; (try simp only [sz_alloc, sz_set, sz_drew, sz_drewN] at hc1 hf1 hz1); clear hb1))
  have z3 : w.heap.size + 3 ≤ w1.heap.size := by have := hz1 (w.heap.size + 2) (by omega); omega
  have S0 : JS w1 w.heap.size 3 an az 2 bn bz w1 := by
    refine ⟨?_, ?_, ?_, ?_, ?_, ?_, Below.refl _ _, z3⟩ <;> (rw [hc1 _ _ (by omega)]; simp [go_sem])
  have m1 : (9223372036854775807 < t.size + u.size) = False := by simp; omega
  have m2 : decide (9223372036854775807 < t.size + u.size) = false := by simp; omega
  have m3 : t.size + u.size ≤ 9223372036854775807 := by omega
  have m4 : ¬ (9223372036854775807 < t.size + u.size) := by omega
  have S1 : ∀ wr w2, JS w1 w.heap.size 3 an az 2 bn bz wr → Below wr.heap.size wr w2 → JS w1 w.heap.size 3 an az 2 bn bz w2 := fun wr w2 h hb => JS_step h hb
  go_region_held3 (fun wr => wr.cell? ⟨w.heap.size, 0, none⟩ = some (.int .i64 3) ∧ wr.cell? ⟨w.heap.size, 1, none⟩ = some (.int .i64 an) ∧ wr.cell? ⟨w.heap.size, 2, none⟩ = some (.string az) ∧
    wr.cell? ⟨w.heap.size + 1, 0, none⟩ = some (.int .i64 2) ∧ wr.cell? ⟨w.heap.size + 1, 1, none⟩ = some (.int .i64 bn) ∧ wr.cell? ⟨w.heap.size + 1, 2, none⟩ = some (.string bz) ∧ Below (w.heap.size + 3) w1 wr ∧ w.heap.size + 3 ≤ wr.heap.size)
    (first | exact JS_drew S0 | assumption | (go_split_ands; refine ⟨?_, ?_, ?_, ?_, ?_, ?_, ?_, ?_⟩ <;> assumption) | (refine S1 _ _ ?_ (by assumption); first | assumption | (go_split_ands; refine ⟨?_, ?_, ?_, ?_, ?_, ?_, ?_, ?_⟩ <;> assumption)))
    (first | (go_at_call 60; (with_reducible refine (HT.out _).mono ?_); rintro e w2 ⟨rfl, hb2⟩) | (go_at_call 60; (with_reducible refine (HV.out _).mono ?_); rintro e w2 ⟨rfl, hb2⟩))
  rename_i hH
  obtain ⟨-, -, -, -, -, -, hBw, hzw⟩ := hH
  have hB3 : Below w.heap.size w w2 := hB1.trans (hBw.mono (by omega))
  have hc3 := fun b o (h : b < w.heap.size + 1 + 1 + 1) => (hBw.cell (p := ⟨b, o, none⟩) h).trans (hc1 b o h)
  have hf3 := fun b o (h : b < w.heap.size + 1 + 1 + 1) => (hBw.frozen (p := ⟨b, o, none⟩) h).trans (hf1 b o h)
  have hz3 : ∀ n, n < w.heap.size + 1 + 1 + 1 → n < w2.heap.size := fun n h => by omega
  clear hBw hc1 hf1 hz1 S0 S1 hB1
  have d3 : decide (10000 < (t.size : Int) + u.size) = true := by simp; omega
  go_wp2_with (first | (go_at_call 31; refine (ref_S_c _ _).mono ?_; rintro e w4 ⟨rfl, hb4⟩; have hB4 : Below w.heap.size w w4 := below_step (by repeat (first | exact Below.refl _ _ | assumption | refine below_drewN ?_ _ | refine Below.drew ?_ | refine Below.alloc ?_ (by first | exact Nat.le_refl _ | (simp; omega) | omega | simp) _ | refine Below.setCell ?_ (by first | exact Nat.le_refl _ | (simp; omega) | simp | omega) _)) hb4; obtain ⟨hc4, hf4, hz4⟩ := bcell hb4; (try simp only [sz_alloc, sz_set, sz_drew, sz_drewN] at hc4 hf4 hz4); clear hb4; replace hc4 := fun b o h => (hc4 b o (hz3 b h)).trans (hc3 b o h); replace hf4 := fun b o h => (hf4 b o (hz3 b h)).trans (hf3 b o h); replace hz4 := fun n h => hz4 n (hz3 n h); clear hc3 hf3 hz3))
  exact bodyPost_ret (v := .tuple #[.agg #[.int .i64 0, .int .i64 0, .string ⟨#[]⟩], .int .i64 14]) (by simp [results, Tryd.results53, go_sem, cell_set_self, *]) rfl ⟨rfl, (by repeat (first | exact Below.refl _ _ | assumption | refine below_drewN ?_ _ | refine Below.drew ?_ | refine Below.alloc ?_ (by first | exact Nat.le_refl _ | (simp; omega) | omega | simp) _ | refine Below.setCell ?_ (by first | exact Nat.le_refl _ | (simp; omega) | simp | omega) _))⟩
set_option maxRecDepth 100000 in
theorem ref_Join_si_yes (an : Int) (az : ByteArray) (bn : Int) (bz : ByteArray) (h : bothE ⟨3, an, az⟩ ⟨2, bn, bz⟩ = 0) (t u : ByteArray) (st : t.size ≤ 10000) (su : u.size ≤ 10000)
    (hs : t.size + u.size ≤ 10000)
    (ht : ∀ w, Calls Tryd.prog 60 #[.agg #[.int .i64 3, .int .i64 an, .string az]] w fun e w' => e = .returned (.string t) ∧ Below w.heap.size w w')
    (hv : ∀ w, Calls Tryd.prog 60 #[.agg #[.int .i64 2, .int .i64 bn, .string bz]] w fun e w' => e = .returned (.string u) ∧ Below w.heap.size w w') (w : World) :
    Calls Tryd.prog 53 #[.agg #[.int .i64 3, .int .i64 an, .string az], .agg #[.int .i64 2, .int .i64 bn, .string bz]] w fun e w' => e = .returned (.tuple #[vv ⟨3, 0, t ++ u⟩, .int .i64 0]) ∧ Below w.heap.size w w' := by
  have hu := Tryd.underlying33
  have HB := Lib.hid h; have HT := Lib.hid ht; have HV := Lib.hid hv
  clear h ht hv
  go_enter Tryd.func53, Tryd.ntmps53
  go_wp2_with (first | (go_at_call 28; (with_reducible refine (ref_Both_g 3 an az 2 bn bz _ HB.out _).mono ?_); rintro e w1 ⟨rfl, hb1⟩; have hB1 : Below w.heap.size w w1 := below_step (by repeat (first | exact Below.refl _ _ | assumption | refine below_drewN ?_ _ | refine Below.drew ?_ | refine Below.alloc ?_ (by first | exact Nat.le_refl _ | (simp; omega) | omega | simp) _ | refine Below.setCell ?_ (by first | exact Nat.le_refl _ | (simp; omega) | simp | omega) _)) hb1; obtain ⟨hc1, hf1, hz1⟩ := bcell hb1; (try simp only [sz_alloc, sz_set, sz_drew, sz_drewN] at hc1 hf1 hz1); clear hb1))
  have z3 : w.heap.size + 3 ≤ w1.heap.size := by have := hz1 (w.heap.size + 2) (by omega); omega
  have S0 : JS w1 w.heap.size 3 an az 2 bn bz w1 := by
    refine ⟨?_, ?_, ?_, ?_, ?_, ?_, Below.refl _ _, z3⟩ <;> (rw [hc1 _ _ (by omega)]; simp [go_sem])
  have m1 : (9223372036854775807 < t.size + u.size) = False := by simp; omega
  have m2 : decide (9223372036854775807 < t.size + u.size) = false := by simp; omega
  have m3 : t.size + u.size ≤ 9223372036854775807 := by omega
  have m4 : ¬ (9223372036854775807 < t.size + u.size) := by omega
  have S1 : ∀ wr w2, JS w1 w.heap.size 3 an az 2 bn bz wr → Below wr.heap.size wr w2 → JS w1 w.heap.size 3 an az 2 bn bz w2 := fun wr w2 h hb => JS_step h hb
  go_region_held3 (fun wr => wr.cell? ⟨w.heap.size, 0, none⟩ = some (.int .i64 3) ∧ wr.cell? ⟨w.heap.size, 1, none⟩ = some (.int .i64 an) ∧ wr.cell? ⟨w.heap.size, 2, none⟩ = some (.string az) ∧
    wr.cell? ⟨w.heap.size + 1, 0, none⟩ = some (.int .i64 2) ∧ wr.cell? ⟨w.heap.size + 1, 1, none⟩ = some (.int .i64 bn) ∧ wr.cell? ⟨w.heap.size + 1, 2, none⟩ = some (.string bz) ∧ Below (w.heap.size + 3) w1 wr ∧ w.heap.size + 3 ≤ wr.heap.size)
    (first | exact JS_drew S0 | assumption | (go_split_ands; refine ⟨?_, ?_, ?_, ?_, ?_, ?_, ?_, ?_⟩ <;> assumption) | (refine S1 _ _ ?_ (by assumption); first | assumption | (go_split_ands; refine ⟨?_, ?_, ?_, ?_, ?_, ?_, ?_, ?_⟩ <;> assumption)))
    (first | (go_at_call 60; (with_reducible refine (HT.out _).mono ?_); rintro e w2 ⟨rfl, hb2⟩) | (go_at_call 60; (with_reducible refine (HV.out _).mono ?_); rintro e w2 ⟨rfl, hb2⟩))
  rename_i hH
  obtain ⟨-, -, -, -, -, -, hBw, hzw⟩ := hH
  have hB3 : Below w.heap.size w w2 := hB1.trans (hBw.mono (by omega))
  have hc3 := fun b o (h : b < w.heap.size + 1 + 1 + 1) => (hBw.cell (p := ⟨b, o, none⟩) h).trans (hc1 b o h)
  have hf3 := fun b o (h : b < w.heap.size + 1 + 1 + 1) => (hBw.frozen (p := ⟨b, o, none⟩) h).trans (hf1 b o h)
  have hz3 : ∀ n, n < w.heap.size + 1 + 1 + 1 → n < w2.heap.size := fun n h => by omega
  clear hBw hc1 hf1 hz1 S0 S1 hB1
  have d3 : decide (10000 < (t.size : Int) + u.size) = false := by simp; omega
  go_wp2_with (first | (go_at_call 31; refine (ref_S_c _ _).mono ?_; rintro e w4 ⟨rfl, hb4⟩; have hB4 : Below w.heap.size w w4 := below_step (by repeat (first | exact Below.refl _ _ | assumption | refine below_drewN ?_ _ | refine Below.drew ?_ | refine Below.alloc ?_ (by first | exact Nat.le_refl _ | (simp; omega) | omega | simp) _ | refine Below.setCell ?_ (by first | exact Nat.le_refl _ | (simp; omega) | simp | omega) _)) hb4; obtain ⟨hc4, hf4, hz4⟩ := bcell hb4; (try simp only [sz_alloc, sz_set, sz_drew, sz_drewN] at hc4 hf4 hz4); clear hb4; replace hc4 := fun b o h => (hc4 b o (hz3 b h)).trans (hc3 b o h); replace hf4 := fun b o h => (hf4 b o (hz3 b h)).trans (hf3 b o h); replace hz4 := fun n h => hz4 n (hz3 n h); clear hc3 hf3 hz3))
  exact bodyPost_ret (v := .tuple #[.agg #[.int .i64 3, .int .i64 0, .string (t ++ u)], .int .i64 0]) (by simp [results, Tryd.results53, go_sem, cell_set_self, *]) rfl ⟨rfl, (by repeat (first | exact Below.refl _ _ | assumption | refine below_drewN ?_ _ | refine Below.drew ?_ | refine Below.alloc ?_ (by first | exact Nat.le_refl _ | (simp; omega) | omega | simp) _ | refine Below.setCell ?_ (by first | exact Nat.le_refl _ | (simp; omega) | simp | omega) _))⟩
set_option maxRecDepth 100000 in
theorem ref_Join_ss_big (an : Int) (az : ByteArray) (bn : Int) (bz : ByteArray) (h : bothE ⟨3, an, az⟩ ⟨3, bn, bz⟩ = 0) (t u : ByteArray) (st : t.size ≤ 10000) (su : u.size ≤ 10000)
    (hs : 10000 < t.size + u.size)
    (ht : ∀ w, Calls Tryd.prog 60 #[.agg #[.int .i64 3, .int .i64 an, .string az]] w fun e w' => e = .returned (.string t) ∧ Below w.heap.size w w')
    (hv : ∀ w, Calls Tryd.prog 60 #[.agg #[.int .i64 3, .int .i64 bn, .string bz]] w fun e w' => e = .returned (.string u) ∧ Below w.heap.size w w') (w : World) :
    Calls Tryd.prog 53 #[.agg #[.int .i64 3, .int .i64 an, .string az], .agg #[.int .i64 3, .int .i64 bn, .string bz]] w fun e w' => e = .returned (.tuple #[vv nilV, .int .i64 14]) ∧ Below w.heap.size w w' := by
  have hu := Tryd.underlying33
  have HB := Lib.hid h; have HT := Lib.hid ht; have HV := Lib.hid hv
  clear h ht hv
  go_enter Tryd.func53, Tryd.ntmps53
  go_wp2_with (first | (go_at_call 28; (with_reducible refine (ref_Both_g 3 an az 3 bn bz _ HB.out _).mono ?_); rintro e w1 ⟨rfl, hb1⟩; have hB1 : Below w.heap.size w w1 := below_step (by repeat (first | exact Below.refl _ _ | assumption | refine below_drewN ?_ _ | refine Below.drew ?_ | refine Below.alloc ?_ (by first | exact Nat.le_refl _ | (simp; omega) | omega | simp) _ | refine Below.setCell ?_ (by first | exact Nat.le_refl _ | (simp; omega) | simp | omega) _)) hb1; obtain ⟨hc1, hf1, hz1⟩ := bcell hb1; (try simp only [sz_alloc, sz_set, sz_drew, sz_drewN] at hc1 hf1 hz1); clear hb1))
  have z3 : w.heap.size + 3 ≤ w1.heap.size := by have := hz1 (w.heap.size + 2) (by omega); omega
  have S0 : JS w1 w.heap.size 3 an az 3 bn bz w1 := by
    refine ⟨?_, ?_, ?_, ?_, ?_, ?_, Below.refl _ _, z3⟩ <;> (rw [hc1 _ _ (by omega)]; simp [go_sem])
  have m1 : (9223372036854775807 < t.size + u.size) = False := by simp; omega
  have m2 : decide (9223372036854775807 < t.size + u.size) = false := by simp; omega
  have m3 : t.size + u.size ≤ 9223372036854775807 := by omega
  have m4 : ¬ (9223372036854775807 < t.size + u.size) := by omega
  have S1 : ∀ wr w2, JS w1 w.heap.size 3 an az 3 bn bz wr → Below wr.heap.size wr w2 → JS w1 w.heap.size 3 an az 3 bn bz w2 := fun wr w2 h hb => JS_step h hb
  go_region_held3 (fun wr => wr.cell? ⟨w.heap.size, 0, none⟩ = some (.int .i64 3) ∧ wr.cell? ⟨w.heap.size, 1, none⟩ = some (.int .i64 an) ∧ wr.cell? ⟨w.heap.size, 2, none⟩ = some (.string az) ∧
    wr.cell? ⟨w.heap.size + 1, 0, none⟩ = some (.int .i64 3) ∧ wr.cell? ⟨w.heap.size + 1, 1, none⟩ = some (.int .i64 bn) ∧ wr.cell? ⟨w.heap.size + 1, 2, none⟩ = some (.string bz) ∧ Below (w.heap.size + 3) w1 wr ∧ w.heap.size + 3 ≤ wr.heap.size)
    (first | exact JS_drew S0 | assumption | (go_split_ands; refine ⟨?_, ?_, ?_, ?_, ?_, ?_, ?_, ?_⟩ <;> assumption) | (refine S1 _ _ ?_ (by assumption); first | assumption | (go_split_ands; refine ⟨?_, ?_, ?_, ?_, ?_, ?_, ?_, ?_⟩ <;> assumption)))
    (first | (go_at_call 60; (with_reducible refine (HT.out _).mono ?_); rintro e w2 ⟨rfl, hb2⟩) | (go_at_call 60; (with_reducible refine (HV.out _).mono ?_); rintro e w2 ⟨rfl, hb2⟩))
  rename_i hH
  obtain ⟨-, -, -, -, -, -, hBw, hzw⟩ := hH
  have hB3 : Below w.heap.size w w2 := hB1.trans (hBw.mono (by omega))
  have hc3 := fun b o (h : b < w.heap.size + 1 + 1 + 1) => (hBw.cell (p := ⟨b, o, none⟩) h).trans (hc1 b o h)
  have hf3 := fun b o (h : b < w.heap.size + 1 + 1 + 1) => (hBw.frozen (p := ⟨b, o, none⟩) h).trans (hf1 b o h)
  have hz3 : ∀ n, n < w.heap.size + 1 + 1 + 1 → n < w2.heap.size := fun n h => by omega
  clear hBw hc1 hf1 hz1 S0 S1 hB1
  have d3 : decide (10000 < (t.size : Int) + u.size) = true := by simp; omega
  go_wp2_with (first | (go_at_call 31; refine (ref_S_c _ _).mono ?_; rintro e w4 ⟨rfl, hb4⟩; have hB4 : Below w.heap.size w w4 := below_step (by repeat (first | exact Below.refl _ _ | assumption | refine below_drewN ?_ _ | refine Below.drew ?_ | refine Below.alloc ?_ (by first | exact Nat.le_refl _ | (simp; omega) | omega | simp) _ | refine Below.setCell ?_ (by first | exact Nat.le_refl _ | (simp; omega) | simp | omega) _)) hb4; obtain ⟨hc4, hf4, hz4⟩ := bcell hb4; (try simp only [sz_alloc, sz_set, sz_drew, sz_drewN] at hc4 hf4 hz4); clear hb4; replace hc4 := fun b o h => (hc4 b o (hz3 b h)).trans (hc3 b o h); replace hf4 := fun b o h => (hf4 b o (hz3 b h)).trans (hf3 b o h); replace hz4 := fun n h => hz4 n (hz3 n h); clear hc3 hf3 hz3))
  exact bodyPost_ret (v := .tuple #[.agg #[.int .i64 0, .int .i64 0, .string ⟨#[]⟩], .int .i64 14]) (by simp [results, Tryd.results53, go_sem, cell_set_self, *]) rfl ⟨rfl, (by repeat (first | exact Below.refl _ _ | assumption | refine below_drewN ?_ _ | refine Below.drew ?_ | refine Below.alloc ?_ (by first | exact Nat.le_refl _ | (simp; omega) | omega | simp) _ | refine Below.setCell ?_ (by first | exact Nat.le_refl _ | (simp; omega) | simp | omega) _))⟩
set_option maxRecDepth 100000 in
theorem ref_Join_ss_yes (an : Int) (az : ByteArray) (bn : Int) (bz : ByteArray) (h : bothE ⟨3, an, az⟩ ⟨3, bn, bz⟩ = 0) (t u : ByteArray) (st : t.size ≤ 10000) (su : u.size ≤ 10000)
    (hs : t.size + u.size ≤ 10000)
    (ht : ∀ w, Calls Tryd.prog 60 #[.agg #[.int .i64 3, .int .i64 an, .string az]] w fun e w' => e = .returned (.string t) ∧ Below w.heap.size w w')
    (hv : ∀ w, Calls Tryd.prog 60 #[.agg #[.int .i64 3, .int .i64 bn, .string bz]] w fun e w' => e = .returned (.string u) ∧ Below w.heap.size w w') (w : World) :
    Calls Tryd.prog 53 #[.agg #[.int .i64 3, .int .i64 an, .string az], .agg #[.int .i64 3, .int .i64 bn, .string bz]] w fun e w' => e = .returned (.tuple #[vv ⟨3, 0, t ++ u⟩, .int .i64 0]) ∧ Below w.heap.size w w' := by
  have hu := Tryd.underlying33
  have HB := Lib.hid h; have HT := Lib.hid ht; have HV := Lib.hid hv
  clear h ht hv
  go_enter Tryd.func53, Tryd.ntmps53
  go_wp2_with (first | (go_at_call 28; (with_reducible refine (ref_Both_g 3 an az 3 bn bz _ HB.out _).mono ?_); rintro e w1 ⟨rfl, hb1⟩; have hB1 : Below w.heap.size w w1 := below_step (by repeat (first | exact Below.refl _ _ | assumption | refine below_drewN ?_ _ | refine Below.drew ?_ | refine Below.alloc ?_ (by first | exact Nat.le_refl _ | (simp; omega) | omega | simp) _ | refine Below.setCell ?_ (by first | exact Nat.le_refl _ | (simp; omega) | simp | omega) _)) hb1; obtain ⟨hc1, hf1, hz1⟩ := bcell hb1; (try simp only [sz_alloc, sz_set, sz_drew, sz_drewN] at hc1 hf1 hz1); clear hb1))
  have z3 : w.heap.size + 3 ≤ w1.heap.size := by have := hz1 (w.heap.size + 2) (by omega); omega
  have S0 : JS w1 w.heap.size 3 an az 3 bn bz w1 := by
    refine ⟨?_, ?_, ?_, ?_, ?_, ?_, Below.refl _ _, z3⟩ <;> (rw [hc1 _ _ (by omega)]; simp [go_sem])
  have m1 : (9223372036854775807 < t.size + u.size) = False := by simp; omega
  have m2 : decide (9223372036854775807 < t.size + u.size) = false := by simp; omega
  have m3 : t.size + u.size ≤ 9223372036854775807 := by omega
  have m4 : ¬ (9223372036854775807 < t.size + u.size) := by omega
  have S1 : ∀ wr w2, JS w1 w.heap.size 3 an az 3 bn bz wr → Below wr.heap.size wr w2 → JS w1 w.heap.size 3 an az 3 bn bz w2 := fun wr w2 h hb => JS_step h hb
  go_region_held3 (fun wr => wr.cell? ⟨w.heap.size, 0, none⟩ = some (.int .i64 3) ∧ wr.cell? ⟨w.heap.size, 1, none⟩ = some (.int .i64 an) ∧ wr.cell? ⟨w.heap.size, 2, none⟩ = some (.string az) ∧
    wr.cell? ⟨w.heap.size + 1, 0, none⟩ = some (.int .i64 3) ∧ wr.cell? ⟨w.heap.size + 1, 1, none⟩ = some (.int .i64 bn) ∧ wr.cell? ⟨w.heap.size + 1, 2, none⟩ = some (.string bz) ∧ Below (w.heap.size + 3) w1 wr ∧ w.heap.size + 3 ≤ wr.heap.size)
    (first | exact JS_drew S0 | assumption | (go_split_ands; refine ⟨?_, ?_, ?_, ?_, ?_, ?_, ?_, ?_⟩ <;> assumption) | (refine S1 _ _ ?_ (by assumption); first | assumption | (go_split_ands; refine ⟨?_, ?_, ?_, ?_, ?_, ?_, ?_, ?_⟩ <;> assumption)))
    (first | (go_at_call 60; (with_reducible refine (HT.out _).mono ?_); rintro e w2 ⟨rfl, hb2⟩) | (go_at_call 60; (with_reducible refine (HV.out _).mono ?_); rintro e w2 ⟨rfl, hb2⟩))
  rename_i hH
  obtain ⟨-, -, -, -, -, -, hBw, hzw⟩ := hH
  have hB3 : Below w.heap.size w w2 := hB1.trans (hBw.mono (by omega))
  have hc3 := fun b o (h : b < w.heap.size + 1 + 1 + 1) => (hBw.cell (p := ⟨b, o, none⟩) h).trans (hc1 b o h)
  have hf3 := fun b o (h : b < w.heap.size + 1 + 1 + 1) => (hBw.frozen (p := ⟨b, o, none⟩) h).trans (hf1 b o h)
  have hz3 : ∀ n, n < w.heap.size + 1 + 1 + 1 → n < w2.heap.size := fun n h => by omega
  clear hBw hc1 hf1 hz1 S0 S1 hB1
  have d3 : decide (10000 < (t.size : Int) + u.size) = false := by simp; omega
  go_wp2_with (first | (go_at_call 31; refine (ref_S_c _ _).mono ?_; rintro e w4 ⟨rfl, hb4⟩; have hB4 : Below w.heap.size w w4 := below_step (by repeat (first | exact Below.refl _ _ | assumption | refine below_drewN ?_ _ | refine Below.drew ?_ | refine Below.alloc ?_ (by first | exact Nat.le_refl _ | (simp; omega) | omega | simp) _ | refine Below.setCell ?_ (by first | exact Nat.le_refl _ | (simp; omega) | simp | omega) _)) hb4; obtain ⟨hc4, hf4, hz4⟩ := bcell hb4; (try simp only [sz_alloc, sz_set, sz_drew, sz_drewN] at hc4 hf4 hz4); clear hb4; replace hc4 := fun b o h => (hc4 b o (hz3 b h)).trans (hc3 b o h); replace hf4 := fun b o h => (hf4 b o (hz3 b h)).trans (hf3 b o h); replace hz4 := fun n h => hz4 n (hz3 n h); clear hc3 hf3 hz3))
  exact bodyPost_ret (v := .tuple #[.agg #[.int .i64 3, .int .i64 0, .string (t ++ u)], .int .i64 0]) (by simp [results, Tryd.results53, go_sem, cell_set_self, *]) rfl ⟨rfl, (by repeat (first | exact Below.refl _ _ | assumption | refine below_drewN ?_ _ | refine Below.drew ?_ | refine Below.alloc ?_ (by first | exact Nat.le_refl _ | (simp; omega) | omega | simp) _ | refine Below.setCell ?_ (by first | exact Nat.le_refl _ | (simp; omega) | simp | omega) _))⟩
end Go.Proofs.YtpppcoobibmlhaaDoor
/- Whole contracts of Same, Order and Join, the program's and the reference's. -/
namespace Go.Proofs.YtpppcoobibmlhaaDoor
open Go.RowKit
set_option linter.unusedVariables false
set_option linter.unusedSimpArgs false

theorem ref_Join_ii (p : Int) (q : Int) (hB : bothE (ofBx (.i p)) (ofBx (.i q)) = 0) (sx : (Bx.text (.i p)).size ≤ 10000) (sy : (Bx.text (.i q)).size ≤ 10000) (fx : (ofBx (.i p)).n = (ofBx (.i p)).n → Bx.fine (.i p)) (fy : Bx.fine (.i q)) (w : World) :
    Calls Tryd.prog 53 #[vv (ofBx (.i p)), vv (ofBx (.i q))] w fun e w' => e = .returned (.tuple #[vv (joinV (.i p) (.i q)), .int .i64 (joinE (.i p) (.i q))]) ∧ Below w.heap.size w w' := by
  have gx : Bx.fine (.i p) := fx rfl
  by_cases hs : 10000 < (Bx.text (.i p)).size + (Bx.text (.i q)).size
  · have e : joinE (.i p) (.i q) = 14 := by unfold joinE; rw [if_pos ⟨rfl, rfl⟩, if_pos hs]
    have v : joinV (.i p) (.i q) = nilV := by unfold joinV; rw [e]; rfl
    rw [e, v]
    exact ref_Join_ii_big _ _ _ _ hB _ _ sx sy hs (fun w => ref_Show_i p gx w) (fun w => ref_Show_i q fy w) w
  · have e : joinE (.i p) (.i q) = 0 := by unfold joinE; rw [if_pos ⟨rfl, rfl⟩, if_neg hs]
    have v : joinV (.i p) (.i q) = ⟨3, 0, Bx.text (.i p) ++ Bx.text (.i q)⟩ := by unfold joinV; rw [e]; rfl
    rw [e, v]
    exact ref_Join_ii_yes _ _ _ _ hB _ _ sx sy (by omega) (fun w => ref_Show_i p gx w) (fun w => ref_Show_i q fy w) w
theorem ref_Join_is (p : Int) (q : ByteArray) (hB : bothE (ofBx (.i p)) (ofBx (.s q)) = 0) (sx : (Bx.text (.i p)).size ≤ 10000) (sy : (Bx.text (.s q)).size ≤ 10000) (fx : (ofBx (.i p)).n = (ofBx (.i p)).n → Bx.fine (.i p)) (fy : Bx.fine (.s q)) (w : World) :
    Calls Tryd.prog 53 #[vv (ofBx (.i p)), vv (ofBx (.s q))] w fun e w' => e = .returned (.tuple #[vv (joinV (.i p) (.s q)), .int .i64 (joinE (.i p) (.s q))]) ∧ Below w.heap.size w w' := by
  have gx : Bx.fine (.i p) := fx rfl
  by_cases hs : 10000 < (Bx.text (.i p)).size + (Bx.text (.s q)).size
  · have e : joinE (.i p) (.s q) = 14 := by unfold joinE; rw [if_pos ⟨rfl, rfl⟩, if_pos hs]
    have v : joinV (.i p) (.s q) = nilV := by unfold joinV; rw [e]; rfl
    rw [e, v]
    exact ref_Join_is_big _ _ _ _ hB _ _ sx sy hs (fun w => ref_Show_i p gx w) (fun w => ref_Show_s q w) w
  · have e : joinE (.i p) (.s q) = 0 := by unfold joinE; rw [if_pos ⟨rfl, rfl⟩, if_neg hs]
    have v : joinV (.i p) (.s q) = ⟨3, 0, Bx.text (.i p) ++ Bx.text (.s q)⟩ := by unfold joinV; rw [e]; rfl
    rw [e, v]
    exact ref_Join_is_yes _ _ _ _ hB _ _ sx sy (by omega) (fun w => ref_Show_i p gx w) (fun w => ref_Show_s q w) w
theorem ref_Join_si (p : ByteArray) (q : Int) (hB : bothE (ofBx (.s p)) (ofBx (.i q)) = 0) (sx : (Bx.text (.s p)).size ≤ 10000) (sy : (Bx.text (.i q)).size ≤ 10000) (fx : (ofBx (.s p)).n = (ofBx (.s p)).n → Bx.fine (.s p)) (fy : Bx.fine (.i q)) (w : World) :
    Calls Tryd.prog 53 #[vv (ofBx (.s p)), vv (ofBx (.i q))] w fun e w' => e = .returned (.tuple #[vv (joinV (.s p) (.i q)), .int .i64 (joinE (.s p) (.i q))]) ∧ Below w.heap.size w w' := by
  have gx : Bx.fine (.s p) := fx rfl
  by_cases hs : 10000 < (Bx.text (.s p)).size + (Bx.text (.i q)).size
  · have e : joinE (.s p) (.i q) = 14 := by unfold joinE; rw [if_pos ⟨rfl, rfl⟩, if_pos hs]
    have v : joinV (.s p) (.i q) = nilV := by unfold joinV; rw [e]; rfl
    rw [e, v]
    exact ref_Join_si_big _ _ _ _ hB _ _ sx sy hs (fun w => ref_Show_s p w) (fun w => ref_Show_i q fy w) w
  · have e : joinE (.s p) (.i q) = 0 := by unfold joinE; rw [if_pos ⟨rfl, rfl⟩, if_neg hs]
    have v : joinV (.s p) (.i q) = ⟨3, 0, Bx.text (.s p) ++ Bx.text (.i q)⟩ := by unfold joinV; rw [e]; rfl
    rw [e, v]
    exact ref_Join_si_yes _ _ _ _ hB _ _ sx sy (by omega) (fun w => ref_Show_s p w) (fun w => ref_Show_i q fy w) w
theorem ref_Join_ss (p : ByteArray) (q : ByteArray) (hB : bothE (ofBx (.s p)) (ofBx (.s q)) = 0) (sx : (Bx.text (.s p)).size ≤ 10000) (sy : (Bx.text (.s q)).size ≤ 10000) (fx : (ofBx (.s p)).n = (ofBx (.s p)).n → Bx.fine (.s p)) (fy : Bx.fine (.s q)) (w : World) :
    Calls Tryd.prog 53 #[vv (ofBx (.s p)), vv (ofBx (.s q))] w fun e w' => e = .returned (.tuple #[vv (joinV (.s p) (.s q)), .int .i64 (joinE (.s p) (.s q))]) ∧ Below w.heap.size w w' := by
  have gx : Bx.fine (.s p) := fx rfl
  by_cases hs : 10000 < (Bx.text (.s p)).size + (Bx.text (.s q)).size
  · have e : joinE (.s p) (.s q) = 14 := by unfold joinE; rw [if_pos ⟨rfl, rfl⟩, if_pos hs]
    have v : joinV (.s p) (.s q) = nilV := by unfold joinV; rw [e]; rfl
    rw [e, v]
    exact ref_Join_ss_big _ _ _ _ hB _ _ sx sy hs (fun w => ref_Show_s p w) (fun w => ref_Show_s q w) w
  · have e : joinE (.s p) (.s q) = 0 := by unfold joinE; rw [if_pos ⟨rfl, rfl⟩, if_neg hs]
    have v : joinV (.s p) (.s q) = ⟨3, 0, Bx.text (.s p) ++ Bx.text (.s q)⟩ := by unfold joinV; rw [e]; rfl
    rw [e, v]
    exact ref_Join_ss_yes _ _ _ _ hB _ _ sx sy (by omega) (fun w => ref_Show_s p w) (fun w => ref_Show_s q w) w
theorem ref_Join_ok (a b : V) (ha : okV a = true) (hb : okV b = true) (na : In64 a.n) (nb : In64 b.n) (w : World) :
    Calls Tryd.prog 53 #[vv a, vv b] w fun e w' => e = .returned (.tuple #[vv (joinV (toBx a) (toBx b)), .int .i64 (joinE (toBx a) (toBx b))]) ∧ Below w.heap.size w w' := by
  have hB := bothE_ok ha hb
  have fa := fine_of a ha na; have fb := fine_of b hb nb
  have sa := text_size a ha na; have sb := text_size b hb nb
  have va := ofBx_toBx a ha
  have vb := ofBx_toBx b hb
  generalize toBx a = x at va fa sa ⊢
  generalize toBx b = y at vb fb sb ⊢
  subst va vb
  cases x <;> cases y <;> first
    | exact ref_Join_x _ _ _ _ _ _ hB (by decide) (by decide) w
    | exact ref_Join_i_x _ _ _ _ _ hB (by decide) (by decide) w
    | exact ref_Join_s_x _ _ _ _ _ hB (by decide) (by decide) w
    | exact ref_Join_ii _ _ hB sa sb (fun _ => fa) fb w
    | exact ref_Join_is _ _ hB sa sb (fun _ => fa) fb w
    | exact ref_Join_si _ _ hB sa sb (fun _ => fa) fb w
    | exact ref_Join_ss _ _ hB sa sb (fun _ => fa) fb w
def sameB (a b : V) : Bool := if okV a = true ∧ okV b = true then bxEq (toBx a) (toBx b) else false
def ordN (a b : V) : Int := if okV a = true ∧ okV b = true then orderN (toBx a) (toBx b) else 0
def ordE (a b : V) : Int := if okV a = true ∧ okV b = true then orderE (toBx a) (toBx b) else 2
def jnV (a b : V) : V := if okV a = true ∧ okV b = true then joinV (toBx a) (toBx b) else nilV
def jnE (a b : V) : Int := if okV a = true ∧ okV b = true then joinE (toBx a) (toBx b) else 2
theorem box_Same (a b : V) (w : World) : Calls Tryd.prog 50 #[vv a, vv b] w fun e w' => e = .returned (.tuple #[.bool (sameB a b), .int .i64 (bothE a b)]) ∧ Below w.heap.size w w' := by
  unfold sameB bothE
  by_cases h : okV a = true ∧ okV b = true
  · simp only [if_pos h]; exact box_Same_ok a b h.1 h.2 w
  · simp only [if_neg h]; exact box_Same_bad a b h w
theorem box_Order (a b : V) (w : World) : Calls Tryd.prog 51 #[vv a, vv b] w fun e w' => e = .returned (.tuple #[.int .i64 (ordN a b), .int .i64 (ordE a b)]) ∧ Below w.heap.size w w' := by
  unfold ordN ordE
  by_cases h : okV a = true ∧ okV b = true
  · simp only [if_pos h]; exact box_Order_ok a b h.1 h.2 w
  · simp only [if_neg h]; exact box_Order_bad a b h w
theorem ref_Order (a b : V) (w : World) : Calls Tryd.prog 52 #[vv a, vv b] w fun e w' => e = .returned (.tuple #[.int .i64 (ordN a b), .int .i64 (ordE a b)]) ∧ Below w.heap.size w w' := by
  unfold ordN ordE
  by_cases h : okV a = true ∧ okV b = true
  · simp only [if_pos h]; exact ref_Order_ok a b h.1 h.2 w
  · simp only [if_neg h]; exact ref_Order_bad _ _ _ _ _ _ (bothE_bad h) w
theorem box_Join (a b : V) (na : In64 a.n) (nb : In64 b.n) (w : World) (hE : Env w) : Calls Tryd.prog 27 #[vv a, vv b] w fun e w' => e = .returned (.tuple #[vv (jnV a b), .int .i64 (jnE a b)]) ∧ Below w.heap.size w w' := by
  unfold jnV jnE
  by_cases h : okV a = true ∧ okV b = true
  · simp only [if_pos h]; exact box_Join_ok a b h.1 h.2 na nb w hE
  · simp only [if_neg h]; exact box_Join_bad a b h w
theorem ref_Join (a b : V) (na : In64 a.n) (nb : In64 b.n) (w : World) : Calls Tryd.prog 53 #[vv a, vv b] w fun e w' => e = .returned (.tuple #[vv (jnV a b), .int .i64 (jnE a b)]) ∧ Below w.heap.size w w' := by
  unfold jnV jnE
  by_cases h : okV a = true ∧ okV b = true
  · simp only [if_pos h]; exact ref_Join_ok a b h.1 h.2 na nb w
  · simp only [if_neg h]; exact ref_Join_bad _ _ _ _ _ _ (bothE_bad h) w
end Go.Proofs.YtpppcoobibmlhaaDoor
/- The fixed answers of layer 3. -/
namespace Go.Proofs.YtpppcoobibmlhaaDoor
open Go.RowKit
set_option linter.unusedVariables false
set_option linter.unusedSimpArgs false

/-- What stands in a row that is owned. -/
theorem row_cells {α : Type} {w : World} {base : Nat} {e : TypeId} {v : Value} (l : List α) (f : α → Value) (h : w.ownsRow base e 1 v l.length (l.map f)) (hn : 0 < l.length) :
    ∃ g cap, v = .slice (some ⟨g, 0, none⟩) l.length cap ∧ base ≤ g ∧ g < w.heap.size ∧ ∀ i (hi : i < l.length), w.cell? ⟨g, i, none⟩ = some (f l[i]) := by
  obtain ⟨g, cap, rfl, hg, hl⟩ := h.form hn
  refine ⟨g, cap, rfl, hg, hl, fun i hi => ?_⟩
  rw [h.cellAt i (by omega)]
  simp [hi]
def Try3Post (w : World) (e : Ending) (w' : World) : Prop :=
  ∃ g cap, e = .returned (.slice (some ⟨g, 0, none⟩) 3 cap) ∧ w.heap.size ≤ g ∧ g < w'.heap.size ∧ w'.cell? ⟨g, 0, none⟩ = some (.bool false) ∧ w'.cell? ⟨g, 1, none⟩ = some (.bool true) ∧ w'.cell? ⟨g, 2, none⟩ = some (.bool true) ∧ Below w.heap.size w w'
theorem box_try3 (b cap : Nat) (w : World) (hb : b < w.heap.size)
    (hc : w.cell? ⟨b, 0, none⟩ = some (.int .i64 2) ∧ w.cell? ⟨b, 1, none⟩ = some (.int .i64 5) ∧ w.cell? ⟨b, 2, none⟩ = some (.string ⟨#[]⟩) ∧
      w.cell? ⟨b, 3, none⟩ = some (.int .i64 3) ∧ w.cell? ⟨b, 4, none⟩ = some (.int .i64 0) ∧ w.cell? ⟨b, 5, none⟩ = some (.string ⟨#[97]⟩) ∧
      w.cell? ⟨b, 6, none⟩ = some (.int .i64 1) ∧ w.cell? ⟨b, 7, none⟩ = some (.int .i64 2) ∧ w.cell? ⟨b, 8, none⟩ = some (.string ⟨#[]⟩)) :
    Calls Tryd.prog 45 #[.slice (some ⟨b, 0, none⟩) 3 cap, .int .i64 2] w (Try3Post w) := by
  refine (box_Try_some [⟨2, 5, ⟨#[]⟩⟩, ⟨3, 0, ⟨#[97]⟩⟩, ⟨1, 2, ⟨#[]⟩⟩] 2 b 0 cap w (by simp) hb ?_).mono ?_
  · obtain ⟨h0, h1, h2, h3, h4, h5, h6, h7, h8⟩ := hc
    intro i hi
    match i, hi with
    | 0, _ => exact ⟨h0, h1, h2⟩
    | 1, _ => exact ⟨h3, h4, h5⟩
    | 2, _ => exact ⟨h6, h7, h8⟩
  · rintro e w' ⟨v, rfl, ho, hB⟩
    obtain ⟨g, cap', rfl, hg, hl, hcell⟩ := row_cells _ _ ho (by simp)
    refine ⟨g, cap', rfl, hg, hl, ?_, ?_, ?_, hB⟩
    · have h : fits ⟨2, 5, ⟨#[]⟩⟩ 2 = true := by kernel_rfl
      rw [hcell 0 (by simp)]; show some (Value.bool (!fits ⟨2, 5, ⟨#[]⟩⟩ 2)) = _; rw [h]; rfl
    · have h : fits ⟨3, 0, ⟨#[97]⟩⟩ 2 = false := by kernel_rfl
      rw [hcell 1 (by simp)]; show some (Value.bool (!fits ⟨3, 0, ⟨#[97]⟩⟩ 2)) = _; rw [h]; rfl
    · have h : fits ⟨1, 2, ⟨#[]⟩⟩ 2 = false := by kernel_rfl
      rw [hcell 2 (by simp)]; show some (Value.bool (!fits ⟨1, 2, ⟨#[]⟩⟩ 2)) = _; rw [h]; rfl
theorem box_show3 (w : World) (hE : Env w) : Calls Tryd.prog 29 #[.agg #[.int .i64 4, .int .i64 3, .string ⟨#[]⟩]] w fun e w' => e = .returned (.tuple #[.string ⟨#[116, 97, 98, 108, 101, 58, 32, 51]⟩, .int .i64 0]) ∧ Below w.heap.size w w' := by
  have h : Bx.show (toBx ⟨4, 3, ⟨#[]⟩⟩) = ⟨#[116, 97, 98, 108, 101, 58, 32, 51]⟩ := by kernel_rfl
  rw [← h]
  exact box_Show_ok ⟨4, 3, ⟨#[]⟩⟩ (by kernel_rfl) (by unfold In64; simp) w hE
theorem box_join1a (w : World) (hE : Env w) : Calls Tryd.prog 27 #[.agg #[.int .i64 2, .int .i64 1, .string ⟨#[]⟩], .agg #[.int .i64 3, .int .i64 0, .string ⟨#[97]⟩]] w fun e w' => e = .returned (.tuple #[.agg #[.int .i64 3, .int .i64 0, .string ⟨#[49, 97]⟩], .int .i64 0]) ∧ Below w.heap.size w w' := by
  have h : jnV ⟨2, 1, ⟨#[]⟩⟩ ⟨3, 0, ⟨#[97]⟩⟩ = ⟨3, 0, ⟨#[49, 97]⟩⟩ := by kernel_rfl
  have h2 : jnE ⟨2, 1, ⟨#[]⟩⟩ ⟨3, 0, ⟨#[97]⟩⟩ = 0 := by kernel_rfl
  have := box_Join ⟨2, 1, ⟨#[]⟩⟩ ⟨3, 0, ⟨#[97]⟩⟩ (by unfold In64; simp) (by unfold In64; simp) w hE
  rw [h, h2] at this
  exact this
def FS (w : World) (g z : Nat) (wr : World) : Prop :=
  wr.cell? ⟨g, 0, none⟩ = some (.bool false) ∧ wr.cell? ⟨g, 1, none⟩ = some (.bool true) ∧ wr.cell? ⟨g, 2, none⟩ = some (.bool true) ∧
    wr.cell? ⟨z, 0, none⟩ = some (.int .i64 3) ∧ wr.cell? ⟨z, 1, none⟩ = some (.int .i64 0) ∧ wr.cell? ⟨z, 2, none⟩ = some (.string ⟨#[49, 97]⟩) ∧ Below w.heap.size w wr ∧ g < wr.heap.size ∧ z < wr.heap.size
theorem FS_drew {w : World} {g z : Nat} {wr : World} (h : FS w g z wr) : FS w g z wr.drew := by
  obtain ⟨a, b, c, d, e, f, h, i, j⟩ := h
  exact ⟨a, b, c, d, e, f, h.drew, i, j⟩
theorem FS_step {w : World} {g z : Nat} {wr w2 : World} (h : FS w g z wr) (hb : Below wr.heap.size wr w2) : FS w g z w2 := by
  obtain ⟨a, b, c, d, e, f, h, i, j⟩ := h
  exact ⟨by rw [hb.cell i]; exact a, by rw [hb.cell i]; exact b, by rw [hb.cell i]; exact c, by rw [hb.cell j]; exact d, by rw [hb.cell j]; exact e, by rw [hb.cell j]; exact f, below_step h hb, Nat.lt_of_lt_of_le i hb.size, Nat.lt_of_lt_of_le j hb.size⟩
theorem ref_I_c (n : Int) (w : World) : Calls Tryd.prog 65 #[.int .i64 n] w fun e w' => e = .returned (.agg #[.int .i64 2, .int .i64 n, .string ⟨#[]⟩]) ∧ Below w.heap.size w w' := ref_I n w
theorem ref_T_c (n : Int) (w : World) : Calls Tryd.prog 66 #[.int .i64 n] w fun e w' => e = .returned (.agg #[.int .i64 4, .int .i64 n, .string ⟨#[]⟩]) ∧ Below w.heap.size w w' := ref_T n w
set_option maxRecDepth 100000 in
theorem law03_fixed (w : World) (hE : Env w) : Calls Tryd.prog 26 #[] w fun e w' => e = .returned (.bool true) ∧ Below w.heap.size w w' := by
  have hu := Tryd.underlying33
  go_enter Tryd.func26, Tryd.ntmps26
  go_wp2_with (first | (go_at_call 45; refine (box_try3 _ _ _ (by simp) (by simp [go_sem])).mono ?_; rintro e w3 ⟨g, cap, rfl, hg1, hg2, c0, c1, c2, hb3⟩; have hB3 : Below w.heap.size w w3 := below_step (hB2.alloc hB2.size _) hb3; clear hg1 hb3) | (go_at_call 65; (with_reducible refine (ref_I_c 5 _).mono ?_); rintro e w1 ⟨rfl, hb1⟩; have hB1 : Below w.heap.size w w1 := below_step (by repeat (first | exact Below.refl _ _ | assumption | refine below_drewN ?_ _ | refine Below.drew ?_ | refine Below.alloc ?_ (by first | exact Nat.le_refl _ | (simp; omega) | omega | simp) _ | refine Below.setCell ?_ (by first | exact Nat.le_refl _ | (simp; omega) | simp | omega) _)) hb1; obtain ⟨hc1, hf1, hz1⟩ := bcell hb1; (try simp only [sz_alloc, sz_set, sz_drew, sz_drewN] at hc1 hf1 hz1); clear hb1; (try (replace c0 := (hc1 _ _ hg2).trans c0; replace c1 := (hc1 _ _ hg2).trans c1; replace c2 := (hc1 _ _ hg2).trans c2; replace hg2 := hz1 _ hg2)); clear hc1 hf1 hz1) | (go_at_call 65; (with_reducible refine (ref_I_c 1 _).mono ?_); rintro e w6 ⟨rfl, hb6⟩; have hB6 : Below w.heap.size w w6 := below_step (by repeat (first | exact Below.refl _ _ | assumption | refine below_drewN ?_ _ | refine Below.drew ?_ | refine Below.alloc ?_ (by first | exact Nat.le_refl _ | (simp; omega) | omega | simp) _ | refine Below.setCell ?_ (by first | exact Nat.le_refl _ | (simp; omega) | simp | omega) _)) hb6; obtain ⟨hc6, hf6, hz6⟩ := bcell hb6; (try simp only [sz_alloc, sz_set, sz_drew, sz_drewN] at hc6 hf6 hz6); clear hb6; (try (replace c0 := (hc6 _ _ hg2).trans c0; replace c1 := (hc6 _ _ hg2).trans c1; replace c2 := (hc6 _ _ hg2).trans c2; replace hg2 := hz6 _ hg2)); clear hc6 hf6 hz6) | (go_at_call 31; refine (ref_S_c _ _).mono ?_; rintro e w2 ⟨rfl, hb2⟩; have hB2 : Below w.heap.size w w2 := below_step (by repeat (first | exact Below.refl _ _ | assumption | refine below_drewN ?_ _ | refine Below.drew ?_ | refine Below.alloc ?_ (by first | exact Nat.le_refl _ | (simp; omega) | omega | simp) _ | refine Below.setCell ?_ (by first | exact Nat.le_refl _ | (simp; omega) | simp | omega) _)) hb2; obtain ⟨hc2, hf2, hz2⟩ := bcell hb2; (try simp only [sz_alloc, sz_set, sz_drew, sz_drewN] at hc2 hf2 hz2); clear hb2; (try (replace c0 := (hc2 _ _ hg2).trans c0; replace c1 := (hc2 _ _ hg2).trans c1; replace c2 := (hc2 _ _ hg2).trans c2; replace hg2 := hz2 _ hg2)); clear hc2 hf2 hz2) | (go_at_call 66; refine (ref_T_c _ _).mono ?_; rintro e w4 ⟨rfl, hb4⟩; have hB4 : Below w.heap.size w w4 := below_step (by repeat (first | exact Below.refl _ _ | assumption | refine below_drewN ?_ _ | refine Below.drew ?_ | refine Below.alloc ?_ (by first | exact Nat.le_refl _ | (simp; omega) | omega | simp) _ | refine Below.setCell ?_ (by first | exact Nat.le_refl _ | (simp; omega) | simp | omega) _)) hb4; obtain ⟨hc4, hf4, hz4⟩ := bcell hb4; (try simp only [sz_alloc, sz_set, sz_drew, sz_drewN] at hc4 hf4 hz4); clear hb4; (try (replace c0 := (hc4 _ _ hg2).trans c0; replace c1 := (hc4 _ _ hg2).trans c1; replace c2 := (hc4 _ _ hg2).trans c2; replace hg2 := hz4 _ hg2)); clear hc4 hf4 hz4) | (go_at_call 29; refine (box_show3 _ (hE.of_below hB4)).mono ?_; rintro e w5 ⟨rfl, hb5⟩; have hB5 : Below w.heap.size w w5 := below_step (by repeat (first | exact Below.refl _ _ | assumption | refine below_drewN ?_ _ | refine Below.drew ?_ | refine Below.alloc ?_ (by first | exact Nat.le_refl _ | (simp; omega) | omega | simp) _ | refine Below.setCell ?_ (by first | exact Nat.le_refl _ | (simp; omega) | simp | omega) _)) hb5; obtain ⟨hc5, hf5, hz5⟩ := bcell hb5; (try simp only [sz_alloc, sz_set, sz_drew, sz_drewN] at hc5 hf5 hz5); clear hb5; (try (replace c0 := (hc5 _ _ hg2).trans c0; replace c1 := (hc5 _ _ hg2).trans c1; replace c2 := (hc5 _ _ hg2).trans c2; replace hg2 := hz5 _ hg2)); clear hc5 hf5 hz5) | (go_at_call 27; refine (box_join1a _ (hE.of_below hB2)).mono ?_; rintro e w7 ⟨rfl, hb7⟩; have hB7 : Below w.heap.size w w7 := below_step (by repeat (first | exact Below.refl _ _ | assumption | refine below_drewN ?_ _ | refine Below.drew ?_ | refine Below.alloc ?_ (by first | exact Nat.le_refl _ | (simp; omega) | omega | simp) _ | refine Below.setCell ?_ (by first | exact Nat.le_refl _ | (simp; omega) | simp | omega) _)) hb7; obtain ⟨hc7, hf7, hz7⟩ := bcell hb7; (try simp only [sz_alloc, sz_set, sz_drew, sz_drewN] at hc7 hf7 hz7); clear hb7; (try (replace c0 := (hc7 _ _ hg2).trans c0; replace c1 := (hc7 _ _ hg2).trans c1; replace c2 := (hc7 _ _ hg2).trans c2; replace hg2 := hz7 _ hg2)); clear hc7 hf7 hz7))
  have S0 : FS w g w7.heap.size (w7.alloc (Obj.cells #[.int .i64 3, .int .i64 0, .string ⟨#[49, 97]⟩] 33)) := by
    have hb := below_one w7 (Obj.cells #[.int .i64 3, .int .i64 0, .string ⟨#[49, 97]⟩] 33)
    refine ⟨(hb.cell (p := ⟨g, 0, none⟩) hg2).trans c0, (hb.cell (p := ⟨g, 1, none⟩) hg2).trans c1, (hb.cell (p := ⟨g, 2, none⟩) hg2).trans c2, ?_, ?_, ?_, hB7.alloc hB7.size _, ?_, ?_⟩ <;> simp [go_sem] <;> omega
  clear c0 c1 c2 hg2 hB1 hB2 hB3 hB4 hB5 hB6 hB7
  generalize w7.heap.size = z at S0 ⊢
  generalize w7.alloc (Obj.cells #[.int .i64 3, .int .i64 0, .string ⟨#[49, 97]⟩] 33) = W at S0 ⊢
  go_region_held3 (fun wr => wr.cell? ⟨g, 0, none⟩ = some (.bool false) ∧ wr.cell? ⟨g, 1, none⟩ = some (.bool true) ∧ wr.cell? ⟨g, 2, none⟩ = some (.bool true) ∧
    wr.cell? ⟨z, 0, none⟩ = some (.int .i64 3) ∧ wr.cell? ⟨z, 1, none⟩ = some (.int .i64 0) ∧ wr.cell? ⟨z, 2, none⟩ = some (.string ⟨#[49, 97]⟩) ∧ Below w.heap.size w wr ∧ g < wr.heap.size ∧ z < wr.heap.size)
    (first | exact FS_drew S0 | assumption | (refine FS_step (wr := _) ?_ (by assumption); first | assumption | (go_split_ands; refine ⟨?_, ?_, ?_, ?_, ?_, ?_, ?_, ?_, ?_⟩ <;> assumption)))
    (first | (go_at_call 31; (with_reducible refine (ref_S_c _ _).mono ?_); rintro e w2 ⟨rfl, hb2⟩))
  rename_i hH
  go_wp2
  go_ret
  exact ⟨rfl, hH.2.2.2.2.2.2.1⟩
end Go.Proofs.YtpppcoobibmlhaaDoor
