/- Rows of operations (two numbers each); what Play asks of them. -/
import Derived.Test.YtfhigeefclchiaaHeap7
namespace Go.Proofs.Ytfhigeefclchiaa
open Go.RowKit Go.Maps
set_option linter.unusedVariables false
set_option linter.unusedSimpArgs false

def opK (l : List (Int × Int)) (j : Nat) : Int := (l.getD j (0, 0)).1
def opN (l : List (Int × Int)) (j : Nat) : Int := (l.getD j (0, 0)).2
/-- The row v holds these operations. -/
def POps (w : World) (v : Value) (l : List (Int × Int)) : Prop :=
  ∃ A c, v = .slice A l.length c ∧ (0 < l.length → ∃ b o, A = some ⟨b, o, none⟩ ∧ b < w.heap.size ∧ ∀ j, j < l.length → w.cell? ⟨b, o + j * 2, none⟩ = some (.int .i64 (opK l j)) ∧ w.cell? ⟨b, o + j * 2 + 1, none⟩ = some (.int .i64 (opN l j)))
theorem POps.below {w w' : World} {v : Value} {l : List (Int × Int)} (h : POps w v l) (hb : Below w.heap.size w w') : POps w' v l := by
  obtain ⟨A, c, e, h⟩ := h
  refine ⟨A, c, e, fun h0 => ?_⟩
  obtain ⟨b, o, e2, hl, hc⟩ := h h0
  exact ⟨b, o, e2, Nat.lt_of_lt_of_le hl hb.size, fun j hj => ⟨(hb.cell (p := ⟨b, _, none⟩) hl).trans (hc j hj).1, (hb.cell (p := ⟨b, _, none⟩) hl).trans (hc j hj).2⟩⟩
def badOp (k : Int) : Bool := decide (k < 1 ∨ 3 < k)
theorem play1 (k n : Int) (b : Bool) (hb : badOp k = b) (w : World) : Calls Try.prog 57 #[.agg #[.int .i64 k, .int .i64 n]] w fun e w' => e = .returned (.bool b) ∧ Below w.heap.size w w' := by
  subst hb
  unfold badOp
  by_cases h1 : k < 1
  · have e : decide (k < 1 ∨ 3 < k) = true := by simp; omega
    rw [e]
    have d1 : decide (k < 1) = true := by simpa using h1
    go_enter Try.func57, Try.ntmps57
    go_wp2
    go_ret
    exact ⟨rfl, (Below.refl _ w).alloc (Nat.le_refl _) _⟩
  · have d1 : decide (k < 1) = false := by simpa using h1
    by_cases h2 : 3 < k
    · have e : decide (k < 1 ∨ 3 < k) = true := by simp; omega
      rw [e]
      have d2 : decide (3 < k) = true := by simpa using h2
      go_enter Try.func57, Try.ntmps57
      go_wp2
      go_ret
      exact ⟨rfl, (Below.refl _ w).alloc (Nat.le_refl _) _⟩
    · have e : decide (k < 1 ∨ 3 < k) = false := by simp; omega
      rw [e]
      have d2 : decide (3 < k) = false := by simpa using h2
      go_enter Try.func57, Try.ntmps57
      go_wp2
      go_ret
      exact ⟨rfl, (Below.refl _ w).alloc (Nat.le_refl _) _⟩
def badOps (l : List (Int × Int)) : Bool := l.any fun x => badOp x.1
theorem badOps_take (l : List (Int × Int)) (j : Nat) (hj : j < l.length) : badOps (l.take (j + 1)) = (badOps (l.take j) || badOp (opK l j)) := by
  unfold badOps opK
  have e : l[j]? = some l[j] := List.getElem?_eq_getElem hj
  rw [List.take_add_one, List.any_append, e, List.getD_eq_getElem?_getD, e]
  simp
theorem badOps_of (l : List (Int × Int)) (j : Nat) (hj : j < l.length) (h : badOp (opK l j) = true) : badOps l = true := by
  refine List.any_eq_true.2 ⟨l[j], List.getElem_mem hj, ?_⟩
  unfold opK at h
  rw [List.getD_eq_getElem?_getD, List.getElem?_eq_getElem hj] at h
  exact h
set_option maxRecDepth 100000 in
theorem opsIndex (l : List (Int × Int)) (v : Value) (w : World) (hl : l.length ≤ 17592186044416) (hv : POps w v l) :
    Calls Try.prog 65 #[v, .func (.func 57) #[] #[]] w fun e w' => ∃ r, e = .returned (.int .i64 r) ∧ decide (0 ≤ r) = badOps l ∧ Below w.heap.size w w' := by
  obtain ⟨A, c, rfl, hA⟩ := hv
  have HA := Lib.hid hA
  have hl63 : (l.length : Int) ≤ 9223372036854775807 := by omega
  clear hA
  go_enter Try.func65, Try.ntmps65
  go_wp2
  go_loopw [5, 8] (fun p i wr => ∃ j : Nat, j ≤ l.length ∧ i = .int .i64 j ∧ badOps (l.take j) = false ∧ Below w.heap.size w wr) (fun _ i _ => l.length - (intOf i).toNat)
  case atStart => exact ⟨0, Nat.zero_le _, rfl, rfl, Below.refl _ _⟩
  case round =>
    obtain ⟨j, hj, rfl, hf, hB⟩ := hrel
    have HF := Lib.hid hf
    clear hf
    by_cases hjl : j < l.length
    · obtain ⟨b, o, rfl, hbl, hc⟩ := HA.out (by omega)
      obtain ⟨ck, cn⟩ := hc j hjl
      replace ck := (hB.cell (p := ⟨b, _, none⟩) hbl).trans ck
      replace cn := (hB.cell (p := ⟨b, _, none⟩) hbl).trans cn
      clear hc
      have HT := Lib.hid (badOps_take l j hjl)
      have HM := Lib.hid (badOps_of l j hjl)
      generalize opK l j = k at ck HT HM
      generalize opN l j = n at cn
      have dj : decide ((j : Int) < (l.length : Int)) = true := by simp; omega
      cases hb : badOp k with
      | true =>
        have HB := Lib.hid hb
        clear hb
        go_wp2_with (first | (go_at_call 57; (with_reducible refine (play1 k n true HB.out _).mono ?_); rintro e w' ⟨rfl, hb1⟩; have hB1 := hB.trans (hb1.mono hB.size); clear hb1))
        go_ret
        exact ⟨_, rfl, by rw [HM.out HB.out]; simp, hB1⟩
      | false =>
        have HB := Lib.hid hb
        clear hb
        go_wp2_with (first | (go_at_call 57; (with_reducible refine (play1 k n false HB.out _).mono ?_); rintro e w' ⟨rfl, hb1⟩; have hB1 := hB.trans (hb1.mono hB.size); clear hb1))
        go_roundw
        case rel => exact ⟨j + 1, by omega, by go_num, by rw [HT.out, HF.out, HB.out]; rfl, hB1⟩
        case measure => simp [intOf]; omega
    · obtain rfl : j = l.length := by omega
      go_wp2
      go_ret
      have := HF.out
      rw [List.take_length] at this
      exact ⟨_, rfl, by rw [this]; rfl, hB⟩
theorem opsContains (l : List (Int × Int)) (v : Value) (q : Bool) (hq : badOps l = q) (w : World) (hl : l.length ≤ 17592186044416) (hv : POps w v l) :
    Calls Try.prog 56 #[v, .func (.func 57) #[] #[]] w fun e w' => e = .returned (.bool q) ∧ Below w.heap.size w w' := by
  have HV := Lib.hid hv
  have HQ := Lib.hid hq
  clear hv hq
  go_enter Try.func56, Try.ntmps56
  go_wp2_with (first | (go_at_call 65; (with_reducible refine (opsIndex l v _ hl HV.out).mono ?_); rintro e w' ⟨r, rfl, hr, hb⟩; rw [HQ.out] at hr))
  go_ret
  exact ⟨rfl, hb⟩
end Go.Proofs.Ytfhigeefclchiaa
