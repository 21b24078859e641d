/- CensusRow: a row and its turned list. -/
import Derived.Test.YtfhigeefclchiaaApp
import Derived.Test.YtfhigeefclchiaaCens2
import Derived.Maps.AppendAt
namespace Go.Proofs.Ytfhigeefclchiaa
open Go.RowKit
set_option linter.unusedVariables false
set_option linter.unusedSimpArgs false

namespace Cs
/-- 1 to n; n down to 1. -/
def up (n : Nat) : List Int := (List.range n).map fun i : Nat => (i : Int) + 1
def down (N n : Nat) : List Int := (List.range n).map fun i : Nat => (N : Int) - i
theorem up_succ (n : Nat) : up (n + 1) = up n ++ [(n : Int) + 1] := by simp [up, List.range_succ]
theorem down_succ (N n : Nat) : down N (n + 1) = down N n ++ [(N : Int) - n] := by simp [down, List.range_succ]
theorem up_length (n : Nat) : (up n).length = n := by simp [up]
theorem down_length (N n : Nat) : (down N n).length = n := by simp [down]
theorem up_mem (n : Nat) (x : Int) : x ∈ up n ↔ 1 ≤ x ∧ x ≤ n := by
  unfold up
  simp only [List.mem_map, List.mem_range]
  constructor
  · rintro ⟨i, hi, rfl⟩; omega
  · intro h; exact ⟨(x - 1).toNat, by omega, by omega⟩
theorem down_mem (n : Nat) (x : Int) : x ∈ down n n ↔ 1 ≤ x ∧ x ≤ n := by
  unfold down
  simp only [List.mem_map, List.mem_range]
  constructor
  · rintro ⟨i, hi, rfl⟩; omega
  · intro h; exact ⟨(n - x).toNat, by omega, by omega⟩
theorem up_nodup (n : Nat) : (up n).Nodup := by
  unfold up
  rw [List.nodup_iff_pairwise_ne, List.pairwise_map]
  exact List.nodup_range.imp (by intro a b h; omega)
theorem down_nodup (N n : Nat) : (down N n).Nodup := by
  unfold down
  rw [List.nodup_iff_pairwise_ne, List.pairwise_map]
  exact List.nodup_range.imp (by intro a b h; omega)
theorem down_perm (n : Nat) : (down n n).Perm (up n) := by
  rw [List.perm_iff_count]
  intro x
  have h1 := (up_nodup n).count (a := x)
  have h2 := (down_nodup n n).count (a := x)
  rw [h1, h2]
  have := up_mem n x
  have := down_mem n x
  by_cases h : 1 ≤ x ∧ x ≤ n
  · rw [if_pos ((down_mem n x).2 h), if_pos ((up_mem n x).2 h)]
  · rw [if_neg (fun g => h ((down_mem n x).1 g)), if_neg (fun g => h ((up_mem n x).1 g))]
theorem cnt_perm {a b : List Int} (h : a.Perm b) (i : Nat) : cnt a i = cnt b i := by
  unfold cnt slots
  have := ((h.filter fun n => decide (1 ≤ n ∧ n ≤ 65536)).map fun n => (Ws.log2 n).toNat).filter (· == i)
  rw [this.length_eq]
theorem countL_perm {a b : List Int} (h : a.Perm b) : countL a = countL b := by
  unfold countL
  exact List.map_congr_left fun i _ => cnt_perm h i
theorem within_up (n : Nat) (a : Nat) : within (up n) a = min n a := by
  induction n with
  | zero => simp [within, up]
  | succ n ih =>
    unfold within at ih ⊢
    rw [up_succ, List.filter_append, List.length_append]
    by_cases h : (n : Int) + 1 ≤ a
    · have : 1 ≤ (n : Int) + 1 ∧ (n : Int) + 1 ≤ a := ⟨by omega, h⟩
      simp only [List.filter_cons, decide_eq_true this, if_true, List.filter_nil, List.length_cons, List.length_nil]
      push_cast
      omega
    · have : ¬ (1 ≤ (n : Int) + 1 ∧ (n : Int) + 1 ≤ a) := fun g => h g.2
      simp only [List.filter_cons, decide_eq_false this, Bool.false_eq_true, if_false, List.filter_nil, List.length_nil]
      push_cast
      omega
/-- The array of a row: the least power of two that holds it. -/
theorem choose_row (n : Nat) (h1 : 1 ≤ n) (h2 : n ≤ 3000) : (n : Int) ≤ chooseA (countL (up n)) ∧ chooseA (countL (up n)) < 2 * n ∧ chooseN (countL (up n)) = n := by
  have hl : (up n).length ≤ 4294967296 := by rw [up_length]; omega
  have e : ∀ j : Nat, (2 : Int) ^ j = ((2 ^ j : Nat) : Int) := fun j => by simp
  have hw : ∀ j : Nat, within (up n) (2 ^ j) = min (n : Int) (2 ^ j) := fun j => by rw [e, within_up]; omega
  rcases choose_dense (up n) hl with ⟨-, -, h⟩ | ⟨i, hi, ea, en, hf, hno⟩
  · have := h 0 (by omega)
    rw [hw] at this
    simp at this
    omega
  · rw [hw] at en hf
    have hge : (n : Int) ≤ 2 ^ i := by
      apply Decidable.byContradiction
      intro hn
      by_cases h16 : i = 16
      · subst h16; simp at hn; omega
      · have := hno (i + 1) (by omega) (by omega)
        rw [hw, Int.pow_succ] at this
        omega
    rw [ea, en]
    omega
theorem sizes_perm {a b : List Int} (h : a.Perm b) (o : Int) : sizesA a o = sizesA b o ∧ sizesH a o = sizesH b o ∧ sizesE a o = sizesE b o := by
  have hd : dup a = dup b := by unfold dup; rw [decide_eq_decide.2 h.nodup_iff]
  have hr : rest a o = rest b o := by unfold rest; rw [countL_perm h, h.length_eq]
  have he : sizesE a o = sizesE b o := by unfold sizesE; rw [hd, hr]
  unfold sizesA sizesH
  rw [he, hr, countL_perm h]
  exact ⟨rfl, rfl, rfl⟩
theorem sizes_row (n : Nat) (h2 : n ≤ 3000) (o : Int) (o0 : 0 ≤ o) (o1 : o ≤ 1000) : sizesE (up n) o = 0 ∧ sizesH (up n) o = Ws.ceil2 o ∧ ((n = 0 ∧ sizesA (up n) o = 0) ∨ (1 ≤ n ∧ (n : Int) ≤ sizesA (up n) o ∧ sizesA (up n) o < 2 * n)) := by
  have hd : dup (up n) = false := by unfold dup; rw [decide_eq_true (up_nodup n)]; rfl
  by_cases h0 : n = 0
  · subst h0
    have hr : rest (up 0) o = o := by
      unfold rest
      rw [show chooseN (countL (up 0)) = 0 by decide, up_length]; simp
    obtain ⟨e1, e2, e3⟩ := sizes_ok (l := up 0) (o := o) (by omega) hd (by rw [hr]; omega)
    exact ⟨e1, by rw [e3, hr], .inl ⟨rfl, by rw [e2]; decide⟩⟩
  · obtain ⟨c1, c2, c3⟩ := choose_row n (by omega) h2
    have hr : rest (up n) o = o := by unfold rest; rw [c3, up_length]; omega
    obtain ⟨e1, e2, e3⟩ := sizes_ok (l := up n) (o := o) (by omega) hd (by rw [hr]; omega)
    exact ⟨e1, by rw [e3, hr], .inr ⟨by omega, by rw [e2]; exact c1, by rw [e2]; exact c2⟩⟩
end Cs
theorem umod (n : Int) (m : Int) (h0 : 0 < m) (h1 : m ≤ 3000) : ∃ N : Nat, (N : Int) < m ∧ (IntKind.u64.wrap n).tmod m = N ∧ wrap64 (N : Int) = N ∧ IntKind.u64.wrap (N : Int) = N := by
  have h : 0 ≤ IntKind.u64.wrap n := by rw [IntKind.wrap_u64]; omega
  have h2 : 0 ≤ IntKind.u64.wrap n % m := Int.emod_nonneg _ (by omega)
  have h3 : IntKind.u64.wrap n % m < m := Int.emod_lt_of_pos _ h0
  refine ⟨(IntKind.u64.wrap n % m).toNat, by omega, ?_, ?_, ?_⟩
  · rw [Int.tmod_eq_emod_of_nonneg h]; omega
  · unfold wrap64; omega
  · rw [IntKind.wrap_u64]; omega
theorem ob_swap {a b : Option Nat} (h : a = none ∨ a ≠ b) : b = none ∨ b ≠ a := by
  rcases h with h | h
  · cases b with
    | none => exact .inl rfl
    | some x => exact .inr (by rw [h]; simp)
  · exact .inr (fun h' => h h'.symm)
theorem ob_new {a b c : Option Nat} {k : Nat} (h : c = a ∨ c = some k) (hne : a = none ∨ a ≠ b) (hb : ∀ q, b = some q → q < k) : c = none ∨ c ≠ b := by
  rcases h with h | h
  · rw [h]; exact hne
  · refine .inr (fun h' => ?_)
    have := hb k (h'.symm.trans h)
    omega
set_option maxRecDepth 100000 in
set_option maxHeartbeats 3200000 in
theorem walk_CensusRow_zz (n o : Int) (N O : Nat) (hN : (IntKind.u64.wrap n).tmod 3000 = N) (hN1 : wrap64 (N : Int) = N) (hN2 : IntKind.u64.wrap (N : Int) = N) (hNl : N < 3000) (hO : (IntKind.u64.wrap o).tmod 1000 = O) (hO1 : wrap64 (O : Int) = O) (hO2 : IntKind.u64.wrap (O : Int) = O) (hOl : O < 1000)
    (a h : Int) (ha : Cs.sizesA (Cs.up N) O = a) (hh : Cs.sizesH (Cs.up N) O = h) (he : Cs.sizesE (Cs.up N) O = 0) (ha' : Cs.sizesA (Cs.down N N) O = a) (hh' : Cs.sizesH (Cs.down N N) O = h) (he' : Cs.sizesE (Cs.down N N) O = 0) (n0 : ((N : Int) == 0) = true) (a0 : (a == 0) = true) (o0 : decide (0 < (O : Int)) = false) (h0 : (h == 0) = true) (oh : decide ((O : Int) ≤ h) = true) (w : World) :
    Calls Try.prog 8 #[.int .i64 n, .int .i64 o] w fun e w' => e = .returned (.bool true) ∧ Below w.heap.size w w' := by
  obtain ⟨i0, hi, hz0, hz1, hz2⟩ := info_parts Try.infoInt
  have HA := Lib.hid ha; have HH := Lib.hid hh; have HE := Lib.hid he; have HA' := Lib.hid ha'; have HH' := Lib.hid hh'; have HE' := Lib.hid he'
  have hOi : In64 (O : Int) := by unfold In64; omega
  have w2N : wrap64 (2 * (N : Int)) = 2 * (N : Int) := by unfold wrap64; omega
  have wN1 : wrap64 ((N : Int) + 1) = (N : Int) + 1 := by unfold wrap64; omega
  clear ha hh he ha' hh' he'
  have q1 := Lib.hid hN; have q2 := Lib.hid hN1; have q4 := Lib.hid hO; have q5 := Lib.hid hO1
  clear hN hN1 hN2 hO hO1 hO2
  go_enter Try.func8, Try.ntmps8
  go_wp2_with (first
    | (go_at_call 16; (with_reducible refine (law05_fixed _).mono ?_); rintro e w1 ⟨rfl, hb1⟩; have hB1 : Below w.heap.size w w1 := hb1; clear hb1))
  rw [q1.out, q2.out, q4.out, q5.out]
  go_loopw [5, 6, 7] (fun v u i wr => ∃ j : Nat, j ≤ N ∧ i = .int .i64 ((j : Int) + 1) ∧ wr.ownsRow w.heap.size 3 1 v j ((Cs.up j).map (Value.int .i64)) ∧ wr.ownsRow w.heap.size 3 1 u j ((Cs.down N j).map (Value.int .i64)) ∧ (v.ownBlock = none ∨ v.ownBlock ≠ u.ownBlock) ∧ Below w.heap.size w wr) (fun _ _ i _ => N + 1 - (intOf i).toNat)
  case atStart => exact ⟨0, Nat.zero_le _, rfl, World.ownsRow_nil _ _ _ _, World.ownsRow_nil _ _ _ _, .inl rfl, hB1⟩
  case round =>
    clear hB1
    obtain ⟨j, hj, rfl, hup, hdn, hne, hB⟩ := hrel
    by_cases hjl : j < N
    · have dj : decide ((j : Int) + 1 ≤ (N : Int)) = true := by simp; omega
      have wj : wrap64 ((j : Int) + 1 + 1) = (j : Int) + 1 + 1 := by unfold wrap64; omega
      have wd : wrap64 ((N : Int) + 1 - ((j : Int) + 1)) = (N : Int) + 1 - ((j : Int) + 1) := by unfold wrap64; omega
      have we : (N : Int) - j = (N : Int) + 1 - ((j : Int) + 1) := by omega
      have WE := Lib.hid we
      clear we
      go_wp2_with (first
        | (at_builtin; refine wpList_append_own_at _ rfl (Operand.tmp 29) (Operand.tmp 31) 22 rfl w.heap.size 3 i0 (.int .i64 0) 1 8 Try.underlying22 hi hz0 hz1 hz2 rfl (by decide) _ j ((Cs.up j).map (Value.int .i64)) rfl (hup.alloc _) ⟨wr.heap.size, 0, none⟩ 1 1 [.int .i64 ((j : Int) + 1)] rfl rfl (fun q u hq => by match q, hq with | 0, hq => simp at hq; subst hq; simp [Addr.add, go_sem]) (fun u hu => by simp at hu; subst hu; rfl) (by unfold maxLen; omega) (by omega) (by simp; have := hB.size; omega) ?_; intro v1 w1 hown1 hg1 hn1 hat1
           have hup1 : w1.ownsRow w.heap.size 3 1 v1 (j + 1) ((Cs.up (j + 1)).map (Value.int .i64)) := by rw [Cs.up_succ, List.map_append]; exact hown1
           have hdn1 := (hdn.alloc (Obj.cells #[.int .i64 ((j : Int) + 1)] 3)).kept hg1 (ob_swap hne)
           have hne1 := ob_new hat1 hne (fun q hq => by have := (hdn.lt q hq).2; simp; omega)
           have hB2 : Below w.heap.size w w1 := Below.grown (hB.alloc hB.size _) hg1 (by simp; have := hB.size; omega) (fun q hq => (hup.lt q hq).1)
           clear hup hdn hne hown1 hg1 hn1 hat1)
        | (at_builtin; refine wpList_append_own_at _ rfl (Operand.tmp 33) (Operand.tmp 38) 22 rfl w.heap.size 3 i0 (.int .i64 0) 1 8 Try.underlying22 hi hz0 hz1 hz2 rfl (by decide) _ j ((Cs.down N j).map (Value.int .i64)) rfl (hdn1.alloc _) ⟨w1.heap.size, 0, none⟩ 1 1 [.int .i64 ((N : Int) + 1 - ((j : Int) + 1))] rfl rfl (fun q u hq => by match q, hq with | 0, hq => simp at hq; subst hq; simp [Addr.add, go_sem]) (fun u hu => by simp at hu; subst hu; rfl) (by unfold maxLen; omega) (by omega) (by simp; have := hB2.size; omega) ?_; intro v2 w2 hown2 hg2 hn2 hat2
           have hdn2 : w2.ownsRow w.heap.size 3 1 v2 (j + 1) ((Cs.down N (j + 1)).map (Value.int .i64)) := by rw [Cs.down_succ, List.map_append, WE.out]; exact hown2
           have hup2 := (hup1.alloc (Obj.cells #[.int .i64 ((N : Int) + 1 - ((j : Int) + 1))] 3)).kept hg2 hne1
           have hne2 := ob_swap (ob_new hat2 (ob_swap hne1) (fun q hq => by have := (hup1.lt q hq).2; simp; omega))
           have hB3 : Below w.heap.size w w2 := Below.grown (hB2.alloc hB2.size _) hg2 (by simp; have := hB2.size; omega) (fun q hq => (hdn1.lt q hq).1)
           clear hup1 hdn1 hne1 hown2 hg2 hn2 hat2))
      go_roundw
      case rel => exact ⟨j + 1, by omega, by push_cast; rfl, hup2, hdn2, hne2, hB3⟩
      case measure => simp [intOf]; omega
    · obtain rfl : j = N := by omega
      have dj : decide ((j : Int) + 1 ≤ (j : Int)) = false := by simp; omega
      have djn : ¬ ((j : Int) + 1 ≤ (j : Int)) := by omega
      have HU := Lib.hid (IS.of_row (zs := Cs.up j) (by rw [Cs.up_length]; exact hup)); have HDN := Lib.hid (IS.of_row (zs := Cs.down j j) (by rw [Cs.down_length]; exact hdn))
      have U1 : Hid (∀ x ∈ Cs.up j, In64 x) := Lib.hid (fun x hx => by have := (Cs.up_mem j x).1 hx; unfold In64; omega)
      have U2 : Hid (∀ x ∈ Cs.down j j, In64 x) := Lib.hid (fun x hx => by have := (Cs.down_mem j x).1 hx; unfold In64; omega)
      clear hup hdn hne
      go_wp2_with (first
        | (go_at_call 25; (with_reducible refine (Sizes_c _ (Cs.up j) (O : Int) _ (by rw [Cs.up_length]; omega) U1.out hOi HU.out a h 0 HA.out HH.out HE.out).mono ?_); rintro e w2 ⟨rfl, hb2⟩; have hB2 : Below w.heap.size w w2 := below_step hB hb2; replace HDN := Lib.hid (HDN.out.below hb2); clear hb2)
        | (go_at_call 25; (with_reducible refine (Sizes_c _ (Cs.down j j) (O : Int) _ (by rw [Cs.down_length]; omega) U2.out hOi HDN.out a h 0 HA'.out HH'.out HE'.out).mono ?_); rintro e w3 ⟨rfl, hb3⟩; have hB3 : Below w.heap.size w w3 := below_step hB2 hb3; clear hb3))
      all_goals go_ret
      all_goals first | exact ⟨rfl, hB3⟩ | (exfalso; simp at o0 n0; omega)
set_option maxRecDepth 100000 in
set_option maxHeartbeats 3200000 in
theorem walk_CensusRow_zp (n o : Int) (N O : Nat) (hN : (IntKind.u64.wrap n).tmod 3000 = N) (hN1 : wrap64 (N : Int) = N) (hN2 : IntKind.u64.wrap (N : Int) = N) (hNl : N < 3000) (hO : (IntKind.u64.wrap o).tmod 1000 = O) (hO1 : wrap64 (O : Int) = O) (hO2 : IntKind.u64.wrap (O : Int) = O) (hOl : O < 1000)
    (a h : Int) (ha : Cs.sizesA (Cs.up N) O = a) (hh : Cs.sizesH (Cs.up N) O = h) (he : Cs.sizesE (Cs.up N) O = 0) (ha' : Cs.sizesA (Cs.down N N) O = a) (hh' : Cs.sizesH (Cs.down N N) O = h) (he' : Cs.sizesE (Cs.down N N) O = 0) (n0 : ((N : Int) == 0) = true) (a0 : (a == 0) = true) (o0 : decide (0 < (O : Int)) = true) (oh : decide ((O : Int) ≤ h) = true) (w : World) :
    Calls Try.prog 8 #[.int .i64 n, .int .i64 o] w fun e w' => e = .returned (.bool true) ∧ Below w.heap.size w w' := by
  obtain ⟨i0, hi, hz0, hz1, hz2⟩ := info_parts Try.infoInt
  have HA := Lib.hid ha; have HH := Lib.hid hh; have HE := Lib.hid he; have HA' := Lib.hid ha'; have HH' := Lib.hid hh'; have HE' := Lib.hid he'
  have hOi : In64 (O : Int) := by unfold In64; omega
  have w2N : wrap64 (2 * (N : Int)) = 2 * (N : Int) := by unfold wrap64; omega
  have wN1 : wrap64 ((N : Int) + 1) = (N : Int) + 1 := by unfold wrap64; omega
  clear ha hh he ha' hh' he'
  have q1 := Lib.hid hN; have q2 := Lib.hid hN1; have q4 := Lib.hid hO; have q5 := Lib.hid hO1
  clear hN hN1 hN2 hO hO1 hO2
  go_enter Try.func8, Try.ntmps8
  go_wp2_with (first
    | (go_at_call 16; (with_reducible refine (law05_fixed _).mono ?_); rintro e w1 ⟨rfl, hb1⟩; have hB1 : Below w.heap.size w w1 := hb1; clear hb1))
  rw [q1.out, q2.out, q4.out, q5.out]
  go_loopw [5, 6, 7] (fun v u i wr => ∃ j : Nat, j ≤ N ∧ i = .int .i64 ((j : Int) + 1) ∧ wr.ownsRow w.heap.size 3 1 v j ((Cs.up j).map (Value.int .i64)) ∧ wr.ownsRow w.heap.size 3 1 u j ((Cs.down N j).map (Value.int .i64)) ∧ (v.ownBlock = none ∨ v.ownBlock ≠ u.ownBlock) ∧ Below w.heap.size w wr) (fun _ _ i _ => N + 1 - (intOf i).toNat)
  case atStart => exact ⟨0, Nat.zero_le _, rfl, World.ownsRow_nil _ _ _ _, World.ownsRow_nil _ _ _ _, .inl rfl, hB1⟩
  case round =>
    clear hB1
    obtain ⟨j, hj, rfl, hup, hdn, hne, hB⟩ := hrel
    by_cases hjl : j < N
    · have dj : decide ((j : Int) + 1 ≤ (N : Int)) = true := by simp; omega
      have wj : wrap64 ((j : Int) + 1 + 1) = (j : Int) + 1 + 1 := by unfold wrap64; omega
      have wd : wrap64 ((N : Int) + 1 - ((j : Int) + 1)) = (N : Int) + 1 - ((j : Int) + 1) := by unfold wrap64; omega
      have we : (N : Int) - j = (N : Int) + 1 - ((j : Int) + 1) := by omega
      have WE := Lib.hid we
      clear we
      go_wp2_with (first
        | (at_builtin; refine wpList_append_own_at _ rfl (Operand.tmp 29) (Operand.tmp 31) 22 rfl w.heap.size 3 i0 (.int .i64 0) 1 8 Try.underlying22 hi hz0 hz1 hz2 rfl (by decide) _ j ((Cs.up j).map (Value.int .i64)) rfl (hup.alloc _) ⟨wr.heap.size, 0, none⟩ 1 1 [.int .i64 ((j : Int) + 1)] rfl rfl (fun q u hq => by match q, hq with | 0, hq => simp at hq; subst hq; simp [Addr.add, go_sem]) (fun u hu => by simp at hu; subst hu; rfl) (by unfold maxLen; omega) (by omega) (by simp; have := hB.size; omega) ?_; intro v1 w1 hown1 hg1 hn1 hat1
           have hup1 : w1.ownsRow w.heap.size 3 1 v1 (j + 1) ((Cs.up (j + 1)).map (Value.int .i64)) := by rw [Cs.up_succ, List.map_append]; exact hown1
           have hdn1 := (hdn.alloc (Obj.cells #[.int .i64 ((j : Int) + 1)] 3)).kept hg1 (ob_swap hne)
           have hne1 := ob_new hat1 hne (fun q hq => by have := (hdn.lt q hq).2; simp; omega)
           have hB2 : Below w.heap.size w w1 := Below.grown (hB.alloc hB.size _) hg1 (by simp; have := hB.size; omega) (fun q hq => (hup.lt q hq).1)
           clear hup hdn hne hown1 hg1 hn1 hat1)
        | (at_builtin; refine wpList_append_own_at _ rfl (Operand.tmp 33) (Operand.tmp 38) 22 rfl w.heap.size 3 i0 (.int .i64 0) 1 8 Try.underlying22 hi hz0 hz1 hz2 rfl (by decide) _ j ((Cs.down N j).map (Value.int .i64)) rfl (hdn1.alloc _) ⟨w1.heap.size, 0, none⟩ 1 1 [.int .i64 ((N : Int) + 1 - ((j : Int) + 1))] rfl rfl (fun q u hq => by match q, hq with | 0, hq => simp at hq; subst hq; simp [Addr.add, go_sem]) (fun u hu => by simp at hu; subst hu; rfl) (by unfold maxLen; omega) (by omega) (by simp; have := hB2.size; omega) ?_; intro v2 w2 hown2 hg2 hn2 hat2
           have hdn2 : w2.ownsRow w.heap.size 3 1 v2 (j + 1) ((Cs.down N (j + 1)).map (Value.int .i64)) := by rw [Cs.down_succ, List.map_append, WE.out]; exact hown2
           have hup2 := (hup1.alloc (Obj.cells #[.int .i64 ((N : Int) + 1 - ((j : Int) + 1))] 3)).kept hg2 hne1
           have hne2 := ob_swap (ob_new hat2 (ob_swap hne1) (fun q hq => by have := (hup1.lt q hq).2; simp; omega))
           have hB3 : Below w.heap.size w w2 := Below.grown (hB2.alloc hB2.size _) hg2 (by simp; have := hB2.size; omega) (fun q hq => (hdn1.lt q hq).1)
           clear hup1 hdn1 hne1 hown2 hg2 hn2 hat2))
      go_roundw
      case rel => exact ⟨j + 1, by omega, by push_cast; rfl, hup2, hdn2, hne2, hB3⟩
      case measure => simp [intOf]; omega
    · obtain rfl : j = N := by omega
      have dj : decide ((j : Int) + 1 ≤ (j : Int)) = false := by simp; omega
      have djn : ¬ ((j : Int) + 1 ≤ (j : Int)) := by omega
      have HU := Lib.hid (IS.of_row (zs := Cs.up j) (by rw [Cs.up_length]; exact hup)); have HDN := Lib.hid (IS.of_row (zs := Cs.down j j) (by rw [Cs.down_length]; exact hdn))
      have U1 : Hid (∀ x ∈ Cs.up j, In64 x) := Lib.hid (fun x hx => by have := (Cs.up_mem j x).1 hx; unfold In64; omega)
      have U2 : Hid (∀ x ∈ Cs.down j j, In64 x) := Lib.hid (fun x hx => by have := (Cs.down_mem j x).1 hx; unfold In64; omega)
      clear hup hdn hne
      go_wp2_with (first
        | (go_at_call 25; (with_reducible refine (Sizes_c _ (Cs.up j) (O : Int) _ (by rw [Cs.up_length]; omega) U1.out hOi HU.out a h 0 HA.out HH.out HE.out).mono ?_); rintro e w2 ⟨rfl, hb2⟩; have hB2 : Below w.heap.size w w2 := below_step hB hb2; replace HDN := Lib.hid (HDN.out.below hb2); clear hb2)
        | (go_at_call 25; (with_reducible refine (Sizes_c _ (Cs.down j j) (O : Int) _ (by rw [Cs.down_length]; omega) U2.out hOi HDN.out a h 0 HA'.out HH'.out HE'.out).mono ?_); rintro e w3 ⟨rfl, hb3⟩; have hB3 : Below w.heap.size w w3 := below_step hB2 hb3; clear hb3))
      all_goals go_ret
      all_goals first | exact ⟨rfl, hB3⟩ | (exfalso; simp at o0 n0; omega)
set_option maxRecDepth 100000 in
set_option maxHeartbeats 3200000 in
theorem walk_CensusRow_pz (n o : Int) (N O : Nat) (hN : (IntKind.u64.wrap n).tmod 3000 = N) (hN1 : wrap64 (N : Int) = N) (hN2 : IntKind.u64.wrap (N : Int) = N) (hNl : N < 3000) (hO : (IntKind.u64.wrap o).tmod 1000 = O) (hO1 : wrap64 (O : Int) = O) (hO2 : IntKind.u64.wrap (O : Int) = O) (hOl : O < 1000)
    (a h : Int) (ha : Cs.sizesA (Cs.up N) O = a) (hh : Cs.sizesH (Cs.up N) O = h) (he : Cs.sizesE (Cs.up N) O = 0) (ha' : Cs.sizesA (Cs.down N N) O = a) (hh' : Cs.sizesH (Cs.down N N) O = h) (he' : Cs.sizesE (Cs.down N N) O = 0) (n0 : ((N : Int) == 0) = false) (n1 : decide (0 < (N : Int)) = true) (a0 : decide ((N : Int) ≤ a) = true) (a1 : decide (a < 2 * (N : Int)) = true) (o0 : decide (0 < (O : Int)) = false) (h0 : (h == 0) = true) (oh : decide ((O : Int) ≤ h) = true) (w : World) :
    Calls Try.prog 8 #[.int .i64 n, .int .i64 o] w fun e w' => e = .returned (.bool true) ∧ Below w.heap.size w w' := by
  obtain ⟨i0, hi, hz0, hz1, hz2⟩ := info_parts Try.infoInt
  have HA := Lib.hid ha; have HH := Lib.hid hh; have HE := Lib.hid he; have HA' := Lib.hid ha'; have HH' := Lib.hid hh'; have HE' := Lib.hid he'
  have hOi : In64 (O : Int) := by unfold In64; omega
  have w2N : wrap64 (2 * (N : Int)) = 2 * (N : Int) := by unfold wrap64; omega
  have wN1 : wrap64 ((N : Int) + 1) = (N : Int) + 1 := by unfold wrap64; omega
  clear ha hh he ha' hh' he'
  have q1 := Lib.hid hN; have q2 := Lib.hid hN1; have q4 := Lib.hid hO; have q5 := Lib.hid hO1
  clear hN hN1 hN2 hO hO1 hO2
  go_enter Try.func8, Try.ntmps8
  go_wp2_with (first
    | (go_at_call 16; (with_reducible refine (law05_fixed _).mono ?_); rintro e w1 ⟨rfl, hb1⟩; have hB1 : Below w.heap.size w w1 := hb1; clear hb1))
  rw [q1.out, q2.out, q4.out, q5.out]
  go_loopw [5, 6, 7] (fun v u i wr => ∃ j : Nat, j ≤ N ∧ i = .int .i64 ((j : Int) + 1) ∧ wr.ownsRow w.heap.size 3 1 v j ((Cs.up j).map (Value.int .i64)) ∧ wr.ownsRow w.heap.size 3 1 u j ((Cs.down N j).map (Value.int .i64)) ∧ (v.ownBlock = none ∨ v.ownBlock ≠ u.ownBlock) ∧ Below w.heap.size w wr) (fun _ _ i _ => N + 1 - (intOf i).toNat)
  case atStart => exact ⟨0, Nat.zero_le _, rfl, World.ownsRow_nil _ _ _ _, World.ownsRow_nil _ _ _ _, .inl rfl, hB1⟩
  case round =>
    clear hB1
    obtain ⟨j, hj, rfl, hup, hdn, hne, hB⟩ := hrel
    by_cases hjl : j < N
    · have dj : decide ((j : Int) + 1 ≤ (N : Int)) = true := by simp; omega
      have wj : wrap64 ((j : Int) + 1 + 1) = (j : Int) + 1 + 1 := by unfold wrap64; omega
      have wd : wrap64 ((N : Int) + 1 - ((j : Int) + 1)) = (N : Int) + 1 - ((j : Int) + 1) := by unfold wrap64; omega
      have we : (N : Int) - j = (N : Int) + 1 - ((j : Int) + 1) := by omega
      have WE := Lib.hid we
      clear we
      go_wp2_with (first
        | (at_builtin; refine wpList_append_own_at _ rfl (Operand.tmp 29) (Operand.tmp 31) 22 rfl w.heap.size 3 i0 (.int .i64 0) 1 8 Try.underlying22 hi hz0 hz1 hz2 rfl (by decide) _ j ((Cs.up j).map (Value.int .i64)) rfl (hup.alloc _) ⟨wr.heap.size, 0, none⟩ 1 1 [.int .i64 ((j : Int) + 1)] rfl rfl (fun q u hq => by match q, hq with | 0, hq => simp at hq; subst hq; simp [Addr.add, go_sem]) (fun u hu => by simp at hu; subst hu; rfl) (by unfold maxLen; omega) (by omega) (by simp; have := hB.size; omega) ?_; intro v1 w1 hown1 hg1 hn1 hat1
           have hup1 : w1.ownsRow w.heap.size 3 1 v1 (j + 1) ((Cs.up (j + 1)).map (Value.int .i64)) := by rw [Cs.up_succ, List.map_append]; exact hown1
           have hdn1 := (hdn.alloc (Obj.cells #[.int .i64 ((j : Int) + 1)] 3)).kept hg1 (ob_swap hne)
           have hne1 := ob_new hat1 hne (fun q hq => by have := (hdn.lt q hq).2; simp; omega)
           have hB2 : Below w.heap.size w w1 := Below.grown (hB.alloc hB.size _) hg1 (by simp; have := hB.size; omega) (fun q hq => (hup.lt q hq).1)
           clear hup hdn hne hown1 hg1 hn1 hat1)
        | (at_builtin; refine wpList_append_own_at _ rfl (Operand.tmp 33) (Operand.tmp 38) 22 rfl w.heap.size 3 i0 (.int .i64 0) 1 8 Try.underlying22 hi hz0 hz1 hz2 rfl (by decide) _ j ((Cs.down N j).map (Value.int .i64)) rfl (hdn1.alloc _) ⟨w1.heap.size, 0, none⟩ 1 1 [.int .i64 ((N : Int) + 1 - ((j : Int) + 1))] rfl rfl (fun q u hq => by match q, hq with | 0, hq => simp at hq; subst hq; simp [Addr.add, go_sem]) (fun u hu => by simp at hu; subst hu; rfl) (by unfold maxLen; omega) (by omega) (by simp; have := hB2.size; omega) ?_; intro v2 w2 hown2 hg2 hn2 hat2
           have hdn2 : w2.ownsRow w.heap.size 3 1 v2 (j + 1) ((Cs.down N (j + 1)).map (Value.int .i64)) := by rw [Cs.down_succ, List.map_append, WE.out]; exact hown2
           have hup2 := (hup1.alloc (Obj.cells #[.int .i64 ((N : Int) + 1 - ((j : Int) + 1))] 3)).kept hg2 hne1
           have hne2 := ob_swap (ob_new hat2 (ob_swap hne1) (fun q hq => by have := (hup1.lt q hq).2; simp; omega))
           have hB3 : Below w.heap.size w w2 := Below.grown (hB2.alloc hB2.size _) hg2 (by simp; have := hB2.size; omega) (fun q hq => (hdn1.lt q hq).1)
           clear hup1 hdn1 hne1 hown2 hg2 hn2 hat2))
      go_roundw
      case rel => exact ⟨j + 1, by omega, by push_cast; rfl, hup2, hdn2, hne2, hB3⟩
      case measure => simp [intOf]; omega
    · obtain rfl : j = N := by omega
      have dj : decide ((j : Int) + 1 ≤ (j : Int)) = false := by simp; omega
      have djn : ¬ ((j : Int) + 1 ≤ (j : Int)) := by omega
      have HU := Lib.hid (IS.of_row (zs := Cs.up j) (by rw [Cs.up_length]; exact hup)); have HDN := Lib.hid (IS.of_row (zs := Cs.down j j) (by rw [Cs.down_length]; exact hdn))
      have U1 : Hid (∀ x ∈ Cs.up j, In64 x) := Lib.hid (fun x hx => by have := (Cs.up_mem j x).1 hx; unfold In64; omega)
      have U2 : Hid (∀ x ∈ Cs.down j j, In64 x) := Lib.hid (fun x hx => by have := (Cs.down_mem j x).1 hx; unfold In64; omega)
      clear hup hdn hne
      go_wp2_with (first
        | (go_at_call 25; (with_reducible refine (Sizes_c _ (Cs.up j) (O : Int) _ (by rw [Cs.up_length]; omega) U1.out hOi HU.out a h 0 HA.out HH.out HE.out).mono ?_); rintro e w2 ⟨rfl, hb2⟩; have hB2 : Below w.heap.size w w2 := below_step hB hb2; replace HDN := Lib.hid (HDN.out.below hb2); clear hb2)
        | (go_at_call 25; (with_reducible refine (Sizes_c _ (Cs.down j j) (O : Int) _ (by rw [Cs.down_length]; omega) U2.out hOi HDN.out a h 0 HA'.out HH'.out HE'.out).mono ?_); rintro e w3 ⟨rfl, hb3⟩; have hB3 : Below w.heap.size w w3 := below_step hB2 hb3; clear hb3))
      all_goals go_ret
      all_goals first | exact ⟨rfl, hB3⟩ | (exfalso; simp at o0 n0; omega)
set_option maxRecDepth 100000 in
set_option maxHeartbeats 3200000 in
theorem walk_CensusRow_pp (n o : Int) (N O : Nat) (hN : (IntKind.u64.wrap n).tmod 3000 = N) (hN1 : wrap64 (N : Int) = N) (hN2 : IntKind.u64.wrap (N : Int) = N) (hNl : N < 3000) (hO : (IntKind.u64.wrap o).tmod 1000 = O) (hO1 : wrap64 (O : Int) = O) (hO2 : IntKind.u64.wrap (O : Int) = O) (hOl : O < 1000)
    (a h : Int) (ha : Cs.sizesA (Cs.up N) O = a) (hh : Cs.sizesH (Cs.up N) O = h) (he : Cs.sizesE (Cs.up N) O = 0) (ha' : Cs.sizesA (Cs.down N N) O = a) (hh' : Cs.sizesH (Cs.down N N) O = h) (he' : Cs.sizesE (Cs.down N N) O = 0) (n0 : ((N : Int) == 0) = false) (n1 : decide (0 < (N : Int)) = true) (a0 : decide ((N : Int) ≤ a) = true) (a1 : decide (a < 2 * (N : Int)) = true) (o0 : decide (0 < (O : Int)) = true) (oh : decide ((O : Int) ≤ h) = true) (w : World) :
    Calls Try.prog 8 #[.int .i64 n, .int .i64 o] w fun e w' => e = .returned (.bool true) ∧ Below w.heap.size w w' := by
  obtain ⟨i0, hi, hz0, hz1, hz2⟩ := info_parts Try.infoInt
  have HA := Lib.hid ha; have HH := Lib.hid hh; have HE := Lib.hid he; have HA' := Lib.hid ha'; have HH' := Lib.hid hh'; have HE' := Lib.hid he'
  have hOi : In64 (O : Int) := by unfold In64; omega
  have w2N : wrap64 (2 * (N : Int)) = 2 * (N : Int) := by unfold wrap64; omega
  have wN1 : wrap64 ((N : Int) + 1) = (N : Int) + 1 := by unfold wrap64; omega
  clear ha hh he ha' hh' he'
  have q1 := Lib.hid hN; have q2 := Lib.hid hN1; have q4 := Lib.hid hO; have q5 := Lib.hid hO1
  clear hN hN1 hN2 hO hO1 hO2
  go_enter Try.func8, Try.ntmps8
  go_wp2_with (first
    | (go_at_call 16; (with_reducible refine (law05_fixed _).mono ?_); rintro e w1 ⟨rfl, hb1⟩; have hB1 : Below w.heap.size w w1 := hb1; clear hb1))
  rw [q1.out, q2.out, q4.out, q5.out]
  go_loopw [5, 6, 7] (fun v u i wr => ∃ j : Nat, j ≤ N ∧ i = .int .i64 ((j : Int) + 1) ∧ wr.ownsRow w.heap.size 3 1 v j ((Cs.up j).map (Value.int .i64)) ∧ wr.ownsRow w.heap.size 3 1 u j ((Cs.down N j).map (Value.int .i64)) ∧ (v.ownBlock = none ∨ v.ownBlock ≠ u.ownBlock) ∧ Below w.heap.size w wr) (fun _ _ i _ => N + 1 - (intOf i).toNat)
  case atStart => exact ⟨0, Nat.zero_le _, rfl, World.ownsRow_nil _ _ _ _, World.ownsRow_nil _ _ _ _, .inl rfl, hB1⟩
  case round =>
    clear hB1
    obtain ⟨j, hj, rfl, hup, hdn, hne, hB⟩ := hrel
    by_cases hjl : j < N
    · have dj : decide ((j : Int) + 1 ≤ (N : Int)) = true := by simp; omega
      have wj : wrap64 ((j : Int) + 1 + 1) = (j : Int) + 1 + 1 := by unfold wrap64; omega
      have wd : wrap64 ((N : Int) + 1 - ((j : Int) + 1)) = (N : Int) + 1 - ((j : Int) + 1) := by unfold wrap64; omega
      have we : (N : Int) - j = (N : Int) + 1 - ((j : Int) + 1) := by omega
      have WE := Lib.hid we
      clear we
      go_wp2_with (first
        | (at_builtin; refine wpList_append_own_at _ rfl (Operand.tmp 29) (Operand.tmp 31) 22 rfl w.heap.size 3 i0 (.int .i64 0) 1 8 Try.underlying22 hi hz0 hz1 hz2 rfl (by decide) _ j ((Cs.up j).map (Value.int .i64)) rfl (hup.alloc _) ⟨wr.heap.size, 0, none⟩ 1 1 [.int .i64 ((j : Int) + 1)] rfl rfl (fun q u hq => by match q, hq with | 0, hq => simp at hq; subst hq; simp [Addr.add, go_sem]) (fun u hu => by simp at hu; subst hu; rfl) (by unfold maxLen; omega) (by omega) (by simp; have := hB.size; omega) ?_; intro v1 w1 hown1 hg1 hn1 hat1
           have hup1 : w1.ownsRow w.heap.size 3 1 v1 (j + 1) ((Cs.up (j + 1)).map (Value.int .i64)) := by rw [Cs.up_succ, List.map_append]; exact hown1
           have hdn1 := (hdn.alloc (Obj.cells #[.int .i64 ((j : Int) + 1)] 3)).kept hg1 (ob_swap hne)
           have hne1 := ob_new hat1 hne (fun q hq => by have := (hdn.lt q hq).2; simp; omega)
           have hB2 : Below w.heap.size w w1 := Below.grown (hB.alloc hB.size _) hg1 (by simp; have := hB.size; omega) (fun q hq => (hup.lt q hq).1)
           clear hup hdn hne hown1 hg1 hn1 hat1)
        | (at_builtin; refine wpList_append_own_at _ rfl (Operand.tmp 33) (Operand.tmp 38) 22 rfl w.heap.size 3 i0 (.int .i64 0) 1 8 Try.underlying22 hi hz0 hz1 hz2 rfl (by decide) _ j ((Cs.down N j).map (Value.int .i64)) rfl (hdn1.alloc _) ⟨w1.heap.size, 0, none⟩ 1 1 [.int .i64 ((N : Int) + 1 - ((j : Int) + 1))] rfl rfl (fun q u hq => by match q, hq with | 0, hq => simp at hq; subst hq; simp [Addr.add, go_sem]) (fun u hu => by simp at hu; subst hu; rfl) (by unfold maxLen; omega) (by omega) (by simp; have := hB2.size; omega) ?_; intro v2 w2 hown2 hg2 hn2 hat2
           have hdn2 : w2.ownsRow w.heap.size 3 1 v2 (j + 1) ((Cs.down N (j + 1)).map (Value.int .i64)) := by rw [Cs.down_succ, List.map_append, WE.out]; exact hown2
           have hup2 := (hup1.alloc (Obj.cells #[.int .i64 ((N : Int) + 1 - ((j : Int) + 1))] 3)).kept hg2 hne1
           have hne2 := ob_swap (ob_new hat2 (ob_swap hne1) (fun q hq => by have := (hup1.lt q hq).2; simp; omega))
           have hB3 : Below w.heap.size w w2 := Below.grown (hB2.alloc hB2.size _) hg2 (by simp; have := hB2.size; omega) (fun q hq => (hdn1.lt q hq).1)
           clear hup1 hdn1 hne1 hown2 hg2 hn2 hat2))
      go_roundw
      case rel => exact ⟨j + 1, by omega, by push_cast; rfl, hup2, hdn2, hne2, hB3⟩
      case measure => simp [intOf]; omega
    · obtain rfl : j = N := by omega
      have dj : decide ((j : Int) + 1 ≤ (j : Int)) = false := by simp; omega
      have djn : ¬ ((j : Int) + 1 ≤ (j : Int)) := by omega
      have HU := Lib.hid (IS.of_row (zs := Cs.up j) (by rw [Cs.up_length]; exact hup)); have HDN := Lib.hid (IS.of_row (zs := Cs.down j j) (by rw [Cs.down_length]; exact hdn))
      have U1 : Hid (∀ x ∈ Cs.up j, In64 x) := Lib.hid (fun x hx => by have := (Cs.up_mem j x).1 hx; unfold In64; omega)
      have U2 : Hid (∀ x ∈ Cs.down j j, In64 x) := Lib.hid (fun x hx => by have := (Cs.down_mem j x).1 hx; unfold In64; omega)
      clear hup hdn hne
      go_wp2_with (first
        | (go_at_call 25; (with_reducible refine (Sizes_c _ (Cs.up j) (O : Int) _ (by rw [Cs.up_length]; omega) U1.out hOi HU.out a h 0 HA.out HH.out HE.out).mono ?_); rintro e w2 ⟨rfl, hb2⟩; have hB2 : Below w.heap.size w w2 := below_step hB hb2; replace HDN := Lib.hid (HDN.out.below hb2); clear hb2)
        | (go_at_call 25; (with_reducible refine (Sizes_c _ (Cs.down j j) (O : Int) _ (by rw [Cs.down_length]; omega) U2.out hOi HDN.out a h 0 HA'.out HH'.out HE'.out).mono ?_); rintro e w3 ⟨rfl, hb3⟩; have hB3 : Below w.heap.size w w3 := below_step hB2 hb3; clear hb3))
      all_goals go_ret
      all_goals first | exact ⟨rfl, hB3⟩ | (exfalso; simp at o0 n0; omega)
theorem rowCensusRow (n o : Int) (fn : In64 n) (fo : In64 o) (w : World) : Calls Try.prog 8 #[.int .i64 n, .int .i64 o] w fun e w' => e = .returned (.bool true) ∧ Below w.heap.size w w' := by
  obtain ⟨N, hNl, hN, hN1, hN2⟩ := umod n 3000 (by decide) (by decide)
  obtain ⟨O, hOl, hO, hO1, hO2⟩ := umod o 1000 (by decide) (by decide)
  obtain ⟨e1, e2, e3⟩ := Cs.sizes_row N (by omega) O (by omega) (by omega)
  obtain ⟨p1, p2, p3⟩ := Cs.sizes_perm (Cs.down_perm N) O
  have hc : (O : Int) ≤ Ws.ceil2 O ∧ (O = 0 → Ws.ceil2 O = 0) := by
    by_cases h0 : O = 0
    · subst h0; decide
    · obtain ⟨k, hk, -, h2, -, h4, -⟩ := Ws.ceil2_k (O : Int) (by omega) (by omega)
      exact ⟨by rw [h2]; exact h4, fun h => absurd h h0⟩
  have d1 : decide ((O : Int) ≤ Ws.ceil2 O) = true := by simpa using hc.1
  rcases e3 with ⟨z, e3⟩ | ⟨z, e3, e4⟩
  · have n0 : ((N : Int) == 0) = true := by simp; omega
    have a0 : (Cs.sizesA (Cs.up N) O == 0) = true := by rw [e3]; rfl
    by_cases h0 : O = 0
    · have o0 : decide (0 < (O : Int)) = false := by simp; omega
      have hz : (Ws.ceil2 (O : Int) == 0) = true := by rw [hc.2 h0]; rfl
      exact walk_CensusRow_zz n o N O hN hN1 hN2 (by omega) hO hO1 hO2 (by omega) _ _ rfl e2 e1 p1 (p2.trans e2) (p3.trans e1) n0 a0 o0 hz d1 w
    · have o0 : decide (0 < (O : Int)) = true := by simp; omega
      exact walk_CensusRow_zp n o N O hN hN1 hN2 (by omega) hO hO1 hO2 (by omega) _ _ rfl e2 e1 p1 (p2.trans e2) (p3.trans e1) n0 a0 o0 d1 w
  · have n0 : ((N : Int) == 0) = false := by simp; omega
    have n1 : decide (0 < (N : Int)) = true := by simp; omega
    have a0 : decide ((N : Int) ≤ Cs.sizesA (Cs.up N) O) = true := by simpa using e3
    have a1 : decide (Cs.sizesA (Cs.up N) O < 2 * (N : Int)) = true := by simpa using e4
    by_cases h0 : O = 0
    · have o0 : decide (0 < (O : Int)) = false := by simp; omega
      have hz : (Ws.ceil2 (O : Int) == 0) = true := by rw [hc.2 h0]; rfl
      exact walk_CensusRow_pz n o N O hN hN1 hN2 (by omega) hO hO1 hO2 (by omega) _ _ rfl e2 e1 p1 (p2.trans e2) (p3.trans e1) n0 n1 a0 a1 o0 hz d1 w
    · have o0 : decide (0 < (O : Int)) = true := by simp; omega
      exact walk_CensusRow_pp n o N O hN hN1 hN2 (by omega) hO hO1 hO2 (by omega) _ _ rfl e2 e1 p1 (p2.trans e2) (p3.trans e1) n0 n1 a0 a1 o0 d1 w
end Go.Proofs.Ytfhigeefclchiaa
