/- Merged of Slices, Box11, Box12, Box13, Box14. -/
import Derived.Test.YtpppcoobibmlhaaDoorBase
import Derived.Test.YtpppcoobibmlhaaDoorBoxA
import Derived.Test.YtpppcoobibmlhaaDoorBoxB
import Derived.Test.YtpppcoobibmlhaaDoorFmt
/- Slices that are read, rows that are owned: small laws. -/
namespace Go.Proofs.YtpppcoobibmlhaaDoor
open Go.RowKit

/-- An owned row, behind a call that leaves old memory as it was. -/
theorem ownsRow_below {w w' : World} {base : Nat} {e : TypeId} {size : Nat} {v : Value} {n : Nat} {xs : List Value} (h : w.ownsRow base e size v n xs) (hb : Below w.heap.size w w') : w'.ownsRow base e size v n xs := by
  obtain ⟨h1, h2⟩ := h
  refine ⟨h1, ?_⟩
  rcases h2 with h2 | ⟨g, cap, cur, hv, hg, hh, r⟩
  · exact Or.inl h2
  · refine Or.inr ⟨g, cap, cur, hv, hg, ?_, r⟩
    rw [hb.block g ?_]
    · exact hh
    · apply Decidable.byContradiction
      intro hn
      rw [Array.getElem?_eq_none (by omega)] at hh
      exact absurd hh (by simp)
/-- The slice's value reads as this list of values (three cells each). -/
def Vals (w : World) (sl : Value) (l : List V) : Prop :=
  (l = [] ∧ sl = .slice none 0 0) ∨ ∃ b o cap, sl = .slice (some ⟨b, o, none⟩) l.length cap ∧ b < w.heap.size ∧ ∀ i (h : i < l.length), w.cell? ⟨b, o + i * 3, none⟩ = some (.int .i64 l[i].k) ∧ w.cell? ⟨b, o + i * 3 + 1, none⟩ = some (.int .i64 l[i].n) ∧ w.cell? ⟨b, o + i * 3 + 2, none⟩ = some (.string l[i].s)
theorem Vals.below {w w' : World} {sl : Value} {l : List V} (h : Vals w sl l) (hb : Below w.heap.size w w') : Vals w' sl l := by
  rcases h with h | ⟨b, o, cap, hs, hl, hc⟩
  · exact .inl h
  · refine .inr ⟨b, o, cap, hs, Nat.lt_of_lt_of_le hl hb.size, fun i hi => ?_⟩
    have := hc i hi
    rw [hb.cell (p := ⟨b, _, none⟩) hl, hb.cell (p := ⟨b, _, none⟩) hl, hb.cell (p := ⟨b, _, none⟩) hl]
    exact this
theorem take_succ_map {α β : Type} (l : List α) (f : α → β) (i : Nat) (h : i < l.length) : (l.take (i + 1)).map f = (l.take i).map f ++ [f l[i]] := by
  rw [List.take_succ_eq_append_getElem h, List.map_append]; rfl
theorem Tryd.infoBool : (Tryd.prog.info? 4).map (fun i => (i.zero, i.size, i.bytes)) = some (some (.bool false), 1, 1) := by kernel_rfl
end Go.Proofs.YtpppcoobibmlhaaDoor
/- Contracts of the package box: Try. -/
namespace Go.Proofs.YtpppcoobibmlhaaDoor
open Go.RowKit
set_option linter.unusedVariables false
set_option linter.unusedSimpArgs false

/-- What Try answers: the row of answers, in new memory. -/
def TryPost (l : List V) (k : Int) (w : World) (e : Ending) (w' : World) : Prop :=
  ∃ v, e = .returned v ∧ w'.ownsRow w.heap.size 4 1 v l.length (l.map fun x => Value.bool (!fits x k)) ∧ Below w.heap.size w w'
set_option maxRecDepth 100000 in
theorem box_Try_some (l : List V) (k : Int) (b o cap : Nat) (w : World) (hl : l.length ≤ 4398046511104) (hlt : b < w.heap.size)
    (hc : ∀ i (h : i < l.length), w.cell? ⟨b, o + i * 3, none⟩ = some (.int .i64 l[i].k) ∧ w.cell? ⟨b, o + i * 3 + 1, none⟩ = some (.int .i64 l[i].n) ∧ w.cell? ⟨b, o + i * 3 + 2, none⟩ = some (.string l[i].s)) :
    Calls Tryd.prog 45 #[.slice (some ⟨b, o, none⟩) l.length cap, .int .i64 k] w (TryPost l k w) := by
  have hu := Tryd.underlying33
  obtain ⟨i0, hi, hz0, hz1, hz2⟩ := info_parts Tryd.infoBool
  have HC := Lib.hid hc
  clear hc
  go_enter Tryd.func45, Tryd.ntmps45
  go_wp2
  go_loopw [5, 7, 10] (fun v p i wr => ∃ j : Nat, j ≤ l.length ∧ i = .int .i64 j ∧ wr.ownsRow w.heap.size 4 1 v j ((l.take j).map fun x => Value.bool (!fits x k)) ∧ Below w.heap.size w wr) (fun _ _ i _ => l.length - (intOf i).toNat)
  case atStart => exact ⟨0, Nat.zero_le _, rfl, World.ownsRow_nil _ _ _ _, Below.refl _ _⟩
  case round =>
    obtain ⟨j, hj, rfl, hown, hB⟩ := hrel
    by_cases hjl : j < l.length
    · have hjl' : (j : Int) < l.length := by omega
      obtain ⟨c0, c1, c2⟩ := HC.out j hjl
      rw [← hB.cell (p := ⟨b, _, none⟩) hlt] at c0 c1 c2
      have HT := Lib.hid (take_succ_map l (fun x => Value.bool (!fits x k)) j hjl)
      obtain ⟨y, hy⟩ : ∃ y, l[j] = y := ⟨_, rfl⟩
      rw [hy] at c0 c1 c2 HT
      have HY := Lib.hid hy
      clear hy
      go_wp2_with (first | (go_at_call 73; refine (box_panics y k _).mono ?_; rintro e w1 ⟨rfl, hb1⟩; have hown1 := ownsRow_below (hown.alloc _) hb1; have hB1 : Below w.heap.size w w1 := hB.trans (((Below.refl _ _).alloc (Nat.le_refl _) _).trans (hb1.mono (by simp)) |>.mono hB.size); have hs1 := hB1.size; clear hb1) | (at_builtin; refine wpList_append_own _ rfl _ _ 50 rfl w.heap.size 4 i0 (.bool false) 1 1 Tryd.underlying50 hi hz0 hz1 hz2 rfl (by decide) _ _ _ rfl (hown1.alloc _) ⟨w1.heap.size, 0, none⟩ 1 1 [.bool (!fits y k)] rfl rfl ?c1 ?c2 ?c3 ?c4 ?c5 ?_))
      case c1 =>
        intro q u hq
        match q, hq with
        | 0, hq => simp at hq; subst hq; simp [Addr.add]
      case c2 => intro u hq; simp at hq; subst hq; rfl
      case c3 => unfold maxLen; omega
      case c4 => omega
      case c5 => simp; omega
      · intro v' w2 hown2 hg2 _
        have hB2 : Below w.heap.size w w2 := Below.grown (hB1.alloc (by omega) _) hg2 (by simp; omega) (fun q hq => (hown1.lt q hq).1)
        rw [← List.map_take, ← HT.out] at hown2
        clear hown hown1 hg2 c0 c1 c2
        go_wp2
        go_roundw
        case rel => exact ⟨j + 1, by omega, by go_num, hown2, hB2⟩
        case measure => simp [intOf]; omega
    · obtain rfl : j = l.length := by omega
      rw [List.take_length] at hown
      go_wp2
      go_ret
      exact ⟨_, rfl, hown, hB⟩
set_option maxRecDepth 100000 in
theorem box_Try_none (k : Int) (w : World) : Calls Tryd.prog 45 #[.slice none 0 0, .int .i64 k] w (TryPost [] k w) := by
  go_enter Tryd.func45, Tryd.ntmps45
  go_wp2
  go_loopw [5, 7, 10] (fun v p i wr => i = .int .i64 0 ∧ v = .slice none 0 0 ∧ w = wr) (fun _ _ i _ => 0)
  case atStart => exact ⟨rfl, rfl, rfl⟩
  case round =>
    obtain ⟨rfl, rfl, rfl⟩ := hrel
    go_wp2
    go_ret
    exact ⟨_, rfl, World.ownsRow_nil _ _ _ _, Below.refl _ _⟩
theorem box_Try (l : List V) (k : Int) (sl : Value) (w : World) (hl : l.length ≤ 4398046511104) (h : Vals w sl l) : Calls Tryd.prog 45 #[sl, .int .i64 k] w (TryPost l k w) := by
  rcases h with ⟨rfl, rfl⟩ | ⟨b, o, cap, rfl, hb, hc⟩
  · exact box_Try_none k w
  · exact box_Try_some l k b o cap w hl hb hc
end Go.Proofs.YtpppcoobibmlhaaDoor
/- The reference's answers on values: Check, Both, and the makers. -/
namespace Go.Proofs.YtpppcoobibmlhaaDoor
open Go.RowKit
set_option linter.unusedVariables false
set_option linter.unusedSimpArgs false

theorem ef_true {v : V} (h : okV v = true) : 0 = errForm (okV v) := by rw [h]; rfl
theorem ef_false {v : V} (h : okV v = false) : 2 = errForm (okV v) := by rw [h]; rfl
theorem okV_0 (n : Int) (s : ByteArray) : okV ⟨0, n, s⟩ = (n == 0 && s.toList.isEmpty) := rfl
theorem okV_1 (n : Int) (s : ByteArray) : okV ⟨1, n, s⟩ = ((n == 0 || n == 1) && s.toList.isEmpty) := rfl
theorem okV_2 (n : Int) (s : ByteArray) : okV ⟨2, n, s⟩ = s.toList.isEmpty := rfl
theorem okV_3 (n : Int) (s : ByteArray) : okV ⟨3, n, s⟩ = (n == 0 && decide ((s.size : Int) ≤ 10000)) := rfl
theorem okV_4 (n : Int) (s : ByteArray) : okV ⟨4, n, s⟩ = (decide (1 ≤ n) && s.toList.isEmpty) := rfl
theorem okV_5 (n : Int) (s : ByteArray) : okV ⟨5, n, s⟩ = (decide (1 ≤ n) && s.toList.isEmpty) := rfl
theorem okV_6 (n : Int) (s : ByteArray) : okV ⟨6, n, s⟩ = (decide (1 ≤ n) && s.toList.isEmpty) := rfl
set_option maxRecDepth 100000 in
theorem ref_I (n : Int) (w : World) : Calls Tryd.prog 65 #[.int .i64 n] w fun e w' => e = .returned (vv ⟨2, n, ⟨#[]⟩⟩) ∧ Below w.heap.size w w' := by
  have hu := Tryd.underlying33
  go_enter Tryd.func65, Tryd.ntmps65
  go_wp2
  exact bodyPost_ret (v := vv ⟨2, n, ⟨#[]⟩⟩) (by simp [results, Tryd.results65, go_sem, vv]) rfl ⟨rfl, (by repeat (first | exact Below.refl _ _ | assumption | refine below_drewN ?_ _ | refine Below.drew ?_ | refine Below.alloc ?_ (by first | exact Nat.le_refl _ | (simp; omega) | omega | simp) _ | refine Below.setCell ?_ (by first | exact Nat.le_refl _ | (simp; omega) | simp | omega) _))⟩
set_option maxRecDepth 100000 in
theorem ref_S (t : ByteArray) (w : World) : Calls Tryd.prog 31 #[.string t] w fun e w' => e = .returned (vv ⟨3, 0, t⟩) ∧ Below w.heap.size w w' := by
  have hu := Tryd.underlying33
  go_enter Tryd.func31, Tryd.ntmps31
  go_wp2
  exact bodyPost_ret (v := vv ⟨3, 0, t⟩) (by simp [results, Tryd.results31, go_sem, vv]) rfl ⟨rfl, (by repeat (first | exact Below.refl _ _ | assumption | refine below_drewN ?_ _ | refine Below.drew ?_ | refine Below.alloc ?_ (by first | exact Nat.le_refl _ | (simp; omega) | omega | simp) _ | refine Below.setCell ?_ (by first | exact Nat.le_refl _ | (simp; omega) | simp | omega) _))⟩
set_option maxRecDepth 100000 in
theorem ref_T (n : Int) (w : World) : Calls Tryd.prog 66 #[.int .i64 n] w fun e w' => e = .returned (vv ⟨4, n, ⟨#[]⟩⟩) ∧ Below w.heap.size w w' := by
  have hu := Tryd.underlying33
  go_enter Tryd.func66, Tryd.ntmps66
  go_wp2
  exact bodyPost_ret (v := vv ⟨4, n, ⟨#[]⟩⟩) (by simp [results, Tryd.results66, go_sem, vv]) rfl ⟨rfl, (by repeat (first | exact Below.refl _ _ | assumption | refine below_drewN ?_ _ | refine Below.drew ?_ | refine Below.alloc ?_ (by first | exact Nat.le_refl _ | (simp; omega) | omega | simp) _ | refine Below.setCell ?_ (by first | exact Nat.le_refl _ | (simp; omega) | simp | omega) _))⟩
set_option maxRecDepth 100000 in
theorem ref_Check_0 (n : Int) (s : ByteArray) (w : World) : Calls Tryd.prog 30 #[.agg #[.int .i64 0, .int .i64 n, .string s]] w fun e w' => e = .returned (.int .i64 (errForm (okV ⟨0, n, s⟩))) ∧ Below w.heap.size w w' := by
  have hu := Tryd.underlying33
  go_enter Tryd.func30, Tryd.ntmps30
  go_wp2
  all_goals go_ret
  all_goals refine ⟨ret_int ?_, (by repeat (first | exact Below.refl _ _ | assumption | refine below_drewN ?_ _ | refine Below.drew ?_ | refine Below.alloc ?_ (by first | exact Nat.le_refl _ | (simp; omega) | omega | simp) _ | refine Below.setCell ?_ (by first | exact Nat.le_refl _ | (simp; omega) | simp | omega) _))⟩
  all_goals clear hu
  all_goals obtain ⟨u, hu⟩ : ∃ u, s.toList.isEmpty = u := ⟨_, rfl⟩
  all_goals first | (refine ef_true ?_; rw [okV_0]) | (refine ef_false ?_; rw [okV_0])
  all_goals simp_all
  all_goals (first | omega | (intros; omega))
set_option maxRecDepth 100000 in
theorem ref_Check_1 (n : Int) (s : ByteArray) (w : World) : Calls Tryd.prog 30 #[.agg #[.int .i64 1, .int .i64 n, .string s]] w fun e w' => e = .returned (.int .i64 (errForm (okV ⟨1, n, s⟩))) ∧ Below w.heap.size w w' := by
  have hu := Tryd.underlying33
  go_enter Tryd.func30, Tryd.ntmps30
  go_wp2
  all_goals go_ret
  all_goals refine ⟨ret_int ?_, (by repeat (first | exact Below.refl _ _ | assumption | refine below_drewN ?_ _ | refine Below.drew ?_ | refine Below.alloc ?_ (by first | exact Nat.le_refl _ | (simp; omega) | omega | simp) _ | refine Below.setCell ?_ (by first | exact Nat.le_refl _ | (simp; omega) | simp | omega) _))⟩
  all_goals clear hu
  all_goals obtain ⟨u, hu⟩ : ∃ u, s.toList.isEmpty = u := ⟨_, rfl⟩
  all_goals first | (refine ef_true ?_; rw [okV_1]) | (refine ef_false ?_; rw [okV_1])
  all_goals simp_all
  all_goals (first | omega | (intros; omega))
set_option maxRecDepth 100000 in
theorem ref_Check_2 (n : Int) (s : ByteArray) (w : World) : Calls Tryd.prog 30 #[.agg #[.int .i64 2, .int .i64 n, .string s]] w fun e w' => e = .returned (.int .i64 (errForm (okV ⟨2, n, s⟩))) ∧ Below w.heap.size w w' := by
  have hu := Tryd.underlying33
  go_enter Tryd.func30, Tryd.ntmps30
  go_wp2
  all_goals go_ret
  all_goals refine ⟨ret_int ?_, (by repeat (first | exact Below.refl _ _ | assumption | refine below_drewN ?_ _ | refine Below.drew ?_ | refine Below.alloc ?_ (by first | exact Nat.le_refl _ | (simp; omega) | omega | simp) _ | refine Below.setCell ?_ (by first | exact Nat.le_refl _ | (simp; omega) | simp | omega) _))⟩
  all_goals clear hu
  all_goals obtain ⟨u, hu⟩ : ∃ u, s.toList.isEmpty = u := ⟨_, rfl⟩
  all_goals first | (refine ef_true ?_; rw [okV_2]) | (refine ef_false ?_; rw [okV_2])
  all_goals simp_all
  all_goals (first | omega | (intros; omega))
set_option maxRecDepth 100000 in
theorem ref_Check_3 (n : Int) (s : ByteArray) (w : World) : Calls Tryd.prog 30 #[.agg #[.int .i64 3, .int .i64 n, .string s]] w fun e w' => e = .returned (.int .i64 (errForm (okV ⟨3, n, s⟩))) ∧ Below w.heap.size w w' := by
  have hu := Tryd.underlying33
  go_enter Tryd.func30, Tryd.ntmps30
  go_wp2
  all_goals go_ret
  all_goals refine ⟨ret_int ?_, (by repeat (first | exact Below.refl _ _ | assumption | refine below_drewN ?_ _ | refine Below.drew ?_ | refine Below.alloc ?_ (by first | exact Nat.le_refl _ | (simp; omega) | omega | simp) _ | refine Below.setCell ?_ (by first | exact Nat.le_refl _ | (simp; omega) | simp | omega) _))⟩
  all_goals clear hu
  all_goals obtain ⟨u, hu⟩ : ∃ u, s.toList.isEmpty = u := ⟨_, rfl⟩
  all_goals first | (refine ef_true ?_; rw [okV_3]) | (refine ef_false ?_; rw [okV_3])
  all_goals simp_all
  all_goals (first | omega | (intros; omega))
set_option maxRecDepth 100000 in
theorem ref_Check_4 (n : Int) (s : ByteArray) (w : World) : Calls Tryd.prog 30 #[.agg #[.int .i64 4, .int .i64 n, .string s]] w fun e w' => e = .returned (.int .i64 (errForm (okV ⟨4, n, s⟩))) ∧ Below w.heap.size w w' := by
  have hu := Tryd.underlying33
  go_enter Tryd.func30, Tryd.ntmps30
  go_wp2
  all_goals go_ret
  all_goals refine ⟨ret_int ?_, (by repeat (first | exact Below.refl _ _ | assumption | refine below_drewN ?_ _ | refine Below.drew ?_ | refine Below.alloc ?_ (by first | exact Nat.le_refl _ | (simp; omega) | omega | simp) _ | refine Below.setCell ?_ (by first | exact Nat.le_refl _ | (simp; omega) | simp | omega) _))⟩
  all_goals clear hu
  all_goals obtain ⟨u, hu⟩ : ∃ u, s.toList.isEmpty = u := ⟨_, rfl⟩
  all_goals first | (refine ef_true ?_; rw [okV_4]) | (refine ef_false ?_; rw [okV_4])
  all_goals simp_all
  all_goals (first | omega | (intros; omega))
set_option maxRecDepth 100000 in
theorem ref_Check_5 (n : Int) (s : ByteArray) (w : World) : Calls Tryd.prog 30 #[.agg #[.int .i64 5, .int .i64 n, .string s]] w fun e w' => e = .returned (.int .i64 (errForm (okV ⟨5, n, s⟩))) ∧ Below w.heap.size w w' := by
  have hu := Tryd.underlying33
  go_enter Tryd.func30, Tryd.ntmps30
  go_wp2
  all_goals go_ret
  all_goals refine ⟨ret_int ?_, (by repeat (first | exact Below.refl _ _ | assumption | refine below_drewN ?_ _ | refine Below.drew ?_ | refine Below.alloc ?_ (by first | exact Nat.le_refl _ | (simp; omega) | omega | simp) _ | refine Below.setCell ?_ (by first | exact Nat.le_refl _ | (simp; omega) | simp | omega) _))⟩
  all_goals clear hu
  all_goals obtain ⟨u, hu⟩ : ∃ u, s.toList.isEmpty = u := ⟨_, rfl⟩
  all_goals first | (refine ef_true ?_; rw [okV_5]) | (refine ef_false ?_; rw [okV_5])
  all_goals simp_all
  all_goals (first | omega | (intros; omega))
set_option maxRecDepth 100000 in
theorem ref_Check_6 (n : Int) (s : ByteArray) (w : World) : Calls Tryd.prog 30 #[.agg #[.int .i64 6, .int .i64 n, .string s]] w fun e w' => e = .returned (.int .i64 (errForm (okV ⟨6, n, s⟩))) ∧ Below w.heap.size w w' := by
  have hu := Tryd.underlying33
  go_enter Tryd.func30, Tryd.ntmps30
  go_wp2
  all_goals go_ret
  all_goals refine ⟨ret_int ?_, (by repeat (first | exact Below.refl _ _ | assumption | refine below_drewN ?_ _ | refine Below.drew ?_ | refine Below.alloc ?_ (by first | exact Nat.le_refl _ | (simp; omega) | omega | simp) _ | refine Below.setCell ?_ (by first | exact Nat.le_refl _ | (simp; omega) | simp | omega) _))⟩
  all_goals clear hu
  all_goals obtain ⟨u, hu⟩ : ∃ u, s.toList.isEmpty = u := ⟨_, rfl⟩
  all_goals first | (refine ef_true ?_; rw [okV_6]) | (refine ef_false ?_; rw [okV_6])
  all_goals simp_all
  all_goals (first | omega | (intros; omega))
set_option maxRecDepth 100000 in
theorem ref_Check_else (k n : Int) (s : ByteArray) (w : World) (e0 : k ≠ 0) (e1 : k ≠ 1) (e2 : k ≠ 2) (e3 : k ≠ 3) (e4 : k ≠ 4) (e5 : k ≠ 5) (e6 : k ≠ 6) :
    Calls Tryd.prog 30 #[.agg #[.int .i64 k, .int .i64 n, .string s]] w fun e w' => e = .returned (.int .i64 2) ∧ Below w.heap.size w w' := by
  have hu := Tryd.underlying33
  have f0 : (k == 0) = false := by simpa using e0
  have f1 : (k == 1) = false := by simpa using e1
  have f2 : (k == 2) = false := by simpa using e2
  have f3 : (k == 3) = false := by simpa using e3
  have f4 : (k == 4) = false := by simpa using e4
  have f5 : (k == 5) = false := by simpa using e5
  have f6 : (k == 6) = false := by simpa using e6
  clear e0 e1 e2 e3 e4 e5 e6
  go_enter Tryd.func30, Tryd.ntmps30
  go_wp2
  go_ret
  exact ⟨rfl, (by repeat (first | exact Below.refl _ _ | assumption | refine below_drewN ?_ _ | refine Below.drew ?_ | refine Below.alloc ?_ (by first | exact Nat.le_refl _ | (simp; omega) | omega | simp) _ | refine Below.setCell ?_ (by first | exact Nat.le_refl _ | (simp; omega) | simp | omega) _))⟩
theorem ref_Check (v : V) (w : World) : Calls Tryd.prog 30 #[vv v] w fun e w' => e = .returned (.int .i64 (errForm (okV v))) ∧ Below w.heap.size w w' := by
  obtain ⟨k, n, s⟩ := v
  unfold vv
  simp only
  by_cases h0 : k = 0
  · subst h0; exact ref_Check_0 n s w
  by_cases h1 : k = 1
  · subst h1; exact ref_Check_1 n s w
  by_cases h2 : k = 2
  · subst h2; exact ref_Check_2 n s w
  by_cases h3 : k = 3
  · subst h3; exact ref_Check_3 n s w
  by_cases h4 : k = 4
  · subst h4; exact ref_Check_4 n s w
  by_cases h5 : k = 5
  · subst h5; exact ref_Check_5 n s w
  by_cases h6 : k = 6
  · subst h6; exact ref_Check_6 n s w
  have : okV ⟨k, n, s⟩ = false := by
    unfold okV
    simp only
    rw [if_neg h0, if_neg h1, if_neg h2, if_neg h3, if_neg (by omega)]
  rw [this]
  exact ref_Check_else k n s w h0 h1 h2 h3 h4 h5 h6
theorem ref_Check_c (v : V) (b : Bool) (h : okV v = b) (w : World) : Calls Tryd.prog 30 #[vv v] w fun e w' => e = .returned (.int .i64 (errForm b)) ∧ Below w.heap.size w w' := by
  rw [← h]; exact ref_Check v w
theorem ref_Check_f (k n : Int) (s : ByteArray) (z : Int) (h : errForm (okV ⟨k, n, s⟩) = z) (w : World) : Calls Tryd.prog 30 #[.agg #[.int .i64 k, .int .i64 n, .string s]] w fun e w' => e = .returned (.int .i64 z) ∧ Below w.heap.size w w' := by
  rw [← h]; exact ref_Check ⟨k, n, s⟩ w
set_option maxRecDepth 100000 in
theorem ref_Both_00 (a b : V) (ha : errForm (okV a) = 0) (hb : errForm (okV b) = 0) (w : World) : Calls Tryd.prog 28 #[vv a, vv b] w fun e w' => e = .returned (.int .i64 0) ∧ Below w.heap.size w w' := by
  have hu := Tryd.underlying33
  obtain ⟨ak, an, az⟩ := a
  obtain ⟨bk, bn, bz⟩ := b
  have HA := Lib.hid ha; have HB := Lib.hid hb
  clear ha hb
  unfold vv
  go_enter Tryd.func28, Tryd.ntmps28
  go_wp2_with (first | (go_at_call 30; (with_reducible refine (ref_Check_f ak an az _ HA.out _).mono ?_); rintro e w1 ⟨rfl, hb1⟩; have hB1 : Below w.heap.size w w1 := below_step (by repeat (first | exact Below.refl _ _ | assumption | refine below_drewN ?_ _ | refine Below.drew ?_ | refine Below.alloc ?_ (by first | exact Nat.le_refl _ | (simp; omega) | omega | simp) _ | refine Below.setCell ?_ (by first | exact Nat.le_refl _ | (simp; omega) | simp | omega) _)) hb1; obtain ⟨hc1, hf1, hz1⟩ := bcell hb1; (try simp only [sz_alloc, sz_set, sz_drew, sz_drewN] at hc1 hf1 hz1); clear hb1) | (go_at_call 30; (with_reducible refine (ref_Check_f bk bn bz _ HB.out _).mono ?_); rintro e w2 ⟨rfl, hb2⟩; have hB2 : Below w.heap.size w w2 := below_step (by repeat (first | exact Below.refl _ _ | assumption | refine below_drewN ?_ _ | refine Below.drew ?_ | refine Below.alloc ?_ (by first | exact Nat.le_refl _ | (simp; omega) | omega | simp) _ | refine Below.setCell ?_ (by first | exact Nat.le_refl _ | (simp; omega) | simp | omega) _)) hb2; obtain ⟨hc2, hf2, hz2⟩ := bcell hb2; (try simp only [sz_alloc, sz_set, sz_drew, sz_drewN] at hc2 hf2 hz2); clear hb2))
  go_ret
  exact ⟨rfl, (by repeat (first | exact Below.refl _ _ | assumption | refine below_drewN ?_ _ | refine Below.drew ?_ | refine Below.alloc ?_ (by first | exact Nat.le_refl _ | (simp; omega) | omega | simp) _ | refine Below.setCell ?_ (by first | exact Nat.le_refl _ | (simp; omega) | simp | omega) _))⟩
set_option maxRecDepth 100000 in
theorem ref_Both_02 (a b : V) (ha : errForm (okV a) = 0) (hb : errForm (okV b) = 2) (w : World) : Calls Tryd.prog 28 #[vv a, vv b] w fun e w' => e = .returned (.int .i64 2) ∧ Below w.heap.size w w' := by
  have hu := Tryd.underlying33
  obtain ⟨ak, an, az⟩ := a
  obtain ⟨bk, bn, bz⟩ := b
  have HA := Lib.hid ha; have HB := Lib.hid hb
  clear ha hb
  unfold vv
  go_enter Tryd.func28, Tryd.ntmps28
  go_wp2_with (first | (go_at_call 30; (with_reducible refine (ref_Check_f ak an az _ HA.out _).mono ?_); rintro e w1 ⟨rfl, hb1⟩; have hB1 : Below w.heap.size w w1 := below_step (by repeat (first | exact Below.refl _ _ | assumption | refine below_drewN ?_ _ | refine Below.drew ?_ | refine Below.alloc ?_ (by first | exact Nat.le_refl _ | (simp; omega) | omega | simp) _ | refine Below.setCell ?_ (by first | exact Nat.le_refl _ | (simp; omega) | simp | omega) _)) hb1; obtain ⟨hc1, hf1, hz1⟩ := bcell hb1; (try simp only [sz_alloc, sz_set, sz_drew, sz_drewN] at hc1 hf1 hz1); clear hb1) | (go_at_call 30; (with_reducible refine (ref_Check_f bk bn bz _ HB.out _).mono ?_); rintro e w2 ⟨rfl, hb2⟩; have hB2 : Below w.heap.size w w2 := below_step (by repeat (first | exact Below.refl _ _ | assumption | refine below_drewN ?_ _ | refine Below.drew ?_ | refine Below.alloc ?_ (by first | exact Nat.le_refl _ | (simp; omega) | omega | simp) _ | refine Below.setCell ?_ (by first | exact Nat.le_refl _ | (simp; omega) | simp | omega) _)) hb2; obtain ⟨hc2, hf2, hz2⟩ := bcell hb2; (try simp only [sz_alloc, sz_set, sz_drew, sz_drewN] at hc2 hf2 hz2); clear hb2))
  go_ret
  exact ⟨rfl, (by repeat (first | exact Below.refl _ _ | assumption | refine below_drewN ?_ _ | refine Below.drew ?_ | refine Below.alloc ?_ (by first | exact Nat.le_refl _ | (simp; omega) | omega | simp) _ | refine Below.setCell ?_ (by first | exact Nat.le_refl _ | (simp; omega) | simp | omega) _))⟩
set_option maxRecDepth 100000 in
theorem ref_Both_2 (a b : V) (ha : errForm (okV a) = 2) (w : World) : Calls Tryd.prog 28 #[vv a, vv b] w fun e w' => e = .returned (.int .i64 2) ∧ Below w.heap.size w w' := by
  have hu := Tryd.underlying33
  obtain ⟨ak, an, az⟩ := a
  obtain ⟨bk, bn, bz⟩ := b
  have HA := Lib.hid ha
  clear ha
  unfold vv
  go_enter Tryd.func28, Tryd.ntmps28
  go_wp2_with (first | (go_at_call 30; (with_reducible refine (ref_Check_f ak an az _ HA.out _).mono ?_); rintro e w1 ⟨rfl, hb1⟩; have hB1 : Below w.heap.size w w1 := below_step (by repeat (first | exact Below.refl _ _ | assumption | refine below_drewN ?_ _ | refine Below.drew ?_ | refine Below.alloc ?_ (by first | exact Nat.le_refl _ | (simp; omega) | omega | simp) _ | refine Below.setCell ?_ (by first | exact Nat.le_refl _ | (simp; omega) | simp | omega) _)) hb1; obtain ⟨hc1, hf1, hz1⟩ := bcell hb1; (try simp only [sz_alloc, sz_set, sz_drew, sz_drewN] at hc1 hf1 hz1); clear hb1))
  go_ret
  exact ⟨rfl, (by repeat (first | exact Below.refl _ _ | assumption | refine below_drewN ?_ _ | refine Below.drew ?_ | refine Below.alloc ?_ (by first | exact Nat.le_refl _ | (simp; omega) | omega | simp) _ | refine Below.setCell ?_ (by first | exact Nat.le_refl _ | (simp; omega) | simp | omega) _))⟩
def bothE (a b : V) : Int := if okV a = true ∧ okV b = true then 0 else 2
theorem ref_Both (a b : V) (w : World) : Calls Tryd.prog 28 #[vv a, vv b] w fun e w' => e = .returned (.int .i64 (bothE a b)) ∧ Below w.heap.size w w' := by
  unfold bothE
  cases ha : okV a with
  | false => rw [if_neg (by simp)]; exact ref_Both_2 a b (by rw [ha]; rfl) w
  | true =>
    cases hb : okV b with
    | false => rw [if_neg (by simp)]; exact ref_Both_02 a b (by rw [ha]; rfl) (by rw [hb]; rfl) w
    | true => rw [if_pos ⟨rfl, rfl⟩]; exact ref_Both_00 a b (by rw [ha]; rfl) (by rw [hb]; rfl) w
theorem ref_Both_f (a b : V) (z : Int) (h : bothE a b = z) (w : World) : Calls Tryd.prog 28 #[vv a, vv b] w fun e w' => e = .returned (.int .i64 z) ∧ Below w.heap.size w w' := by
  rw [← h]; exact ref_Both a b w
end Go.Proofs.YtpppcoobibmlhaaDoor
/- The reference's answers on values: As, Fits, Truth, Type, Show. -/
namespace Go.Proofs.YtpppcoobibmlhaaDoor
open Go.RowKit
set_option linter.unusedVariables false
set_option linter.unusedSimpArgs false

theorem ref_Format_u (n : Int) (t : ByteArray) (hn : In64 n) (ht : itoaB n = t) (w : World) : Calls Tryd.prog 21 #[.int .i64 n] w fun e w' => e = .returned (.string t) ∧ Below w.heap.size w w' := by
  rw [← ht]; exact ref_Format n hn w
set_option maxRecDepth 100000 in
theorem ref_As_bad (v : V) (k : Int) (h : okV v = false) (w : World) : Calls Tryd.prog 47 #[vv v, .int .i64 k] w fun e w' => e = .returned (.tuple #[vv nilV, .bool false, .int .i64 2]) ∧ Below w.heap.size w w' := by
  have hu := Tryd.underlying33
  obtain ⟨vk, vn, vs⟩ := v
  have HA : Hid (errForm (okV ⟨vk, vn, vs⟩) = 2) := Lib.hid (by rw [h]; rfl)
  clear h
  unfold vv
  go_enter Tryd.func47, Tryd.ntmps47
  go_wp2_with (first | (go_at_call 30; (with_reducible refine (ref_Check_f vk vn vs _ HA.out _).mono ?_); rintro e w1 ⟨rfl, hb1⟩; have hB1 : Below w.heap.size w w1 := below_step (by repeat (first | exact Below.refl _ _ | assumption | refine below_drewN ?_ _ | refine Below.drew ?_ | refine Below.alloc ?_ (by first | exact Nat.le_refl _ | (simp; omega) | omega | simp) _ | refine Below.setCell ?_ (by first | exact Nat.le_refl _ | (simp; omega) | simp | omega) _)) hb1; obtain ⟨hc1, hf1, hz1⟩ := bcell hb1; (try simp only [sz_alloc, sz_set, sz_drew, sz_drewN] at hc1 hf1 hz1); clear hb1))
  exact bodyPost_ret (v := .tuple #[.agg #[.int .i64 0, .int .i64 0, .string ⟨#[]⟩], .bool false, .int .i64 2]) (by simp [results, Tryd.results47, go_sem, cell_set_self, *]) rfl ⟨rfl, (by repeat (first | exact Below.refl _ _ | assumption | refine below_drewN ?_ _ | refine Below.drew ?_ | refine Below.alloc ?_ (by first | exact Nat.le_refl _ | (simp; omega) | omega | simp) _ | refine Below.setCell ?_ (by first | exact Nat.le_refl _ | (simp; omega) | simp | omega) _))⟩
set_option maxRecDepth 100000 in
theorem ref_As_lo (v : V) (k : Int) (h : okV v = true) (h0 : k < 0) (w : World) : Calls Tryd.prog 47 #[vv v, .int .i64 k] w fun e w' => e = .returned (.tuple #[vv nilV, .bool false, .int .i64 1]) ∧ Below w.heap.size w w' := by
  have hu := Tryd.underlying33
  obtain ⟨vk, vn, vs⟩ := v
  have HA : Hid (errForm (okV ⟨vk, vn, vs⟩) = 0) := Lib.hid (by rw [h]; rfl)
  clear h
  have d1 : decide (k < 0) = true := by simpa using h0
  unfold vv
  go_enter Tryd.func47, Tryd.ntmps47
  go_wp2_with (first | (go_at_call 30; (with_reducible refine (ref_Check_f vk vn vs _ HA.out _).mono ?_); rintro e w1 ⟨rfl, hb1⟩; have hB1 : Below w.heap.size w w1 := below_step (by repeat (first | exact Below.refl _ _ | assumption | refine below_drewN ?_ _ | refine Below.drew ?_ | refine Below.alloc ?_ (by first | exact Nat.le_refl _ | (simp; omega) | omega | simp) _ | refine Below.setCell ?_ (by first | exact Nat.le_refl _ | (simp; omega) | simp | omega) _)) hb1; obtain ⟨hc1, hf1, hz1⟩ := bcell hb1; (try simp only [sz_alloc, sz_set, sz_drew, sz_drewN] at hc1 hf1 hz1); clear hb1))
  exact bodyPost_ret (v := .tuple #[.agg #[.int .i64 0, .int .i64 0, .string ⟨#[]⟩], .bool false, .int .i64 1]) (by simp [results, Tryd.results47, go_sem, cell_set_self, *]) rfl ⟨rfl, (by repeat (first | exact Below.refl _ _ | assumption | refine below_drewN ?_ _ | refine Below.drew ?_ | refine Below.alloc ?_ (by first | exact Nat.le_refl _ | (simp; omega) | omega | simp) _ | refine Below.setCell ?_ (by first | exact Nat.le_refl _ | (simp; omega) | simp | omega) _))⟩
set_option maxRecDepth 100000 in
theorem ref_As_hi (v : V) (k : Int) (h : okV v = true) (h0 : 6 < k) (w : World) : Calls Tryd.prog 47 #[vv v, .int .i64 k] w fun e w' => e = .returned (.tuple #[vv nilV, .bool false, .int .i64 1]) ∧ Below w.heap.size w w' := by
  have hu := Tryd.underlying33
  obtain ⟨vk, vn, vs⟩ := v
  have HA : Hid (errForm (okV ⟨vk, vn, vs⟩) = 0) := Lib.hid (by rw [h]; rfl)
  clear h
  have d1 : decide (6 < k) = true := by simpa using h0
  have d2 : decide (k < 0) = false := by simp; omega
  unfold vv
  go_enter Tryd.func47, Tryd.ntmps47
  go_wp2_with (first | (go_at_call 30; (with_reducible refine (ref_Check_f vk vn vs _ HA.out _).mono ?_); rintro e w1 ⟨rfl, hb1⟩; have hB1 : Below w.heap.size w w1 := below_step (by repeat (first | exact Below.refl _ _ | assumption | refine below_drewN ?_ _ | refine Below.drew ?_ | refine Below.alloc ?_ (by first | exact Nat.le_refl _ | (simp; omega) | omega | simp) _ | refine Below.setCell ?_ (by first | exact Nat.le_refl _ | (simp; omega) | simp | omega) _)) hb1; obtain ⟨hc1, hf1, hz1⟩ := bcell hb1; (try simp only [sz_alloc, sz_set, sz_drew, sz_drewN] at hc1 hf1 hz1); clear hb1))
  exact bodyPost_ret (v := .tuple #[.agg #[.int .i64 0, .int .i64 0, .string ⟨#[]⟩], .bool false, .int .i64 1]) (by simp [results, Tryd.results47, go_sem, cell_set_self, *]) rfl ⟨rfl, (by repeat (first | exact Below.refl _ _ | assumption | refine below_drewN ?_ _ | refine Below.drew ?_ | refine Below.alloc ?_ (by first | exact Nat.le_refl _ | (simp; omega) | omega | simp) _ | refine Below.setCell ?_ (by first | exact Nat.le_refl _ | (simp; omega) | simp | omega) _))⟩
set_option maxRecDepth 100000 in
theorem ref_As_no (v : V) (k : Int) (h : okV v = true) (h0 : 0 ≤ k) (h6 : k ≤ 6) (hk : k ≠ v.k) (w : World) : Calls Tryd.prog 47 #[vv v, .int .i64 k] w fun e w' => e = .returned (.tuple #[vv nilV, .bool false, .int .i64 0]) ∧ Below w.heap.size w w' := by
  have hu := Tryd.underlying33
  obtain ⟨vk, vn, vs⟩ := v
  have HA : Hid (errForm (okV ⟨vk, vn, vs⟩) = 0) := Lib.hid (by rw [h]; rfl)
  clear h
  have d1 : decide (6 < k) = false := by simp; omega
  have d2 : decide (k < 0) = false := by simp; omega
  have d3 : (vk == k) = false := by simpa using fun q => hk q.symm
  have d4 : (vk != k) = true := by simpa using fun q => hk q.symm
  clear hk
  unfold vv
  go_enter Tryd.func47, Tryd.ntmps47
  go_wp2_with (first | (go_at_call 30; (with_reducible refine (ref_Check_f vk vn vs _ HA.out _).mono ?_); rintro e w1 ⟨rfl, hb1⟩; have hB1 : Below w.heap.size w w1 := below_step (by repeat (first | exact Below.refl _ _ | assumption | refine below_drewN ?_ _ | refine Below.drew ?_ | refine Below.alloc ?_ (by first | exact Nat.le_refl _ | (simp; omega) | omega | simp) _ | refine Below.setCell ?_ (by first | exact Nat.le_refl _ | (simp; omega) | simp | omega) _)) hb1; obtain ⟨hc1, hf1, hz1⟩ := bcell hb1; (try simp only [sz_alloc, sz_set, sz_drew, sz_drewN] at hc1 hf1 hz1); clear hb1))
  exact bodyPost_ret (v := .tuple #[.agg #[.int .i64 0, .int .i64 0, .string ⟨#[]⟩], .bool false, .int .i64 0]) (by simp [results, Tryd.results47, go_sem, cell_set_self, *]) rfl ⟨rfl, (by repeat (first | exact Below.refl _ _ | assumption | refine below_drewN ?_ _ | refine Below.drew ?_ | refine Below.alloc ?_ (by first | exact Nat.le_refl _ | (simp; omega) | omega | simp) _ | refine Below.setCell ?_ (by first | exact Nat.le_refl _ | (simp; omega) | simp | omega) _))⟩
set_option maxRecDepth 100000 in
theorem ref_As_yes (v : V) (k : Int) (h : okV v = true) (hk : k = v.k) (w : World) : Calls Tryd.prog 47 #[vv v, .int .i64 k] w fun e w' => e = .returned (.tuple #[vv v, .bool true, .int .i64 0]) ∧ Below w.heap.size w w' := by
  have hu := Tryd.underlying33
  obtain ⟨vk, vn, vs⟩ := v
  have HA : Hid (errForm (okV ⟨vk, vn, vs⟩) = 0) := Lib.hid (by rw [h]; rfl)
  obtain ⟨h0, h6⟩ := okV_kind _ h
  clear h
  rw [← hk] at h0 h6
  have d3 : (vk == k) = true := by simpa using hk.symm
  have d4 : (vk != k) = false := by simpa using hk.symm
  have d1 : decide (6 < k) = false := by simp; omega
  have d2 : decide (k < 0) = false := by simp; omega
  clear hk h0 h6
  unfold vv
  go_enter Tryd.func47, Tryd.ntmps47
  go_wp2_with (first | (go_at_call 30; (with_reducible refine (ref_Check_f vk vn vs _ HA.out _).mono ?_); rintro e w1 ⟨rfl, hb1⟩; have hB1 : Below w.heap.size w w1 := below_step (by repeat (first | exact Below.refl _ _ | assumption | refine below_drewN ?_ _ | refine Below.drew ?_ | refine Below.alloc ?_ (by first | exact Nat.le_refl _ | (simp; omega) | omega | simp) _ | refine Below.setCell ?_ (by first | exact Nat.le_refl _ | (simp; omega) | simp | omega) _)) hb1; obtain ⟨hc1, hf1, hz1⟩ := bcell hb1; (try simp only [sz_alloc, sz_set, sz_drew, sz_drewN] at hc1 hf1 hz1); clear hb1))
  exact bodyPost_ret (v := .tuple #[.agg #[.int .i64 vk, .int .i64 vn, .string vs], .bool true, .int .i64 0]) (by simp [results, Tryd.results47, go_sem, cell_set_self, *]) rfl ⟨rfl, (by repeat (first | exact Below.refl _ _ | assumption | refine below_drewN ?_ _ | refine Below.drew ?_ | refine Below.alloc ?_ (by first | exact Nat.le_refl _ | (simp; omega) | omega | simp) _ | refine Below.setCell ?_ (by first | exact Nat.le_refl _ | (simp; omega) | simp | omega) _))⟩
set_option maxRecDepth 100000 in
theorem ref_Fits_bad (v : V) (k : Int) (h : okV v = false) (w : World) : Calls Tryd.prog 48 #[vv v, .int .i64 k] w fun e w' => e = .returned (.bool false) ∧ Below w.heap.size w w' := by
  have hu := Tryd.underlying33
  obtain ⟨vk, vn, vs⟩ := v
  have HA : Hid (errForm (okV ⟨vk, vn, vs⟩) = 2) := Lib.hid (by rw [h]; rfl)
  clear h
  unfold vv
  go_enter Tryd.func48, Tryd.ntmps48
  go_wp2_with (first | (go_at_call 30; (with_reducible refine (ref_Check_f vk vn vs _ HA.out _).mono ?_); rintro e w1 ⟨rfl, hb1⟩; have hB1 : Below w.heap.size w w1 := below_step (by repeat (first | exact Below.refl _ _ | assumption | refine below_drewN ?_ _ | refine Below.drew ?_ | refine Below.alloc ?_ (by first | exact Nat.le_refl _ | (simp; omega) | omega | simp) _ | refine Below.setCell ?_ (by first | exact Nat.le_refl _ | (simp; omega) | simp | omega) _)) hb1; obtain ⟨hc1, hf1, hz1⟩ := bcell hb1; (try simp only [sz_alloc, sz_set, sz_drew, sz_drewN] at hc1 hf1 hz1); clear hb1))
  go_ret
  exact ⟨rfl, (by repeat (first | exact Below.refl _ _ | assumption | refine below_drewN ?_ _ | refine Below.drew ?_ | refine Below.alloc ?_ (by first | exact Nat.le_refl _ | (simp; omega) | omega | simp) _ | refine Below.setCell ?_ (by first | exact Nat.le_refl _ | (simp; omega) | simp | omega) _))⟩
set_option maxRecDepth 100000 in
theorem ref_Fits_no (v : V) (k : Int) (h : okV v = true) (hk : (k == v.k) = false) (w : World) : Calls Tryd.prog 48 #[vv v, .int .i64 k] w fun e w' => e = .returned (.bool false) ∧ Below w.heap.size w w' := by
  have hu := Tryd.underlying33
  obtain ⟨vk, vn, vs⟩ := v
  have HA : Hid (errForm (okV ⟨vk, vn, vs⟩) = 0) := Lib.hid (by rw [h]; rfl)
  clear h
  have d3 : (vk == k) = false := by simpa using fun q => (by simpa using hk : ¬ k = vk) q.symm
  clear hk
  unfold vv
  go_enter Tryd.func48, Tryd.ntmps48
  go_wp2_with (first | (go_at_call 30; (with_reducible refine (ref_Check_f vk vn vs _ HA.out _).mono ?_); rintro e w1 ⟨rfl, hb1⟩; have hB1 : Below w.heap.size w w1 := below_step (by repeat (first | exact Below.refl _ _ | assumption | refine below_drewN ?_ _ | refine Below.drew ?_ | refine Below.alloc ?_ (by first | exact Nat.le_refl _ | (simp; omega) | omega | simp) _ | refine Below.setCell ?_ (by first | exact Nat.le_refl _ | (simp; omega) | simp | omega) _)) hb1; obtain ⟨hc1, hf1, hz1⟩ := bcell hb1; (try simp only [sz_alloc, sz_set, sz_drew, sz_drewN] at hc1 hf1 hz1); clear hb1))
  go_ret
  exact ⟨rfl, (by repeat (first | exact Below.refl _ _ | assumption | refine below_drewN ?_ _ | refine Below.drew ?_ | refine Below.alloc ?_ (by first | exact Nat.le_refl _ | (simp; omega) | omega | simp) _ | refine Below.setCell ?_ (by first | exact Nat.le_refl _ | (simp; omega) | simp | omega) _))⟩
set_option maxRecDepth 100000 in
theorem ref_Fits_yes (v : V) (k : Int) (h : okV v = true) (hk : (k == v.k) = true) (w : World) : Calls Tryd.prog 48 #[vv v, .int .i64 k] w fun e w' => e = .returned (.bool true) ∧ Below w.heap.size w w' := by
  have hu := Tryd.underlying33
  obtain ⟨vk, vn, vs⟩ := v
  have HA : Hid (errForm (okV ⟨vk, vn, vs⟩) = 0) := Lib.hid (by rw [h]; rfl)
  clear h
  have d3 : (vk == k) = true := by simpa using (by simpa using hk : k = vk).symm
  clear hk
  unfold vv
  go_enter Tryd.func48, Tryd.ntmps48
  go_wp2_with (first | (go_at_call 30; (with_reducible refine (ref_Check_f vk vn vs _ HA.out _).mono ?_); rintro e w1 ⟨rfl, hb1⟩; have hB1 : Below w.heap.size w w1 := below_step (by repeat (first | exact Below.refl _ _ | assumption | refine below_drewN ?_ _ | refine Below.drew ?_ | refine Below.alloc ?_ (by first | exact Nat.le_refl _ | (simp; omega) | omega | simp) _ | refine Below.setCell ?_ (by first | exact Nat.le_refl _ | (simp; omega) | simp | omega) _)) hb1; obtain ⟨hc1, hf1, hz1⟩ := bcell hb1; (try simp only [sz_alloc, sz_set, sz_drew, sz_drewN] at hc1 hf1 hz1); clear hb1))
  go_ret
  exact ⟨rfl, (by repeat (first | exact Below.refl _ _ | assumption | refine below_drewN ?_ _ | refine Below.drew ?_ | refine Below.alloc ?_ (by first | exact Nat.le_refl _ | (simp; omega) | omega | simp) _ | refine Below.setCell ?_ (by first | exact Nat.le_refl _ | (simp; omega) | simp | omega) _))⟩
theorem ref_Fits (v : V) (k : Int) (w : World) : Calls Tryd.prog 48 #[vv v, .int .i64 k] w fun e w' => e = .returned (.bool (fits v k)) ∧ Below w.heap.size w w' := by
  unfold fits
  cases h : okV v with
  | false => exact ref_Fits_bad v k h w
  | true =>
    cases hk : (k == v.k) with
    | false => exact ref_Fits_no v k h hk w
    | true => exact ref_Fits_yes v k h hk w
set_option maxRecDepth 100000 in
theorem ref_Truth_nil (w : World) : Calls Tryd.prog 58 #[.agg #[.int .i64 0, .int .i64 0, .string ⟨#[]⟩]] w fun e w' => e = .returned (.bool (Bx.truth (.nil))) ∧ Below w.heap.size w w' := by
  have hu := Tryd.underlying33
  go_enter Tryd.func58, Tryd.ntmps58
  go_wp2
  go_ret
  exact ⟨rfl, (by repeat (first | exact Below.refl _ _ | assumption | refine below_drewN ?_ _ | refine Below.drew ?_ | refine Below.alloc ?_ (by first | exact Nat.le_refl _ | (simp; omega) | omega | simp) _ | refine Below.setCell ?_ (by first | exact Nat.le_refl _ | (simp; omega) | simp | omega) _))⟩
set_option maxRecDepth 100000 in
theorem ref_Truth_b0 (w : World) : Calls Tryd.prog 58 #[.agg #[.int .i64 1, .int .i64 0, .string ⟨#[]⟩]] w fun e w' => e = .returned (.bool (Bx.truth (.b false))) ∧ Below w.heap.size w w' := by
  have hu := Tryd.underlying33
  go_enter Tryd.func58, Tryd.ntmps58
  go_wp2
  go_ret
  exact ⟨rfl, (by repeat (first | exact Below.refl _ _ | assumption | refine below_drewN ?_ _ | refine Below.drew ?_ | refine Below.alloc ?_ (by first | exact Nat.le_refl _ | (simp; omega) | omega | simp) _ | refine Below.setCell ?_ (by first | exact Nat.le_refl _ | (simp; omega) | simp | omega) _))⟩
set_option maxRecDepth 100000 in
theorem ref_Truth_b1 (w : World) : Calls Tryd.prog 58 #[.agg #[.int .i64 1, .int .i64 1, .string ⟨#[]⟩]] w fun e w' => e = .returned (.bool (Bx.truth (.b true))) ∧ Below w.heap.size w w' := by
  have hu := Tryd.underlying33
  go_enter Tryd.func58, Tryd.ntmps58
  go_wp2
  go_ret
  exact ⟨rfl, (by repeat (first | exact Below.refl _ _ | assumption | refine below_drewN ?_ _ | refine Below.drew ?_ | refine Below.alloc ?_ (by first | exact Nat.le_refl _ | (simp; omega) | omega | simp) _ | refine Below.setCell ?_ (by first | exact Nat.le_refl _ | (simp; omega) | simp | omega) _))⟩
set_option maxRecDepth 100000 in
theorem ref_Truth_i (n : Int) (w : World) : Calls Tryd.prog 58 #[.agg #[.int .i64 2, .int .i64 n, .string ⟨#[]⟩]] w fun e w' => e = .returned (.bool (Bx.truth (.i n))) ∧ Below w.heap.size w w' := by
  have hu := Tryd.underlying33
  go_enter Tryd.func58, Tryd.ntmps58
  go_wp2
  go_ret
  exact ⟨rfl, (by repeat (first | exact Below.refl _ _ | assumption | refine below_drewN ?_ _ | refine Below.drew ?_ | refine Below.alloc ?_ (by first | exact Nat.le_refl _ | (simp; omega) | omega | simp) _ | refine Below.setCell ?_ (by first | exact Nat.le_refl _ | (simp; omega) | simp | omega) _))⟩
set_option maxRecDepth 100000 in
theorem ref_Truth_s (t : ByteArray) (w : World) : Calls Tryd.prog 58 #[.agg #[.int .i64 3, .int .i64 0, .string t]] w fun e w' => e = .returned (.bool (Bx.truth (.s t))) ∧ Below w.heap.size w w' := by
  have hu := Tryd.underlying33
  go_enter Tryd.func58, Tryd.ntmps58
  go_wp2
  go_ret
  exact ⟨rfl, (by repeat (first | exact Below.refl _ _ | assumption | refine below_drewN ?_ _ | refine Below.drew ?_ | refine Below.alloc ?_ (by first | exact Nat.le_refl _ | (simp; omega) | omega | simp) _ | refine Below.setCell ?_ (by first | exact Nat.le_refl _ | (simp; omega) | simp | omega) _))⟩
set_option maxRecDepth 100000 in
theorem ref_Truth_t (n : Int) (w : World) : Calls Tryd.prog 58 #[.agg #[.int .i64 4, .int .i64 n, .string ⟨#[]⟩]] w fun e w' => e = .returned (.bool (Bx.truth (.t n))) ∧ Below w.heap.size w w' := by
  have hu := Tryd.underlying33
  go_enter Tryd.func58, Tryd.ntmps58
  go_wp2
  go_ret
  exact ⟨rfl, (by repeat (first | exact Below.refl _ _ | assumption | refine below_drewN ?_ _ | refine Below.drew ?_ | refine Below.alloc ?_ (by first | exact Nat.le_refl _ | (simp; omega) | omega | simp) _ | refine Below.setCell ?_ (by first | exact Nat.le_refl _ | (simp; omega) | simp | omega) _))⟩
set_option maxRecDepth 100000 in
theorem ref_Truth_f (n : Int) (w : World) : Calls Tryd.prog 58 #[.agg #[.int .i64 5, .int .i64 n, .string ⟨#[]⟩]] w fun e w' => e = .returned (.bool (Bx.truth (.f n))) ∧ Below w.heap.size w w' := by
  have hu := Tryd.underlying33
  go_enter Tryd.func58, Tryd.ntmps58
  go_wp2
  go_ret
  exact ⟨rfl, (by repeat (first | exact Below.refl _ _ | assumption | refine below_drewN ?_ _ | refine Below.drew ?_ | refine Below.alloc ?_ (by first | exact Nat.le_refl _ | (simp; omega) | omega | simp) _ | refine Below.setCell ?_ (by first | exact Nat.le_refl _ | (simp; omega) | simp | omega) _))⟩
set_option maxRecDepth 100000 in
theorem ref_Truth_l (n : Int) (w : World) : Calls Tryd.prog 58 #[.agg #[.int .i64 6, .int .i64 n, .string ⟨#[]⟩]] w fun e w' => e = .returned (.bool (Bx.truth (.l n))) ∧ Below w.heap.size w w' := by
  have hu := Tryd.underlying33
  go_enter Tryd.func58, Tryd.ntmps58
  go_wp2
  go_ret
  exact ⟨rfl, (by repeat (first | exact Below.refl _ _ | assumption | refine below_drewN ?_ _ | refine Below.drew ?_ | refine Below.alloc ?_ (by first | exact Nat.le_refl _ | (simp; omega) | omega | simp) _ | refine Below.setCell ?_ (by first | exact Nat.le_refl _ | (simp; omega) | simp | omega) _))⟩
set_option maxRecDepth 100000 in
theorem ref_Type_nil (w : World) : Calls Tryd.prog 59 #[.agg #[.int .i64 0, .int .i64 0, .string ⟨#[]⟩]] w fun e w' => e = .returned (.string (Bx.type (.nil))) ∧ Below w.heap.size w w' := by
  have hu := Tryd.underlying33
  go_enter Tryd.func59, Tryd.ntmps59
  go_wp2
  go_ret
  exact ⟨rfl, (by repeat (first | exact Below.refl _ _ | assumption | refine below_drewN ?_ _ | refine Below.drew ?_ | refine Below.alloc ?_ (by first | exact Nat.le_refl _ | (simp; omega) | omega | simp) _ | refine Below.setCell ?_ (by first | exact Nat.le_refl _ | (simp; omega) | simp | omega) _))⟩
set_option maxRecDepth 100000 in
theorem ref_Type_b0 (w : World) : Calls Tryd.prog 59 #[.agg #[.int .i64 1, .int .i64 0, .string ⟨#[]⟩]] w fun e w' => e = .returned (.string (Bx.type (.b false))) ∧ Below w.heap.size w w' := by
  have hu := Tryd.underlying33
  go_enter Tryd.func59, Tryd.ntmps59
  go_wp2
  go_ret
  exact ⟨rfl, (by repeat (first | exact Below.refl _ _ | assumption | refine below_drewN ?_ _ | refine Below.drew ?_ | refine Below.alloc ?_ (by first | exact Nat.le_refl _ | (simp; omega) | omega | simp) _ | refine Below.setCell ?_ (by first | exact Nat.le_refl _ | (simp; omega) | simp | omega) _))⟩
set_option maxRecDepth 100000 in
theorem ref_Type_b1 (w : World) : Calls Tryd.prog 59 #[.agg #[.int .i64 1, .int .i64 1, .string ⟨#[]⟩]] w fun e w' => e = .returned (.string (Bx.type (.b true))) ∧ Below w.heap.size w w' := by
  have hu := Tryd.underlying33
  go_enter Tryd.func59, Tryd.ntmps59
  go_wp2
  go_ret
  exact ⟨rfl, (by repeat (first | exact Below.refl _ _ | assumption | refine below_drewN ?_ _ | refine Below.drew ?_ | refine Below.alloc ?_ (by first | exact Nat.le_refl _ | (simp; omega) | omega | simp) _ | refine Below.setCell ?_ (by first | exact Nat.le_refl _ | (simp; omega) | simp | omega) _))⟩
set_option maxRecDepth 100000 in
theorem ref_Type_i (n : Int) (w : World) : Calls Tryd.prog 59 #[.agg #[.int .i64 2, .int .i64 n, .string ⟨#[]⟩]] w fun e w' => e = .returned (.string (Bx.type (.i n))) ∧ Below w.heap.size w w' := by
  have hu := Tryd.underlying33
  go_enter Tryd.func59, Tryd.ntmps59
  go_wp2
  go_ret
  exact ⟨rfl, (by repeat (first | exact Below.refl _ _ | assumption | refine below_drewN ?_ _ | refine Below.drew ?_ | refine Below.alloc ?_ (by first | exact Nat.le_refl _ | (simp; omega) | omega | simp) _ | refine Below.setCell ?_ (by first | exact Nat.le_refl _ | (simp; omega) | simp | omega) _))⟩
set_option maxRecDepth 100000 in
theorem ref_Type_s (t : ByteArray) (w : World) : Calls Tryd.prog 59 #[.agg #[.int .i64 3, .int .i64 0, .string t]] w fun e w' => e = .returned (.string (Bx.type (.s t))) ∧ Below w.heap.size w w' := by
  have hu := Tryd.underlying33
  go_enter Tryd.func59, Tryd.ntmps59
  go_wp2
  go_ret
  exact ⟨rfl, (by repeat (first | exact Below.refl _ _ | assumption | refine below_drewN ?_ _ | refine Below.drew ?_ | refine Below.alloc ?_ (by first | exact Nat.le_refl _ | (simp; omega) | omega | simp) _ | refine Below.setCell ?_ (by first | exact Nat.le_refl _ | (simp; omega) | simp | omega) _))⟩
set_option maxRecDepth 100000 in
theorem ref_Type_t (n : Int) (w : World) : Calls Tryd.prog 59 #[.agg #[.int .i64 4, .int .i64 n, .string ⟨#[]⟩]] w fun e w' => e = .returned (.string (Bx.type (.t n))) ∧ Below w.heap.size w w' := by
  have hu := Tryd.underlying33
  go_enter Tryd.func59, Tryd.ntmps59
  go_wp2
  go_ret
  exact ⟨rfl, (by repeat (first | exact Below.refl _ _ | assumption | refine below_drewN ?_ _ | refine Below.drew ?_ | refine Below.alloc ?_ (by first | exact Nat.le_refl _ | (simp; omega) | omega | simp) _ | refine Below.setCell ?_ (by first | exact Nat.le_refl _ | (simp; omega) | simp | omega) _))⟩
set_option maxRecDepth 100000 in
theorem ref_Type_f (n : Int) (w : World) : Calls Tryd.prog 59 #[.agg #[.int .i64 5, .int .i64 n, .string ⟨#[]⟩]] w fun e w' => e = .returned (.string (Bx.type (.f n))) ∧ Below w.heap.size w w' := by
  have hu := Tryd.underlying33
  go_enter Tryd.func59, Tryd.ntmps59
  go_wp2
  go_ret
  exact ⟨rfl, (by repeat (first | exact Below.refl _ _ | assumption | refine below_drewN ?_ _ | refine Below.drew ?_ | refine Below.alloc ?_ (by first | exact Nat.le_refl _ | (simp; omega) | omega | simp) _ | refine Below.setCell ?_ (by first | exact Nat.le_refl _ | (simp; omega) | simp | omega) _))⟩
set_option maxRecDepth 100000 in
theorem ref_Type_l (n : Int) (w : World) : Calls Tryd.prog 59 #[.agg #[.int .i64 6, .int .i64 n, .string ⟨#[]⟩]] w fun e w' => e = .returned (.string (Bx.type (.l n))) ∧ Below w.heap.size w w' := by
  have hu := Tryd.underlying33
  go_enter Tryd.func59, Tryd.ntmps59
  go_wp2
  go_ret
  exact ⟨rfl, (by repeat (first | exact Below.refl _ _ | assumption | refine below_drewN ?_ _ | refine Below.drew ?_ | refine Below.alloc ?_ (by first | exact Nat.le_refl _ | (simp; omega) | omega | simp) _ | refine Below.setCell ?_ (by first | exact Nat.le_refl _ | (simp; omega) | simp | omega) _))⟩
set_option maxRecDepth 100000 in
theorem ref_Show_nil (w : World) : Calls Tryd.prog 60 #[.agg #[.int .i64 0, .int .i64 0, .string ⟨#[]⟩]] w fun e w' => e = .returned (.string (Bx.show (.nil))) ∧ Below w.heap.size w w' := by
  have hu := Tryd.underlying33
  go_enter Tryd.func60, Tryd.ntmps60
  go_wp2
  go_ret
  exact ⟨rfl, (by repeat (first | exact Below.refl _ _ | assumption | refine below_drewN ?_ _ | refine Below.drew ?_ | refine Below.alloc ?_ (by first | exact Nat.le_refl _ | (simp; omega) | omega | simp) _ | refine Below.setCell ?_ (by first | exact Nat.le_refl _ | (simp; omega) | simp | omega) _))⟩
set_option maxRecDepth 100000 in
theorem ref_Show_b0 (w : World) : Calls Tryd.prog 60 #[.agg #[.int .i64 1, .int .i64 0, .string ⟨#[]⟩]] w fun e w' => e = .returned (.string (Bx.show (.b false))) ∧ Below w.heap.size w w' := by
  have hu := Tryd.underlying33
  go_enter Tryd.func60, Tryd.ntmps60
  go_wp2
  go_ret
  exact ⟨rfl, (by repeat (first | exact Below.refl _ _ | assumption | refine below_drewN ?_ _ | refine Below.drew ?_ | refine Below.alloc ?_ (by first | exact Nat.le_refl _ | (simp; omega) | omega | simp) _ | refine Below.setCell ?_ (by first | exact Nat.le_refl _ | (simp; omega) | simp | omega) _))⟩
set_option maxRecDepth 100000 in
theorem ref_Show_b1 (w : World) : Calls Tryd.prog 60 #[.agg #[.int .i64 1, .int .i64 1, .string ⟨#[]⟩]] w fun e w' => e = .returned (.string (Bx.show (.b true))) ∧ Below w.heap.size w w' := by
  have hu := Tryd.underlying33
  go_enter Tryd.func60, Tryd.ntmps60
  go_wp2
  go_ret
  exact ⟨rfl, (by repeat (first | exact Below.refl _ _ | assumption | refine below_drewN ?_ _ | refine Below.drew ?_ | refine Below.alloc ?_ (by first | exact Nat.le_refl _ | (simp; omega) | omega | simp) _ | refine Below.setCell ?_ (by first | exact Nat.le_refl _ | (simp; omega) | simp | omega) _))⟩
set_option maxRecDepth 100000 in
theorem ref_Show_i (n : Int) (hn : In64 n) (w : World) : Calls Tryd.prog 60 #[.agg #[.int .i64 2, .int .i64 n, .string ⟨#[]⟩]] w fun e w' => e = .returned (.string (Bx.show (.i n))) ∧ Below w.heap.size w w' := by
  have hu := Tryd.underlying33
  have h20 := itoaB_size n hn
  obtain ⟨u, hU⟩ : ∃ u, itoaB n = u := ⟨_, rfl⟩
  have HS : Hid (Bx.show (.i n) = u) := by rw [← hU]; rfl
  rw [hU] at h20
  have HU := Lib.hid hU
  clear hU
  go_enter Tryd.func60, Tryd.ntmps60
  go_wp2_with (first | (go_at_call 21; refine (ref_Format_u n u hn HU.out _).mono ?_; rintro e w1 ⟨rfl, hb1⟩; have hB1 : Below w.heap.size w w1 := below_step (by repeat (first | exact Below.refl _ _ | assumption | refine below_drewN ?_ _ | refine Below.drew ?_ | refine Below.alloc ?_ (by first | exact Nat.le_refl _ | (simp; omega) | omega | simp) _ | refine Below.setCell ?_ (by first | exact Nat.le_refl _ | (simp; omega) | simp | omega) _)) hb1; obtain ⟨hc1, hf1, hz1⟩ := bcell hb1; (try simp only [sz_alloc, sz_set, sz_drew, sz_drewN] at hc1 hf1 hz1); clear hb1))
  go_ret
  exact ⟨ret_str HS.out.symm, (by repeat (first | exact Below.refl _ _ | assumption | refine below_drewN ?_ _ | refine Below.drew ?_ | refine Below.alloc ?_ (by first | exact Nat.le_refl _ | (simp; omega) | omega | simp) _ | refine Below.setCell ?_ (by first | exact Nat.le_refl _ | (simp; omega) | simp | omega) _))⟩
set_option maxRecDepth 100000 in
theorem ref_Show_s (t : ByteArray) (w : World) : Calls Tryd.prog 60 #[.agg #[.int .i64 3, .int .i64 0, .string t]] w fun e w' => e = .returned (.string (Bx.show (.s t))) ∧ Below w.heap.size w w' := by
  have hu := Tryd.underlying33
  go_enter Tryd.func60, Tryd.ntmps60
  go_wp2
  go_ret
  exact ⟨rfl, (by repeat (first | exact Below.refl _ _ | assumption | refine below_drewN ?_ _ | refine Below.drew ?_ | refine Below.alloc ?_ (by first | exact Nat.le_refl _ | (simp; omega) | omega | simp) _ | refine Below.setCell ?_ (by first | exact Nat.le_refl _ | (simp; omega) | simp | omega) _))⟩
set_option maxRecDepth 100000 in
theorem ref_Show_t (n : Int) (hn : In64 n) (w : World) : Calls Tryd.prog 60 #[.agg #[.int .i64 4, .int .i64 n, .string ⟨#[]⟩]] w fun e w' => e = .returned (.string (Bx.show (.t n))) ∧ Below w.heap.size w w' := by
  have hu := Tryd.underlying33
  have h20 := itoaB_size n hn
  obtain ⟨u, hU⟩ : ∃ u, itoaB n = u := ⟨_, rfl⟩
  have HS : Hid (Bx.show (.t n) = bytes [116, 97, 98, 108, 101, 58, 32] ++ u) := by rw [← hU]; rfl
  rw [hU] at h20
  have HU := Lib.hid hU
  clear hU
  go_enter Tryd.func60, Tryd.ntmps60
  go_wp2_with (first | (go_at_call 21; refine (ref_Format_u n u hn HU.out _).mono ?_; rintro e w1 ⟨rfl, hb1⟩; have hB1 : Below w.heap.size w w1 := below_step (by repeat (first | exact Below.refl _ _ | assumption | refine below_drewN ?_ _ | refine Below.drew ?_ | refine Below.alloc ?_ (by first | exact Nat.le_refl _ | (simp; omega) | omega | simp) _ | refine Below.setCell ?_ (by first | exact Nat.le_refl _ | (simp; omega) | simp | omega) _)) hb1; obtain ⟨hc1, hf1, hz1⟩ := bcell hb1; (try simp only [sz_alloc, sz_set, sz_drew, sz_drewN] at hc1 hf1 hz1); clear hb1))
  go_ret
  exact ⟨ret_str HS.out.symm, (by repeat (first | exact Below.refl _ _ | assumption | refine below_drewN ?_ _ | refine Below.drew ?_ | refine Below.alloc ?_ (by first | exact Nat.le_refl _ | (simp; omega) | omega | simp) _ | refine Below.setCell ?_ (by first | exact Nat.le_refl _ | (simp; omega) | simp | omega) _))⟩
set_option maxRecDepth 100000 in
theorem ref_Show_f (n : Int) (hn : In64 n) (w : World) : Calls Tryd.prog 60 #[.agg #[.int .i64 5, .int .i64 n, .string ⟨#[]⟩]] w fun e w' => e = .returned (.string (Bx.show (.f n))) ∧ Below w.heap.size w w' := by
  have hu := Tryd.underlying33
  have h20 := itoaB_size n hn
  obtain ⟨u, hU⟩ : ∃ u, itoaB n = u := ⟨_, rfl⟩
  have HS : Hid (Bx.show (.f n) = bytes [102, 117, 110, 99, 116, 105, 111, 110, 58, 32] ++ u) := by rw [← hU]; rfl
  rw [hU] at h20
  have HU := Lib.hid hU
  clear hU
  go_enter Tryd.func60, Tryd.ntmps60
  go_wp2_with (first | (go_at_call 21; refine (ref_Format_u n u hn HU.out _).mono ?_; rintro e w1 ⟨rfl, hb1⟩; have hB1 : Below w.heap.size w w1 := below_step (by repeat (first | exact Below.refl _ _ | assumption | refine below_drewN ?_ _ | refine Below.drew ?_ | refine Below.alloc ?_ (by first | exact Nat.le_refl _ | (simp; omega) | omega | simp) _ | refine Below.setCell ?_ (by first | exact Nat.le_refl _ | (simp; omega) | simp | omega) _)) hb1; obtain ⟨hc1, hf1, hz1⟩ := bcell hb1; (try simp only [sz_alloc, sz_set, sz_drew, sz_drewN] at hc1 hf1 hz1); clear hb1))
  go_ret
  exact ⟨ret_str HS.out.symm, (by repeat (first | exact Below.refl _ _ | assumption | refine below_drewN ?_ _ | refine Below.drew ?_ | refine Below.alloc ?_ (by first | exact Nat.le_refl _ | (simp; omega) | omega | simp) _ | refine Below.setCell ?_ (by first | exact Nat.le_refl _ | (simp; omega) | simp | omega) _))⟩
set_option maxRecDepth 100000 in
theorem ref_Show_l (n : Int) (hn : In64 n) (w : World) : Calls Tryd.prog 60 #[.agg #[.int .i64 6, .int .i64 n, .string ⟨#[]⟩]] w fun e w' => e = .returned (.string (Bx.show (.l n))) ∧ Below w.heap.size w w' := by
  have hu := Tryd.underlying33
  have h20 := itoaB_size n hn
  obtain ⟨u, hU⟩ : ∃ u, itoaB n = u := ⟨_, rfl⟩
  have HS : Hid (Bx.show (.l n) = bytes [98, 117, 105, 108, 116, 105, 110, 58, 32] ++ u) := by rw [← hU]; rfl
  rw [hU] at h20
  have HU := Lib.hid hU
  clear hU
  go_enter Tryd.func60, Tryd.ntmps60
  go_wp2_with (first | (go_at_call 21; refine (ref_Format_u n u hn HU.out _).mono ?_; rintro e w1 ⟨rfl, hb1⟩; have hB1 : Below w.heap.size w w1 := below_step (by repeat (first | exact Below.refl _ _ | assumption | refine below_drewN ?_ _ | refine Below.drew ?_ | refine Below.alloc ?_ (by first | exact Nat.le_refl _ | (simp; omega) | omega | simp) _ | refine Below.setCell ?_ (by first | exact Nat.le_refl _ | (simp; omega) | simp | omega) _)) hb1; obtain ⟨hc1, hf1, hz1⟩ := bcell hb1; (try simp only [sz_alloc, sz_set, sz_drew, sz_drewN] at hc1 hf1 hz1); clear hb1))
  go_ret
  exact ⟨ret_str HS.out.symm, (by repeat (first | exact Below.refl _ _ | assumption | refine below_drewN ?_ _ | refine Below.drew ?_ | refine Below.alloc ?_ (by first | exact Nat.le_refl _ | (simp; omega) | omega | simp) _ | refine Below.setCell ?_ (by first | exact Nat.le_refl _ | (simp; omega) | simp | omega) _))⟩
theorem ref_Truth (v : V) (h : okV v = true) (w : World) : Calls Tryd.prog 58 #[vv v] w fun e w' => e = .returned (.bool (Bx.truth (toBx v))) ∧ Below w.heap.size w w' := by
  have hv := ofBx_toBx v h
  generalize toBx v = x at hv ⊢
  rw [← hv]
  cases x with
  | nil => exact ref_Truth_nil w
  | b y => cases y with
    | false => exact ref_Truth_b0 w
    | true => exact ref_Truth_b1 w
  | i n => exact ref_Truth_i n w
  | s t => exact ref_Truth_s t w
  | t n => exact ref_Truth_t n w
  | f n => exact ref_Truth_f n w
  | l n => exact ref_Truth_l n w
theorem ref_Type (v : V) (h : okV v = true) (w : World) : Calls Tryd.prog 59 #[vv v] w fun e w' => e = .returned (.string (Bx.type (toBx v))) ∧ Below w.heap.size w w' := by
  have hv := ofBx_toBx v h
  generalize toBx v = x at hv ⊢
  rw [← hv]
  cases x with
  | nil => exact ref_Type_nil w
  | b y => cases y with
    | false => exact ref_Type_b0 w
    | true => exact ref_Type_b1 w
  | i n => exact ref_Type_i n w
  | s t => exact ref_Type_s t w
  | t n => exact ref_Type_t n w
  | f n => exact ref_Type_f n w
  | l n => exact ref_Type_l n w
theorem ref_Show (v : V) (h : okV v = true) (hn : In64 v.n) (w : World) : Calls Tryd.prog 60 #[vv v] w fun e w' => e = .returned (.string (Bx.show (toBx v))) ∧ Below w.heap.size w w' := by
  have hF := fine_of v h hn
  have hv := ofBx_toBx v h
  generalize toBx v = x at hv hF ⊢
  rw [← hv]
  cases x with
  | nil => exact ref_Show_nil w
  | b y => cases y with
    | false => exact ref_Show_b0 w
    | true => exact ref_Show_b1 w
  | i n => exact ref_Show_i n hF w
  | s t => exact ref_Show_s t w
  | t n => exact ref_Show_t n hF w
  | f n => exact ref_Show_f n hF w
  | l n => exact ref_Show_l n hF w
end Go.Proofs.YtpppcoobibmlhaaDoor
/- The reference's answers on values: Order. -/
namespace Go.Proofs.YtpppcoobibmlhaaDoor
open Go.RowKit
set_option linter.unusedVariables false
set_option linter.unusedSimpArgs false

theorem ref_Both_g (k n : Int) (s : ByteArray) (k' n' : Int) (s' : ByteArray) (z : Int) (h : bothE ⟨k, n, s⟩ ⟨k', n', s'⟩ = z) (w : World) : Calls Tryd.prog 28 #[.agg #[.int .i64 k, .int .i64 n, .string s], .agg #[.int .i64 k', .int .i64 n', .string s']] w fun e w' => e = .returned (.int .i64 z) ∧ Below w.heap.size w w' := ref_Both_f ⟨k, n, s⟩ ⟨k', n', s'⟩ z h w
def cmpAt (a b : ByteArray) (k : Nat) : Int := Lib.compareBytes (a.data.toList.drop k) (b.data.toList.drop k)
theorem drop_cons (a : ByteArray) (k : Nat) (h : k < a.size) : a.data.toList.drop k = a[k] :: a.data.toList.drop (k + 1) := by
  rw [List.drop_eq_getElem_cons (by simpa using h)]; rfl
theorem cmpAt_step (a b : ByteArray) (k : Nat) (ha : k < a.size) (hb : k < b.size) :
    cmpAt a b k = if (a[k].toNat : Int) < b[k].toNat then -1 else if (b[k].toNat : Int) < a[k].toNat then 1 else cmpAt a b (k + 1) := by
  unfold cmpAt
  rw [drop_cons a k ha, drop_cons b k hb]
  simp only [Lib.compareBytes, UInt8.lt_iff_toNat_lt, Int.ofNat_lt]
theorem cmpAt_end (a b : ByteArray) (k : Nat) (ha : k ≤ a.size) (hb : k ≤ b.size) (h : k = a.size ∨ k = b.size) :
    cmpAt a b k = if (a.size : Int) < b.size then -1 else if (b.size : Int) < a.size then 1 else 0 := by
  unfold cmpAt
  rcases h with h | h
  · have e : a.data.toList.drop k = [] := by rw [List.drop_eq_nil_iff]; simpa using by omega
    rw [e]
    by_cases hl : k < b.size
    · rw [drop_cons b k hl, if_pos (by omega)]; rfl
    · have e : b.data.toList.drop k = [] := by rw [List.drop_eq_nil_iff]; simpa using by omega
      rw [e, if_neg (by omega), if_neg (by omega)]; rfl
  · have e : b.data.toList.drop k = [] := by rw [List.drop_eq_nil_iff]; simpa using by omega
    rw [e]
    by_cases hl : k < a.size
    · rw [drop_cons a k hl, if_neg (by omega), if_pos (by omega)]; rfl
    · have e : a.data.toList.drop k = [] := by rw [List.drop_eq_nil_iff]; simpa using by omega
      rw [e, if_neg (by omega), if_neg (by omega)]; rfl
set_option maxRecDepth 100000 in
theorem ref_Order_ss (a b : ByteArray) (ha : a.size ≤ 10000) (hb : b.size ≤ 10000) (h : bothE ⟨3, 0, a⟩ ⟨3, 0, b⟩ = 0) (w : World) :
    Calls Tryd.prog 52 #[.agg #[.int .i64 3, .int .i64 0, .string a], .agg #[.int .i64 3, .int .i64 0, .string b]] w fun e w' => e = .returned (.tuple #[.int .i64 (cmpAt a b 0), .int .i64 0]) ∧ Below w.heap.size w w' := by
  have hu := Tryd.underlying33
  have HB := Lib.hid h
  clear h
  go_enter Tryd.func52, Tryd.ntmps52
  go_wp2_with (first | (go_at_call 28; (with_reducible refine (ref_Both_g 3 0 a 3 0 b _ HB.out _).mono ?_); rintro e w1 ⟨rfl, hb1⟩; have hB1 : Below w.heap.size w w1 := below_step (by repeat (first | exact Below.refl _ _ | assumption | refine below_drewN ?_ _ | refine Below.drew ?_ | refine Below.alloc ?_ (by first | exact Nat.le_refl _ | (simp; omega) | omega | simp) _ | refine Below.setCell ?_ (by first | exact Nat.le_refl _ | (simp; omega) | simp | omega) _)) hb1; obtain ⟨hc1, hf1, hz1⟩ := bcell hb1; (try simp only [sz_alloc, sz_set, sz_drew, sz_drewN] at hc1 hf1 hz1); clear hb1))
  go_loopw [6] (fun i wr => ∃ k : Nat, i = .int .i64 k ∧ k ≤ a.size ∧ k ≤ b.size ∧ cmpAt a b k = cmpAt a b 0 ∧ ∃ q, wr = w1.drewN q) (fun i _ => a.size - (intOf i).toNat)
  case atStart => exact ⟨0, rfl, Nat.zero_le _, Nat.zero_le _, rfl, 0, rfl⟩
  case round =>
    obtain ⟨k, rfl, hka, hkb, hC, q, rfl⟩ := hrel
    have HC := Lib.hid hC
    clear hC
    by_cases hla : k < a.size
    · have hlai : (k : Int) < a.size := by omega
      by_cases hlb : k < b.size
      · have hlbi : (k : Int) < b.size := by omega
        have HS := Lib.hid (cmpAt_step a b k hla hlb)
        obtain ⟨x, hx⟩ : ∃ x, a[k] = x := ⟨_, rfl⟩
        obtain ⟨y, hy⟩ : ∃ y, b[k] = y := ⟨_, rfl⟩
        rw [hx, hy] at HS
        rcases Int.lt_trichotomy (x.toNat : Int) y.toNat with g | g | g
        · have d1 : decide (x.toNat < y.toNat) = true := by simp; omega
          have HR : Hid (cmpAt a b 0 = -1) := Lib.hid (by rw [← HC.out, HS.out, if_pos g])
          clear g
          go_wp2
          go_quiet (fail)
          go_wp2
          go_ret2
          exact ⟨ret_ints HR.out.symm rfl, (by repeat (first | exact Below.refl _ _ | assumption | refine below_drewN ?_ _ | refine Below.drew ?_ | refine Below.alloc ?_ (by first | exact Nat.le_refl _ | (simp; omega) | omega | simp) _ | refine Below.setCell ?_ (by first | exact Nat.le_refl _ | (simp; omega) | simp | omega) _))⟩
        · have d1 : decide (x.toNat < y.toNat) = false := by simp; omega
          have d2 : decide (y.toNat < x.toNat) = false := by simp; omega
          have HR : Hid (cmpAt a b (k + 1) = cmpAt a b 0) := Lib.hid (by rw [← HC.out, HS.out, if_neg (by omega), if_neg (by omega)])
          clear g
          go_wp2
          go_quiet (fail)
          go_wp2
          go_quiet (fail)
          go_wp2
          go_roundw
          case rel => exact ⟨k + 1, by go_num, by omega, by omega, HR.out, _, rfl⟩
          case measure => simp [intOf]; omega
        · have d1 : decide (x.toNat < y.toNat) = false := by simp; omega
          have d2 : decide (y.toNat < x.toNat) = true := by simp; omega
          have HR : Hid (cmpAt a b 0 = 1) := Lib.hid (by rw [← HC.out, HS.out, if_neg (by omega), if_pos g])
          clear g
          go_wp2
          go_quiet (fail)
          go_wp2
          go_quiet (fail)
          go_wp2
          go_ret2
          exact ⟨ret_ints HR.out.symm rfl, (by repeat (first | exact Below.refl _ _ | assumption | refine below_drewN ?_ _ | refine Below.drew ?_ | refine Below.alloc ?_ (by first | exact Nat.le_refl _ | (simp; omega) | omega | simp) _ | refine Below.setCell ?_ (by first | exact Nat.le_refl _ | (simp; omega) | simp | omega) _))⟩
      · obtain rfl : k = b.size := by omega
        have hkb' : (b.size : Int) < a.size := by omega
        have HR : Hid (cmpAt a b 0 = 1) := Lib.hid (by rw [← HC.out, cmpAt_end a b _ hka (Nat.le_refl _) (Or.inr rfl), if_neg (by omega), if_pos hkb'])
        have d1 : decide (a.size < b.size) = false := by simp; omega
        go_wp2
        go_ret2
        exact ⟨ret_ints HR.out.symm rfl, (by repeat (first | exact Below.refl _ _ | assumption | refine below_drewN ?_ _ | refine Below.drew ?_ | refine Below.alloc ?_ (by first | exact Nat.le_refl _ | (simp; omega) | omega | simp) _ | refine Below.setCell ?_ (by first | exact Nat.le_refl _ | (simp; omega) | simp | omega) _))⟩
    · obtain rfl : k = a.size := by omega
      have d0 : decide ((a.size : Int) < a.size) = false := by simp
      by_cases hlb : a.size < b.size
      · have hlbi : (a.size : Int) < b.size := by omega
        have HR : Hid (cmpAt a b 0 = -1) := Lib.hid (by rw [← HC.out, cmpAt_end a b _ (Nat.le_refl _) hkb (Or.inl rfl), if_pos hlbi])
        go_wp2
        go_ret2
        exact ⟨ret_ints HR.out.symm rfl, (by repeat (first | exact Below.refl _ _ | assumption | refine below_drewN ?_ _ | refine Below.drew ?_ | refine Below.alloc ?_ (by first | exact Nat.le_refl _ | (simp; omega) | omega | simp) _ | refine Below.setCell ?_ (by first | exact Nat.le_refl _ | (simp; omega) | simp | omega) _))⟩
      · have HR : Hid (cmpAt a b 0 = 0) := Lib.hid (by rw [← HC.out, cmpAt_end a b _ (Nat.le_refl _) hkb (Or.inl rfl), if_neg (by omega), if_neg (by omega)])
        have d1 : decide (a.size < b.size) = false := by simp; omega
        have d2 : decide (b.size < a.size) = false := by simp; omega
        clear hlb
        go_wp2
        go_ret2
        exact ⟨ret_ints HR.out.symm rfl, (by repeat (first | exact Below.refl _ _ | assumption | refine below_drewN ?_ _ | refine Below.drew ?_ | refine Below.alloc ?_ (by first | exact Nat.le_refl _ | (simp; omega) | omega | simp) _ | refine Below.setCell ?_ (by first | exact Nat.le_refl _ | (simp; omega) | simp | omega) _))⟩
set_option maxRecDepth 100000 in
theorem ref_Order_bad (ak an : Int) (az : ByteArray) (bk bn : Int) (bz : ByteArray) (h : bothE ⟨ak, an, az⟩ ⟨bk, bn, bz⟩ = 2) (w : World) :
    Calls Tryd.prog 52 #[.agg #[.int .i64 ak, .int .i64 an, .string az], .agg #[.int .i64 bk, .int .i64 bn, .string bz]] w fun e w' => e = .returned (.tuple #[.int .i64 (0), .int .i64 (2)]) ∧ Below w.heap.size w w' := by
  have hu := Tryd.underlying33
  have HB := Lib.hid h
  clear h
  go_enter Tryd.func52, Tryd.ntmps52
  go_wp2_with (first | (go_at_call 28; (with_reducible refine (ref_Both_g ak an az bk bn bz _ HB.out _).mono ?_); rintro e w1 ⟨rfl, hb1⟩; have hB1 : Below w.heap.size w w1 := below_step (by repeat (first | exact Below.refl _ _ | assumption | refine below_drewN ?_ _ | refine Below.drew ?_ | refine Below.alloc ?_ (by first | exact Nat.le_refl _ | (simp; omega) | omega | simp) _ | refine Below.setCell ?_ (by first | exact Nat.le_refl _ | (simp; omega) | simp | omega) _)) hb1; obtain ⟨hc1, hf1, hz1⟩ := bcell hb1; (try simp only [sz_alloc, sz_set, sz_drew, sz_drewN] at hc1 hf1 hz1); clear hb1))
  go_ret2
  exact ⟨rfl, (by repeat (first | exact Below.refl _ _ | assumption | refine below_drewN ?_ _ | refine Below.drew ?_ | refine Below.alloc ?_ (by first | exact Nat.le_refl _ | (simp; omega) | omega | simp) _ | refine Below.setCell ?_ (by first | exact Nat.le_refl _ | (simp; omega) | simp | omega) _))⟩
set_option maxRecDepth 100000 in
theorem ref_Order_x (ak an : Int) (az : ByteArray) (bk bn : Int) (bz : ByteArray) (h : bothE ⟨ak, an, az⟩ ⟨bk, bn, bz⟩ = 0) (h2 : ak ≠ 2) (h3 : ak ≠ 3) (w : World) :
    Calls Tryd.prog 52 #[.agg #[.int .i64 ak, .int .i64 an, .string az], .agg #[.int .i64 bk, .int .i64 bn, .string bz]] w fun e w' => e = .returned (.tuple #[.int .i64 (0), .int .i64 (8)]) ∧ Below w.heap.size w w' := by
  have hu := Tryd.underlying33
  have HB := Lib.hid h
  clear h
  have d1 : (ak == 2) = false := by simpa using h2
  have d2 : (ak != 3) = true := by simpa using h3
  clear h2 h3
  go_enter Tryd.func52, Tryd.ntmps52
  go_wp2_with (first | (go_at_call 28; (with_reducible refine (ref_Both_g ak an az bk bn bz _ HB.out _).mono ?_); rintro e w1 ⟨rfl, hb1⟩; have hB1 : Below w.heap.size w w1 := below_step (by repeat (first | exact Below.refl _ _ | assumption | refine below_drewN ?_ _ | refine Below.drew ?_ | refine Below.alloc ?_ (by first | exact Nat.le_refl _ | (simp; omega) | omega | simp) _ | refine Below.setCell ?_ (by first | exact Nat.le_refl _ | (simp; omega) | simp | omega) _)) hb1; obtain ⟨hc1, hf1, hz1⟩ := bcell hb1; (try simp only [sz_alloc, sz_set, sz_drew, sz_drewN] at hc1 hf1 hz1); clear hb1))
  go_ret2
  exact ⟨rfl, (by repeat (first | exact Below.refl _ _ | assumption | refine below_drewN ?_ _ | refine Below.drew ?_ | refine Below.alloc ?_ (by first | exact Nat.le_refl _ | (simp; omega) | omega | simp) _ | refine Below.setCell ?_ (by first | exact Nat.le_refl _ | (simp; omega) | simp | omega) _))⟩
set_option maxRecDepth 100000 in
theorem ref_Order_i_x (an : Int) (az : ByteArray) (bk bn : Int) (bz : ByteArray) (h : bothE ⟨2, an, az⟩ ⟨bk, bn, bz⟩ = 0) (h2 : bk ≠ 2) (w : World) :
    Calls Tryd.prog 52 #[.agg #[.int .i64 2, .int .i64 an, .string az], .agg #[.int .i64 bk, .int .i64 bn, .string bz]] w fun e w' => e = .returned (.tuple #[.int .i64 (0), .int .i64 (8)]) ∧ Below w.heap.size w w' := by
  have hu := Tryd.underlying33
  have HB := Lib.hid h
  clear h
  have d1 : (bk == 2) = false := by simpa using h2
  clear h2
  go_enter Tryd.func52, Tryd.ntmps52
  go_wp2_with (first | (go_at_call 28; (with_reducible refine (ref_Both_g 2 an az bk bn bz _ HB.out _).mono ?_); rintro e w1 ⟨rfl, hb1⟩; have hB1 : Below w.heap.size w w1 := below_step (by repeat (first | exact Below.refl _ _ | assumption | refine below_drewN ?_ _ | refine Below.drew ?_ | refine Below.alloc ?_ (by first | exact Nat.le_refl _ | (simp; omega) | omega | simp) _ | refine Below.setCell ?_ (by first | exact Nat.le_refl _ | (simp; omega) | simp | omega) _)) hb1; obtain ⟨hc1, hf1, hz1⟩ := bcell hb1; (try simp only [sz_alloc, sz_set, sz_drew, sz_drewN] at hc1 hf1 hz1); clear hb1))
  go_ret2
  exact ⟨rfl, (by repeat (first | exact Below.refl _ _ | assumption | refine below_drewN ?_ _ | refine Below.drew ?_ | refine Below.alloc ?_ (by first | exact Nat.le_refl _ | (simp; omega) | omega | simp) _ | refine Below.setCell ?_ (by first | exact Nat.le_refl _ | (simp; omega) | simp | omega) _))⟩
set_option maxRecDepth 100000 in
theorem ref_Order_s_x (an : Int) (az : ByteArray) (bk bn : Int) (bz : ByteArray) (h : bothE ⟨3, an, az⟩ ⟨bk, bn, bz⟩ = 0) (h3 : bk ≠ 3) (w : World) :
    Calls Tryd.prog 52 #[.agg #[.int .i64 3, .int .i64 an, .string az], .agg #[.int .i64 bk, .int .i64 bn, .string bz]] w fun e w' => e = .returned (.tuple #[.int .i64 (0), .int .i64 (8)]) ∧ Below w.heap.size w w' := by
  have hu := Tryd.underlying33
  have HB := Lib.hid h
  clear h
  have d1 : (bk != 3) = true := by simpa using h3
  clear h3
  go_enter Tryd.func52, Tryd.ntmps52
  go_wp2_with (first | (go_at_call 28; (with_reducible refine (ref_Both_g 3 an az bk bn bz _ HB.out _).mono ?_); rintro e w1 ⟨rfl, hb1⟩; have hB1 : Below w.heap.size w w1 := below_step (by repeat (first | exact Below.refl _ _ | assumption | refine below_drewN ?_ _ | refine Below.drew ?_ | refine Below.alloc ?_ (by first | exact Nat.le_refl _ | (simp; omega) | omega | simp) _ | refine Below.setCell ?_ (by first | exact Nat.le_refl _ | (simp; omega) | simp | omega) _)) hb1; obtain ⟨hc1, hf1, hz1⟩ := bcell hb1; (try simp only [sz_alloc, sz_set, sz_drew, sz_drewN] at hc1 hf1 hz1); clear hb1))
  go_ret2
  exact ⟨rfl, (by repeat (first | exact Below.refl _ _ | assumption | refine below_drewN ?_ _ | refine Below.drew ?_ | refine Below.alloc ?_ (by first | exact Nat.le_refl _ | (simp; omega) | omega | simp) _ | refine Below.setCell ?_ (by first | exact Nat.le_refl _ | (simp; omega) | simp | omega) _))⟩
set_option maxRecDepth 100000 in
theorem ref_Order_lt (an : Int) (az : ByteArray) (bn : Int) (bz : ByteArray) (h : bothE ⟨2, an, az⟩ ⟨2, bn, bz⟩ = 0) (h3 : an < bn) (w : World) :
    Calls Tryd.prog 52 #[.agg #[.int .i64 2, .int .i64 an, .string az], .agg #[.int .i64 2, .int .i64 bn, .string bz]] w fun e w' => e = .returned (.tuple #[.int .i64 (-1), .int .i64 (0)]) ∧ Below w.heap.size w w' := by
  have hu := Tryd.underlying33
  have HB := Lib.hid h
  clear h
  have d1 : decide (an < bn) = true := by simpa using h3
  clear h3
  go_enter Tryd.func52, Tryd.ntmps52
  go_wp2_with (first | (go_at_call 28; (with_reducible refine (ref_Both_g 2 an az 2 bn bz _ HB.out _).mono ?_); rintro e w1 ⟨rfl, hb1⟩; have hB1 : Below w.heap.size w w1 := below_step (by repeat (first | exact Below.refl _ _ | assumption | refine below_drewN ?_ _ | refine Below.drew ?_ | refine Below.alloc ?_ (by first | exact Nat.le_refl _ | (simp; omega) | omega | simp) _ | refine Below.setCell ?_ (by first | exact Nat.le_refl _ | (simp; omega) | simp | omega) _)) hb1; obtain ⟨hc1, hf1, hz1⟩ := bcell hb1; (try simp only [sz_alloc, sz_set, sz_drew, sz_drewN] at hc1 hf1 hz1); clear hb1))
  go_ret2
  exact ⟨rfl, (by repeat (first | exact Below.refl _ _ | assumption | refine below_drewN ?_ _ | refine Below.drew ?_ | refine Below.alloc ?_ (by first | exact Nat.le_refl _ | (simp; omega) | omega | simp) _ | refine Below.setCell ?_ (by first | exact Nat.le_refl _ | (simp; omega) | simp | omega) _))⟩
set_option maxRecDepth 100000 in
theorem ref_Order_gt (an : Int) (az : ByteArray) (bn : Int) (bz : ByteArray) (h : bothE ⟨2, an, az⟩ ⟨2, bn, bz⟩ = 0) (h3 : bn < an) (w : World) :
    Calls Tryd.prog 52 #[.agg #[.int .i64 2, .int .i64 an, .string az], .agg #[.int .i64 2, .int .i64 bn, .string bz]] w fun e w' => e = .returned (.tuple #[.int .i64 (1), .int .i64 (0)]) ∧ Below w.heap.size w w' := by
  have hu := Tryd.underlying33
  have HB := Lib.hid h
  clear h
  have d1 : decide (an < bn) = false := by simp; omega
  have d2 : decide (bn < an) = true := by simpa using h3
  clear h3
  go_enter Tryd.func52, Tryd.ntmps52
  go_wp2_with (first | (go_at_call 28; (with_reducible refine (ref_Both_g 2 an az 2 bn bz _ HB.out _).mono ?_); rintro e w1 ⟨rfl, hb1⟩; have hB1 : Below w.heap.size w w1 := below_step (by repeat (first | exact Below.refl _ _ | assumption | refine below_drewN ?_ _ | refine Below.drew ?_ | refine Below.alloc ?_ (by first | exact Nat.le_refl _ | (simp; omega) | omega | simp) _ | refine Below.setCell ?_ (by first | exact Nat.le_refl _ | (simp; omega) | simp | omega) _)) hb1; obtain ⟨hc1, hf1, hz1⟩ := bcell hb1; (try simp only [sz_alloc, sz_set, sz_drew, sz_drewN] at hc1 hf1 hz1); clear hb1))
  go_ret2
  exact ⟨rfl, (by repeat (first | exact Below.refl _ _ | assumption | refine below_drewN ?_ _ | refine Below.drew ?_ | refine Below.alloc ?_ (by first | exact Nat.le_refl _ | (simp; omega) | omega | simp) _ | refine Below.setCell ?_ (by first | exact Nat.le_refl _ | (simp; omega) | simp | omega) _))⟩
set_option maxRecDepth 100000 in
theorem ref_Order_eq (an : Int) (az : ByteArray) (bn : Int) (bz : ByteArray) (h : bothE ⟨2, an, az⟩ ⟨2, bn, bz⟩ = 0) (h3 : an = bn) (w : World) :
    Calls Tryd.prog 52 #[.agg #[.int .i64 2, .int .i64 an, .string az], .agg #[.int .i64 2, .int .i64 bn, .string bz]] w fun e w' => e = .returned (.tuple #[.int .i64 (0), .int .i64 (0)]) ∧ Below w.heap.size w w' := by
  have hu := Tryd.underlying33
  have HB := Lib.hid h
  clear h
  have d1 : decide (an < bn) = false := by simp; omega
  have d2 : decide (bn < an) = false := by simp; omega
  clear h3
  go_enter Tryd.func52, Tryd.ntmps52
  go_wp2_with (first | (go_at_call 28; (with_reducible refine (ref_Both_g 2 an az 2 bn bz _ HB.out _).mono ?_); rintro e w1 ⟨rfl, hb1⟩; have hB1 : Below w.heap.size w w1 := below_step (by repeat (first | exact Below.refl _ _ | assumption | refine below_drewN ?_ _ | refine Below.drew ?_ | refine Below.alloc ?_ (by first | exact Nat.le_refl _ | (simp; omega) | omega | simp) _ | refine Below.setCell ?_ (by first | exact Nat.le_refl _ | (simp; omega) | simp | omega) _)) hb1; obtain ⟨hc1, hf1, hz1⟩ := bcell hb1; (try simp only [sz_alloc, sz_set, sz_drew, sz_drewN] at hc1 hf1 hz1); clear hb1))
  go_ret2
  exact ⟨rfl, (by repeat (first | exact Below.refl _ _ | assumption | refine below_drewN ?_ _ | refine Below.drew ?_ | refine Below.alloc ?_ (by first | exact Nat.le_refl _ | (simp; omega) | omega | simp) _ | refine Below.setCell ?_ (by first | exact Nat.le_refl _ | (simp; omega) | simp | omega) _))⟩
theorem ref_Order_ii (m n : Int) (hB : bothE (ofBx (.i m)) (ofBx (.i n)) = 0) (w : World) :
    Calls Tryd.prog 52 #[vv (ofBx (.i m)), vv (ofBx (.i n))] w fun e w' => e = .returned (.tuple #[.int .i64 (orderN (.i m) (.i n)), .int .i64 (orderE (.i m) (.i n))]) ∧ Below w.heap.size w w' := by
  simp only [orderN, orderE]
  rcases Int.lt_trichotomy m n with g | g | g
  · rw [if_pos g]; exact ref_Order_lt _ _ _ _ hB g w
  · rw [if_neg (by omega), if_neg (by omega)]; exact ref_Order_eq _ _ _ _ hB g w
  · rw [if_neg (by omega), if_pos g]; exact ref_Order_gt _ _ _ _ hB g w
theorem bothE_ok {a b : V} (ha : okV a = true) (hb : okV b = true) : bothE a b = 0 := by unfold bothE; rw [if_pos ⟨ha, hb⟩]
theorem bothE_bad {a b : V} (h : ¬ (okV a = true ∧ okV b = true)) : bothE a b = 2 := by unfold bothE; rw [if_neg h]
theorem size_3 {n : Int} {s : ByteArray} (h : okV ⟨3, n, s⟩ = true) : s.size ≤ 10000 := by
  rw [okV_3] at h; simp at h; omega
theorem ref_Order_ok (a b : V) (ha : okV a = true) (hb : okV b = true) (w : World) :
    Calls Tryd.prog 52 #[vv a, vv b] w fun e w' => e = .returned (.tuple #[.int .i64 (orderN (toBx a) (toBx b)), .int .i64 (orderE (toBx a) (toBx b))]) ∧ Below w.heap.size w w' := by
  have hB := bothE_ok ha hb
  have va := ofBx_toBx a ha
  have vb := ofBx_toBx b hb
  generalize toBx a = x at va ⊢
  generalize toBx b = y at vb ⊢
  subst va vb
  cases x <;> cases y <;> first
    | exact ref_Order_x _ _ _ _ _ _ hB (by decide) (by decide) w
    | exact ref_Order_i_x _ _ _ _ _ hB (by decide) w
    | exact ref_Order_s_x _ _ _ _ _ hB (by decide) w
    | exact ref_Order_ss _ _ (size_3 ha) (size_3 hb) hB w
    | exact ref_Order_ii _ _ hB w
end Go.Proofs.YtpppcoobibmlhaaDoor
