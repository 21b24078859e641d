/- append of a slice of numbers, whatever its address, onto a row of the call's own. -/
import Derived.Test.YtfhigeefclchiaaOpenI
import Derived.Laws.AppendOwnNone
namespace Go.Proofs.Ytfhigeefclchiaa
open Go.RowKit
set_option linter.unusedVariables false
set_option linter.unusedSimpArgs false

theorem at_map {ys : List Int} {j : Nat} {u : Value} (h : (ys.map (Value.int .i64))[j]? = some u) : ∃ hj : j < ys.length, Value.int .i64 (ys.getD j 0) = u := by
  rw [List.getElem?_map] at h
  cases e : ys[j]? with
  | none => rw [e] at h; simp at h
  | some x =>
    obtain ⟨hj, hx⟩ := List.getElem?_eq_some_iff.1 e
    rw [e] at h
    refine ⟨hj, ?_⟩
    rw [List.getD_eq_getElem?_getD, e]
    simpa using h
theorem append_is {w : World} {ops : Array Oper} {rest : List Oper} {o : Oper} {a : Act} {Q : Exit → Act → World → Prop} (hw : Region.wanted o (yielded ops a.tmps) = true) (s x : Operand)
    (ho : o.op = .call { callee := .builtin .append, args := #[s, x], argTypes := #[22, 22] }) (base : Nat) (v : Value) (n : Nat) (xs ys : List Int) (hs : a.eval s = v)
    (hown : w.ownsRow base 3 1 v n (xs.map (Value.int .i64))) (A : Option Addr) (m c : Nat) (hx : a.eval x = .slice A m c) (hm : ys.length = m) (hI : IS w (.slice A m c) ys)
    (hb : (n + m) * 8 ≤ 140737488355328) (hbase : base ≤ w.heap.size)
    (h : ∀ v' w', w'.ownsRow base 3 1 v' (n + m) ((xs ++ ys).map (Value.int .i64)) → Below base w w' → wpList Try.prog ops Q rest (a.put o.dst v') w') : wpList Try.prog ops Q (o :: rest) a w := by
  obtain ⟨i0, hi, hz0, hz1, hz2⟩ := info_parts Try.infoInt
  have hob : ∀ q, v.ownBlock = some q → base ≤ q := fun q hq => (hown.lt q hq).1
  obtain ⟨A', c', e, hc, hn, hz⟩ := hI
  cases e
  show (if Region.wanted o (yielded ops a.tmps) then o.wp Try.prog a w (wpList Try.prog ops Q rest) Q ∨ (o.asks Try.prog a w ∧ LetsOut Q) else wpList Try.prog ops Q rest (a.put o.dst undef) w)
  rw [if_pos hw]
  cases A with
  | none =>
    obtain rfl := hn rfl
    have hy : ys = [] := List.eq_nil_of_length_eq_zero (by omega)
    subst hy
    refine .inl ?_
    have hrun := run_append_owned_none (P := Try.prog) (w := w) base 22 o.type 3 i0 1 Try.underlying22 hi v n _ hown
    have hx0 : a.eval x = .slice none 0 0 := hx
    unfold Oper.wp
    simp [execOp, ho, resolve, invoke, builtin, hs, hx0, hrun, Result.andThen]
    exact h v w (by simpa using hown) (Below.refl _ _)
  | some ad =>
    obtain ⟨h1, h2⟩ : (0 < ys.length → ad.block < w.heap.size) ∧ ∀ j, j < ys.length → w.cell? (ad.add j) = some (.int .i64 (ys.getD j 0)) := by
      have h : ∀ j, j < ys.length → w.cell? (ad.add j) = some (.int .i64 (ys.getD j 0)) := fun j hj => by
        obtain ⟨a, e, h⟩ := hz (by omega)
        cases e
        exact h j hj
      exact ⟨fun h0 => (by
        obtain ⟨b, o, e, hb⟩ := spot_of_cell (h 0 h0)
        have e2 := congrArg Addr.block e
        rw [show (ad.add 0).block = ad.block by unfold Addr.add; rw [if_pos rfl]] at e2
        rw [e2]; exact hb), h⟩
    refine .inl (wp_append_own w s x 22 ho base 3 i0 (.int .i64 0) 1 8 Try.underlying22 hi hz0 hz1 hz2 rfl (by decide) v n _ hs hown ad ys.length c (ys.map (Value.int .i64)) hx (by simp) (fun j u hj => ?_) (fun u hu => ?_) (by unfold maxLen; omega) hb hbase fun v' w' a1 a2 _ => ?_)
    · obtain ⟨hj', rfl⟩ := at_map hj
      exact h2 j hj'
    · obtain ⟨x, -, rfl⟩ := List.mem_map.1 hu; rfl
    · exact h v' w' (by rw [List.map_append]; exact a1) ((Below.refl base w).grown a2 hbase hob)
theorem ownsRow_empty (w : World) (e : TypeId) (base : Nat) (hb : base ≤ w.heap.size) : (w.alloc (.cells #[] e)).ownsRow base e 1 (.slice (some ⟨w.heap.size, 0, none⟩) 0 0) 0 (([] : List Int).map (Value.int .i64)) := World.ownsRow_lit w #[] 0 hb (by decide) rfl
theorem RChoose_c (sv : Value) (zs : List Int) (w : World) (hl : zs.length ≤ 17592186044416) (hz : ∀ x ∈ zs, In64 x) (h : IS w sv zs) (a n z : Int) (ha : Cs.chooseA zs = a) (hn : Cs.chooseN zs = n) (hz2 : Cs.chooseE zs = z) :
    Calls Try.prog 24 #[sv] w fun e w' => e = .returned (.tuple #[.int .i64 a, .int .i64 n, .int .i64 z]) ∧ w = w' := by
  rw [← ha, ← hn, ← hz2]; exact ref_Choose sv zs w hl hz h
end Go.Proofs.Ytfhigeefclchiaa
