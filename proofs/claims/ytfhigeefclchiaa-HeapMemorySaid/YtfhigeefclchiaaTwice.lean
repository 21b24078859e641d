/- The reference's question whether a number stands twice: rows by what is left of a division by 251. -/
import Derived.Test.YtfhigeefclchiaaLaw05d
import Derived.Deep.AppendLies
import Derived.Deep.RegionLaw
import Derived.OneCell
import Derived.BigQuiet
namespace Go.Proofs.Ytfhigeefclchiaa
open Go.RowKit
set_option linter.unusedVariables false
set_option linter.unusedSimpArgs false

namespace Cs
/-- The row of a number; the numbers of a row. -/
def bkt (x : Int) : Nat := ((IntKind.u64.wrap x).tmod 251).toNat
def row (l : List Int) (b : Nat) : List Int := l.filter fun x => bkt x == b
theorem bkt_spec (x : Int) : bkt x < 251 ∧ (IntKind.u64.wrap x).tmod 251 = bkt x ∧ wrap64 (bkt x : Int) = bkt x ∧ IntKind.u64.wrap (bkt x : Int) = bkt x := by
  obtain ⟨N, h1, h2, h3, h4⟩ := umod x 251 (by decide) (by decide)
  have e : bkt x = N := by unfold bkt; rw [h2]; rfl
  rw [e]
  exact ⟨by omega, h2, h3, h4⟩
theorem row_append (l : List Int) (x : Int) (b : Nat) : row (l ++ [x]) b = if b = bkt x then row l b ++ [x] else row l b := by
  unfold row
  rw [List.filter_append]
  by_cases h : b = bkt x
  · rw [if_pos h]; simp [h]
  · rw [if_neg h]
    have : (bkt x == b) = false := by simp; omega
    simp [this]
theorem row_le (l : List Int) (b : Nat) : (row l b).length ≤ l.length := List.length_filter_le _ _
theorem row_mem (l : List Int) (x : Int) : x ∈ l ↔ x ∈ row l (bkt x) := by simp [row]
theorem dup_of {l : List Int} {j : Nat} (h : j < l.length) (hm : l.getD j 0 ∈ l.take j) : dup l = true := by
  have hn : ¬ l.Nodup := fun hd => by
    have h1 : (l.take (j + 1)).Nodup := (List.take_sublist _ _).nodup hd
    rw [take_succ_getD l j h, List.nodup_append] at h1
    exact h1.2.2 _ hm _ (by simp) rfl
  unfold dup; rw [decide_eq_false hn]; rfl
theorem dup_no {l : List Int} (h : l.Nodup) : dup l = false := by unfold dup; rw [decide_eq_true h]; rfl
theorem nodup_step {l : List Int} {j : Nat} (h : j < l.length) (hd : (l.take j).Nodup) (hm : l.getD j 0 ∉ l.take j) : (l.take (j + 1)).Nodup := by
  rw [take_succ_getD l j h, List.nodup_append]
  refine ⟨hd, by simp, fun a ha b hb => ?_⟩
  rw [List.mem_singleton.1 hb]
  intro e; subst e; exact hm ha
end Cs
def upd {α : Type} (f : Nat → α) (k : Nat) (x : α) (i : Nat) : α := if i = k then x else f i
theorem upd_same {α : Type} (f : Nat → α) (k : Nat) (x : α) : upd f k x k = x := if_pos rfl
theorem upd_other {α : Type} (f : Nat → α) (k : Nat) (x : α) {i : Nat} (h : i ≠ k) : upd f k x i = f i := if_neg h
/-- The table of rows: its block stands at the end of the elder heap; each row is empty or in a block of its own. -/
structure TB (w0 : World) (rs : Nat → List Int) (vs : Nat → Value) (wr : World) : Prop where
  below : Below w0.heap.size w0 wr
  lt : w0.heap.size < wr.heap.size
  cell : ∀ i, i < 256 → wr.cell? ⟨w0.heap.size, i, none⟩ = some (vs i)
  froz : ∀ i, wr.frozen? ⟨w0.heap.size, i, none⟩ = false
  row : ∀ i, i < 256 → wr.ownsRow (w0.heap.size + 1) 3 1 (vs i) (rs i).length ((rs i).map (Value.int .i64))
  apart : ∀ i j, i < 256 → j < 256 → i ≠ j → (vs i).ownBlock = none ∨ (vs i).ownBlock ≠ (vs j).ownBlock
theorem TB.of_heap {w0 wr wq : World} {rs : Nat → List Int} {vs : Nat → Value} (h : TB w0 rs vs wr) (hh : Below wr.heap.size wr wq) : TB w0 rs vs wq :=
  ⟨h.below.trans (hh.mono (Nat.le_of_lt h.lt)), Nat.lt_of_lt_of_le h.lt hh.size, fun i hi => (hh.cell h.lt).trans (h.cell i hi), fun i => (hh.frozen h.lt).trans (h.froz i), fun i hi => ownsRow_below (h.row i hi) hh, h.apart⟩
theorem TB.drew {w0 wr : World} {rs : Nat → List Int} {vs : Nat → Value} (h : TB w0 rs vs wr) : TB w0 rs vs wr.drew := h.of_heap ((Below.refl _ _).drew)
theorem TB.drewN {w0 wr : World} {rs : Nat → List Int} {vs : Nat → Value} (h : TB w0 rs vs wr) (n : Nat) : TB w0 rs vs (wr.drewN n) := h.of_heap (below_drewN (Below.refl _ _) n)
theorem TB.alloc {w0 wr : World} {rs : Nat → List Int} {vs : Nat → Value} (h : TB w0 rs vs wr) (o : Obj) : TB w0 rs vs (wr.alloc o) := h.of_heap ((Below.refl _ _).alloc (Nat.le_refl _) _)
theorem TB.store {w0 W w' : World} {rs : Nat → List Int} {vs : Nat → Value} (h : TB w0 rs vs W) (k : Nat) (hk : k < 256) (ys : List Int) (v' : Value) (hown : w'.ownsRow (w0.heap.size + 1) 3 1 v' ys.length (ys.map (Value.int .i64)))
    (hg : W.grownBy w' (vs k).ownBlock) (hat : v'.ownBlock = (vs k).ownBlock ∨ v'.ownBlock = some W.heap.size) :
    (w'.cell? ⟨w0.heap.size, k, none⟩ = some (vs k) ∧ w'.frozen? ⟨w0.heap.size, k, none⟩ = false) ∧ TB w0 (upd rs k ys) (upd vs k v') (w'.setCell ⟨w0.heap.size, k, none⟩ v') := by
  have hne : ∀ i, i < 256 → (vs i).ownBlock ≠ some w0.heap.size := fun i hi e => by have := (h.row i hi).lt _ e; omega
  have hv' : v'.ownBlock ≠ some w0.heap.size := fun e => by have := hown.lt _ e; omega
  have hbl : w'.heap[w0.heap.size]? = W.heap[w0.heap.size]? := hg.block _ h.lt (fun e => hne k hk e.symm)
  have hc : ∀ i, i < 256 → w'.cell? ⟨w0.heap.size, i, none⟩ = some (vs i) := fun i hi => (World.cell?_of_block (a := ⟨w0.heap.size, i, none⟩) hbl).trans (h.cell i hi)
  have hf : ∀ i, w'.frozen? ⟨w0.heap.size, i, none⟩ = false := fun i => (World.frozen?_of_block (a := ⟨w0.heap.size, i, none⟩) hbl).trans (h.froz i)
  have hap : ∀ i, i < 256 → i ≠ k → (vs i).ownBlock = none ∨ (vs i).ownBlock ≠ v'.ownBlock := fun i hi e => by
    rcases hat with hat | hat
    · rw [hat]; exact h.apart i k hi hk e
    · right
      rw [hat]
      intro e2
      have := (h.row i hi).lt _ e2
      omega
  refine ⟨⟨hc k hk, hf k⟩, ?_, ?_, ?_, ?_, ?_, ?_⟩
  · exact (h.below.grown hg (Nat.le_of_lt h.lt) (fun q hq => by have := (h.row k hk).lt q hq; omega)).setCell (Nat.le_refl _) _
  · have := hg.size; have := h.lt; rw [sz_set]; omega
  · intro i hi
    by_cases e : i = k
    · subst e; rw [cell_set_self, hc i hi, upd_same]; rfl
    · rw [upd_other _ _ _ e, ← hc i hi]
      exact World.cell?_setCell_other _ _ _ _ (by intro e2; simp at e2; try exact e e2)
  · intro i
    have : (w'.setCell ⟨w0.heap.size, k, none⟩ v').frozen? ⟨w0.heap.size, i, none⟩ = w'.frozen? ⟨w0.heap.size, i, none⟩ := by simp [go_sem]
    rw [this]; exact hf i
  · intro i hi
    by_cases e : i = k
    · subst e; rw [upd_same, upd_same]; exact ownsRow_setCell_other hown hv' _
    · rw [upd_other _ _ _ e, upd_other _ _ _ e]
      exact ownsRow_setCell_other ((h.row i hi).kept hg (h.apart i k hi hk e)) (hne i hi) _
  · intro i j hi hj hij
    by_cases e : i = k
    · subst e
      rw [upd_same, upd_other _ _ _ (fun e => hij e.symm)]
      exact ob_swap (hap j hj (fun e => hij e.symm))
    · rw [upd_other _ _ _ e]
      by_cases e2 : j = k
      · subst e2; rw [upd_same]; exact hap i hi e
      · rw [upd_other _ _ _ e2]; exact h.apart i j hi hj hij
/-- 'h[b] = append(h[b], x)': the append, as one step of a region that draws. -/
theorem step_twice {ops : Array Oper} {o : Oper} {a : Act} {K : Act → World → Prop} {Q : Exit → Act → World → Prop} {E : Prop} {W w0 : World} {rs : Nat → List Int} {vs : Nat → Value} (hgd : o.guard = none) (s x : Operand)
    (ho : o.op = .call { callee := .builtin .append, args := #[s, x], argTypes := #[22, 22] }) (hT : TB w0 rs vs W) (k : Nat) (hk : k < 256) (y : Int) (v : Value) (hv : vs k = v) (hs : a.eval s = v) (ad : Addr) (m c : Nat) (hx : a.eval x = .slice (some ad) m c) (hm : m = 1) (hc : W.cell? (ad.add 0) = some (.int .i64 y))
    (hb : ((rs k).length + 1) * 8 ≤ 140737488355328)
    (h : ∀ (g n' cap : Nat) w', w'.cell? ⟨w0.heap.size, k, none⟩ = some v → w'.frozen? ⟨w0.heap.size, k, none⟩ = false → TB w0 (upd rs k (rs k ++ [y])) (upd vs k (.slice (some ⟨g, 0, none⟩) n' cap)) (w'.setCell ⟨w0.heap.size, k, none⟩ (.slice (some ⟨g, 0, none⟩) n' cap)) → K (a.put o.dst (.slice (some ⟨g, 0, none⟩) n' cap)) w') :
    if Region.wanted o (yielded ops a.tmps) = true then Oper.wp Try.prog o a W K Q else E := by
  obtain ⟨i0, hi, hz0, hz1, hz2⟩ := info_parts Try.infoInt
  subst hm hv
  refine step_append_lies _ hgd s x 22 ho (w0.heap.size + 1) 3 i0 (.int .i64 0) 1 8 Try.underlying22 hi hz0 hz1 hz2 rfl (by decide) (vs k) (rs k).length _ hs (hT.row k hk) ad 1 c [.int .i64 y] hx rfl (fun j u hu => ?_) (fun u hu => ?_) (by decide) (by unfold maxLen; omega) hb (by have := hT.lt; omega) _ rfl (fun g cap w' h1 h2 h3 h4 => ?_)
  · match j, hu with
    | 0, hu => simp at hu; rw [hc, hu]
  · simp at hu; subst hu; rfl
  · have h5 := hT.store k hk (rs k ++ [y]) (.slice (some ⟨g, 0, none⟩) ((rs k).length + 1) cap) (by rw [List.length_append, List.map_append]; exact h1) h2 (by
      rcases h3 with h3 | h3
      · exact .inl h3.symm
      · exact .inr (by rw [← h3]; rfl))
    exact h _ _ _ _ h5.1.1 h5.1.2 h5.2
end Go.Proofs.Ytfhigeefclchiaa
