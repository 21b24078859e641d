/- The program's heap: what each step in memory does to it. -/
import Derived.Test.YtfhigeefclchiaaHeap1
namespace Go.Proofs.Ytfhigeefclchiaa
open Go.RowKit Go.Maps
set_option linter.unusedVariables false
set_option linter.unusedSimpArgs false

/-- A heap in plain terms: sizes by number; who is taken; what lies ready, by size, the last one given back at the end. -/
structure HS where
  lim : Int
  live : Int
  laid : Int
  sizes : List Int
  tk : Int → Option Int
  rd : Int → List Int
def nilSl : Value := .slice none 0 0
def hV (i : Option Int) : Prop := ∀ x, i = some x → In64 x
def hvO (sv : Value) (rv : Int → Option Value) : Option Int → Value
  | none => sv
  | some x => (rv x).getD nilSl
def HS.hl (h : HS) : Option Int → List Int
  | none => h.sizes
  | some x => h.rd x
structure HeapIn (w : World) (p bt br nt nr : Nat) (sv : Value) (rv : Int → Option Value) (h : HS) : Prop where
  c0 : w.cell? ⟨p, 0, none⟩ = some (.int .i64 h.lim)
  c1 : w.cell? ⟨p, 1, none⟩ = some (.int .i64 h.live)
  c2 : w.cell? ⟨p, 2, none⟩ = some (.int .i64 h.laid)
  c3 : w.cell? ⟨p, 3, none⟩ = some sv
  c4 : w.cell? ⟨p, 4, none⟩ = some (.map (some bt))
  c5 : w.cell? ⟨p, 5, none⟩ = some (.map (some br))
  fz : ∀ i, w.frozen? ⟨p, i, none⟩ = false
  mt : MapIs w bt nt fun x => (h.tk x).map (Value.int .i64)
  mr : MapIs w br nr rv
  fam : Fam hV w (hvO sv rv) h.hl
  off : ∀ i, hV i → (hvO sv rv i).ownBlock ≠ some p ∧ (hvO sv rv i).ownBlock ≠ some bt ∧ (hvO sv rv i).ownBlock ≠ some br
  n1 : p ≠ bt
  n2 : p ≠ br
  n3 : bt ≠ br
/-- The blocks that the heap stands on. -/
def own (p bt br : Nat) (sv : Value) (rv : Int → Option Value) (q : Nat) : Prop := q = p ∨ q = bt ∨ q = br ∨ ∃ i, hV i ∧ (hvO sv rv i).ownBlock = some q
section
variable {w w' : World} {p bt br nt nr : Nat} {sv : Value} {rv : Int → Option Value} {h : HS}
theorem HeapIn.pl (H : HeapIn w p bt br nt nr sv rv h) : p < w.heap.size := by obtain ⟨b, o, e, hl⟩ := spot_of_cell H.c0; cases e; exact hl
theorem HeapIn.lt (H : HeapIn w p bt br nt nr sv rv h) (q : Nat) (hq : own p bt br sv rv q) : q < w.heap.size := by
  rcases hq with rfl | rfl | rfl | ⟨i, hi, e⟩
  · exact H.pl
  · exact H.mt.lt
  · exact H.mr.lt
  · exact ((H.fam.row i hi).lt q e).2
/-- Nothing of its blocks has turned. -/
theorem HeapIn.keep (H : HeapIn w p bt br nt nr sv rv h) (hb : ∀ q, own p bt br sv rv q → w'.heap[q]? = w.heap[q]?) : HeapIn w' p bt br nt nr sv rv h := by
  have hp := hb p (.inl rfl)
  have hc : ∀ i, w'.cell? ⟨p, i, none⟩ = w.cell? ⟨p, i, none⟩ := fun i => World.cell?_of_block (a := ⟨p, i, none⟩) hp
  exact ⟨(hc 0).trans H.c0, (hc 1).trans H.c1, (hc 2).trans H.c2, (hc 3).trans H.c3, (hc 4).trans H.c4, (hc 5).trans H.c5, fun i => (World.frozen?_of_block (a := ⟨p, i, none⟩) hp).trans (H.fz i),
    H.mt.of_block (hb bt (.inr (.inl rfl))), H.mr.of_block (hb br (.inr (.inr (.inl rfl)))), H.fam.keep (fun i q hi e => hb q (.inr (.inr (.inr ⟨i, hi, e⟩)))), H.off, H.n1, H.n2, H.n3⟩
theorem HeapIn.kp {F : Nat → Prop} (H : HeapIn w p bt br nt nr sv rv h) (hk : Kp F w w') (hF : ∀ q, own p bt br sv rv q → ¬ F q) : HeapIn w' p bt br nt nr sv rv h := H.keep fun q hq => hk.block q (H.lt q hq) (hF q hq)
theorem HeapIn.below (H : HeapIn w p bt br nt nr sv rv h) (hb : Below w.heap.size w w') : HeapIn w' p bt br nt nr sv rv h := H.keep fun q hq => hb.block q (H.lt q hq)
theorem HeapIn.drew (H : HeapIn w p bt br nt nr sv rv h) : HeapIn w.drew p bt br nt nr sv rv h := H.below (Below.refl _ _).drew
theorem cell_other (w : World) (p i j : Nat) (v : Value) (h : j ≠ i) : (w.setCell ⟨p, i, none⟩ v).cell? ⟨p, j, none⟩ = w.cell? ⟨p, j, none⟩ := World.cell?_setCell_other _ _ _ _ (by intro e; simp at e; try exact h e)
theorem frozen_set (w : World) (a b : Addr) (v : Value) : (w.setCell a v).frozen? b = w.frozen? b := World.frozen?_setCell _ _ _ _
/-- A store into the struct: what does not lie in the struct is as it was. -/
theorem HeapIn.stored (H : HeapIn w p bt br nt nr sv rv h) (i : Nat) (v : Value) : (∀ q, own p bt br sv rv q → q ≠ p → (w.setCell ⟨p, i, none⟩ v).heap[q]? = w.heap[q]?) := fun q hq e => Below.heap_setCell _ _ _ _ e
theorem HeapIn.live (H : HeapIn w p bt br nt nr sv rv h) (x : Int) : HeapIn (w.setCell ⟨p, 1, none⟩ (.int .i64 x)) p bt br nt nr sv rv { h with live := x } := by
  have hs := H.stored 1 (.int .i64 x)
  refine ⟨?_, ?_, ?_, ?_, ?_, ?_, fun i => (frozen_set _ _ _ _).trans (H.fz i), H.mt.of_block (hs bt (.inr (.inl rfl)) H.n1.symm), H.mr.of_block (hs br (.inr (.inr (.inl rfl))) H.n2.symm), ?_, H.off, H.n1, H.n2, H.n3⟩
  · rw [cell_other _ _ _ _ _ (by decide)]; exact H.c0
  · rw [cell_set_self, H.c1]; rfl
  · rw [cell_other _ _ _ _ _ (by decide)]; exact H.c2
  · rw [cell_other _ _ _ _ _ (by decide)]; exact H.c3
  · rw [cell_other _ _ _ _ _ (by decide)]; exact H.c4
  · rw [cell_other _ _ _ _ _ (by decide)]; exact H.c5
  · exact (H.fam.keep (fun i q hi e => hs q (.inr (.inr (.inr ⟨i, hi, e⟩))) (fun e2 => by subst e2; exact (H.off i hi).1 e)) : Fam hV _ (hvO sv rv) h.hl)
theorem HeapIn.laid (H : HeapIn w p bt br nt nr sv rv h) (x : Int) : HeapIn (w.setCell ⟨p, 2, none⟩ (.int .i64 x)) p bt br nt nr sv rv { h with laid := x } := by
  have hs := H.stored 2 (.int .i64 x)
  refine ⟨?_, ?_, ?_, ?_, ?_, ?_, fun i => (frozen_set _ _ _ _).trans (H.fz i), H.mt.of_block (hs bt (.inr (.inl rfl)) H.n1.symm), H.mr.of_block (hs br (.inr (.inr (.inl rfl))) H.n2.symm), ?_, H.off, H.n1, H.n2, H.n3⟩
  · rw [cell_other _ _ _ _ _ (by decide)]; exact H.c0
  · rw [cell_other _ _ _ _ _ (by decide)]; exact H.c1
  · rw [cell_set_self, H.c2]; rfl
  · rw [cell_other _ _ _ _ _ (by decide)]; exact H.c3
  · rw [cell_other _ _ _ _ _ (by decide)]; exact H.c4
  · rw [cell_other _ _ _ _ _ (by decide)]; exact H.c5
  · exact (H.fam.keep (fun i q hi e => hs q (.inr (.inr (.inr ⟨i, hi, e⟩))) (fun e2 => by subst e2; exact (H.off i hi).1 e)) : Fam hV _ (hvO sv rv) h.hl)
theorem hvO_none (sv v' : Value) (rv : Int → Option Value) : hvO v' rv = updO (hvO sv rv) none v' := by
  funext i
  cases i with
  | none => rw [updO_same]; rfl
  | some x => rw [updO_other _ _ _ (by simp)]; rfl
theorem hvO_some (sv v' : Value) (rv : Int → Option Value) (n : Int) : hvO sv (updI rv n (some v')) = updO (hvO sv rv) (some n) v' := by
  funext i
  cases i with
  | none => rw [updO_other _ _ _ (by simp)]; rfl
  | some x =>
    by_cases e : x = n
    · subst e; rw [updO_same]; show ((updI rv x (some v')) x).getD nilSl = v'; rw [updI_same]; rfl
    · rw [updO_other _ _ _ (by simpa using e)]; show ((updI rv n (some v')) x).getD nilSl = (rv x).getD nilSl; rw [updI_other _ _ _ e]
theorem hl_none (h : HS) (ys : List Int) : HS.hl { h with sizes := ys } = updO h.hl none ys := by
  funext i
  cases i with
  | none => rw [updO_same]; rfl
  | some x => rw [updO_other _ _ _ (by simp)]; rfl
theorem hl_some (h : HS) (n : Int) (ys : List Int) : HS.hl { h with rd := updI h.rd n ys } = updO h.hl (some n) ys := by
  funext i
  cases i with
  | none => rw [updO_other _ _ _ (by simp)]; rfl
  | some x =>
    by_cases e : x = n
    · subst e; rw [updO_same]; show (updI h.rd x ys) x = ys; rw [updI_same]
    · rw [updO_other _ _ _ (by simpa using e)]; show (updI h.rd n ys) x = h.rd x; rw [updI_other _ _ _ e]
theorem hV_none : hV none := fun x e => by simp at e
theorem hV_some {x : Int} (h : In64 x) : hV (some x) := fun y e => by simp at e; subst e; exact h
/-- 'h.sizes = append(h.sizes, n)': the append, then the store. -/
theorem HeapIn.sized {w1 : World} (H : HeapIn w p bt br nt nr sv rv h) (hg : w.grownBy w1 sv.ownBlock) (v' : Value) (ys : List Int) (ho : w1.ownsRow 0 3 1 v' ys.length (ys.map (Value.int .i64))) (ha : v'.ownBlock = sv.ownBlock ∨ v'.ownBlock = some w.heap.size) :
    (w1.cell? ⟨p, 3, none⟩ = some sv ∧ w1.frozen? ⟨p, 3, none⟩ = false) ∧ HeapIn (w1.setCell ⟨p, 3, none⟩ v') p bt br nt nr v' rv { h with sizes := ys } := by
  have ho0 := H.off none hV_none
  have hlt := H.lt
  have hb : ∀ q, q < w.heap.size → some q ≠ sv.ownBlock → w1.heap[q]? = w.heap[q]? := fun q h1 h2 => hg.block q h1 h2
  have hp := hb p H.pl (fun e => ho0.1 e.symm)
  have hc : ∀ i, w1.cell? ⟨p, i, none⟩ = w.cell? ⟨p, i, none⟩ := fun i => World.cell?_of_block (a := ⟨p, i, none⟩) hp
  have hf : ∀ i, w1.frozen? ⟨p, i, none⟩ = false := fun i => (World.frozen?_of_block (a := ⟨p, i, none⟩) hp).trans (H.fz i)
  have hvp : ∀ q, own p bt br sv rv q → v'.ownBlock = some q → sv.ownBlock = some q := fun q hq e => by
    rcases ha with ha | ha
    · rw [← ha]; exact e
    · rw [ha] at e
      have := hlt q hq
      simp at e; omega
  have hF : Fam hV w1 (hvO v' rv) (HS.hl { h with sizes := ys }) := by
    rw [hvO_none sv, hl_none]
    exact H.fam.set none hV_none hg v' ys ho (ha.imp id (fun e q e2 => by rw [e] at e2; simp at e2; omega))
  have hoff : ∀ i, hV i → (hvO v' rv i).ownBlock ≠ some p ∧ (hvO v' rv i).ownBlock ≠ some bt ∧ (hvO v' rv i).ownBlock ≠ some br := fun i hi => by
    cases i with
    | some x => exact H.off (some x) hi
    | none => exact ⟨fun e => ho0.1 (hvp p (.inl rfl) e), fun e => ho0.2.1 (hvp bt (.inr (.inl rfl)) e), fun e => ho0.2.2 (hvp br (.inr (.inr (.inl rfl))) e)⟩
  refine ⟨⟨(hc 3).trans H.c3, hf 3⟩, ?_, ?_, ?_, ?_, ?_, ?_, fun i => (frozen_set _ _ _ _).trans (hf i), ?_, ?_, ?_, hoff, H.n1, H.n2, H.n3⟩
  · rw [cell_other _ _ _ _ _ (by decide), hc]; exact H.c0
  · rw [cell_other _ _ _ _ _ (by decide), hc]; exact H.c1
  · rw [cell_other _ _ _ _ _ (by decide), hc]; exact H.c2
  · rw [cell_set_self, hc, H.c3]; rfl
  · rw [cell_other _ _ _ _ _ (by decide), hc]; exact H.c4
  · rw [cell_other _ _ _ _ _ (by decide), hc]; exact H.c5
  · exact (H.mt.of_block (hb bt H.mt.lt (fun e => ho0.2.1 e.symm))).of_block (Below.heap_setCell _ _ _ _ H.n1.symm)
  · exact (H.mr.of_block (hb br H.mr.lt (fun e => ho0.2.2 e.symm))).of_block (Below.heap_setCell _ _ _ _ H.n2.symm)
  · exact hF.keep fun i q hi e => Below.heap_setCell _ _ _ _ (fun e2 => by subst e2; exact (hoff i hi).1 e)
/-- A store into, or a delete out of, the map of what is taken. -/
theorem HeapIn.taken (H : HeapIn w p bt br nt nr sv rv h) {n' : Nat} {tk' : Int → Option Int} (hm : MapIs w' bt n' fun x => (tk' x).map (Value.int .i64)) (hg : w.grownBy w' (some bt)) : HeapIn w' p bt br n' nr sv rv { h with tk := tk' } := by
  have hb : ∀ q, own p bt br sv rv q → q ≠ bt → w'.heap[q]? = w.heap[q]? := fun q hq e => hg.block q (H.lt q hq) (by simpa using e)
  have hp := hb p (.inl rfl) H.n1
  have hc : ∀ i, w'.cell? ⟨p, i, none⟩ = w.cell? ⟨p, i, none⟩ := fun i => World.cell?_of_block (a := ⟨p, i, none⟩) hp
  exact ⟨(hc 0).trans H.c0, (hc 1).trans H.c1, (hc 2).trans H.c2, (hc 3).trans H.c3, (hc 4).trans H.c4, (hc 5).trans H.c5, fun i => (World.frozen?_of_block (a := ⟨p, i, none⟩) hp).trans (H.fz i),
    hm, H.mr.of_block (hb br (.inr (.inr (.inl rfl))) H.n3.symm), (H.fam.keep (fun i q hi e => hb q (.inr (.inr (.inr ⟨i, hi, e⟩))) (fun e2 => by subst e2; exact (H.off i hi).2.1 e)) : Fam hV _ (hvO sv rv) h.hl), H.off, H.n1, H.n2, H.n3⟩
/-- 'h.ready[n] = ..': the row has become v' (nothing, an append), then the map's entry. -/
theorem HeapIn.ready {w1 : World} (H : HeapIn w p bt br nt nr sv rv h) (n : Int) (hn : In64 n) (hg1 : w.grownBy w1 (hvO sv rv (some n)).ownBlock) (v' : Value) (ys : List Int) (ho : w1.ownsRow 0 3 1 v' ys.length (ys.map (Value.int .i64)))
    (ha : v'.ownBlock = (hvO sv rv (some n)).ownBlock ∨ v'.ownBlock = some w.heap.size) {n' : Nat} (hm : MapIs w' br n' (updI rv n (some v'))) (hg : w1.grownBy w' (some br)) : HeapIn w' p bt br nt n' sv (updI rv n (some v')) { h with rd := updI h.rd n ys } := by
  have hVn := hV_some hn
  have ho0 := H.off _ hVn
  have hlt := H.lt
  have hb : ∀ q, q < w.heap.size → some q ≠ (hvO sv rv (some n)).ownBlock → q ≠ br → w'.heap[q]? = w.heap[q]? := fun q h1 h2 h3 => (hg.block q (Nat.lt_of_lt_of_le h1 hg1.size) (by simpa using h3)).trans (hg1.block q h1 h2)
  have hp := hb p H.pl (fun e => ho0.1 e.symm) H.n2
  have hc : ∀ i, w'.cell? ⟨p, i, none⟩ = w.cell? ⟨p, i, none⟩ := fun i => World.cell?_of_block (a := ⟨p, i, none⟩) hp
  have hvp : ∀ q, own p bt br sv rv q → v'.ownBlock = some q → (hvO sv rv (some n)).ownBlock = some q := fun q hq e => by
    rcases ha with ha | ha
    · rw [← ha]; exact e
    · rw [ha] at e
      have := hlt q hq
      simp at e; omega
  have hF : Fam hV w1 (hvO sv (updI rv n (some v'))) (HS.hl { h with rd := updI h.rd n ys }) := by
    rw [hvO_some, hl_some]
    exact H.fam.set (some n) hVn hg1 v' ys ho (ha.imp id (fun e q e2 => by rw [e] at e2; simp at e2; omega))
  have hoff : ∀ i, hV i → (hvO sv (updI rv n (some v')) i).ownBlock ≠ some p ∧ (hvO sv (updI rv n (some v')) i).ownBlock ≠ some bt ∧ (hvO sv (updI rv n (some v')) i).ownBlock ≠ some br := fun i hi => by
    rw [hvO_some]
    by_cases e : i = some n
    · subst e
      rw [updO_same]
      exact ⟨fun e => ho0.1 (hvp p (.inl rfl) e), fun e => ho0.2.1 (hvp bt (.inr (.inl rfl)) e), fun e => ho0.2.2 (hvp br (.inr (.inr (.inl rfl))) e)⟩
    · rw [updO_other _ _ _ e]; exact H.off i hi
  exact ⟨(hc 0).trans H.c0, (hc 1).trans H.c1, (hc 2).trans H.c2, (hc 3).trans H.c3, (hc 4).trans H.c4, (hc 5).trans H.c5, fun i => (World.frozen?_of_block (a := ⟨p, i, none⟩) hp).trans (H.fz i),
    H.mt.of_block (hb bt H.mt.lt (fun e => ho0.2.1 e.symm) H.n3), hm, hF.keep (fun i q hi e => hg.block q ((hF.row i hi).lt q e).2 (fun e2 => (hoff i hi).2.2 (by rw [e, e2]))), hoff, H.n1, H.n2, H.n3⟩
end
/-- A row without its last one. -/
theorem ownsRow_pop {w : World} {base : Nat} {A : Option Addr} {n c : Nat} {xs : List Int} (h : w.ownsRow base 3 1 (.slice A (n + 1) c) (n + 1) (xs.map (Value.int .i64))) : w.ownsRow base 3 1 (.slice A n c) n ((xs.take n).map (Value.int .i64)) := by
  have hl : xs.length = n + 1 := by have := h.1; simpa using this
  refine ⟨by simp [hl], ?_⟩
  rcases h.2 with ⟨e, h0⟩ | ⟨g, cap, cur, e, hb, hh, hn, hc, hs, ht⟩
  · omega
  · simp only [Value.slice.injEq, true_and] at e
    obtain ⟨rfl, rfl⟩ := e
    refine .inr ⟨g, c, cur, rfl, hb, hh, by omega, hc, hs, ?_⟩
    rw [List.map_take, ← ht, List.take_take]
    congr 1
    omega
/-! ### Maps at the operation -/
section
variable {w : World} {ops : Array Oper} {rest : List Oper} {o : Oper} {a : Act} {Q : Exit → Act → World → Prop}
theorem wpList_store_is (hg : o.guard = none) (m x v : Operand) (t : TypeId) (hop : o.op = Op.mapUpdate t m x v) {e : TypeId} (ht : Try.prog.underlying t = some (.map 3 e)) {b n : Nat} {f : Int → Option Value} (hm : a.eval m = .map (some b)) (h : MapIs w b n f) (hn : n < maxLen)
    (key : Int) (hk : In64 key) (val : Value) (hx : a.eval x = .int .i64 key) (hv : a.eval v = val) (hK : ∀ w', MapIs w' b (n + 1) (updI f key (some val)) → w.grownBy w' (some b) → wpList Try.prog ops Q rest (a.put o.dst undef) w') : wpList Try.prog ops Q (o :: rest) a w := by
  refine wpList_plain hg fun K' hK' => ?_
  obtain ⟨w', hrun, r1, r2⟩ := h.store ht hn hk val
  unfold Oper.wp
  simp [execOp, hop, hm, hx, hv, hrun, Result.andThen]
  exact hK' _ _ (hK w' r1 r2)
theorem wpList_drop_is (hg : o.guard = none) (m x : Operand) (t : TypeId) (hop : o.op = Op.call { callee := Callee.builtin Builtin.delete, args := #[m, x], argTypes := #[t, 3] }) {e : TypeId} (ht : Try.prog.underlying t = some (.map 3 e)) {b n : Nat} {f : Int → Option Value} (hm : a.eval m = .map (some b)) (h : MapIs w b n f)
    (key : Int) (hk : In64 key) (hx : a.eval x = .int .i64 key) (hK : ∀ w', MapIs w' b n (updI f key none) → w.grownBy w' (some b) → wpList Try.prog ops Q rest (a.put o.dst (.tuple #[])) w') : wpList Try.prog ops Q (o :: rest) a w := by
  refine wpList_plain hg fun K' hK' => ?_
  obtain ⟨w', hrun, r1, r2⟩ := h.drop ht hk o.type
  unfold Oper.wp
  simp [execOp, hop, resolve, invoke, builtin, hm, hx, hrun, Result.andThen]
  exact hK' _ _ (hK w' r1 r2)
theorem wpList_look_is (hg : o.guard = none) (m x : Operand) (t : TypeId) (hop : o.op = Op.lookup t m x false) {e : TypeId} (ht : Try.prog.underlying t = some (.map 3 e)) {z : Value} (hz : (zeroValue e).run Try.prog w = .ok z w) {b n : Nat} {f : Int → Option Value} (hm : a.eval m = .map (some b)) (h : MapIs w b n f)
    (key : Int) (hk : In64 key) (hx : a.eval x = .int .i64 key) (v : Value) (hv : (f key).getD z = v) (hK : wpList Try.prog ops Q rest (a.put o.dst v) w) : wpList Try.prog ops Q (o :: rest) a w := by
  refine wpList_plain hg fun K' hK' => ?_
  have hrun := (h.look ht hz hk).1
  rw [hv] at hrun
  unfold Oper.wp
  simp [execOp, hop, hm, hx, hrun, Result.andThen]
  exact hK' _ _ hK
theorem wpList_look2_is (hg : o.guard = none) (m x : Operand) (t : TypeId) (hop : o.op = Op.lookup t m x true) {e : TypeId} (ht : Try.prog.underlying t = some (.map 3 e)) {z : Value} (hz : (zeroValue e).run Try.prog w = .ok z w) {b n : Nat} {f : Int → Option Value} (hm : a.eval m = .map (some b)) (h : MapIs w b n f)
    (key : Int) (hk : In64 key) (hx : a.eval x = .int .i64 key) (v : Value) (ok : Bool) (hv : (f key).getD z = v) (hok : (f key).isSome = ok) (hK : wpList Try.prog ops Q rest (a.put o.dst (.tuple #[v, .bool ok])) w) : wpList Try.prog ops Q (o :: rest) a w := by
  refine wpList_plain hg fun K' hK' => ?_
  have hrun := (h.look ht hz hk).2
  rw [hv, hok] at hrun
  unfold Oper.wp
  simp [execOp, hop, hm, hx, hrun, Result.andThen]
  exact hK' _ _ hK
end
theorem zero_int (w : World) : (zeroValue 3).run Try.prog w = .ok (.int .i64 0) w := by kernel_rfl
theorem zero_ints (w : World) : (zeroValue 22).run Try.prog w = .ok nilSl w := by kernel_rfl
end Go.Proofs.Ytfhigeefclchiaa
