/- TableMap: rows of values that a call owns; what was set, by keys and values. -/
import Derived.Test.YteheolefemlcgaaGreatTabM
import Derived.Deep.AppendLies
import Derived.Deep.RegionLaw
namespace Go.Proofs.YteheolefemlcgaaGreat
open Go.RowKit Go.Maps
set_option linter.unusedVariables false
set_option linter.unusedSimpArgs false

def vcells (v : V) : List Value := [.int .i64 v.k, .int .i64 v.n, .string v.s]
def vCells (l : List V) : List Value := l.flatMap vcells
theorem vCells_app (l : List V) (v : V) : vCells (l ++ [v]) = vCells l ++ vcells v := by unfold vCells; simp
theorem vCells_cons (v : V) (l : List V) : vCells (v :: l) = .int .i64 v.k :: .int .i64 v.n :: .string v.s :: vCells l := rfl
theorem vCells_len (l : List V) : (vCells l).length = l.length * 3 := by
  induction l with
  | nil => rfl
  | cons v l ih => rw [vCells_cons]; simp only [List.length_cons, ih]; omega
theorem vCells_at (l : List V) : ∀ j, j < l.length → (vCells l)[j * 3]? = some (.int .i64 (l.getD j nilV).k) ∧ (vCells l)[j * 3 + 1]? = some (.int .i64 (l.getD j nilV).n) ∧ (vCells l)[j * 3 + 2]? = some (.string (l.getD j nilV).s) := by
  induction l with
  | nil => intro j h; simp at h
  | cons v l ih =>
    intro j h
    cases j with
    | zero => exact ⟨rfl, rfl, rfl⟩
    | succ j =>
      have := ih j (by simpa using h)
      rw [vCells_cons, show (j + 1) * 3 = j * 3 + 1 + 1 + 1 by omega, show j * 3 + 1 + 1 + 1 + 1 = (j * 3 + 1) + 1 + 1 + 1 by omega, show j * 3 + 1 + 1 + 1 + 2 = (j * 3 + 2) + 1 + 1 + 1 by omega]
      simpa using this
theorem vCells_set (l : List V) (v : V) : ∀ j, j < l.length → (((vCells l).set (j * 3) (.int .i64 v.k)).set (j * 3 + 1) (.int .i64 v.n)).set (j * 3 + 2) (.string v.s) = vCells (l.set j v) := by
  induction l with
  | nil => intro j h; simp at h
  | cons x l ih =>
    intro j h
    cases j with
    | zero => rfl
    | succ j =>
      have := ih j (by simpa using h)
      rw [vCells_cons, show (j + 1) * 3 = j * 3 + 1 + 1 + 1 by omega, show j * 3 + 1 + 1 + 1 + 1 = (j * 3 + 1) + 1 + 1 + 1 by omega, show j * 3 + 1 + 1 + 1 + 2 = (j * 3 + 2) + 1 + 1 + 1 by omega, show (x :: l).set (j + 1) v = x :: l.set j v from rfl, vCells_cons]
      simp only [List.set_cons_succ]
      rw [this]
/-- A row of values of the call's own. -/
abbrev VRow (base : Nat) (w : World) (v : Value) (l : List V) : Prop := w.ownsRow base 35 3 v l.length (vCells l)
theorem VRow.nil (base : Nat) (w : World) : VRow base w (.slice none 0 0) [] := World.ownsRow_nil _ _ _ _
theorem VRow.keep {base : Nat} {w w' : World} {v : Value} {l : List V} (h : VRow base w v l) (hk : ∀ q, v.ownBlock = some q → w'.heap[q]? = w.heap[q]?) : VRow base w' v l := by
  refine ⟨h.1, h.2.imp id ?_⟩
  rintro ⟨g, cap, cur, e, hb, hg, h3⟩
  exact ⟨g, cap, cur, e, hb, (hk g (by rw [e]; rfl)).trans hg, h3⟩
theorem VRow.lt {base : Nat} {w : World} {v : Value} {l : List V} (h : VRow base w v l) : ∀ q, v.ownBlock = some q → base ≤ q ∧ q < w.heap.size := by
  intro q hq
  rcases h.2 with ⟨e, -⟩ | ⟨g, cap, cur, e, hb, hg, h3⟩
  · rw [e] at hq; simp [Value.ownBlock] at hq
  · rw [e] at hq
    obtain rfl : g = q := by simpa [Value.ownBlock] using hq
    exact ⟨hb, (Array.getElem?_eq_some_iff.1 hg).1⟩
/-- What the row's cells say. -/
theorem VRow.at_ {base : Nat} {w : World} {v : Value} {l : List V} (h : VRow base w v l) (h0 : 0 < l.length) : ∃ g cap, v = .slice (some ⟨g, 0, none⟩) l.length cap ∧ l.length ≤ cap ∧ (∀ i, w.frozen? ⟨g, i, none⟩ = false) ∧ ∀ j, j < l.length → w.cell? ⟨g, j * 3, none⟩ = some (.int .i64 (l.getD j nilV).k) ∧ w.cell? ⟨g, j * 3 + 1, none⟩ = some (.int .i64 (l.getD j nilV).n) ∧ w.cell? ⟨g, j * 3 + 2, none⟩ = some (.string (l.getD j nilV).s) := by
  rcases h.2 with ⟨e, e0⟩ | ⟨g, cap, cur, e, hb, hg, h3, h4, h5, h6⟩
  · omega
  · refine ⟨g, cap, e, h3, fun i => frozen_of_row w g i cur _ hg, fun j hj => ?_⟩
    have h' := h
    rw [e] at h'
    obtain ⟨a, b, c⟩ := vCells_at l j hj
    exact ⟨(h'.cellAt _ (by omega)).trans a, (h'.cellAt _ (by omega)).trans b, (h'.cellAt _ (by omega)).trans c⟩
theorem VRow.slice {base : Nat} {w : World} {v : Value} {l : List V} (h : VRow base w v l) : ∃ A cap, v = .slice A l.length cap := by
  rcases h.2 with ⟨e, e0⟩ | ⟨g, cap, cur, e, -⟩
  · exact ⟨none, 0, by rw [e, e0]⟩
  · exact ⟨_, cap, e⟩
theorem ownsRow_set {w : World} {base : Nat} {e : TypeId} {size g n cap : Nat} {xs : List Value} (h : w.ownsRow base e size (.slice (some ⟨g, 0, none⟩) n cap) n xs) (i : Nat) (hi : i < n * size) (u : Value) : (w.setCell ⟨g, i, none⟩ u).ownsRow base e size (.slice (some ⟨g, 0, none⟩) n cap) n (xs.set i u) := by
  refine ⟨by rw [List.length_set]; exact h.1, ?_⟩
  rcases h.2 with ⟨e1, -⟩ | ⟨g', cap', cur, e1, hb, hg, h3, h4, h5, h6⟩
  · simp at e1
  · simp only [Value.slice.injEq, Option.some.injEq, Addr.mk.injEq, and_true, true_and] at e1
    obtain ⟨rfl, rfl⟩ := e1
    refine .inr ⟨g, cap, cur.setIfInBounds i u, rfl, hb, ?_, h3, h4, by simpa using h5, ?_⟩
    · rw [heap_setCell_same w g i cur _ u hg]
    · rw [← h6, Array.toList_setIfInBounds, List.take_set]
/-- A value of the row is set. -/
theorem VRow.set {base : Nat} {w : World} {g cap : Nat} {l : List V} (h : VRow base w (.slice (some ⟨g, 0, none⟩) l.length cap) l) (j : Nat) (hj : j < l.length) (v : V) :
    VRow base (((w.setCell ⟨g, j * 3, none⟩ (.int .i64 v.k)).setCell ⟨g, j * 3 + 1, none⟩ (.int .i64 v.n)).setCell ⟨g, j * 3 + 2, none⟩ (.string v.s)) (.slice (some ⟨g, 0, none⟩) l.length cap) (l.set j v) := by
  have := ownsRow_set (ownsRow_set (ownsRow_set h (j * 3) (by omega) (.int .i64 v.k)) (j * 3 + 1) (by omega) (.int .i64 v.n)) (j * 3 + 2) (by omega) (.string v.s)
  rw [vCells_set l v j hj] at this
  unfold VRow
  rw [List.length_set]
  exact this
theorem Tryz.infoVal : (Tryz.prog.info? 35).map (fun i => (i.zero, i.size, i.bytes)) = some (some (.agg #[.int .i64 0, .int .i64 0, .string ⟨#[]⟩]), 3, 32) := by kernel_rfl
/-- append of one value, as a step of a region that draws. -/
theorem step_vals {ops : Array Oper} {o : Oper} {a : Act} {K : Act → World → Prop} {Q : Exit → Act → World → Prop} {E : Prop} {W : World} {base : Nat} {v : Value} {l : List V} (hgd : o.guard = none) (s x : Operand)
    (ho : o.op = .call { callee := .builtin .append, args := #[s, x], argTypes := #[38, 38] }) (hown : VRow base W v l) (hs : a.eval s = v) (ad : Addr) (m c : Nat) (hx : a.eval x = .slice (some ad) m c) (hm : m = 1) (y : V) (hc0 : W.cell? (ad.add 0) = some (.int .i64 y.k)) (hc1 : W.cell? (ad.add 1) = some (.int .i64 y.n)) (hc2 : W.cell? (ad.add 2) = some (.string y.s))
    (hb : (l.length + 1) * 32 ≤ 140737488355328) (hbase : base ≤ W.heap.size)
    (hK : ∀ (g cap : Nat) w', VRow base w' (.slice (some ⟨g, 0, none⟩) (l.length + 1 : Nat) cap) (l ++ [y]) → W.grownBy w' v.ownBlock → (v.ownBlock = some g ∨ g = W.heap.size) → K (a.put o.dst (.slice (some ⟨g, 0, none⟩) (l.length + 1 : Nat) cap)) w') :
    if Region.wanted o (yielded ops a.tmps) = true then Oper.wp Tryz.prog o a W K Q else E := by
  obtain ⟨i0, hi, hz0, hz1, hz2⟩ := info_parts Tryz.infoVal
  subst hm
  refine step_append_lies _ hgd s x 38 ho base 35 i0 _ 3 32 Tryz.underlying38 hi hz0 hz1 hz2 rfl (by decide) v l.length (vCells l) hs hown ad 1 c (vcells y) hx rfl (fun j u hu => ?_) (fun u hu => ?_) (by decide) (by unfold maxLen; omega) hb hbase _ rfl (fun g cap w' h1 h2 h3 h4 => hK g cap w' ?_ h2 h3)
  · match j, hu with
    | 0, hu => simp [vcells] at hu; rw [hc0, hu]
    | 1, hu => simp [vcells] at hu; rw [hc1, hu]
    | 2, hu => simp [vcells] at hu; rw [hc2, hu]
  · simp [vcells] at hu; rcases hu with rfl | rfl | rfl <;> rfl
  · unfold VRow
    rw [vCells_app, List.length_append]
    exact h1
/-- Two values that are not the same, limb by limb. -/
theorem ne3 {x k : V} (h : x ≠ k) : ((x.k == k.k) = false) ∨ (k.k = x.k ∧ (x.n == k.n) = false) ∨ (k.k = x.k ∧ k.n = x.n ∧ ¬ x.s.toList = k.s.toList ∧ (x.s.toList == k.s.toList) = false) := by
  by_cases e1 : x.k = k.k
  · by_cases e2 : x.n = k.n
    · have e3 : ¬ x.s = k.s := fun e3 => h (V_ext e1 e2 e3)
      exact .inr (.inr ⟨e1.symm, e2.symm, fun e => e3 (toList_inj e), by simpa using fun e => e3 (toList_inj e)⟩)
    · exact .inr (.inl ⟨e1.symm, by simpa using e2⟩)
  · exact .inl (by simpa using e1)
/-! ### The keys and the values that were set -/
/-- The last place of the first n where the key stands; -1: none. -/
def atK (ks : List V) (k : V) : Nat → Int
  | 0 => -1
  | n + 1 => if ks.getD n nilV = k then (n : Int) else atK ks k n
theorem atK_is (ks : List V) (k : V) : ∀ n, (atK ks k n = -1 ∧ ∀ j, j < n → ks.getD j nilV ≠ k) ∨ ∃ j : Nat, j < n ∧ atK ks k n = j ∧ ks.getD j nilV = k
  | 0 => .inl ⟨rfl, fun j h => by omega⟩
  | n + 1 => by
    unfold atK
    by_cases e : ks.getD n nilV = k
    · rw [if_pos e]; exact .inr ⟨n, by omega, rfl, e⟩
    · rw [if_neg e]
      rcases atK_is ks k n with ⟨a, b⟩ | ⟨j, a, b, c⟩
      · refine .inl ⟨a, fun j hj => ?_⟩
        by_cases ej : j = n
        · rw [ej]; exact e
        · exact b j (by omega)
      · exact .inr ⟨j, by omega, b, c⟩
/-- What was set is what is there. -/
structure KV (t : Tbl) (ks vs : List V) : Prop where
  len : ks.length = vs.length
  nd : ks.Nodup
  at_ : ∀ j, j < ks.length → t.get (ks.getD j nilV) = vs.getD j nilV
theorem KV.nil (t : Tbl) : KV t [] [] := ⟨rfl, List.nodup_nil, fun j h => by simp at h⟩
theorem getD_app {α : Type} (l : List α) (x d : α) (j : Nat) : (l ++ [x]).getD j d = if j < l.length then l.getD j d else if j = l.length then x else d := by
  rw [List.getD_eq_getElem?_getD, List.getD_eq_getElem?_getD]
  by_cases h : j < l.length
  · rw [if_pos h, List.getElem?_append_left h]
  · rw [if_neg h, List.getElem?_append_right (by omega)]
    by_cases e : j = l.length
    · rw [if_pos e, e]; simp
    · rw [if_neg e, List.getElem?_eq_none (by simp; omega)]; rfl
theorem getD_memV {α : Type} {l : List α} {d x : α} (h : x ∈ l) : ∃ j, j < l.length ∧ l.getD j d = x := by
  obtain ⟨j, hj, e⟩ := List.mem_iff_getElem.1 h
  exact ⟨j, hj, by rw [List.getD_eq_getElem?_getD, List.getElem?_eq_getElem hj]; exact e⟩
theorem getD_inj {α : Type} {l : List α} {d : α} (hn : l.Nodup) {i j : Nat} (hi : i < l.length) (hj : j < l.length) (e : l.getD i d = l.getD j d) : i = j := by
  refine (List.getElem?_inj hi hn).1 ?_
  rw [List.getD_eq_getElem?_getD, List.getD_eq_getElem?_getD, List.getElem?_eq_getElem hi, List.getElem?_eq_getElem hj] at e
  rw [List.getElem?_eq_getElem hi, List.getElem?_eq_getElem hj]
  exact congrArg some e
theorem KV.same {t t' : Tbl} {ks vs : List V} (H : KV t ks vs) (h : ∀ k, t'.get k = t.get k) : KV t' ks vs := ⟨H.len, H.nd, fun j hj => (h _).trans (H.at_ j hj)⟩
/-- A key that is there already. -/
theorem KV.over {t t' : Tbl} {ks vs : List V} {k v : V} (H : KV t ks vs) (h : ∀ k', t'.get k' = if k' = k then v else t.get k') {j : Nat} (hj : j < ks.length) (e : ks.getD j nilV = k) : KV t' ks (vs.set j v) := by
  refine ⟨by rw [List.length_set]; exact H.len, H.nd, fun i hi => ?_⟩
  rw [h, List.getD_eq_getElem?_getD (l := vs.set j v), List.getElem?_set]
  by_cases ei : i = j
  · subst ei
    rw [if_pos e, if_pos rfl, if_pos (by rw [← H.len]; exact hi)]; rfl
  · rw [if_neg (fun e2 => ei (getD_inj H.nd hi hj (e2.trans e.symm))), if_neg (fun e2 => ei e2.symm), ← List.getD_eq_getElem?_getD]
    exact H.at_ i hi
/-- A new key. -/
theorem KV.more {t t' : Tbl} {ks vs : List V} {k v : V} (H : KV t ks vs) (h : ∀ k', t'.get k' = if k' = k then v else t.get k') (hn : ∀ j, j < ks.length → ks.getD j nilV ≠ k) : KV t' (ks ++ [k]) (vs ++ [v]) := by
  refine ⟨by rw [List.length_append, List.length_append, H.len]; rfl, ?_, fun i hi => ?_⟩
  · rw [List.nodup_append]
    refine ⟨H.nd, by simp, fun a ha b hb e => ?_⟩
    obtain rfl : b = k := by simpa using hb
    obtain ⟨j, hj, e2⟩ := getD_memV (d := nilV) ha
    exact hn j hj (e2.trans e)
  · rw [h, getD_app, getD_app, ← H.len]
    have hi' : i < ks.length + 1 := by simpa using hi
    by_cases h1 : i < ks.length
    · rw [if_pos h1, if_pos h1, if_neg (hn i h1)]; exact H.at_ i h1
    · obtain rfl : i = ks.length := by omega
      simp
/-! ### The state of TableMap's loop in memory -/
/-- Reserved blocks are written, new ones are reserved. -/
theorem TT.grow {w0 w w' : World} {S S' G : Nat → Prop} {hp : Nat} {A B : OT} {hs : HS} (H : TT w0 S hp A B hs w) (hk : Kp G w w') (hG : ∀ q, G q → S q ∧ w0.heap.size ≤ q) (hS' : ∀ q, S' q → q < w'.heap.size ∧ (S q ∨ w.heap.size ≤ q)) : TT w0 S' hp A B hs w' := by
  obtain ⟨⟨F, D, E, h1, h2, h3, h4, h5, h6, h7, h8, h9⟩, h10, h11⟩ := H
  have hh : ∀ {D : Nat → Prop}, Own w0 S w D → Own w0 S' w' D := fun hD => ⟨fun q hq => ⟨(hD.o q hq).1, fun h => (hS' q h).2.elim (hD.o q hq).2 (fun h => by have := hD.lt q hq; omega)⟩, (hD.grow hk.size).lt⟩
  exact ⟨⟨F, D, E, h1.kp hk (fun q hq hg => (h4.o q hq).2 (hG q hg).1), h2.kp hk (fun q hq hg => (h5.o q hq).2 (hG q hg).1), h3.kp hk (fun q hq hg => (h6.o q hq).2 (hG q hg).1), hh h4, hh h5, hh h6, h7, h8, h9⟩, fun q hq => (hS' q hq).1, h11.trans (hk.toBelow (fun q hq => (hG q hq).2) h11.size)⟩
/-- One table, a case in its block, two rows of values. K: further blocks that are left alone. -/
structure MM (W : World) (xb : Nat) (x : CX) (K : Nat → Prop) (hp a : Nat) (kv vv : Value) (ks vs : List V) (t : Tbl) (hs : HS) (w : World) : Prop where
  ex : ∃ S, TT W S hp (some (a, t)) none hs w ∧ S xb ∧ (∀ q, K q → S q) ∧ (∀ q, kv.ownBlock = some q → S q) ∧ ∀ q, vv.ownBlock = some q → S q
  cb : CB w xb x
  kr : VRow W.heap.size w kv ks
  vr : VRow W.heap.size w vv vs
  kx : ∀ q, kv.ownBlock = some q → q ≠ xb ∧ ¬ K q ∧ vv.ownBlock ≠ some q
  vx : ∀ q, vv.ownBlock = some q → q ≠ xb ∧ ¬ K q
section
variable {W w w' : World} {xb : Nat} {x : CX} {K : Nat → Prop} {hp a : Nat} {kv vv : Value} {ks vs : List V} {t : Tbl} {hs : HS}
theorem MM.bel (H : MM W xb x K hp a kv vv ks vs t hs w) : Below W.heap.size W w := by obtain ⟨S, hT, -⟩ := H.ex; exact hT.bel
theorem MM.Klt (H : MM W xb x K hp a kv vv ks vs t hs w) {q : Nat} (hq : K q) : q < w.heap.size := by obtain ⟨S, hT, -, hK, -⟩ := H.ex; exact hT.res q (hK q hq)
theorem MM.below (H : MM W xb x K hp a kv vv ks vs t hs w) (hb : Below w.heap.size w w') : MM W xb x K hp a kv vv ks vs t hs w' := by
  obtain ⟨S, hT, h1, h2, h3, h4⟩ := H.ex
  exact ⟨⟨S, hT.below hb, h1, h2, h3, h4⟩, H.cb.below hb, H.kr.keep (fun q hq => hb.block q (H.kr.lt q hq).2), H.vr.keep (fun q hq => hb.block q (H.vr.lt q hq).2), H.kx, H.vx⟩
/-- A new block is left alone from now on. -/
theorem MM.hold {K' : Nat → Prop} (H : MM W xb x K hp a kv vv ks vs t hs w) (hb : Below w.heap.size w w') (hK : ∀ q, K' q → q < w'.heap.size ∧ w.heap.size ≤ q) : MM W xb x K' hp a kv vv ks vs t hs w' := by
  obtain ⟨S, hT, h1, h2, h3, h4⟩ := H.ex
  have hT' : TT W (fun q => S q ∨ K' q) hp (some (a, t)) none hs w' := hT.reserve hb (fun q hq => hq.elim (fun h => ⟨Nat.lt_of_lt_of_le (hT.res q h) hb.size, .inl h⟩) (fun h => ⟨(hK q h).1, .inr (hK q h).2⟩))
  refine ⟨⟨_, hT', .inl h1, fun q h => .inr h, fun q h => .inl (h3 q h), fun q h => .inl (h4 q h)⟩, H.cb.below hb, H.kr.keep (fun q hq => hb.block q (H.kr.lt q hq).2), H.vr.keep (fun q hq => hb.block q (H.vr.lt q hq).2), fun q hq => ⟨(H.kx q hq).1, fun h => ?_, (H.kx q hq).2.2⟩, fun q hq => ⟨(H.vx q hq).1, fun h => ?_⟩⟩
  · have := (H.kr.lt q hq).2; have := (hK q h).2; omega
  · have := (H.vr.lt q hq).2; have := (hK q h).2; omega
theorem MM.drop (H : MM W xb x K hp a kv vv ks vs t hs w) : MM W xb x (fun _ => False) hp a kv vv ks vs t hs w := by
  obtain ⟨S, hT, h1, h2, h3, h4⟩ := H.ex
  exact ⟨⟨S, hT, h1, fun q h => h.elim, h3, h4⟩, H.cb, H.kr, H.vr, fun q hq => ⟨(H.kx q hq).1, fun h => h, (H.kx q hq).2.2⟩, fun q hq => ⟨(H.vx q hq).1, fun h => h⟩⟩
/-- The table has turned, nothing else. -/
theorem MM.set (H : MM W xb x K hp a kv vv ks vs t hs w) (hA : OT.fit (some (a, t))) (hsz : hs.sizes.length ≤ 800000) (kk kn : Int) (kst : ByteArray) (vk vn : Int) (vst : ByteArray) (h64 : In64 kn) :
    Calls Tryz.prog 12 #[.pointer (some ⟨a, 0, none⟩), .agg #[.int .i64 kk, .int .i64 kn, .string kst], .agg #[.int .i64 vk, .int .i64 vn, .string vst]] w fun e w' => e = .returned (.int .i64 (t.set hs ⟨kk, kn, kst⟩ ⟨vk, vn, vst⟩).2.2) ∧ MM W xb x K hp a kv vv ks vs (t.set hs ⟨kk, kn, kst⟩ ⟨vk, vn, vst⟩).1 (t.set hs ⟨kk, kn, kst⟩ ⟨vk, vn, vst⟩).2.1 w' ∧ ∀ q, K q → w'.heap[q]? = w.heap[q]? := by
  obtain ⟨S, hT, h1, h2, h3, h4⟩ := H.ex
  refine (Set_t hT hA hsz kk kn kst vk vn vst h64 _ rfl).mono ?_
  rintro e w' ⟨he, hT', hk⟩
  exact ⟨he, ⟨⟨S, hT', h1, h2, h3, h4⟩, H.cb.keep (hk _ h1), H.kr.keep (fun q hq => hk q (h3 q hq)), H.vr.keep (fun q hq => hk q (h4 q hq)), H.kx, H.vx⟩, fun q hq => hk q (h2 q hq)⟩
theorem MM.get (H : MM W xb x K hp a kv vv ks vs t hs w) (hok : t.p.ok) (kk kn : Int) (kst : ByteArray) (v : V) (hv : t.get ⟨kk, kn, kst⟩ = v) :
    Calls Tryz.prog 18 #[.pointer (some ⟨a, 0, none⟩), .agg #[.int .i64 kk, .int .i64 kn, .string kst]] w fun e w' => e = .returned (.agg #[.int .i64 v.k, .int .i64 v.n, .string v.s]) ∧ MM W xb x K hp a kv vv ks vs (t.read ⟨kk, kn, kst⟩) hs w' := by
  obtain ⟨S, hT, g1, g2, g3, g4⟩ := H.ex
  obtain ⟨⟨F, D, E, h1, ⟨s, bb, g, hI, hD⟩, h3, h4, h5, h6, h7, h8, h9⟩, h10, h11⟩ := hT
  refine (tab_Get a s bb g hp t kk kn kst hok v.k v.n v.s hv w hI).mono ?_
  rintro e w' ⟨he, hI', hkp⟩
  obtain ⟨hT', hk⟩ := TT.turn (A' := some (a, t.read ⟨kk, kn, kst⟩)) (D' := PB a s bb g) h3 h4 h5 h6 h8 h9 h10 h11 hkp (fun q hq => .inr (hD q (.inl hq))) ⟨s, bb, g, hI', fun _ h => h⟩ (h1.kp hkp (fun q hq e => h7 q (hD q (.inl e)) hq)) (fun q hq => .inl (hD q hq)) (fun q hq => .inl hq) (fun q hq => h7 q (hD q hq)) (fun q hq => hI'.pt.lt hq)
  exact ⟨he, ⟨⟨S, hT', g1, g2, g3, g4⟩, H.cb.keep (hk _ g1), H.kr.keep (fun q hq => hk q (g3 q hq)), H.vr.keep (fun q hq => hk q (g4 q hq)), H.kx, H.vx⟩⟩
/-- The keys' row has grown. -/
theorem MM.appK {g c n : Nat} {ks' : List V} (H : MM W xb x K hp a kv vv ks vs t hs w) (hr : VRow W.heap.size w' (.slice (some ⟨g, 0, none⟩) n c) ks') (hg : w.grownBy w' kv.ownBlock) (hat : kv.ownBlock = some g ∨ g = w.heap.size) : MM W xb x K hp a (.slice (some ⟨g, 0, none⟩) n c) vv ks' vs t hs w' := by
  obtain ⟨S, hT, h1, h2, h3, h4⟩ := H.ex
  have hgl := (hr.lt g rfl).2
  have hxl := H.cb.lt
  have hK : Kp (fun q => kv.ownBlock = some q) w w' := (Kp.refl _ w).grown hg (fun q e => .inl e)
  have hT' : TT W (fun q => S q ∨ q = g) hp (some (a, t)) none hs w' := hT.grow hK (fun q e => ⟨h3 q e, (H.kr.lt q e).1⟩) (fun q hq => by
    rcases hq with h | rfl
    · exact ⟨Nat.lt_of_lt_of_le (hT.res q h) hg.size, .inl h⟩
    · exact ⟨hgl, hat.elim (fun e => .inl (h3 _ e)) (fun e => .inr (by omega))⟩)
  have hkeep : ∀ q, q < w.heap.size → kv.ownBlock ≠ some q → w'.heap[q]? = w.heap[q]? := fun q hq e => hg.block q hq (fun h => e h.symm)
  refine ⟨⟨_, hT', .inl h1, fun q h => .inl (h2 q h), fun q h => .inr (by simpa [Value.ownBlock] using h.symm), fun q h => .inl (h4 q h)⟩, H.cb.keep (hkeep xb hxl (fun e => (H.kx xb e).1 rfl)), hr, H.vr.keep (fun q hq => hkeep q (H.vr.lt q hq).2 (fun e => (H.kx q e).2.2 hq)), fun q hq => ?_, H.vx⟩
  obtain rfl : g = q := by simpa [Value.ownBlock] using hq
  rcases hat with e | e
  · exact H.kx g e
  · exact ⟨by omega, fun h => by have := hT.res g (h2 g h); omega, fun h => by have := (H.vr.lt g h).2; omega⟩
/-- The values' row has grown. -/
theorem MM.appV {g c n : Nat} {vs' : List V} (H : MM W xb x K hp a kv vv ks vs t hs w) (hr : VRow W.heap.size w' (.slice (some ⟨g, 0, none⟩) n c) vs') (hg : w.grownBy w' vv.ownBlock) (hat : vv.ownBlock = some g ∨ g = w.heap.size) : MM W xb x K hp a kv (.slice (some ⟨g, 0, none⟩) n c) ks vs' t hs w' := by
  obtain ⟨S, hT, h1, h2, h3, h4⟩ := H.ex
  have hgl := (hr.lt g rfl).2
  have hxl := H.cb.lt
  have hK : Kp (fun q => vv.ownBlock = some q) w w' := (Kp.refl _ w).grown hg (fun q e => .inl e)
  have hT' : TT W (fun q => S q ∨ q = g) hp (some (a, t)) none hs w' := hT.grow hK (fun q e => ⟨h4 q e, (H.vr.lt q e).1⟩) (fun q hq => by
    rcases hq with h | rfl
    · exact ⟨Nat.lt_of_lt_of_le (hT.res q h) hg.size, .inl h⟩
    · exact ⟨hgl, hat.elim (fun e => .inl (h4 _ e)) (fun e => .inr (by omega))⟩)
  have hkeep : ∀ q, q < w.heap.size → vv.ownBlock ≠ some q → w'.heap[q]? = w.heap[q]? := fun q hq e => hg.block q hq (fun h => e h.symm)
  refine ⟨⟨_, hT', .inl h1, fun q h => .inl (h2 q h), fun q h => .inl (h3 q h), fun q h => .inr (by simpa [Value.ownBlock] using h.symm)⟩, H.cb.keep (hkeep xb hxl (fun e => (H.vx xb e).1 rfl)), H.kr.keep (fun q hq => hkeep q (H.kr.lt q hq).2 (fun e => (H.kx q hq).2.2 e)), hr, fun q hq => ⟨(H.kx q hq).1, (H.kx q hq).2.1, fun e => ?_⟩, fun q hq => ?_⟩
  · obtain rfl : g = q := by simpa [Value.ownBlock] using e
    rcases hat with e2 | e2
    · exact (H.kx g hq).2.2 e2
    · have := (H.kr.lt g hq).2; omega
  · obtain rfl : g = q := by simpa [Value.ownBlock] using hq
    rcases hat with e | e
    · exact H.vx g e
    · exact ⟨by omega, fun h => by have := hT.res g (h2 g h); omega⟩
/-- A value is set anew. -/
theorem MM.store {g c : Nat} (H : MM W xb x K hp a kv (.slice (some ⟨g, 0, none⟩) vs.length c) ks vs t hs w) (j : Nat) (hj : j < vs.length) (v : V) :
    MM W xb x K hp a kv (.slice (some ⟨g, 0, none⟩) vs.length c) ks (vs.set j v) t hs (((w.setCell ⟨g, j * 3, none⟩ (.int .i64 v.k)).setCell ⟨g, j * 3 + 1, none⟩ (.int .i64 v.n)).setCell ⟨g, j * 3 + 2, none⟩ (.string v.s)) := by
  obtain ⟨S, hT, h1, h2, h3, h4⟩ := H.ex
  have hr := H.vr.set j hj v
  have hK : Kp (fun q => q = g) w (((w.setCell ⟨g, j * 3, none⟩ (.int .i64 v.k)).setCell ⟨g, j * 3 + 1, none⟩ (.int .i64 v.n)).setCell ⟨g, j * 3 + 2, none⟩ (.string v.s)) :=
    (((Kp.refl (fun q => q = g) w).set ⟨g, j * 3, none⟩ (.inl rfl) _).set ⟨g, j * 3 + 1, none⟩ (.inl rfl) _).set ⟨g, j * 3 + 2, none⟩ (.inl rfl) _
  generalize (((w.setCell ⟨g, j * 3, none⟩ (.int .i64 v.k)).setCell ⟨g, j * 3 + 1, none⟩ (.int .i64 v.n)).setCell ⟨g, j * 3 + 2, none⟩ (.string v.s)) = w' at hr hK
  have hkeep : ∀ q, q < w.heap.size → q ≠ g → w'.heap[q]? = w.heap[q]? := fun q hq e => hK.block q hq e
  refine ⟨⟨S, hT.kpS hK (fun q hq => by subst hq; exact ⟨h4 q rfl, (H.vr.lt q rfl).1⟩), h1, h2, h3, h4⟩, H.cb.keep (hkeep xb H.cb.lt (fun e => (H.vx g rfl).1 e.symm)), H.kr.keep (fun q hq => hkeep q (H.kr.lt q hq).2 (fun e => (H.kx q hq).2.2 (by rw [e]; rfl))), hr, H.kx, H.vx⟩
end
end Go.Proofs.YteheolefemlcgaaGreat
