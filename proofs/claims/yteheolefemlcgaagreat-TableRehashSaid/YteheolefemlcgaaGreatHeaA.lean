/- Folded of OpenI, App, MapI, Cens2, Law05d, Twice, Twice2, Heap1, Heap2, Heap3, RefH, Heap4. -/
import Derived.Test.YteheolefemlcgaaGreatCenA
import Derived.ChangeSlices
import Derived.SizedLaws
import Derived.OpenShut
import Derived.WideShapes
import Derived.ProofKit
import Derived.ChangeOld
import Derived.Laws.AppendOwnNone
import Derived.Maps.OwnSet
import Derived.Maps.OwnOps
import Derived.Maps.Range
import Derived.Lib.SlKeysI
import Derived.Maps.AppendAt
import Derived.Deep.AppendLies
import Derived.Deep.RegionLaw
import Derived.OneCell
import Derived.BigQuiet
import Derived.StillTailTactics
/- Slices of numbers that came in: what the reading says. -/
namespace Go.Proofs.YteheolefemlcgaaGreat
open Go.RowKit Go.ChangeShapes Go.WideShapes Go.ChangeAt
set_option linter.unusedVariables false
set_option linter.unusedSimpArgs false

/-- A slice that came in: these numbers, of 64 bits, within the reach. -/
def ISA (W : World) (v : Value) (zs : List Int) : Prop := IS W v zs ∧ (∀ x ∈ zs, In64 x) ∧ zs.length * 8 ≤ 140737488351232
set_option maxRecDepth 100000 in
theorem opens_ints {H : Type} {enc : TypeId × Value → H} {W : World} {base : Nat} {spare : Nat → Bool} {held : Bool} {r : Reach} {b0 : Nat} {v : Value} {d : DataW H} {p : List MemPlace} {ts : List TypeId} {ds : List (DataW H)} {j : Nat}
    (hv : Value.okWide Tryz.prog W r b0 128 v) (h : DataW.Trod enc Tryz.prog W base spare held 128 v d p) (hsz : (DataW.weightsEach Tryz.prog ts ds).all (· ≤ reachBytes) = true) (ht : ts[j]? = some 128) (hd : ds[j]? = some d) : ∃ zs, ISA W v zs := by
  obtain ⟨a, len, cap, rfl⟩ := okWide_slice Tryz.underlying128 hv
  obtain ⟨fuel, hf⟩ := h
  rcases open_ints Tryz.underlying128 Tryz.underlying3 (by kernel_rfl) hf with ⟨hcs, _⟩ | ⟨x, l, c, zs, hcs, _, hl, hm, hz, hx, hcell, hwz⟩
  · simp [Value.cells] at hcs
    obtain ⟨rfl, rfl, rfl⟩ := hcs
    exact ⟨[], ⟨none, 0, rfl, Nat.le_refl _, fun _ => rfl, fun h => absurd h (by simp)⟩, fun x hx => by simp at hx, by simp⟩
  · simp [Value.cells] at hcs
    obtain ⟨rfl, rfl, rfl⟩ := hcs
    have hl2 : len ≤ zs.length := by
      rw [hz]
      split
      · exact hl
      · exact Nat.le_refl _
    have e : (zs.take len).length = len := by rw [List.length_take]; omega
    refine ⟨zs.take len, ⟨some x, cap, by rw [e], by rw [e]; exact hl, fun h => by simp at h, fun _ => ⟨x, rfl, fun j hj => ?_⟩⟩, fun n hn => bounds_i64 (hwz n (List.mem_of_mem_take hn)), ?_⟩
    · rw [e] at hj
      rw [hcell j (by omega), List.getD_eq_getElem?_getD, List.getD_eq_getElem?_getD, List.getElem?_take_of_lt hj]
    · rw [e]
      obtain ⟨hx, _⟩ := Prod.mk.inj hx
      subst hx
      have z := sized_slice hsz ht hd Tryz.underlying128
      rw [show Tryz.prog.bytesOf 3 = 8 by kernel_rfl] at z
      have h1 : (lits (H := H) .i64 (zs.take len)).length + (lits (H := H) .i64 (zs.drop len)).length = zs.length := by
        simp [lits]
        omega
      rw [h1] at z
      exact Nat.le_trans (Nat.mul_le_mul_right _ hl2) z
end Go.Proofs.YteheolefemlcgaaGreat
/- append of a slice of numbers, whatever its address, onto a row of the call's own. -/
namespace Go.Proofs.YteheolefemlcgaaGreat
open Go.RowKit
set_option linter.unusedVariables false
set_option linter.unusedSimpArgs false

theorem at_map {ys : List Int} {j : Nat} {u : Value} (h : (ys.map (Value.int .i64))[j]? = some u) : ∃ hj : j < ys.length, Value.int .i64 (ys.getD j 0) = u := by
  rw [List.getElem?_map] at h
  cases e : ys[j]? with
  | none => rw [e] at h; simp at h
  | some x =>
    obtain ⟨hj, hx⟩ := List.getElem?_eq_some_iff.1 e
    rw [e] at h
    refine ⟨hj, ?_⟩
    rw [List.getD_eq_getElem?_getD, e]
    simpa using h
theorem append_is {w : World} {ops : Array Oper} {rest : List Oper} {o : Oper} {a : Act} {Q : Exit → Act → World → Prop} (hw : Region.wanted o (yielded ops a.tmps) = true) (s x : Operand)
    (ho : o.op = .call { callee := .builtin .append, args := #[s, x], argTypes := #[128, 128] }) (base : Nat) (v : Value) (n : Nat) (xs ys : List Int) (hs : a.eval s = v)
    (hown : w.ownsRow base 3 1 v n (xs.map (Value.int .i64))) (A : Option Addr) (m c : Nat) (hx : a.eval x = .slice A m c) (hm : ys.length = m) (hI : IS w (.slice A m c) ys)
    (hb : (n + m) * 8 ≤ 140737488355328) (hbase : base ≤ w.heap.size)
    (h : ∀ v' w', w'.ownsRow base 3 1 v' (n + m) ((xs ++ ys).map (Value.int .i64)) → Below base w w' → wpList Tryz.prog ops Q rest (a.put o.dst v') w') : wpList Tryz.prog ops Q (o :: rest) a w := by
  obtain ⟨i0, hi, hz0, hz1, hz2⟩ := info_parts Tryz.infoInt
  have hob : ∀ q, v.ownBlock = some q → base ≤ q := fun q hq => (hown.lt q hq).1
  obtain ⟨A', c', e, hc, hn, hz⟩ := hI
  cases e
  show (if Region.wanted o (yielded ops a.tmps) then o.wp Tryz.prog a w (wpList Tryz.prog ops Q rest) Q ∨ (o.asks Tryz.prog a w ∧ LetsOut Q) else wpList Tryz.prog ops Q rest (a.put o.dst undef) w)
  rw [if_pos hw]
  cases A with
  | none =>
    obtain rfl := hn rfl
    have hy : ys = [] := List.eq_nil_of_length_eq_zero (by omega)
    subst hy
    refine .inl ?_
    have hrun := run_append_owned_none (P := Tryz.prog) (w := w) base 128 o.type 3 i0 1 Tryz.underlying128 hi v n _ hown
    have hx0 : a.eval x = .slice none 0 0 := hx
    unfold Oper.wp
    simp [execOp, ho, resolve, invoke, builtin, hs, hx0, hrun, Result.andThen]
    exact h v w (by simpa using hown) (Below.refl _ _)
  | some ad =>
    obtain ⟨h1, h2⟩ : (0 < ys.length → ad.block < w.heap.size) ∧ ∀ j, j < ys.length → w.cell? (ad.add j) = some (.int .i64 (ys.getD j 0)) := by
      have h : ∀ j, j < ys.length → w.cell? (ad.add j) = some (.int .i64 (ys.getD j 0)) := fun j hj => by
        obtain ⟨a, e, h⟩ := hz (by omega)
        cases e
        exact h j hj
      exact ⟨fun h0 => (by
        obtain ⟨b, o, e, hb⟩ := spot_of_cell (h 0 h0)
        have e2 := congrArg Addr.block e
        rw [show (ad.add 0).block = ad.block by unfold Addr.add; rw [if_pos rfl]] at e2
        rw [e2]; exact hb), h⟩
    refine .inl (wp_append_own w s x 128 ho base 3 i0 (.int .i64 0) 1 8 Tryz.underlying128 hi hz0 hz1 hz2 rfl (by decide) v n _ hs hown ad ys.length c (ys.map (Value.int .i64)) hx (by simp) (fun j u hj => ?_) (fun u hu => ?_) (by unfold maxLen; omega) hb hbase fun v' w' a1 a2 _ => ?_)
    · obtain ⟨hj', rfl⟩ := at_map hj
      exact h2 j hj'
    · obtain ⟨x, -, rfl⟩ := List.mem_map.1 hu; rfl
    · exact h v' w' (by rw [List.map_append]; exact a1) ((Below.refl base w).grown a2 hbase hob)
theorem ownsRow_empty (w : World) (e : TypeId) (base : Nat) (hb : base ≤ w.heap.size) : (w.alloc (.cells #[] e)).ownsRow base e 1 (.slice (some ⟨w.heap.size, 0, none⟩) 0 0) 0 (([] : List Int).map (Value.int .i64)) := World.ownsRow_lit w #[] 0 hb (by decide) rfl
theorem RChoose_c (sv : Value) (zs : List Int) (w : World) (hl : zs.length ≤ 17592186044416) (hz : ∀ x ∈ zs, In64 x) (h : IS w sv zs) (a n z : Int) (ha : Cs.chooseA zs = a) (hn : Cs.chooseN zs = n) (hz2 : Cs.chooseE zs = z) :
    Calls Tryz.prog 128 #[sv] w fun e w' => e = .returned (.tuple #[.int .i64 a, .int .i64 n, .int .i64 z]) ∧ w = w' := by
  rw [← ha, ← hn, ← hz2]; exact ref_Choose sv zs w hl hz h
end Go.Proofs.YteheolefemlcgaaGreat
/- Maps whose keys are whole numbers, whatever their elements: what they hold, key by key. -/
namespace Go.Proofs.YteheolefemlcgaaGreat
open Go.RowKit Go.Maps
set_option linter.unusedVariables false
set_option linter.unusedSimpArgs false

/-- An element reads as itself. -/
def tokR (v : Value) : Option (DataW Value × List MemPlace) := some (.held v, [])
theorem int_law : Keyed Tryz.prog 3 := int_keyed Tryz.underlying3
theorem In64.wf {x : Int} (h : In64 x) : (Lit.int .i64 x).wf = true := WalkArith.wf_i64 (by unfold In64 at h; omega)
theorem int_key {x : Int} (h : In64 x) : keyOf Tryz.prog 3 (.int .i64 x) = some (.int .i64 x) := keyOf_int_mk Tryz.underlying3 h.wf
/-- Block b is a map of at most n entries that holds f. -/
def MapIs (w : World) (b n : Nat) (f : Int → Option Value) : Prop :=
  ∃ D : DataW Value, w.ownsMap Tryz.prog 3 tokR b n D ∧ ∀ x, In64 x → Maps.has D (.int .i64 x) = (f x).isSome ∧ ∀ z, D.atKey (.int .i64 x) (.held z) = .held ((f x).getD z)
theorem MapIs.lt {w : World} {b n : Nat} {f : Int → Option Value} (h : MapIs w b n f) : b < w.heap.size := by obtain ⟨D, h, -⟩ := h; exact h.lt
theorem MapIs.of_block {w w' : World} {b n : Nat} {f : Int → Option Value} (h : MapIs w b n f) (hb : w'.heap[b]? = w.heap[b]?) : MapIs w' b n f := by
  obtain ⟨D, ⟨es, clock, h1, h2⟩, h3⟩ := h
  exact ⟨D, ⟨es, clock, hb.trans h1, h2⟩, h3⟩
theorem MapIs.made (w : World) : MapIs (w.alloc (.map #[] 0)) w.heap.size 0 fun _ => none :=
  ⟨_, World.ownsMap_made w _ _ _, fun x hx => ⟨rfl, fun z => rfl⟩⟩
theorem MapIs.congr {w : World} {b n : Nat} {f g : Int → Option Value} (h : MapIs w b n f) (hf : ∀ x, In64 x → f x = g x) : MapIs w b n g := by
  obtain ⟨D, h1, h2⟩ := h
  exact ⟨D, h1, fun x hx => by rw [← hf x hx]; exact h2 x hx⟩
/-- 'm[k]' and 'v, ok := m[k]'. -/
theorem MapIs.look {w : World} {b n : Nat} {f : Int → Option Value} (h : MapIs w b n f) {t e : TypeId} (ht : Tryz.prog.underlying t = some (.map 3 e)) {z : Value} (hz : (zeroValue e).run Tryz.prog w = .ok z w) {x : Int} (hx : In64 x) :
    (Instr.lookup t (.map (some b)) (.int .i64 x) false).run Tryz.prog w = .ok ((f x).getD z) w ∧ (Instr.lookup t (.map (some b)) (.int .i64 x) true).run Tryz.prog w = .ok (.tuple #[(f x).getD z, .bool (f x).isSome]) w := by
  obtain ⟨D, h1, h2⟩ := h
  obtain ⟨e1, e2⟩ := h2 x hx
  obtain ⟨v, ps, hr, hv⟩ := h1.lookup int_law ht hz (zd := .held z) rfl (int_key hx)
  obtain ⟨v', ps', hr', hv'⟩ := h1.look_ok int_law ht hz (zd := .held z) rfl (int_key hx)
  rw [e2 z] at hv hv'
  have hv1 : v = (f x).getD z := by simpa [tokR] using congrArg (fun o => o.map Prod.fst) hv
  have hv2 : v' = (f x).getD z := by simpa [tokR] using congrArg (fun o => o.map Prod.fst) hv'
  rw [hv1] at hr; rw [hv2, e1] at hr'
  exact ⟨hr, hr'⟩
def updI {α : Type} (f : Int → α) (k : Int) (x : α) (i : Int) : α := if i = k then x else f i
theorem updI_same {α : Type} (f : Int → α) (k : Int) (x : α) : updI f k x k = x := if_pos rfl
theorem updI_other {α : Type} (f : Int → α) (k : Int) (x : α) {i : Int} (h : i ≠ k) : updI f k x i = f i := if_neg h
theorem lit_ne {x y : Int} (h : x ≠ y) : Lit.int .i64 x ≠ Lit.int .i64 y := by intro e; exact h (by simpa using e)
theorem mapTurned_grown {w w' : World} {b : Nat} (h : w.mapTurned w' b) : w.grownBy w' (some b) := h.grown
/-- 'm[k] = v'. -/
theorem MapIs.store {w : World} {b n : Nat} {f : Int → Option Value} (h : MapIs w b n f) {t e : TypeId} (ht : Tryz.prog.underlying t = some (.map 3 e)) (hn : n < maxLen) {x : Int} (hx : In64 x) (v : Value) :
    ∃ w', (Instr.mapUpdate t (.map (some b)) (.int .i64 x) v).run Tryz.prog w = .ok () w' ∧ MapIs w' b (n + 1) (updI f x (some v)) ∧ w.grownBy w' (some b) := by
  obtain ⟨D, h1, h2⟩ := h
  obtain ⟨w', hr, ho, hg⟩ := h1.update int_law ht hn (d := .held v) (ps := []) (int_key hx) rfl
  refine ⟨w', hr, ⟨_, ho, fun y hy => ?_⟩, hg⟩
  by_cases e : y = x
  · subst e
    rw [updI_same]
    exact ⟨has_put_same h1.isMap (int_law.key (int_key hx)) _, fun z => atKey_put_same h1.isMap (int_law.key (int_key hx)) _ _⟩
  · rw [updI_other _ _ _ e]
    obtain ⟨e1, e2⟩ := h2 y hy
    exact ⟨by rw [has_put_other (lit_ne e)]; exact e1, fun z => by rw [atKey_put_other (lit_ne e)]; exact e2 z⟩
/-- 'delete(m, k)'. -/
theorem MapIs.drop {w : World} {b n : Nat} {f : Int → Option Value} (h : MapIs w b n f) {t e : TypeId} (ht : Tryz.prog.underlying t = some (.map 3 e)) {x : Int} (hx : In64 x) (ty : TypeId) :
    ∃ w', (Builtin.delete_ #[t, 3] ty #[.map (some b), .int .i64 x]).run Tryz.prog w = .ok (.tuple #[]) w' ∧ MapIs w' b n (updI f x none) ∧ w.grownBy w' (some b) := by
  obtain ⟨D, h1, h2⟩ := h
  obtain ⟨w', hr, ho, hg⟩ := h1.drop int_law ht (int_key hx) ty
  refine ⟨w', hr, ⟨_, ho, fun y hy => ?_⟩, hg.grown⟩
  by_cases e : y = x
  · subst e
    rw [updI_same]
    exact ⟨has_del_same, fun z => atKey_del_same _⟩
  · rw [updI_other _ _ _ e]
    obtain ⟨e1, e2⟩ := h2 y hy
    exact ⟨by rw [has_del_other (lit_ne e)]; exact e1, fun z => by rw [atKey_del_other (lit_ne e)]; exact e2 z⟩
/-! ### How many entries -/
theorem length_le_of_nodup {α : Type} [DecidableEq α] : ∀ (l m : List α), l.Nodup → (∀ x ∈ l, x ∈ m) → l.length ≤ m.length
  | [], m, _, _ => Nat.zero_le _
  | x :: l, m, hd, hs => by
    have h1 := List.nodup_cons.1 hd
    have hm := hs x (by simp)
    have := length_le_of_nodup l (m.erase x) h1.2 (fun y hy => (List.mem_erase_of_ne (by intro e; subst e; exact h1.1 hy)).2 (hs y (by simp [hy])))
    rw [List.length_erase_of_mem hm] at this
    have := List.length_pos_of_mem hm
    simp only [List.length_cons]
    omega
theorem wf_in64 {x : Int} (h : (Lit.int .i64 x).wf = true) : In64 x := by
  unfold In64
  have := bounds_i64 h
  exact this
theorem ownsMap_keys {w : World} {b n : Nat} {D : DataW Value} {R : Value → Option (DataW Value × List MemPlace)} (h : w.ownsMap Tryz.prog 3 R b n D) :
    ∃ ds, D = .map ds ∧ ds.length ≤ n ∧ ds.Pairwise (fun p q => p.1 ≠ q.1) ∧ (∀ p ∈ ds, ∃ x, In64 x ∧ p.1 = .int .i64 x) ∧ w.ownsMap Tryz.prog 3 R b ds.length D := by
  obtain ⟨es, clock, hb, F, hs, rfl⟩ := h
  have hl : ((es.toList.map (WideElems.rg Tryz.prog 3 R)).foldr DataW.insert []).length = es.size := by rw [length_sorted]; simp
  refine ⟨_, rfl, by rw [hl]; exact hs, ((WideShapes.sorted_perm _).pairwise_iff (fun {_ _} hne => Ne.symm hne)).2 (Maps.fit_apart int_law F), fun p hp => ?_, ⟨es, clock, hb, F, by rw [hl]; exact Nat.le_refl _, rfl⟩⟩
  obtain ⟨x, hx, rfl⟩ := List.mem_map.1 ((WideShapes.sorted_perm _).mem_iff.1 hp)
  obtain ⟨y, hy⟩ := F.reads x hx
  rw [WideElems.rg_of hy]
  obtain ⟨z, -, e2, h3⟩ := Maps.keyOf_i64 Tryz.underlying3 (WideElems.rd_key hy)
  exact ⟨z, wf_in64 h3, e2⟩
theorem MapIs.fit {w : World} {b n : Nat} {f : Int → Option Value} (h : MapIs w b n f) (m : List Int) (hm : ∀ x, In64 x → (f x).isSome = true → x ∈ m) : MapIs w b m.length f := by
  obtain ⟨D, h1, h2⟩ := h
  obtain ⟨ds, rfl, -, hp, hk, ho⟩ := ownsMap_keys h1
  refine ⟨_, ho.mono ?_, h2⟩
  have hnd : (Go.intKeys (.map ds)).Nodup := by
    refine List.pairwise_map.2 (hp.imp_of_mem fun {p q} hp' hq' hne e => hne ?_)
    obtain ⟨a, -, ha⟩ := hk p hp'
    obtain ⟨b, -, hb⟩ := hk q hq'
    rw [ha, hb] at e ⊢
    exact congrArg _ e
  have hl : (Go.intKeys (.map ds)).length = ds.length := List.length_map _
  rw [← hl]
  refine length_le_of_nodup _ _ hnd fun x hx => ?_
  obtain ⟨p, hp', e⟩ := List.mem_map.1 hx
  obtain ⟨a, ha64, ha⟩ := hk p hp'
  rw [ha] at e
  obtain rfl : a = x := e
  refine hm a ha64 ?_
  rw [← (h2 a ha64).1, has_eq, List.any_eq_true]
  exact ⟨p, hp', by rw [ha]; simp [Lit.sameKey]⟩
/-- The keys, for 'maps.Keys': a list without repeats that names just the keys that are there. -/
theorem MapIs.keys {w : World} {b n : Nat} {f : Int → Option Value} (h : MapIs w b n f) (ss : List Int) (hd : ss.Nodup) (hs : ∀ x ∈ ss, In64 x) (hm : ∀ x, In64 x → (x ∈ ss ↔ (f x).isSome = true)) :
    ∃ D : DataW Value, w.ownsMap Tryz.prog 3 tokR b n D ∧ Maps.size D = ss.length ∧ ss.Perm (Go.intKeys D) := by
  obtain ⟨D, h1, h2⟩ := h
  obtain ⟨ds, rfl, -, hp, hk, ho⟩ := ownsMap_keys h1
  have hperm : ss.Perm (Go.intKeys (.map ds)) := by
    refine perm_intKeys hp (fun p hp' => by obtain ⟨x, -, e⟩ := hk p hp'; exact ⟨x, e⟩) hd fun x => ?_
    by_cases hx : In64 x
    · rw [hm x hx, (h2 x hx).1]
    · constructor
      · intro h; exact absurd (hs x h) hx
      · intro h
        rw [has_eq, List.any_eq_true] at h
        obtain ⟨p, hp', e⟩ := h
        obtain ⟨y, hy, e2⟩ := hk p hp'
        rw [e2] at e
        have : y = x := by simpa [Lit.sameKey] using e
        subst this
        exact absurd hy hx
  refine ⟨_, h1, ?_, hperm⟩
  have hl : (Go.intKeys (.map ds)).length = ds.length := List.length_map _
  rw [hperm.length_eq, hl]; rfl
end Go.Proofs.YteheolefemlcgaaGreat
/- Layer 5 in plain Lean: what is dense, what a row takes. -/
namespace Go.Proofs.YteheolefemlcgaaGreat.Cs
set_option linter.unusedVariables false
set_option linter.unusedSimpArgs false

/-- How many of the numbers are from 1 to a. -/
def within (l : List Int) (a : Int) : Int := (l.filter fun x => decide (1 ≤ x ∧ x ≤ a)).length
theorem log2_le (x : Int) (h1 : 1 ≤ x) (h2 : x ≤ 65536) (i : Nat) : (Ws.log2 x).toNat < i + 1 ↔ x ≤ 2 ^ i := by
  obtain ⟨k, hk, e, hlt, hle⟩ := Ws.log2_spec x h1 (by omega)
  rw [e]
  constructor
  · intro h
    have h3 : k ≤ i := by omega
    have : (2 : Int) ^ k ≤ 2 ^ i := by exact_mod_cast Nat.pow_le_pow_right (by decide) h3
    omega
  · intro h
    apply Decidable.byContradiction
    intro hn
    have := hlt i (by omega)
    omega
theorem within_slots (i : Nat) (hi : i ≤ 16) : ∀ l : List Int, ((slots l).filter fun s => decide (s < i + 1)).length = (l.filter fun x => decide (1 ≤ x ∧ x ≤ 2 ^ i)).length
  | [] => rfl
  | x :: l => by
    have ih := within_slots i hi l
    have h16 : (2 : Int) ^ i ≤ 2 ^ 16 := by exact_mod_cast Nat.pow_le_pow_right (by decide) hi
    by_cases h : 1 ≤ x ∧ x ≤ 65536
    · have hs : slots (x :: l) = (Ws.log2 x).toNat :: slots l := by simp [slots, h]
      have hx := log2_le x h.1 h.2 i
      rw [hs]
      by_cases h2 : x ≤ 2 ^ i
      · have h3 := hx.2 h2
        simp only [List.filter_cons, decide_eq_true h3, decide_eq_true (show 1 ≤ x ∧ x ≤ 2 ^ i from ⟨h.1, h2⟩), if_true, List.length_cons, ih]
      · have h3 : ¬ ((Ws.log2 x).toNat < i + 1) := fun h => h2 (hx.1 h)
        have h4 : ¬ (1 ≤ x ∧ x ≤ 2 ^ i) := fun h => h2 h.2
        simp only [List.filter_cons, decide_eq_false h3, decide_eq_false h4, Bool.false_eq_true, if_false, ih]
    · have hs : slots (x :: l) = slots l := by simp [slots, h]
      have h4 : ¬ (1 ≤ x ∧ x ≤ 2 ^ i) := fun h' => h ⟨h'.1, by omega⟩
      rw [hs]
      simp only [List.filter_cons, decide_eq_false h4, Bool.false_eq_true, if_false, ih]
/-- The sum of the first counts is how many numbers are from 1 to the power. -/
theorem pre_within (l : List Int) (i : Nat) (hi : i ≤ 16) : pre (countL l) (i + 1) = within l (2 ^ i) := by
  rw [pre_countL l (i + 1) (by omega)]
  unfold within
  rw [within_slots i hi l]
theorem within_zero (l : List Int) : within l 0 = 0 := by
  unfold within
  rw [List.filter_eq_nil_iff.2 (by intro x _; simp; omega)]; rfl
theorem within_le (l : List Int) (a : Int) : 0 ≤ within l a ∧ within l a ≤ l.length := by
  unfold within
  have := List.length_filter_le (fun x : Int => decide (1 ≤ x ∧ x ≤ a)) l
  omega
theorem best_fit (c : List Int) : ∀ k i, best c k = some i → fit c i = true ∧ i < k ∧ ∀ j, i < j → j < k → fit c j = false
  | 0, i, h => by unfold best at h; exact absurd h (by simp)
  | k + 1, i, h => by
    have h' : (if fit c k = true then some k else best c k) = some i := h
    by_cases f : fit c k = true
    · rw [if_pos f] at h'
      obtain rfl : k = i := by simpa using h'
      exact ⟨f, by omega, fun j h1 h2 => by omega⟩
    · rw [if_neg f] at h'
      obtain ⟨a, b, d⟩ := best_fit c k i h'
      refine ⟨a, by omega, fun j h1 h2 => ?_⟩
      by_cases e : j = k
      · subst e; simpa using f
      · exact d j h1 (by omega)
theorem best_no (c : List Int) : ∀ k, best c k = none → ∀ j, j < k → fit c j = false
  | 0, h, j, hj => by omega
  | k + 1, h, j, hj => by
    have h' : (if fit c k = true then some k else best c k) = none := h
    by_cases f : fit c k = true
    · rw [if_pos f] at h'; exact absurd h' (by simp)
    · rw [if_neg f] at h'
      by_cases e : j = k
      · subst e; simpa using f
      · exact best_no c k h' j (by omega)
/-- What Choose says of a count: nothing, or the greatest power of two that is more than half full. -/
theorem choose_dense (l : List Int) (h : l.length ≤ 4294967296) :
    (chooseA (countL l) = 0 ∧ chooseN (countL l) = 0 ∧ ∀ j, j ≤ 16 → 2 * within l (2 ^ j) ≤ 2 ^ j) ∨
    ∃ i, i ≤ 16 ∧ chooseA (countL l) = 2 ^ i ∧ chooseN (countL l) = within l (2 ^ i) ∧ 2 ^ i < 2 * within l (2 ^ i) ∧ ∀ j, i < j → j ≤ 16 → 2 * within l (2 ^ j) ≤ 2 ^ j := by
  have hok := okC_countL l h
  unfold chooseA chooseN
  rw [if_pos hok, if_pos hok]
  cases hb : best (countL l) 17 with
  | none =>
    refine .inl ⟨rfl, rfl, fun j hj => ?_⟩
    have := best_no _ _ hb j (by omega)
    unfold fit at this
    rw [pre_within l j hj] at this
    simpa using this
  | some i =>
    obtain ⟨h1, h2, h3⟩ := best_fit _ _ _ hb
    refine .inr ⟨i, by omega, rfl, pre_within l i (by omega), ?_, fun j h4 h5 => ?_⟩
    · unfold fit at h1
      rw [pre_within l i (by omega)] at h1
      simpa using h1
    · have := h3 j h4 (by omega)
      unfold fit at this
      rw [pre_within l j h5] at this
      simpa using this
theorem chooseN_within (l : List Int) (h : l.length ≤ 4294967296) : chooseN (countL l) = within l (chooseA (countL l)) := by
  rcases choose_dense l h with ⟨a, b, -⟩ | ⟨i, -, a, b, -⟩
  · rw [a, b, within_zero]
  · rw [a, b]
end Go.Proofs.YteheolefemlcgaaGreat.Cs
/- CensusRow: a row and its turned list. -/
namespace Go.Proofs.YteheolefemlcgaaGreat
open Go.RowKit
set_option linter.unusedVariables false
set_option linter.unusedSimpArgs false

namespace Cs
/-- 1 to n; n down to 1. -/
def up (n : Nat) : List Int := (List.range n).map fun i : Nat => (i : Int) + 1
def down (N n : Nat) : List Int := (List.range n).map fun i : Nat => (N : Int) - i
theorem up_succ (n : Nat) : up (n + 1) = up n ++ [(n : Int) + 1] := by simp [up, List.range_succ]
theorem down_succ (N n : Nat) : down N (n + 1) = down N n ++ [(N : Int) - n] := by simp [down, List.range_succ]
theorem up_length (n : Nat) : (up n).length = n := by simp [up]
theorem down_length (N n : Nat) : (down N n).length = n := by simp [down]
theorem up_mem (n : Nat) (x : Int) : x ∈ up n ↔ 1 ≤ x ∧ x ≤ n := by
  unfold up
  simp only [List.mem_map, List.mem_range]
  constructor
  · rintro ⟨i, hi, rfl⟩; omega
  · intro h; exact ⟨(x - 1).toNat, by omega, by omega⟩
theorem down_mem (n : Nat) (x : Int) : x ∈ down n n ↔ 1 ≤ x ∧ x ≤ n := by
  unfold down
  simp only [List.mem_map, List.mem_range]
  constructor
  · rintro ⟨i, hi, rfl⟩; omega
  · intro h; exact ⟨(n - x).toNat, by omega, by omega⟩
theorem up_nodup (n : Nat) : (up n).Nodup := by
  unfold up
  rw [List.nodup_iff_pairwise_ne, List.pairwise_map]
  exact List.nodup_range.imp (by intro a b h; omega)
theorem down_nodup (N n : Nat) : (down N n).Nodup := by
  unfold down
  rw [List.nodup_iff_pairwise_ne, List.pairwise_map]
  exact List.nodup_range.imp (by intro a b h; omega)
theorem down_perm (n : Nat) : (down n n).Perm (up n) := by
  rw [List.perm_iff_count]
  intro x
  have h1 := (up_nodup n).count (a := x)
  have h2 := (down_nodup n n).count (a := x)
  rw [h1, h2]
  have := up_mem n x
  have := down_mem n x
  by_cases h : 1 ≤ x ∧ x ≤ n
  · rw [if_pos ((down_mem n x).2 h), if_pos ((up_mem n x).2 h)]
  · rw [if_neg (fun g => h ((down_mem n x).1 g)), if_neg (fun g => h ((up_mem n x).1 g))]
theorem cnt_perm {a b : List Int} (h : a.Perm b) (i : Nat) : cnt a i = cnt b i := by
  unfold cnt slots
  have := ((h.filter fun n => decide (1 ≤ n ∧ n ≤ 65536)).map fun n => (Ws.log2 n).toNat).filter (· == i)
  rw [this.length_eq]
theorem countL_perm {a b : List Int} (h : a.Perm b) : countL a = countL b := by
  unfold countL
  exact List.map_congr_left fun i _ => cnt_perm h i
theorem within_up (n : Nat) (a : Nat) : within (up n) a = min n a := by
  induction n with
  | zero => simp [within, up]
  | succ n ih =>
    unfold within at ih ⊢
    rw [up_succ, List.filter_append, List.length_append]
    by_cases h : (n : Int) + 1 ≤ a
    · have : 1 ≤ (n : Int) + 1 ∧ (n : Int) + 1 ≤ a := ⟨by omega, h⟩
      simp only [List.filter_cons, decide_eq_true this, if_true, List.filter_nil, List.length_cons, List.length_nil]
      push_cast
      omega
    · have : ¬ (1 ≤ (n : Int) + 1 ∧ (n : Int) + 1 ≤ a) := fun g => h g.2
      simp only [List.filter_cons, decide_eq_false this, Bool.false_eq_true, if_false, List.filter_nil, List.length_nil]
      push_cast
      omega
/-- The array of a row: the least power of two that holds it. -/
theorem choose_row (n : Nat) (h1 : 1 ≤ n) (h2 : n ≤ 3000) : (n : Int) ≤ chooseA (countL (up n)) ∧ chooseA (countL (up n)) < 2 * n ∧ chooseN (countL (up n)) = n := by
  have hl : (up n).length ≤ 4294967296 := by rw [up_length]; omega
  have e : ∀ j : Nat, (2 : Int) ^ j = ((2 ^ j : Nat) : Int) := fun j => by simp
  have hw : ∀ j : Nat, within (up n) (2 ^ j) = min (n : Int) (2 ^ j) := fun j => by rw [e, within_up]; omega
  rcases choose_dense (up n) hl with ⟨-, -, h⟩ | ⟨i, hi, ea, en, hf, hno⟩
  · have := h 0 (by omega)
    rw [hw] at this
    simp at this
    omega
  · rw [hw] at en hf
    have hge : (n : Int) ≤ 2 ^ i := by
      apply Decidable.byContradiction
      intro hn
      by_cases h16 : i = 16
      · subst h16; simp at hn; omega
      · have := hno (i + 1) (by omega) (by omega)
        rw [hw, Int.pow_succ] at this
        omega
    rw [ea, en]
    omega
theorem sizes_perm {a b : List Int} (h : a.Perm b) (o : Int) : sizesA a o = sizesA b o ∧ sizesH a o = sizesH b o ∧ sizesE a o = sizesE b o := by
  have hd : dup a = dup b := by unfold dup; rw [decide_eq_decide.2 h.nodup_iff]
  have hr : rest a o = rest b o := by unfold rest; rw [countL_perm h, h.length_eq]
  have he : sizesE a o = sizesE b o := by unfold sizesE; rw [hd, hr]
  unfold sizesA sizesH
  rw [he, hr, countL_perm h]
  exact ⟨rfl, rfl, rfl⟩
theorem sizes_row (n : Nat) (h2 : n ≤ 3000) (o : Int) (o0 : 0 ≤ o) (o1 : o ≤ 1000) : sizesE (up n) o = 0 ∧ sizesH (up n) o = Ws.ceil2 o ∧ ((n = 0 ∧ sizesA (up n) o = 0) ∨ (1 ≤ n ∧ (n : Int) ≤ sizesA (up n) o ∧ sizesA (up n) o < 2 * n)) := by
  have hd : dup (up n) = false := by unfold dup; rw [decide_eq_true (up_nodup n)]; rfl
  by_cases h0 : n = 0
  · subst h0
    have hr : rest (up 0) o = o := by
      unfold rest
      rw [show chooseN (countL (up 0)) = 0 by decide, up_length]; simp
    obtain ⟨e1, e2, e3⟩ := sizes_ok (l := up 0) (o := o) (by omega) hd (by rw [hr]; omega)
    exact ⟨e1, by rw [e3, hr], .inl ⟨rfl, by rw [e2]; decide⟩⟩
  · obtain ⟨c1, c2, c3⟩ := choose_row n (by omega) h2
    have hr : rest (up n) o = o := by unfold rest; rw [c3, up_length]; omega
    obtain ⟨e1, e2, e3⟩ := sizes_ok (l := up n) (o := o) (by omega) hd (by rw [hr]; omega)
    exact ⟨e1, by rw [e3, hr], .inr ⟨by omega, by rw [e2]; exact c1, by rw [e2]; exact c2⟩⟩
end Cs
theorem umod (n : Int) (m : Int) (h0 : 0 < m) (h1 : m ≤ 3000) : ∃ N : Nat, (N : Int) < m ∧ (IntKind.u64.wrap n).tmod m = N ∧ wrap64 (N : Int) = N ∧ IntKind.u64.wrap (N : Int) = N := by
  have h : 0 ≤ IntKind.u64.wrap n := by rw [IntKind.wrap_u64]; omega
  have h2 : 0 ≤ IntKind.u64.wrap n % m := Int.emod_nonneg _ (by omega)
  have h3 : IntKind.u64.wrap n % m < m := Int.emod_lt_of_pos _ h0
  refine ⟨(IntKind.u64.wrap n % m).toNat, by omega, ?_, ?_, ?_⟩
  · rw [Int.tmod_eq_emod_of_nonneg h]; omega
  · unfold wrap64; omega
  · rw [IntKind.wrap_u64]; omega
theorem ob_swap {a b : Option Nat} (h : a = none ∨ a ≠ b) : b = none ∨ b ≠ a := by
  rcases h with h | h
  · cases b with
    | none => exact .inl rfl
    | some x => exact .inr (by rw [h]; simp)
  · exact .inr (fun h' => h h'.symm)
theorem ob_new {a b c : Option Nat} {k : Nat} (h : c = a ∨ c = some k) (hne : a = none ∨ a ≠ b) (hb : ∀ q, b = some q → q < k) : c = none ∨ c ≠ b := by
  rcases h with h | h
  · rw [h]; exact hne
  · refine .inr (fun h' => ?_)
    have := hb k (h'.symm.trans h)
    omega
end Go.Proofs.YteheolefemlcgaaGreat
/- The reference's question whether a number stands twice: rows by what is left of a division by 251. -/
namespace Go.Proofs.YteheolefemlcgaaGreat
open Go.RowKit
set_option linter.unusedVariables false
set_option linter.unusedSimpArgs false

namespace Cs
/-- The row of a number; the numbers of a row. -/
def bkt (x : Int) : Nat := ((IntKind.u64.wrap x).tmod 251).toNat
def row (l : List Int) (b : Nat) : List Int := l.filter fun x => bkt x == b
theorem bkt_spec (x : Int) : bkt x < 251 ∧ (IntKind.u64.wrap x).tmod 251 = bkt x ∧ wrap64 (bkt x : Int) = bkt x ∧ IntKind.u64.wrap (bkt x : Int) = bkt x := by
  obtain ⟨N, h1, h2, h3, h4⟩ := umod x 251 (by decide) (by decide)
  have e : bkt x = N := by unfold bkt; rw [h2]; rfl
  rw [e]
  exact ⟨by omega, h2, h3, h4⟩
theorem row_append (l : List Int) (x : Int) (b : Nat) : row (l ++ [x]) b = if b = bkt x then row l b ++ [x] else row l b := by
  unfold row
  rw [List.filter_append]
  by_cases h : b = bkt x
  · rw [if_pos h]; simp [h]
  · rw [if_neg h]
    have : (bkt x == b) = false := by simp; omega
    simp [this]
theorem row_le (l : List Int) (b : Nat) : (row l b).length ≤ l.length := List.length_filter_le _ _
theorem row_mem (l : List Int) (x : Int) : x ∈ l ↔ x ∈ row l (bkt x) := by simp [row]
theorem dup_of {l : List Int} {j : Nat} (h : j < l.length) (hm : l.getD j 0 ∈ l.take j) : dup l = true := by
  have hn : ¬ l.Nodup := fun hd => by
    have h1 : (l.take (j + 1)).Nodup := (List.take_sublist _ _).nodup hd
    rw [take_succ_getD l j h, List.nodup_append] at h1
    exact h1.2.2 _ hm _ (by simp) rfl
  unfold dup; rw [decide_eq_false hn]; rfl
theorem dup_no {l : List Int} (h : l.Nodup) : dup l = false := by unfold dup; rw [decide_eq_true h]; rfl
theorem nodup_step {l : List Int} {j : Nat} (h : j < l.length) (hd : (l.take j).Nodup) (hm : l.getD j 0 ∉ l.take j) : (l.take (j + 1)).Nodup := by
  rw [take_succ_getD l j h, List.nodup_append]
  refine ⟨hd, by simp, fun a ha b hb => ?_⟩
  rw [List.mem_singleton.1 hb]
  intro e; subst e; exact hm ha
end Cs
def upd {α : Type} (f : Nat → α) (k : Nat) (x : α) (i : Nat) : α := if i = k then x else f i
theorem upd_same {α : Type} (f : Nat → α) (k : Nat) (x : α) : upd f k x k = x := if_pos rfl
theorem upd_other {α : Type} (f : Nat → α) (k : Nat) (x : α) {i : Nat} (h : i ≠ k) : upd f k x i = f i := if_neg h
/-- The table of rows: its block stands at the end of the elder heap; each row is empty or in a block of its own. -/
structure TB (w0 : World) (rs : Nat → List Int) (vs : Nat → Value) (wr : World) : Prop where
  below : Below w0.heap.size w0 wr
  lt : w0.heap.size < wr.heap.size
  cell : ∀ i, i < 256 → wr.cell? ⟨w0.heap.size, i, none⟩ = some (vs i)
  froz : ∀ i, wr.frozen? ⟨w0.heap.size, i, none⟩ = false
  row : ∀ i, i < 256 → wr.ownsRow (w0.heap.size + 1) 3 1 (vs i) (rs i).length ((rs i).map (Value.int .i64))
  apart : ∀ i j, i < 256 → j < 256 → i ≠ j → (vs i).ownBlock = none ∨ (vs i).ownBlock ≠ (vs j).ownBlock
theorem TB.of_heap {w0 wr wq : World} {rs : Nat → List Int} {vs : Nat → Value} (h : TB w0 rs vs wr) (hh : Below wr.heap.size wr wq) : TB w0 rs vs wq :=
  ⟨h.below.trans (hh.mono (Nat.le_of_lt h.lt)), Nat.lt_of_lt_of_le h.lt hh.size, fun i hi => (hh.cell h.lt).trans (h.cell i hi), fun i => (hh.frozen h.lt).trans (h.froz i), fun i hi => ownsRow_below (h.row i hi) hh, h.apart⟩
theorem TB.drew {w0 wr : World} {rs : Nat → List Int} {vs : Nat → Value} (h : TB w0 rs vs wr) : TB w0 rs vs wr.drew := h.of_heap ((Below.refl _ _).drew)
theorem TB.drewN {w0 wr : World} {rs : Nat → List Int} {vs : Nat → Value} (h : TB w0 rs vs wr) (n : Nat) : TB w0 rs vs (wr.drewN n) := h.of_heap (below_drewN (Below.refl _ _) n)
theorem TB.alloc {w0 wr : World} {rs : Nat → List Int} {vs : Nat → Value} (h : TB w0 rs vs wr) (o : Obj) : TB w0 rs vs (wr.alloc o) := h.of_heap ((Below.refl _ _).alloc (Nat.le_refl _) _)
theorem TB.store {w0 W w' : World} {rs : Nat → List Int} {vs : Nat → Value} (h : TB w0 rs vs W) (k : Nat) (hk : k < 256) (ys : List Int) (v' : Value) (hown : w'.ownsRow (w0.heap.size + 1) 3 1 v' ys.length (ys.map (Value.int .i64)))
    (hg : W.grownBy w' (vs k).ownBlock) (hat : v'.ownBlock = (vs k).ownBlock ∨ v'.ownBlock = some W.heap.size) :
    (w'.cell? ⟨w0.heap.size, k, none⟩ = some (vs k) ∧ w'.frozen? ⟨w0.heap.size, k, none⟩ = false) ∧ TB w0 (upd rs k ys) (upd vs k v') (w'.setCell ⟨w0.heap.size, k, none⟩ v') := by
  have hne : ∀ i, i < 256 → (vs i).ownBlock ≠ some w0.heap.size := fun i hi e => by have := (h.row i hi).lt _ e; omega
  have hv' : v'.ownBlock ≠ some w0.heap.size := fun e => by have := hown.lt _ e; omega
  have hbl : w'.heap[w0.heap.size]? = W.heap[w0.heap.size]? := hg.block _ h.lt (fun e => hne k hk e.symm)
  have hc : ∀ i, i < 256 → w'.cell? ⟨w0.heap.size, i, none⟩ = some (vs i) := fun i hi => (World.cell?_of_block (a := ⟨w0.heap.size, i, none⟩) hbl).trans (h.cell i hi)
  have hf : ∀ i, w'.frozen? ⟨w0.heap.size, i, none⟩ = false := fun i => (World.frozen?_of_block (a := ⟨w0.heap.size, i, none⟩) hbl).trans (h.froz i)
  have hap : ∀ i, i < 256 → i ≠ k → (vs i).ownBlock = none ∨ (vs i).ownBlock ≠ v'.ownBlock := fun i hi e => by
    rcases hat with hat | hat
    · rw [hat]; exact h.apart i k hi hk e
    · right
      rw [hat]
      intro e2
      have := (h.row i hi).lt _ e2
      omega
  refine ⟨⟨hc k hk, hf k⟩, ?_, ?_, ?_, ?_, ?_, ?_⟩
  · exact (h.below.grown hg (Nat.le_of_lt h.lt) (fun q hq => by have := (h.row k hk).lt q hq; omega)).setCell (Nat.le_refl _) _
  · have := hg.size; have := h.lt; rw [sz_set]; omega
  · intro i hi
    by_cases e : i = k
    · subst e; rw [cell_set_self, hc i hi, upd_same]; rfl
    · rw [upd_other _ _ _ e, ← hc i hi]
      exact World.cell?_setCell_other _ _ _ _ (by intro e2; simp at e2; try exact e e2)
  · intro i
    have : (w'.setCell ⟨w0.heap.size, k, none⟩ v').frozen? ⟨w0.heap.size, i, none⟩ = w'.frozen? ⟨w0.heap.size, i, none⟩ := by simp [go_sem]
    rw [this]; exact hf i
  · intro i hi
    by_cases e : i = k
    · subst e; rw [upd_same, upd_same]; exact ownsRow_setCell_other hown hv' _
    · rw [upd_other _ _ _ e, upd_other _ _ _ e]
      exact ownsRow_setCell_other ((h.row i hi).kept hg (h.apart i k hi hk e)) (hne i hi) _
  · intro i j hi hj hij
    by_cases e : i = k
    · subst e
      rw [upd_same, upd_other _ _ _ (fun e => hij e.symm)]
      exact ob_swap (hap j hj (fun e => hij e.symm))
    · rw [upd_other _ _ _ e]
      by_cases e2 : j = k
      · subst e2; rw [upd_same]; exact hap i hi e
      · rw [upd_other _ _ _ e2]; exact h.apart i j hi hj hij
/-- 'h[b] = append(h[b], x)': the append, as one step of a region that draws. -/
theorem step_twice {ops : Array Oper} {o : Oper} {a : Act} {K : Act → World → Prop} {Q : Exit → Act → World → Prop} {E : Prop} {W w0 : World} {rs : Nat → List Int} {vs : Nat → Value} (hgd : o.guard = none) (s x : Operand)
    (ho : o.op = .call { callee := .builtin .append, args := #[s, x], argTypes := #[128, 128] }) (hT : TB w0 rs vs W) (k : Nat) (hk : k < 256) (y : Int) (v : Value) (hv : vs k = v) (hs : a.eval s = v) (ad : Addr) (m c : Nat) (hx : a.eval x = .slice (some ad) m c) (hm : m = 1) (hc : W.cell? (ad.add 0) = some (.int .i64 y))
    (hb : ((rs k).length + 1) * 8 ≤ 140737488355328)
    (h : ∀ (g n' cap : Nat) w', w'.cell? ⟨w0.heap.size, k, none⟩ = some v → w'.frozen? ⟨w0.heap.size, k, none⟩ = false → TB w0 (upd rs k (rs k ++ [y])) (upd vs k (.slice (some ⟨g, 0, none⟩) n' cap)) (w'.setCell ⟨w0.heap.size, k, none⟩ (.slice (some ⟨g, 0, none⟩) n' cap)) → K (a.put o.dst (.slice (some ⟨g, 0, none⟩) n' cap)) w') :
    if Region.wanted o (yielded ops a.tmps) = true then Oper.wp Tryz.prog o a W K Q else E := by
  obtain ⟨i0, hi, hz0, hz1, hz2⟩ := info_parts Tryz.infoInt
  subst hm hv
  refine step_append_lies _ hgd s x 128 ho (w0.heap.size + 1) 3 i0 (.int .i64 0) 1 8 Tryz.underlying128 hi hz0 hz1 hz2 rfl (by decide) (vs k) (rs k).length _ hs (hT.row k hk) ad 1 c [.int .i64 y] hx rfl (fun j u hu => ?_) (fun u hu => ?_) (by decide) (by unfold maxLen; omega) hb (by have := hT.lt; omega) _ rfl (fun g cap w' h1 h2 h3 h4 => ?_)
  · match j, hu with
    | 0, hu => simp at hu; rw [hc, hu]
  · simp at hu; subst hu; rfl
  · have h5 := hT.store k hk (rs k ++ [y]) (.slice (some ⟨g, 0, none⟩) ((rs k).length + 1) cap) (by rw [List.length_append, List.map_append]; exact h1) h2 (by
      rcases h3 with h3 | h3
      · exact .inl h3.symm
      · exact .inr (by rw [← h3]; rfl))
    exact h _ _ _ _ h5.1.1 h5.1.2 h5.2
end Go.Proofs.YteheolefemlcgaaGreat
/- The reference's question whether a number stands twice, walked. -/
namespace Go.Proofs.YteheolefemlcgaaGreat
open Go.RowKit
set_option linter.unusedVariables false
set_option linter.unusedSimpArgs false

theorem Tryz.infoInts : (Tryz.prog.info? 128).map (fun i => (i.zero, i.size, i.bytes)) = some (some (.slice none 0 0), 1, 24) := by kernel_rfl
theorem TB.made {w w1 : World} (hown : w1.ownsRow w.heap.size 128 1 (.slice (some ⟨w.heap.size, 0, none⟩) 256 256) 256 (madeCells (Value.slice none 0 0).cells (256 * 1)).toList) (hg : w.grownBy w1 none) : TB w (fun _ => []) (fun _ => .slice none 0 0) w1 := by
  have e : (madeCells (Value.slice none 0 0).cells (256 * 1)).toList = List.replicate 256 (Value.slice none 0 0) := by kernel_rfl
  rw [e] at hown
  refine ⟨Below.grown (Below.refl _ _) hg (Nat.le_refl _) (fun q hq => by simp at hq), ((hown.lt w.heap.size rfl).2), fun i hi => ?_, fun i => hown.frozenAt i, fun i hi => World.ownsRow_nil _ _ _ _, fun i j _ _ _ => .inl rfl⟩
  rw [hown.cellAt i (by omega), List.getElem?_replicate, if_pos hi]
/-- The value of a row, written out. -/
theorem TB.form {w0 W : World} {rs : Nat → List Int} {vs : Nat → Value} (h : TB w0 rs vs W) (i : Nat) (hi : i < 256) : ∃ A g c, vs i = .slice A (rs i).length c ∧ (0 < (rs i).length → A = some ⟨g, 0, none⟩ ∧ w0.heap.size < g ∧ g < W.heap.size ∧ ∀ k, k < (rs i).length → W.cell? ⟨g, k, none⟩ = some (.int .i64 ((rs i).getD k 0))) := by
  have hr := h.row i hi
  rcases hr.2 with ⟨e, h0⟩ | ⟨g, cap, cur, e, hb, hg, hn, hc, hs, ht⟩
  · exact ⟨none, 0, 0, by rw [e, h0], fun h => by omega⟩
  · refine ⟨some ⟨g, 0, none⟩, g, cap, e, fun h0 => ⟨rfl, hb, (Array.getElem?_eq_some_iff.1 hg).1, fun k hk => ?_⟩⟩
    rw [e] at hr
    rw [hr.cellAt k (by omega)]
    simp [hk]
set_option maxRecDepth 100000 in
set_option maxHeartbeats 3200000 in
theorem ref_twice_s (A : Option Addr) (b o c : Nat) (zs : List Int) (w : World) (hl : zs.length ≤ 17592186044416) (q : Bool) (hq : Cs.dup zs = q)
    (hA : 0 < zs.length → A = some ⟨b, o, none⟩ ∧ b < w.heap.size ∧ ∀ j, j < zs.length → w.cell? ⟨b, o + j, none⟩ = some (.int .i64 (zs.getD j 0))) :
    Calls Tryz.prog 127 #[.slice A zs.length c] w fun e w' => e = .returned (.bool q) ∧ Below w.heap.size w w' := by
  obtain ⟨i0, hi, hz0, hz1, hz2⟩ := info_parts Tryz.infoInts
  have HA := Lib.hid hA
  have HQ := Lib.hid hq
  have hl63 : (zs.length : Int) ≤ 9223372036854775807 := by omega
  clear hA hq
  go_enter Tryz.func127, Tryz.ntmps127
  go_wp2_with (first | (refine wpList_make_full _ rfl _ _ 125 rfl w.heap.size 128 i0 (.slice none 0 0) 1 Tryz.underlying125 hi hz0 hz1 .i64 .i64 256 256 256 rfl rfl rfl rfl (by omega) (by unfold maxLen; omega) (Nat.le_refl _) ?_; intro w1 hown1 hg1))
  have hT1 := TB.made hown1 hg1
  clear hown1 hg1
  go_loopw [4, 5, 6] (fun i _ _ wr => ∃ (j : Nat) (rs : Nat → List Int) (vs : Nat → Value), j ≤ zs.length ∧ i = .int .i64 j ∧ Hid (rs = Cs.row (zs.take j)) ∧ Hid ((zs.take j).Nodup) ∧ TB w rs vs wr) (fun i _ _ _ => zs.length - (intOf i).toNat)
  case atStart => exact ⟨0, _, _, Nat.zero_le _, rfl, Lib.hid (by funext i; simp [Cs.row]), Lib.hid (by simp), hT1⟩
  case round =>
    clear hT1
    obtain ⟨j, rs, vs, hj, rfl, HR, HD, hT⟩ := hrel
    by_cases hjl : j < zs.length
    · obtain ⟨rfl, hbl, hcell⟩ := HA.out (by omega)
      have cx := (hT.below.cell (p := ⟨b, o + j, none⟩) hbl).trans (hcell j hjl)
      obtain ⟨x, hx⟩ : ∃ x, zs.getD j 0 = x := ⟨_, rfl⟩
      rw [hx] at cx
      have HCW : Hid (w.cell? ⟨b, o + j, none⟩ = some (.int .i64 x)) := Lib.hid (by rw [← hx]; exact hcell j hjl)
      clear hcell
      have HX := Lib.hid hx
      clear hx
      obtain ⟨hN, hm, hw1, hw2⟩ := Cs.bkt_spec x
      generalize hNb : Cs.bkt x = N at hN hm hw1 hw2
      have HN := Lib.hid hNb
      clear hNb
      obtain ⟨Ar, g, cr, hv, hrow⟩ := hT.form N (by omega)
      have HROW := Lib.hid hrow
      have hle : (rs N).length ≤ j := by rw [HR.out]; exact Nat.le_trans (Cs.row_le _ _) (by rw [List.length_take]; omega)
      obtain ⟨n, hn⟩ : ∃ n, (rs N).length = n := ⟨_, rfl⟩
      rw [hn] at hv hle
      have HNN := Lib.hid hn
      clear hrow hn
      have cb := hT.cell N (by omega)
      rw [hv] at cb
      have dj : decide ((j : Int) < (zs.length : Int)) = true := by simp; omega
      have N256 : (N : Int) < 256 := by omega
      have hlt := hT.lt
      have HV := Lib.hid hv
      clear hv
      go_wp2
      go_loopw [6] (fun i wr => ∃ k : Nat, k ≤ n ∧ i = .int .i64 k ∧ Hid (∀ t, t < k → (rs N).getD t 0 ≠ x) ∧ TB w rs vs wr) (fun i _ => n - (intOf i).toNat)
      case atStart => exact ⟨0, Nat.zero_le _, rfl, Lib.hid (fun t ht => by omega), hT⟩
      case round =>
        clear cb hlt
        obtain ⟨k, hk, rfl, HK, hT2⟩ := hrel
        have cb := hT2.cell N (by omega)
        rw [HV.out] at cb
        have cx2 := (hT2.below.cell (p := ⟨b, o + j, none⟩) hbl).trans HCW.out
        have hlt := hT2.lt
        clear hT
        by_cases hkn : k < n
        · obtain ⟨A', g', c', hv', hrow'⟩ := hT2.form N (by omega)
          rw [HV.out] at hv'
          obtain ⟨rfl, -, -⟩ : Ar = A' ∧ n = (rs N).length ∧ cr = c' := by simpa using hv'
          obtain ⟨rfl, hg1, hg2, hrc⟩ := hrow' (by rw [HNN.out]; omega)
          have cy := hrc k (by rw [HNN.out]; omega)
          clear hv' hrow' hrc
          obtain ⟨y, hy⟩ : ∃ y, (rs N).getD k 0 = y := ⟨_, rfl⟩
          rw [hy] at cy
          have HY := Lib.hid hy
          clear hy
          have dk : decide ((k : Int) < (n : Int)) = true := by simp; omega
          have kn : (k : Int) < (n : Int) := by omega
          have jz : (j : Int) < (zs.length : Int) := by omega
          by_cases hxy : y = x
          · have dxy : (y == x) = true := by simpa using hxy
            have hd : Cs.dup zs = true := Cs.dup_of hjl (by
              rw [HX.out, ← hxy, ← HY.out]
              have h1 : (rs N).getD k 0 ∈ rs N := getD_mem _ (by rw [HNN.out]; omega)
              have h2 : ∀ z ∈ rs N, z ∈ zs.take j := by rw [HR.out]; intro z hz; exact (List.mem_filter.1 hz).1
              exact h2 _ h1)
            rw [hd] at HQ
            obtain rfl := HQ.out
            clear hxy hd HQ
            go_wp2
            go_quiet (fail)
            go_wp2
            go_ret
            exact ⟨rfl, (hT2.drewN _).below⟩
          · have dxy : (y == x) = false := by simpa using hxy
            have hxy' := Lib.hid hxy
            clear hxy
            go_wp2
            go_quiet (fail)
            go_wp2
            go_roundw
            case rel => exact ⟨k + 1, by omega, by go_num, Lib.hid (fun t ht => by
              by_cases e : t = k
              · subst e; rw [HY.out]; exact hxy'.out
              · exact HK.out t (by omega)), hT2.drewN _⟩
            case measure => simp [intOf]; omega
        · obtain rfl : k = n := by omega
          have dk : decide ((k : Int) < (k : Int)) = false := by simp
          have jz : (j : Int) < (zs.length : Int) := by omega
          have kk : ¬ ((k : Int) < (k : Int)) := by omega
          have hNr : N < 256 := by omega
          have hb8 : ((rs N).length + 1) * 8 ≤ 140737488355328 := by rw [HNN.out]; omega
          have nd : (zs.take (j + 1)).Nodup := Cs.nodup_step hjl HD.out (by
            rw [HX.out, Cs.row_mem, HN.out, ← HR.out]
            intro hm2
            obtain ⟨t, ht, he⟩ := List.getElem_of_mem hm2
            refine HK.out t (by rw [← HNN.out]; exact ht) ?_
            rw [List.getD_eq_getElem?_getD, List.getElem?_eq_getElem ht]; exact he)
          have rr : upd rs N (rs N ++ [x]) = Cs.row (zs.take (j + 1)) := by
            funext i
            rw [take_succ_getD zs j hjl, HX.out, Cs.row_append, HN.out, ← HR.out]
            unfold upd
            by_cases e : i = N
            · subst e; simp
            · rw [if_neg e, if_neg e]
          have ND := Lib.hid nd; have RR := Lib.hid rr
          clear nd rr
          go_wp2
          go_region_law (refine step_twice rfl (.tmp 47) (.tmp 52) rfl ((hT2.alloc _).drew) N hNr x _ HV.out (by simp [Act.eval, Act.put]) ⟨wr.heap.size, 0, none⟩ 1 1 (by simp [Act.eval, Act.put]) rfl (by simp [Addr.add, go_sem]) hb8 ?_; intro g1 n1 c1 w1 cb1 cf1 hT3)
          all_goals go_wp2
          all_goals go_roundw
          all_goals first | exact ⟨j + 1, _, _, by omega, by go_num, RR, ND, hT3⟩ | (simp [intOf]; omega)
    · obtain rfl : j = zs.length := by omega
      have e : Cs.dup zs = false := Cs.dup_no (by have := HD.out; rwa [List.take_length] at this)
      rw [e] at HQ
      obtain rfl := HQ.out
      clear e HQ
      go_wp2
      go_ret
      exact ⟨rfl, hT.below⟩
theorem ref_twice (sv : Value) (zs : List Int) (w : World) (hl : zs.length ≤ 17592186044416) (q : Bool) (hq : Cs.dup zs = q) (h : IS w sv zs) :
    Calls Tryz.prog 127 #[sv] w fun e w' => e = .returned (.bool q) ∧ Below w.heap.size w w' := by
  obtain ⟨A, b, o, c, rfl, hc, hn, hf⟩ := h.form
  exact ref_twice_s A b o c zs w hl q hq hf
end Go.Proofs.YteheolefemlcgaaGreat
/- The program's heap as it lies in memory: a struct, a row of sizes, two maps, a row for each entry of one of them. -/
namespace Go.Proofs.YteheolefemlcgaaGreat
open Go.RowKit Go.Maps
set_option linter.unusedVariables false
set_option linter.unusedSimpArgs false

/-- Of what lay there only blocks of F have turned. -/
structure Kp (F : Nat → Prop) (w w' : World) : Prop where
  os : w'.os = w.os
  tape : w'.tape = w.tape
  output : w'.output = w.output
  size : w.heap.size ≤ w'.heap.size
  block : ∀ k, k < w.heap.size → ¬ F k → w'.heap[k]? = w.heap[k]?
theorem Kp.refl (F : Nat → Prop) (w : World) : Kp F w w := ⟨rfl, rfl, rfl, Nat.le_refl _, fun _ _ _ => rfl⟩
theorem Kp.trans {F G : Nat → Prop} {a b c : World} (h : Kp F a b) (k : Kp G b c) (hG : ∀ q, G q → F q ∨ a.heap.size ≤ q) : Kp F a c :=
  ⟨k.os.trans h.os, k.tape.trans h.tape, k.output.trans h.output, Nat.le_trans h.size k.size, fun q hq hF => (k.block q (Nat.lt_of_lt_of_le hq h.size) (fun g => by rcases hG q g with g | g; exact hF g; omega)).trans (h.block q hq hF)⟩
theorem Kp.grown {F : Nat → Prop} {a b c : World} {row : Option Nat} (h : Kp F a b) (g : b.grownBy c row) (hr : ∀ q, row = some q → F q ∨ a.heap.size ≤ q) : Kp F a c :=
  ⟨g.os.trans h.os, g.tape.trans h.tape, g.output.trans h.output, Nat.le_trans h.size g.size, fun q hq hF => (g.block q (Nat.lt_of_lt_of_le hq h.size) (fun e => by rcases hr q e.symm with g | g; exact hF g; omega)).trans (h.block q hq hF)⟩
theorem Kp.below {F : Nat → Prop} {a b c : World} (h : Kp F a b) (g : Below b.heap.size b c) : Kp F a c :=
  ⟨g.os.trans h.os, g.tape.trans h.tape, g.output.trans h.output, Nat.le_trans h.size g.size, fun q hq hF => (g.block q (Nat.lt_of_lt_of_le hq h.size)).trans (h.block q hq hF)⟩
theorem Kp.set {F : Nat → Prop} {a b : World} (h : Kp F a b) (p : Addr) (hp : F p.block ∨ a.heap.size ≤ p.block) (v : Value) : Kp F a (b.setCell p v) :=
  ⟨h.os, h.tape, h.output, by rw [sz_set]; exact h.size, fun q hq hF => by
    rw [Below.heap_setCell _ _ _ _ (fun e => by subst e; rcases hp with g | g; exact hF g; omega)]; exact h.block q hq hF⟩
theorem Kp.mono {F G : Nat → Prop} {a b : World} (h : Kp F a b) (hG : ∀ q, F q → G q ∨ a.heap.size ≤ q) : Kp G a b :=
  ⟨h.os, h.tape, h.output, h.size, fun q hq hF => h.block q hq (fun g => by rcases hG q g with g | g; exact hF g; omega)⟩
theorem Kp.toBelow {F : Nat → Prop} {a b : World} {B : Nat} (h : Kp F a b) (hF : ∀ q, F q → B ≤ q) (hB : B ≤ a.heap.size) : Below B a b :=
  ⟨h.os, h.tape, h.output, h.size, fun q hq => h.block q (by omega) (fun g => by have := hF q g; omega)⟩
theorem below_kp {F : Nat → Prop} {a b : World} (h : Below a.heap.size a b) : Kp F a b := (Kp.refl F a).below h
/-- A family of rows of numbers, each in a block of its own. -/
structure Fam {ι : Type} (V : ι → Prop) (w : World) (hv : ι → Value) (hl : ι → List Int) : Prop where
  row : ∀ i, V i → w.ownsRow 0 3 1 (hv i) (hl i).length ((hl i).map (Value.int .i64))
  apart : ∀ i j, V i → V j → i ≠ j → (hv i).ownBlock = none ∨ (hv i).ownBlock ≠ (hv j).ownBlock
theorem ownsRow_of_block {w w' : World} {base : Nat} {e : TypeId} {size n : Nat} {v : Value} {xs : List Value} (h : w.ownsRow base e size v n xs) (hb : ∀ q, v.ownBlock = some q → w'.heap[q]? = w.heap[q]?) : w'.ownsRow base e size v n xs := by
  obtain ⟨h1, h2⟩ := h
  refine ⟨h1, ?_⟩
  rcases h2 with h2 | ⟨g, cap, cur, hv, hg, hh, r⟩
  · exact .inl h2
  · exact .inr ⟨g, cap, cur, hv, hg, by rw [hb g (by rw [hv]; rfl)]; exact hh, r⟩
theorem Fam.keep {ι : Type} {V : ι → Prop} {w w' : World} {hv : ι → Value} {hl : ι → List Int} (h : Fam V w hv hl) (hb : ∀ i q, V i → (hv i).ownBlock = some q → w'.heap[q]? = w.heap[q]?) : Fam V w' hv hl :=
  ⟨fun i hi => ownsRow_of_block (h.row i hi) (fun q e => hb i q hi e), h.apart⟩
def updO {ι α : Type} [DecidableEq ι] (f : ι → α) (k : ι) (x : α) (i : ι) : α := if i = k then x else f i
theorem updO_same {ι α : Type} [DecidableEq ι] (f : ι → α) (k : ι) (x : α) : updO f k x k = x := if_pos rfl
theorem updO_other {ι α : Type} [DecidableEq ι] (f : ι → α) (k : ι) (x : α) {i : ι} (h : i ≠ k) : updO f k x i = f i := if_neg h
theorem Fam.set {ι : Type} [DecidableEq ι] {V : ι → Prop} {w w' : World} {hv : ι → Value} {hl : ι → List Int} (h : Fam V w hv hl) (k : ι) (hk : V k) (hg : w.grownBy w' (hv k).ownBlock) (v' : Value) (ys : List Int)
    (ho : w'.ownsRow 0 3 1 v' ys.length (ys.map (Value.int .i64))) (ha : v'.ownBlock = (hv k).ownBlock ∨ ∀ q, v'.ownBlock = some q → w.heap.size ≤ q) : Fam V w' (updO hv k v') (updO hl k ys) := by
  have hap : ∀ i, V i → i ≠ k → (hv i).ownBlock = none ∨ (hv i).ownBlock ≠ v'.ownBlock := fun i hi e => by
    rcases ha with ha | ha
    · rw [ha]; exact h.apart i k hi hk e
    · cases e4 : (hv i).ownBlock with
      | none => exact .inl rfl
      | some q =>
        right
        intro e2
        have h1 := ha q e2.symm
        have := (h.row i hi).lt q e4
        omega
  refine ⟨fun i hi => ?_, fun i j hi hj hij => ?_⟩
  · by_cases e : i = k
    · subst e; rw [updO_same, updO_same]; exact ho
    · rw [updO_other _ _ _ e, updO_other _ _ _ e]
      exact (h.row i hi).kept hg (h.apart i k hi hk e)
  · by_cases e : i = k
    · subst e
      rw [updO_same, updO_other _ _ _ (fun e => hij e.symm)]
      exact ob_swap (hap j hj (fun e => hij e.symm))
    · rw [updO_other _ _ _ e]
      by_cases e2 : j = k
      · subst e2; rw [updO_same]; exact hap i hi e
      · rw [updO_other _ _ _ e2]; exact h.apart i j hi hj hij
end Go.Proofs.YteheolefemlcgaaGreat
/- The program's heap: what each step in memory does to it. -/
namespace Go.Proofs.YteheolefemlcgaaGreat
open Go.RowKit Go.Maps
set_option linter.unusedVariables false
set_option linter.unusedSimpArgs false

/-- A heap in plain terms: sizes by number; who is taken; what lies ready, by size, the last one given back at the end. -/
structure HS where
  lim : Int
  live : Int
  laid : Int
  sizes : List Int
  tk : Int → Option Int
  rd : Int → List Int
def nilSl : Value := .slice none 0 0
def hV (i : Option Int) : Prop := ∀ x, i = some x → In64 x
def hvO (sv : Value) (rv : Int → Option Value) : Option Int → Value
  | none => sv
  | some x => (rv x).getD nilSl
def HS.hl (h : HS) : Option Int → List Int
  | none => h.sizes
  | some x => h.rd x
structure HeapIn (w : World) (p bt br nt nr : Nat) (sv : Value) (rv : Int → Option Value) (h : HS) : Prop where
  c0 : w.cell? ⟨p, 0, none⟩ = some (.int .i64 h.lim)
  c1 : w.cell? ⟨p, 1, none⟩ = some (.int .i64 h.live)
  c2 : w.cell? ⟨p, 2, none⟩ = some (.int .i64 h.laid)
  c3 : w.cell? ⟨p, 3, none⟩ = some sv
  c4 : w.cell? ⟨p, 4, none⟩ = some (.map (some bt))
  c5 : w.cell? ⟨p, 5, none⟩ = some (.map (some br))
  fz : ∀ i, w.frozen? ⟨p, i, none⟩ = false
  mt : MapIs w bt nt fun x => (h.tk x).map (Value.int .i64)
  mr : MapIs w br nr rv
  fam : Fam hV w (hvO sv rv) h.hl
  off : ∀ i, hV i → (hvO sv rv i).ownBlock ≠ some p ∧ (hvO sv rv i).ownBlock ≠ some bt ∧ (hvO sv rv i).ownBlock ≠ some br
  n1 : p ≠ bt
  n2 : p ≠ br
  n3 : bt ≠ br
/-- The blocks that the heap stands on. -/
def own (p bt br : Nat) (sv : Value) (rv : Int → Option Value) (q : Nat) : Prop := q = p ∨ q = bt ∨ q = br ∨ ∃ i, hV i ∧ (hvO sv rv i).ownBlock = some q
section
variable {w w' : World} {p bt br nt nr : Nat} {sv : Value} {rv : Int → Option Value} {h : HS}
theorem HeapIn.pl (H : HeapIn w p bt br nt nr sv rv h) : p < w.heap.size := by obtain ⟨b, o, e, hl⟩ := spot_of_cell H.c0; cases e; exact hl
theorem HeapIn.lt (H : HeapIn w p bt br nt nr sv rv h) (q : Nat) (hq : own p bt br sv rv q) : q < w.heap.size := by
  rcases hq with rfl | rfl | rfl | ⟨i, hi, e⟩
  · exact H.pl
  · exact H.mt.lt
  · exact H.mr.lt
  · exact ((H.fam.row i hi).lt q e).2
/-- Nothing of its blocks has turned. -/
theorem HeapIn.keep (H : HeapIn w p bt br nt nr sv rv h) (hb : ∀ q, own p bt br sv rv q → w'.heap[q]? = w.heap[q]?) : HeapIn w' p bt br nt nr sv rv h := by
  have hp := hb p (.inl rfl)
  have hc : ∀ i, w'.cell? ⟨p, i, none⟩ = w.cell? ⟨p, i, none⟩ := fun i => World.cell?_of_block (a := ⟨p, i, none⟩) hp
  exact ⟨(hc 0).trans H.c0, (hc 1).trans H.c1, (hc 2).trans H.c2, (hc 3).trans H.c3, (hc 4).trans H.c4, (hc 5).trans H.c5, fun i => (World.frozen?_of_block (a := ⟨p, i, none⟩) hp).trans (H.fz i),
    H.mt.of_block (hb bt (.inr (.inl rfl))), H.mr.of_block (hb br (.inr (.inr (.inl rfl)))), H.fam.keep (fun i q hi e => hb q (.inr (.inr (.inr ⟨i, hi, e⟩)))), H.off, H.n1, H.n2, H.n3⟩
theorem HeapIn.kp {F : Nat → Prop} (H : HeapIn w p bt br nt nr sv rv h) (hk : Kp F w w') (hF : ∀ q, own p bt br sv rv q → ¬ F q) : HeapIn w' p bt br nt nr sv rv h := H.keep fun q hq => hk.block q (H.lt q hq) (hF q hq)
theorem HeapIn.below (H : HeapIn w p bt br nt nr sv rv h) (hb : Below w.heap.size w w') : HeapIn w' p bt br nt nr sv rv h := H.keep fun q hq => hb.block q (H.lt q hq)
theorem HeapIn.drew (H : HeapIn w p bt br nt nr sv rv h) : HeapIn w.drew p bt br nt nr sv rv h := H.below (Below.refl _ _).drew
theorem cell_other (w : World) (p i j : Nat) (v : Value) (h : j ≠ i) : (w.setCell ⟨p, i, none⟩ v).cell? ⟨p, j, none⟩ = w.cell? ⟨p, j, none⟩ := World.cell?_setCell_other _ _ _ _ (by intro e; simp at e; try exact h e)
theorem frozen_set (w : World) (a b : Addr) (v : Value) : (w.setCell a v).frozen? b = w.frozen? b := World.frozen?_setCell _ _ _ _
/-- A store into the struct: what does not lie in the struct is as it was. -/
theorem HeapIn.stored (H : HeapIn w p bt br nt nr sv rv h) (i : Nat) (v : Value) : (∀ q, own p bt br sv rv q → q ≠ p → (w.setCell ⟨p, i, none⟩ v).heap[q]? = w.heap[q]?) := fun q hq e => Below.heap_setCell _ _ _ _ e
theorem HeapIn.live (H : HeapIn w p bt br nt nr sv rv h) (x : Int) : HeapIn (w.setCell ⟨p, 1, none⟩ (.int .i64 x)) p bt br nt nr sv rv { h with live := x } := by
  have hs := H.stored 1 (.int .i64 x)
  refine ⟨?_, ?_, ?_, ?_, ?_, ?_, fun i => (frozen_set _ _ _ _).trans (H.fz i), H.mt.of_block (hs bt (.inr (.inl rfl)) H.n1.symm), H.mr.of_block (hs br (.inr (.inr (.inl rfl))) H.n2.symm), ?_, H.off, H.n1, H.n2, H.n3⟩
  · rw [cell_other _ _ _ _ _ (by decide)]; exact H.c0
  · rw [cell_set_self, H.c1]; rfl
  · rw [cell_other _ _ _ _ _ (by decide)]; exact H.c2
  · rw [cell_other _ _ _ _ _ (by decide)]; exact H.c3
  · rw [cell_other _ _ _ _ _ (by decide)]; exact H.c4
  · rw [cell_other _ _ _ _ _ (by decide)]; exact H.c5
  · exact (H.fam.keep (fun i q hi e => hs q (.inr (.inr (.inr ⟨i, hi, e⟩))) (fun e2 => by subst e2; exact (H.off i hi).1 e)) : Fam hV _ (hvO sv rv) h.hl)
theorem HeapIn.laid (H : HeapIn w p bt br nt nr sv rv h) (x : Int) : HeapIn (w.setCell ⟨p, 2, none⟩ (.int .i64 x)) p bt br nt nr sv rv { h with laid := x } := by
  have hs := H.stored 2 (.int .i64 x)
  refine ⟨?_, ?_, ?_, ?_, ?_, ?_, fun i => (frozen_set _ _ _ _).trans (H.fz i), H.mt.of_block (hs bt (.inr (.inl rfl)) H.n1.symm), H.mr.of_block (hs br (.inr (.inr (.inl rfl))) H.n2.symm), ?_, H.off, H.n1, H.n2, H.n3⟩
  · rw [cell_other _ _ _ _ _ (by decide)]; exact H.c0
  · rw [cell_other _ _ _ _ _ (by decide)]; exact H.c1
  · rw [cell_set_self, H.c2]; rfl
  · rw [cell_other _ _ _ _ _ (by decide)]; exact H.c3
  · rw [cell_other _ _ _ _ _ (by decide)]; exact H.c4
  · rw [cell_other _ _ _ _ _ (by decide)]; exact H.c5
  · exact (H.fam.keep (fun i q hi e => hs q (.inr (.inr (.inr ⟨i, hi, e⟩))) (fun e2 => by subst e2; exact (H.off i hi).1 e)) : Fam hV _ (hvO sv rv) h.hl)
theorem hvO_none (sv v' : Value) (rv : Int → Option Value) : hvO v' rv = updO (hvO sv rv) none v' := by
  funext i
  cases i with
  | none => rw [updO_same]; rfl
  | some x => rw [updO_other _ _ _ (by simp)]; rfl
theorem hvO_some (sv v' : Value) (rv : Int → Option Value) (n : Int) : hvO sv (updI rv n (some v')) = updO (hvO sv rv) (some n) v' := by
  funext i
  cases i with
  | none => rw [updO_other _ _ _ (by simp)]; rfl
  | some x =>
    by_cases e : x = n
    · subst e; rw [updO_same]; show ((updI rv x (some v')) x).getD nilSl = v'; rw [updI_same]; rfl
    · rw [updO_other _ _ _ (by simpa using e)]; show ((updI rv n (some v')) x).getD nilSl = (rv x).getD nilSl; rw [updI_other _ _ _ e]
theorem hl_none (h : HS) (ys : List Int) : HS.hl { h with sizes := ys } = updO h.hl none ys := by
  funext i
  cases i with
  | none => rw [updO_same]; rfl
  | some x => rw [updO_other _ _ _ (by simp)]; rfl
theorem hl_some (h : HS) (n : Int) (ys : List Int) : HS.hl { h with rd := updI h.rd n ys } = updO h.hl (some n) ys := by
  funext i
  cases i with
  | none => rw [updO_other _ _ _ (by simp)]; rfl
  | some x =>
    by_cases e : x = n
    · subst e; rw [updO_same]; show (updI h.rd x ys) x = ys; rw [updI_same]
    · rw [updO_other _ _ _ (by simpa using e)]; show (updI h.rd n ys) x = h.rd x; rw [updI_other _ _ _ e]
theorem hV_none : hV none := fun x e => by simp at e
theorem hV_some {x : Int} (h : In64 x) : hV (some x) := fun y e => by simp at e; subst e; exact h
/-- 'h.sizes = append(h.sizes, n)': the append, then the store. -/
theorem HeapIn.sized {w1 : World} (H : HeapIn w p bt br nt nr sv rv h) (hg : w.grownBy w1 sv.ownBlock) (v' : Value) (ys : List Int) (ho : w1.ownsRow 0 3 1 v' ys.length (ys.map (Value.int .i64))) (ha : v'.ownBlock = sv.ownBlock ∨ v'.ownBlock = some w.heap.size) :
    (w1.cell? ⟨p, 3, none⟩ = some sv ∧ w1.frozen? ⟨p, 3, none⟩ = false) ∧ HeapIn (w1.setCell ⟨p, 3, none⟩ v') p bt br nt nr v' rv { h with sizes := ys } := by
  have ho0 := H.off none hV_none
  have hlt := H.lt
  have hb : ∀ q, q < w.heap.size → some q ≠ sv.ownBlock → w1.heap[q]? = w.heap[q]? := fun q h1 h2 => hg.block q h1 h2
  have hp := hb p H.pl (fun e => ho0.1 e.symm)
  have hc : ∀ i, w1.cell? ⟨p, i, none⟩ = w.cell? ⟨p, i, none⟩ := fun i => World.cell?_of_block (a := ⟨p, i, none⟩) hp
  have hf : ∀ i, w1.frozen? ⟨p, i, none⟩ = false := fun i => (World.frozen?_of_block (a := ⟨p, i, none⟩) hp).trans (H.fz i)
  have hvp : ∀ q, own p bt br sv rv q → v'.ownBlock = some q → sv.ownBlock = some q := fun q hq e => by
    rcases ha with ha | ha
    · rw [← ha]; exact e
    · rw [ha] at e
      have := hlt q hq
      simp at e; omega
  have hF : Fam hV w1 (hvO v' rv) (HS.hl { h with sizes := ys }) := by
    rw [hvO_none sv, hl_none]
    exact H.fam.set none hV_none hg v' ys ho (ha.imp id (fun e q e2 => by rw [e] at e2; simp at e2; omega))
  have hoff : ∀ i, hV i → (hvO v' rv i).ownBlock ≠ some p ∧ (hvO v' rv i).ownBlock ≠ some bt ∧ (hvO v' rv i).ownBlock ≠ some br := fun i hi => by
    cases i with
    | some x => exact H.off (some x) hi
    | none => exact ⟨fun e => ho0.1 (hvp p (.inl rfl) e), fun e => ho0.2.1 (hvp bt (.inr (.inl rfl)) e), fun e => ho0.2.2 (hvp br (.inr (.inr (.inl rfl))) e)⟩
  refine ⟨⟨(hc 3).trans H.c3, hf 3⟩, ?_, ?_, ?_, ?_, ?_, ?_, fun i => (frozen_set _ _ _ _).trans (hf i), ?_, ?_, ?_, hoff, H.n1, H.n2, H.n3⟩
  · rw [cell_other _ _ _ _ _ (by decide), hc]; exact H.c0
  · rw [cell_other _ _ _ _ _ (by decide), hc]; exact H.c1
  · rw [cell_other _ _ _ _ _ (by decide), hc]; exact H.c2
  · rw [cell_set_self, hc, H.c3]; rfl
  · rw [cell_other _ _ _ _ _ (by decide), hc]; exact H.c4
  · rw [cell_other _ _ _ _ _ (by decide), hc]; exact H.c5
  · exact (H.mt.of_block (hb bt H.mt.lt (fun e => ho0.2.1 e.symm))).of_block (Below.heap_setCell _ _ _ _ H.n1.symm)
  · exact (H.mr.of_block (hb br H.mr.lt (fun e => ho0.2.2 e.symm))).of_block (Below.heap_setCell _ _ _ _ H.n2.symm)
  · exact hF.keep fun i q hi e => Below.heap_setCell _ _ _ _ (fun e2 => by subst e2; exact (hoff i hi).1 e)
/-- A store into, or a delete out of, the map of what is taken. -/
theorem HeapIn.taken (H : HeapIn w p bt br nt nr sv rv h) {n' : Nat} {tk' : Int → Option Int} (hm : MapIs w' bt n' fun x => (tk' x).map (Value.int .i64)) (hg : w.grownBy w' (some bt)) : HeapIn w' p bt br n' nr sv rv { h with tk := tk' } := by
  have hb : ∀ q, own p bt br sv rv q → q ≠ bt → w'.heap[q]? = w.heap[q]? := fun q hq e => hg.block q (H.lt q hq) (by simpa using e)
  have hp := hb p (.inl rfl) H.n1
  have hc : ∀ i, w'.cell? ⟨p, i, none⟩ = w.cell? ⟨p, i, none⟩ := fun i => World.cell?_of_block (a := ⟨p, i, none⟩) hp
  exact ⟨(hc 0).trans H.c0, (hc 1).trans H.c1, (hc 2).trans H.c2, (hc 3).trans H.c3, (hc 4).trans H.c4, (hc 5).trans H.c5, fun i => (World.frozen?_of_block (a := ⟨p, i, none⟩) hp).trans (H.fz i),
    hm, H.mr.of_block (hb br (.inr (.inr (.inl rfl))) H.n3.symm), (H.fam.keep (fun i q hi e => hb q (.inr (.inr (.inr ⟨i, hi, e⟩))) (fun e2 => by subst e2; exact (H.off i hi).2.1 e)) : Fam hV _ (hvO sv rv) h.hl), H.off, H.n1, H.n2, H.n3⟩
/-- 'h.ready[n] = ..': the row has become v' (nothing, an append), then the map's entry. -/
theorem HeapIn.ready {w1 : World} (H : HeapIn w p bt br nt nr sv rv h) (n : Int) (hn : In64 n) (hg1 : w.grownBy w1 (hvO sv rv (some n)).ownBlock) (v' : Value) (ys : List Int) (ho : w1.ownsRow 0 3 1 v' ys.length (ys.map (Value.int .i64)))
    (ha : v'.ownBlock = (hvO sv rv (some n)).ownBlock ∨ v'.ownBlock = some w.heap.size) {n' : Nat} (hm : MapIs w' br n' (updI rv n (some v'))) (hg : w1.grownBy w' (some br)) : HeapIn w' p bt br nt n' sv (updI rv n (some v')) { h with rd := updI h.rd n ys } := by
  have hVn := hV_some hn
  have ho0 := H.off _ hVn
  have hlt := H.lt
  have hb : ∀ q, q < w.heap.size → some q ≠ (hvO sv rv (some n)).ownBlock → q ≠ br → w'.heap[q]? = w.heap[q]? := fun q h1 h2 h3 => (hg.block q (Nat.lt_of_lt_of_le h1 hg1.size) (by simpa using h3)).trans (hg1.block q h1 h2)
  have hp := hb p H.pl (fun e => ho0.1 e.symm) H.n2
  have hc : ∀ i, w'.cell? ⟨p, i, none⟩ = w.cell? ⟨p, i, none⟩ := fun i => World.cell?_of_block (a := ⟨p, i, none⟩) hp
  have hvp : ∀ q, own p bt br sv rv q → v'.ownBlock = some q → (hvO sv rv (some n)).ownBlock = some q := fun q hq e => by
    rcases ha with ha | ha
    · rw [← ha]; exact e
    · rw [ha] at e
      have := hlt q hq
      simp at e; omega
  have hF : Fam hV w1 (hvO sv (updI rv n (some v'))) (HS.hl { h with rd := updI h.rd n ys }) := by
    rw [hvO_some, hl_some]
    exact H.fam.set (some n) hVn hg1 v' ys ho (ha.imp id (fun e q e2 => by rw [e] at e2; simp at e2; omega))
  have hoff : ∀ i, hV i → (hvO sv (updI rv n (some v')) i).ownBlock ≠ some p ∧ (hvO sv (updI rv n (some v')) i).ownBlock ≠ some bt ∧ (hvO sv (updI rv n (some v')) i).ownBlock ≠ some br := fun i hi => by
    rw [hvO_some]
    by_cases e : i = some n
    · subst e
      rw [updO_same]
      exact ⟨fun e => ho0.1 (hvp p (.inl rfl) e), fun e => ho0.2.1 (hvp bt (.inr (.inl rfl)) e), fun e => ho0.2.2 (hvp br (.inr (.inr (.inl rfl))) e)⟩
    · rw [updO_other _ _ _ e]; exact H.off i hi
  exact ⟨(hc 0).trans H.c0, (hc 1).trans H.c1, (hc 2).trans H.c2, (hc 3).trans H.c3, (hc 4).trans H.c4, (hc 5).trans H.c5, fun i => (World.frozen?_of_block (a := ⟨p, i, none⟩) hp).trans (H.fz i),
    H.mt.of_block (hb bt H.mt.lt (fun e => ho0.2.1 e.symm) H.n3), hm, hF.keep (fun i q hi e => hg.block q ((hF.row i hi).lt q e).2 (fun e2 => (hoff i hi).2.2 (by rw [e, e2]))), hoff, H.n1, H.n2, H.n3⟩
end
/-- A row without its last one. -/
theorem ownsRow_pop {w : World} {base : Nat} {A : Option Addr} {n c : Nat} {xs : List Int} (h : w.ownsRow base 3 1 (.slice A (n + 1) c) (n + 1) (xs.map (Value.int .i64))) : w.ownsRow base 3 1 (.slice A n c) n ((xs.take n).map (Value.int .i64)) := by
  have hl : xs.length = n + 1 := by have := h.1; simpa using this
  refine ⟨by simp [hl], ?_⟩
  rcases h.2 with ⟨e, h0⟩ | ⟨g, cap, cur, e, hb, hh, hn, hc, hs, ht⟩
  · omega
  · simp only [Value.slice.injEq, true_and] at e
    obtain ⟨rfl, rfl⟩ := e
    refine .inr ⟨g, c, cur, rfl, hb, hh, by omega, hc, hs, ?_⟩
    rw [List.map_take, ← ht, List.take_take]
    congr 1
    omega
/-! ### Maps at the operation -/
section
variable {w : World} {ops : Array Oper} {rest : List Oper} {o : Oper} {a : Act} {Q : Exit → Act → World → Prop}
theorem wpList_store_is (hg : o.guard = none) (m x v : Operand) (t : TypeId) (hop : o.op = Op.mapUpdate t m x v) {e : TypeId} (ht : Tryz.prog.underlying t = some (.map 3 e)) {b n : Nat} {f : Int → Option Value} (hm : a.eval m = .map (some b)) (h : MapIs w b n f) (hn : n < maxLen)
    (key : Int) (hk : In64 key) (val : Value) (hx : a.eval x = .int .i64 key) (hv : a.eval v = val) (hK : ∀ w', MapIs w' b (n + 1) (updI f key (some val)) → w.grownBy w' (some b) → wpList Tryz.prog ops Q rest (a.put o.dst undef) w') : wpList Tryz.prog ops Q (o :: rest) a w := by
  refine wpList_plain hg fun K' hK' => ?_
  obtain ⟨w', hrun, r1, r2⟩ := h.store ht hn hk val
  unfold Oper.wp
  simp [execOp, hop, hm, hx, hv, hrun, Result.andThen]
  exact hK' _ _ (hK w' r1 r2)
theorem wpList_drop_is (hg : o.guard = none) (m x : Operand) (t : TypeId) (hop : o.op = Op.call { callee := Callee.builtin Builtin.delete, args := #[m, x], argTypes := #[t, 3] }) {e : TypeId} (ht : Tryz.prog.underlying t = some (.map 3 e)) {b n : Nat} {f : Int → Option Value} (hm : a.eval m = .map (some b)) (h : MapIs w b n f)
    (key : Int) (hk : In64 key) (hx : a.eval x = .int .i64 key) (hK : ∀ w', MapIs w' b n (updI f key none) → w.grownBy w' (some b) → wpList Tryz.prog ops Q rest (a.put o.dst (.tuple #[])) w') : wpList Tryz.prog ops Q (o :: rest) a w := by
  refine wpList_plain hg fun K' hK' => ?_
  obtain ⟨w', hrun, r1, r2⟩ := h.drop ht hk o.type
  unfold Oper.wp
  simp [execOp, hop, resolve, invoke, builtin, hm, hx, hrun, Result.andThen]
  exact hK' _ _ (hK w' r1 r2)
theorem wpList_look_is (hg : o.guard = none) (m x : Operand) (t : TypeId) (hop : o.op = Op.lookup t m x false) {e : TypeId} (ht : Tryz.prog.underlying t = some (.map 3 e)) {z : Value} (hz : (zeroValue e).run Tryz.prog w = .ok z w) {b n : Nat} {f : Int → Option Value} (hm : a.eval m = .map (some b)) (h : MapIs w b n f)
    (key : Int) (hk : In64 key) (hx : a.eval x = .int .i64 key) (v : Value) (hv : (f key).getD z = v) (hK : wpList Tryz.prog ops Q rest (a.put o.dst v) w) : wpList Tryz.prog ops Q (o :: rest) a w := by
  refine wpList_plain hg fun K' hK' => ?_
  have hrun := (h.look ht hz hk).1
  rw [hv] at hrun
  unfold Oper.wp
  simp [execOp, hop, hm, hx, hrun, Result.andThen]
  exact hK' _ _ hK
theorem wpList_look2_is (hg : o.guard = none) (m x : Operand) (t : TypeId) (hop : o.op = Op.lookup t m x true) {e : TypeId} (ht : Tryz.prog.underlying t = some (.map 3 e)) {z : Value} (hz : (zeroValue e).run Tryz.prog w = .ok z w) {b n : Nat} {f : Int → Option Value} (hm : a.eval m = .map (some b)) (h : MapIs w b n f)
    (key : Int) (hk : In64 key) (hx : a.eval x = .int .i64 key) (v : Value) (ok : Bool) (hv : (f key).getD z = v) (hok : (f key).isSome = ok) (hK : wpList Tryz.prog ops Q rest (a.put o.dst (.tuple #[v, .bool ok])) w) : wpList Tryz.prog ops Q (o :: rest) a w := by
  refine wpList_plain hg fun K' hK' => ?_
  have hrun := (h.look ht hz hk).2
  rw [hv, hok] at hrun
  unfold Oper.wp
  simp [execOp, hop, hm, hx, hrun, Result.andThen]
  exact hK' _ _ hK
end
theorem zero_int (w : World) : (zeroValue 3).run Tryz.prog w = .ok (.int .i64 0) w := by kernel_rfl
theorem zero_ints (w : World) : (zeroValue 128).run Tryz.prog w = .ok nilSl w := by kernel_rfl
end Go.Proofs.YteheolefemlcgaaGreat
/- The program's heap: New, room, Take, Give, Spend, Live, Laid. -/
namespace Go.Proofs.YteheolefemlcgaaGreat
open Go.RowKit Go.Maps
set_option linter.unusedVariables false
set_option linter.unusedSimpArgs false

namespace HS
def roomE (h : HS) (n : Int) : Int := if n < 0 then 1 else if h.lim - h.live < n then 10 else 0
def takeId (h : HS) (n : Int) : Int := if roomE h n ≠ 0 ∨ n = 0 then 0 else match (h.rd n).getLast? with | some id => id | none => (h.sizes.length : Int) + 1
def takeOld (h : HS) (n id : Int) : HS := { h with rd := updI h.rd n (h.rd n).dropLast, tk := updI h.tk id (some n), live := h.live + n }
def takeNew (h : HS) (n : Int) : HS := { h with sizes := h.sizes ++ [n], laid := h.laid + n, tk := updI h.tk ((h.sizes.length : Int) + 1) (some n), live := h.live + n }
def take (h : HS) (n : Int) : HS := if roomE h n ≠ 0 ∨ n = 0 then h else match (h.rd n).getLast? with | some id => h.takeOld n id | none => h.takeNew n
def giveE (h : HS) (id : Int) : Int := if id = 0 then 0 else if (h.tk id).isSome then 0 else 1
def giveBack (h : HS) (id n : Int) : HS := { h with tk := updI h.tk id none, rd := updI h.rd n (h.rd n ++ [id]), live := h.live - n }
def give (h : HS) (id : Int) : HS := if id = 0 then h else match h.tk id with | some n => h.giveBack id n | none => h
def spend (h : HS) (n : Int) : HS := if roomE h n = 0 then { h with live := h.live + n } else h
def new (lim : Int) : HS := ⟨lim, 0, 0, [], fun _ => none, fun _ => []⟩
/-- The cells of what is taken. -/
def tsum (tk : Int → Option Int) (k : Nat) : Int := ((List.range k).map fun i : Nat => (tk ((i : Int) + 1)).getD 0).sum
structure ok (h : HS) : Prop where
  l1 : h.live ≤ h.lim
  l2 : h.lim ≤ 400000
  sz : ∀ s ∈ h.sizes, 1 ≤ s ∧ s ≤ 400000
  ld : h.laid = h.sizes.sum
  tk : ∀ id n, h.tk id = some n → 1 ≤ id ∧ id ≤ h.sizes.length ∧ h.sizes.getD (id - 1).toNat 0 = n
  rd : ∀ n id, id ∈ h.rd n → 1 ≤ id ∧ id ≤ h.sizes.length ∧ h.sizes.getD (id - 1).toNat 0 = n ∧ h.tk id = none
  nd : ∀ n, (h.rd n).Nodup
  ts : tsum h.tk h.sizes.length ≤ h.live
theorem tsum_succ (tk : Int → Option Int) (k : Nat) : tsum tk (k + 1) = tsum tk k + (tk ((k : Int) + 1)).getD 0 := by unfold tsum; simp [List.range_succ]
theorem tsum_out (tk : Int → Option Int) (id : Int) (x : Option Int) : ∀ k : Nat, (k : Int) < id → tsum (updI tk id x) k = tsum tk k
  | 0, _ => rfl
  | k + 1, h => by
    rw [tsum_succ, tsum_succ, tsum_out tk id x k (by omega), updI_other _ _ _ (by omega)]
theorem tsum_upd (tk : Int → Option Int) (id : Int) (x : Option Int) (h1 : 1 ≤ id) : ∀ k : Nat, id ≤ k → tsum (updI tk id x) k = tsum tk k - (tk id).getD 0 + x.getD 0
  | 0, h => by omega
  | k + 1, h => by
    rw [tsum_succ, tsum_succ]
    by_cases e : id = (k : Int) + 1
    · subst e
      rw [tsum_out tk _ x k (by omega), updI_same]
      omega
    · rw [tsum_upd tk id x h1 k (by omega), updI_other _ _ _ (fun h => e h.symm)]
      omega
theorem tsum_nonneg (tk : Int → Option Int) (h : ∀ id n, tk id = some n → 0 ≤ n) : ∀ k, 0 ≤ tsum tk k
  | 0 => Int.le_refl _
  | k + 1 => by
    rw [tsum_succ]
    have := tsum_nonneg tk h k
    cases e : tk ((k : Int) + 1) with
    | none => simp; omega
    | some n => have := h _ _ e; simp; omega
theorem getD_in {l : List Int} {P : Int → Prop} (h : ∀ x ∈ l, P x) {j : Nat} (hj : j < l.length) : P (l.getD j 0) := by
  rw [List.getD_eq_getElem?_getD, List.getElem?_eq_getElem hj]; exact h _ (List.getElem_mem hj)
theorem ok.tkn {h : HS} (k : h.ok) {id n : Int} (e : h.tk id = some n) : 1 ≤ n ∧ n ≤ 400000 := by
  obtain ⟨h1, h2, h3⟩ := k.tk _ _ e
  rw [← h3]
  exact getD_in k.sz (by omega)
theorem ok.rdn {h : HS} (k : h.ok) {id n : Int} (e : id ∈ h.rd n) : 1 ≤ n ∧ n ≤ 400000 := by
  obtain ⟨h1, h2, h3, -⟩ := k.rd _ _ e
  rw [← h3]
  exact getD_in k.sz (by omega)
theorem ok.l0 {h : HS} (k : h.ok) : 0 ≤ h.live := Int.le_trans (tsum_nonneg _ (fun id n e => by have := k.tkn e; omega) _) k.ts
theorem sum_bound (l : List Int) (h : ∀ s ∈ l, 1 ≤ s ∧ s ≤ 400000) : 0 ≤ l.sum ∧ l.sum ≤ 400000 * l.length := by
  induction l with
  | nil => simp
  | cons x l ih =>
    have h1 := h x (by simp)
    have h2 := ih (fun s hs => h s (by simp [hs]))
    simp only [List.sum_cons, List.length_cons]
    push_cast
    omega
theorem ok.laid_le {h : HS} (k : h.ok) : 0 ≤ h.laid ∧ h.laid ≤ 400000 * h.sizes.length := by rw [k.ld]; exact sum_bound _ k.sz
theorem ok_new (lim : Int) (h0 : 0 ≤ lim) (h1 : lim ≤ 400000) : (new lim).ok := by
  refine ⟨h0, h1, fun s hs => by simp [new] at hs, rfl, fun id n e => by simp [new] at e, fun n id e => by simp [new] at e, fun n => by simp [new], by simp [new, tsum]⟩
theorem roomE_ok {h : HS} {n : Int} : roomE h n = 0 ↔ 0 ≤ n ∧ h.live + n ≤ h.lim := by
  unfold roomE
  by_cases h1 : n < 0
  · rw [if_pos h1]; omega
  · rw [if_neg h1]
    by_cases h2 : h.lim - h.live < n
    · rw [if_pos h2]; omega
    · rw [if_neg h2]; omega
theorem getLast_concat {l : List Int} {x : Int} (h : l.getLast? = some x) : l = l.dropLast ++ [x] := by
  have h0 : l ≠ [] := by intro e; subst e; simp at h
  have := List.dropLast_concat_getLast h0
  rw [List.getLast?_eq_some_getLast h0] at h
  have e : l.getLast h0 = x := by simpa using h
  rw [e] at this
  exact this.symm
theorem ok_old {h : HS} (k : h.ok) {n id : Int} (hr : roomE h n = 0) (hl : (h.rd n).getLast? = some id) : (h.takeOld n id).ok := by
  obtain ⟨r1, r2⟩ := roomE_ok.1 hr
  have hc := getLast_concat hl
  have hm : id ∈ h.rd n := by rw [hc]; simp
  obtain ⟨a1, a2, a3, a4⟩ := k.rd _ _ hm
  have hnd := k.nd n
  have hnot : id ∉ (h.rd n).dropLast := by
    rw [hc, List.nodup_append] at hnd
    intro hm2
    exact hnd.2.2 _ hm2 _ (by simp) rfl
  have hsub : ∀ x, x ∈ (h.rd n).dropLast → x ∈ h.rd n := fun x hx => (List.dropLast_sublist _).subset hx
  refine ⟨?_, k.l2, k.sz, k.ld, fun x m e => ?_, fun m x e => ?_, fun m => ?_, ?_⟩
  · show h.live + n ≤ h.lim; omega
  · change updI h.tk id (some n) x = some m at e
    by_cases e2 : x = id
    · subst e2; rw [updI_same] at e; simp at e; subst e; exact ⟨a1, a2, a3⟩
    · rw [updI_other _ _ _ e2] at e; exact k.tk _ _ e
  · change x ∈ updI h.rd n (h.rd n).dropLast m at e
    by_cases e2 : m = n
    · subst e2
      rw [updI_same] at e
      obtain ⟨b1, b2, b3, b4⟩ := k.rd _ _ (hsub x e)
      refine ⟨b1, b2, b3, ?_⟩
      show updI h.tk id (some m) x = none
      rw [updI_other _ _ _ (by intro e3; subst e3; exact hnot e)]; exact b4
    · rw [updI_other _ _ _ e2] at e
      obtain ⟨b1, b2, b3, b4⟩ := k.rd _ _ e
      refine ⟨b1, b2, b3, ?_⟩
      show updI h.tk id (some n) x = none
      rw [updI_other _ _ _ (by intro e3; subst e3; exact e2 (b3.symm.trans a3))]; exact b4
  · show (updI h.rd n (h.rd n).dropLast m).Nodup
    by_cases e2 : m = n
    · subst e2; rw [updI_same]; exact (List.dropLast_sublist _).nodup (k.nd m)
    · rw [updI_other _ _ _ e2]; exact k.nd m
  · show tsum (updI h.tk id (some n)) h.sizes.length ≤ h.live + n
    rw [tsum_upd _ _ _ a1 _ a2, a4]
    have := k.ts
    simp
    omega
theorem ok_newB {h : HS} (k : h.ok) {n : Int} (hr : roomE h n = 0) (h0 : n ≠ 0) : (h.takeNew n).ok := by
  obtain ⟨r1, r2⟩ := roomE_ok.1 hr
  have l0 := k.l0
  have l2 := k.l2
  have hlen : ((h.sizes ++ [n]).length : Int) = h.sizes.length + 1 := by simp
  have hget : ∀ x : Int, 1 ≤ x → x ≤ h.sizes.length → (h.sizes ++ [n]).getD (x - 1).toNat 0 = h.sizes.getD (x - 1).toNat 0 := fun x h1 h2 => by
    rw [List.getD_eq_getElem?_getD, List.getD_eq_getElem?_getD, List.getElem?_append_left (by omega)]
  have hno : h.tk ((h.sizes.length : Int) + 1) = none := by
    cases e : h.tk ((h.sizes.length : Int) + 1) with
    | none => rfl
    | some m => have := k.tk _ _ e; omega
  refine ⟨?_, k.l2, fun s hs => ?_, ?_, fun x m e => ?_, fun m x e => ?_, k.nd, ?_⟩
  · show h.live + n ≤ h.lim; omega
  · rcases List.mem_append.1 hs with hs | hs
    · exact k.sz s hs
    · rw [List.mem_singleton.1 hs]; omega
  · show h.laid + n = (h.sizes ++ [n]).sum
    rw [k.ld]; simp
  · change updI h.tk _ (some n) x = some m at e
    show 1 ≤ x ∧ x ≤ ((h.sizes ++ [n]).length : Int) ∧ (h.sizes ++ [n]).getD (x - 1).toNat 0 = m
    rw [hlen]
    by_cases e2 : x = (h.sizes.length : Int) + 1
    · subst e2
      rw [updI_same] at e
      simp at e
      subst e
      refine ⟨by omega, by omega, ?_⟩
      rw [show ((h.sizes.length : Int) + 1 - 1).toNat = h.sizes.length by omega, List.getD_eq_getElem?_getD]
      simp
    · rw [updI_other _ _ _ e2] at e
      obtain ⟨b1, b2, b3⟩ := k.tk _ _ e
      exact ⟨b1, by omega, by rw [hget x b1 b2]; exact b3⟩
  · obtain ⟨b1, b2, b3, b4⟩ := k.rd _ _ e
    show 1 ≤ x ∧ x ≤ ((h.sizes ++ [n]).length : Int) ∧ (h.sizes ++ [n]).getD (x - 1).toNat 0 = m ∧ updI h.tk _ (some n) x = none
    rw [hlen]
    exact ⟨b1, by omega, by rw [hget x b1 b2]; exact b3, by rw [updI_other _ _ _ (by omega)]; exact b4⟩
  · show tsum (updI h.tk _ (some n)) (h.sizes ++ [n]).length ≤ h.live + n
    have e : (h.sizes ++ [n]).length = h.sizes.length + 1 := by simp
    rw [e, tsum_succ, tsum_out _ _ _ _ (by omega), updI_same]
    have := k.ts
    simp
    omega
theorem ok_take {h : HS} (k : h.ok) (n : Int) : (h.take n).ok := by
  unfold take
  by_cases hr : roomE h n ≠ 0 ∨ n = 0
  · rw [if_pos hr]; exact k
  · rw [if_neg hr]
    have h1 : roomE h n = 0 := by apply Decidable.byContradiction; intro e; exact hr (.inl e)
    have h2 : n ≠ 0 := fun e => hr (.inr e)
    cases hl : (h.rd n).getLast? with
    | some id => exact ok_old k h1 hl
    | none => exact ok_newB k h1 h2
theorem ok_giveBack {h : HS} (k : h.ok) {n id : Int} (e : h.tk id = some n) : (h.giveBack id n).ok := by
  obtain ⟨a1, a2, a3⟩ := k.tk _ _ e
  have hn := k.tkn e
  refine ⟨?_, k.l2, k.sz, k.ld, fun x m e1 => ?_, fun m x e1 => ?_, fun m => ?_, ?_⟩
  · show h.live - n ≤ h.lim; have := k.l1; omega
  · change updI h.tk id none x = some m at e1
    by_cases e2 : x = id
    · subst e2; rw [updI_same] at e1; simp at e1
    · rw [updI_other _ _ _ e2] at e1; exact k.tk _ _ e1
  · change x ∈ updI h.rd n (h.rd n ++ [id]) m at e1
    show 1 ≤ x ∧ x ≤ h.sizes.length ∧ h.sizes.getD (x - 1).toNat 0 = m ∧ updI h.tk id none x = none
    by_cases e2 : x = id
    · subst e2
      rw [updI_same]
      by_cases e3 : m = n
      · subst e3; exact ⟨a1, a2, a3, rfl⟩
      · rw [updI_other _ _ _ e3] at e1
        have := k.rd _ _ e1
        rw [this.2.2.2] at e
        simp at e
    · rw [updI_other _ _ _ e2]
      by_cases e3 : m = n
      · subst e3
        rw [updI_same] at e1
        rcases List.mem_append.1 e1 with e1 | e1
        · exact k.rd _ _ e1
        · exact absurd (List.mem_singleton.1 e1) e2
      · rw [updI_other _ _ _ e3] at e1; exact k.rd _ _ e1
  · show (updI h.rd n (h.rd n ++ [id]) m).Nodup
    by_cases e3 : m = n
    · subst e3
      rw [updI_same, List.nodup_append]
      refine ⟨k.nd m, by simp, fun a ha b hb => ?_⟩
      rw [List.mem_singleton.1 hb]
      intro e4; subst e4
      have := k.rd _ _ ha
      rw [this.2.2.2] at e
      simp at e
    · rw [updI_other _ _ _ e3]; exact k.nd m
  · show tsum (updI h.tk id none) h.sizes.length ≤ h.live - n
    rw [tsum_upd _ _ _ a1 _ a2, e]
    have := k.ts
    simp
    omega
theorem ok_give {h : HS} (k : h.ok) (id : Int) : (h.give id).ok := by
  unfold give
  by_cases h0 : id = 0
  · rw [if_pos h0]; exact k
  · rw [if_neg h0]
    cases e : h.tk id with
    | none => exact k
    | some n => exact ok_giveBack k e
theorem ok_spend {h : HS} (k : h.ok) (n : Int) : (h.spend n).ok := by
  unfold spend
  by_cases hr : roomE h n = 0
  · rw [if_pos hr]
    obtain ⟨r1, r2⟩ := roomE_ok.1 hr
    have := k.ts
    exact ⟨r2, k.l2, k.sz, k.ld, k.tk, k.rd, k.nd, by show tsum h.tk h.sizes.length ≤ h.live + n; omega⟩
  · rw [if_neg hr]; exact k
end HS
/-- The heap h behind the pointer to block p, on the blocks of F. -/
def HeapAt (F : Nat → Prop) (w : World) (p : Nat) (h : HS) : Prop :=
  h.ok ∧ ∃ bt br sv rv, HeapIn w p bt br h.sizes.length h.sizes.length sv rv h ∧ (∀ x, In64 x → (rv x).isSome = true → x ∈ h.sizes) ∧ F = own p bt br sv rv
/-- The heap has become h', on blocks of F and new ones. -/
def Goes (F : Nat → Prop) (w : World) (p : Nat) (h' : HS) (w' : World) : Prop := ∃ F', HeapAt F' w' p h' ∧ Kp F w w' ∧ ∀ q, F' q → F q ∨ w.heap.size ≤ q
theorem HeapAt.lt {F : Nat → Prop} {w : World} {p : Nat} {h : HS} (H : HeapAt F w p h) (q : Nat) (hq : F q) : q < w.heap.size := by
  obtain ⟨-, bt, br, sv, rv, h1, -, rfl⟩ := H
  exact h1.lt q hq
theorem HeapAt.kp {F G : Nat → Prop} {w w' : World} {p : Nat} {h : HS} (H : HeapAt F w p h) (hk : Kp G w w') (hF : ∀ q, F q → ¬ G q) : HeapAt F w' p h := by
  obtain ⟨k, bt, br, sv, rv, h1, h2, rfl⟩ := H
  exact ⟨k, bt, br, sv, rv, h1.kp hk hF, h2, rfl⟩
theorem HeapAt.below {F : Nat → Prop} {w w' : World} {p : Nat} {h : HS} (H : HeapAt F w p h) (hb : Below w.heap.size w w') : HeapAt F w' p h := by
  obtain ⟨k, bt, br, sv, rv, h1, h2, rfl⟩ := H
  exact ⟨k, bt, br, sv, rv, h1.below hb, h2, rfl⟩
theorem Goes.same {F : Nat → Prop} {w w' : World} {p : Nat} {h : HS} (H : HeapAt F w p h) (hb : Below w.heap.size w w') : Goes F w p h w' := ⟨F, H.below hb, below_kp hb, fun q hq => .inl hq⟩
theorem ids_mem (k : Nat) (x : Int) : x ∈ Cs.up k ↔ 1 ≤ x ∧ x ≤ k := Cs.up_mem k x
/-- The maps have no more entries than there are blocks. -/
theorem HeapAt.shut {w : World} {p bt br nt nr : Nat} {sv : Value} {rv : Int → Option Value} {h : HS} (k : h.ok) (H : HeapIn w p bt br nt nr sv rv h) (hr : ∀ x, In64 x → (rv x).isSome = true → x ∈ h.sizes) : HeapAt (own p bt br sv rv) w p h := by
  refine ⟨k, bt, br, sv, rv, ⟨H.c0, H.c1, H.c2, H.c3, H.c4, H.c5, H.fz, ?_, H.mr.fit _ hr, H.fam, H.off, H.n1, H.n2, H.n3⟩, hr, rfl⟩
  have := H.mt.fit (Cs.up h.sizes.length) (fun x hx hs => by
    cases e : h.tk x with
    | none => rw [e] at hs; simp at hs
    | some n => have := k.tk _ _ e; rw [Cs.up_mem]; omega)
  rw [Cs.up_length] at this
  exact this
end Go.Proofs.YteheolefemlcgaaGreat
/- The reference's heap in plain terms, and that it is the program's. -/
namespace Go.Proofs.YteheolefemlcgaaGreat
open Go.RowKit Go.Maps
set_option linter.unusedVariables false
set_option linter.unusedSimpArgs false

/-- The reference's heap: its limit, what is spent, the clock, all blocks (cells, when given back). -/
structure RS where
  lim : Int
  spent : Int
  clock : Int
  all : List (Int × Int)
namespace RS
def cel (l : List (Int × Int)) (i : Nat) : Int := (l.getD i (0, 0)).1
def giv (l : List (Int × Int)) (i : Nat) : Int := (l.getD i (0, 0)).2
/-- The cells of the first j blocks that are taken. -/
def lsum (l : List (Int × Int)) : Nat → Int
  | 0 => 0
  | j + 1 => lsum l j + (if giv l j = 0 then cel l j else 0)
def dsum (l : List (Int × Int)) : Nat → Int
  | 0 => 0
  | j + 1 => dsum l j + cel l j
def best (l : List (Int × Int)) (n : Int) : Nat → Int
  | 0 => -1
  | j + 1 => if cel l j = n ∧ 0 < giv l j ∧ (best l n j < 0 ∨ giv l (best l n j).toNat < giv l j) then j else best l n j
def blk (l : List (Int × Int)) : Nat → List Int
  | 0 => []
  | j + 1 => if giv l j = 0 then blk l j ++ [(j : Int) + 1] else blk l j
def liveR (r : RS) : Int := r.spent + lsum r.all r.all.length
def laidR (r : RS) : Int := dsum r.all r.all.length
def setG (l : List (Int × Int)) (i : Nat) (g : Int) : List (Int × Int) := l.set i (cel l i, g)
theorem cel_set (l : List (Int × Int)) (i j : Nat) (g : Int) : cel (setG l i g) j = cel l j := by
  unfold cel setG
  rw [List.getD_eq_getElem?_getD, List.getD_eq_getElem?_getD, List.getElem?_set]
  by_cases e : i = j
  · subst e
    by_cases h : i < l.length
    · simp [h, cel, List.getD_eq_getElem?_getD]
    · simp [h]
  · simp [e]
theorem giv_set (l : List (Int × Int)) (i j : Nat) (g : Int) (hi : i < l.length) : giv (setG l i g) j = if j = i then g else giv l j := by
  unfold giv setG
  rw [List.getD_eq_getElem?_getD, List.getD_eq_getElem?_getD, List.getElem?_set]
  by_cases e : i = j
  · subst e; simp [hi]
  · have : ¬ j = i := fun h => e h.symm
    simp [e, this]
theorem len_set (l : List (Int × Int)) (i : Nat) (g : Int) : (setG l i g).length = l.length := by simp [setG]
theorem cel_app (l : List (Int × Int)) (x : Int × Int) (j : Nat) : cel (l ++ [x]) j = if j = l.length then x.1 else cel l j := by
  unfold cel
  rw [List.getD_eq_getElem?_getD, List.getD_eq_getElem?_getD]
  by_cases h : j < l.length
  · have : ¬ j = l.length := by omega
    rw [List.getElem?_append_left h]; simp [this]
  · by_cases e : j = l.length
    · subst e; simp
    · have : l.length < j := by omega
      rw [List.getElem?_eq_none (by simp; omega), List.getElem?_eq_none (by omega)]; simp [e]
theorem giv_app (l : List (Int × Int)) (x : Int × Int) (j : Nat) : giv (l ++ [x]) j = if j = l.length then x.2 else giv l j := by
  unfold giv
  rw [List.getD_eq_getElem?_getD, List.getD_eq_getElem?_getD]
  by_cases h : j < l.length
  · have : ¬ j = l.length := by omega
    rw [List.getElem?_append_left h]; simp [this]
  · by_cases e : j = l.length
    · subst e; simp
    · have : l.length < j := by omega
      rw [List.getElem?_eq_none (by simp; omega), List.getElem?_eq_none (by omega)]; simp [e]
def roomR (r : RS) (n : Int) : Int := if n < 0 then 1 else if r.lim - r.liveR < n then 10 else 0
def takeId (r : RS) (n : Int) : Int := if r.roomR n ≠ 0 ∨ n = 0 then 0 else if best r.all n r.all.length < 0 then (r.all.length : Int) + 1 else best r.all n r.all.length + 1
def take (r : RS) (n : Int) : RS := if r.roomR n ≠ 0 ∨ n = 0 then r else if best r.all n r.all.length < 0 then { r with all := r.all ++ [(n, 0)] } else { r with all := setG r.all (best r.all n r.all.length).toNat 0 }
def giveE (r : RS) (id : Int) : Int := if id = 0 then 0 else if id < 0 ∨ (r.all.length : Int) < id ∨ 0 < giv r.all (id - 1).toNat then 1 else 0
def give (r : RS) (id : Int) : RS := if id = 0 then r else if id < 0 ∨ (r.all.length : Int) < id ∨ 0 < giv r.all (id - 1).toNat then r else { r with clock := r.clock + 1, all := setG r.all (id - 1).toNat (r.clock + 1) }
def spend (r : RS) (n : Int) : RS := if r.roomR n = 0 then { r with spent := r.spent + n } else r
def new (lim : Int) : RS := ⟨lim, 0, 0, []⟩
end RS
open RS
/-- The two heaps are the same. -/
structure Sim (h : HS) (r : RS) : Prop where
  k : h.ok
  lim : h.lim = r.lim
  sizes : h.sizes = r.all.map Prod.fst
  tk : ∀ i, i < r.all.length → h.tk ((i : Int) + 1) = if giv r.all i = 0 then some (cel r.all i) else none
  rd : ∀ n x, x ∈ h.rd n ↔ ∃ i, i < r.all.length ∧ x = (i : Int) + 1 ∧ cel r.all i = n ∧ 0 < giv r.all i
  inc : ∀ n, (h.rd n).Pairwise fun a b => giv r.all (a - 1).toNat < giv r.all (b - 1).toNat
  clk : ∀ i, i < r.all.length → 0 ≤ giv r.all i ∧ giv r.all i ≤ r.clock
  c0 : 0 ≤ r.clock
  live : h.live = r.liveR
namespace Sim
variable {h : HS} {r : RS}
theorem len (s : Sim h r) : h.sizes.length = r.all.length := by rw [s.sizes]; simp
theorem laid_prefix (l : List (Int × Int)) : ∀ j, j ≤ l.length → dsum l j = ((l.take j).map Prod.fst).sum
  | 0, _ => by simp [dsum]
  | j + 1, h => by
    have e : l[j]? = some l[j] := List.getElem?_eq_getElem (by omega)
    rw [dsum, laid_prefix l j (by omega), List.take_add_one, List.map_append, List.sum_append, e]
    unfold cel
    rw [List.getD_eq_getElem?_getD, e]
    simp
theorem laid (s : Sim h r) : h.laid = r.laidR := by
  unfold laidR
  rw [s.k.ld, s.sizes, laid_prefix _ _ (Nat.le_refl _), List.take_length]
theorem room (s : Sim h r) (n : Int) : h.roomE n = r.roomR n := by unfold HS.roomE roomR; rw [s.lim, s.live]
theorem bestSpec (l : List (Int × Int)) (n : Int) : ∀ j, j ≤ l.length →
    (best l n j < 0 ∧ (best l n j = -1) ∧ ∀ i, i < j → ¬ (cel l i = n ∧ 0 < giv l i)) ∨
    (∃ b : Nat, best l n j = b ∧ b < j ∧ cel l b = n ∧ 0 < giv l b ∧ ∀ i, i < j → cel l i = n → 0 < giv l i → giv l i ≤ giv l b)
  | 0, _ => .inl ⟨by simp [best], by simp [best], fun i h => by omega⟩
  | j + 1, hj => by
    have ih := bestSpec l n j (by omega)
    rw [best]
    by_cases e : cel l j = n ∧ 0 < giv l j ∧ (best l n j < 0 ∨ giv l (best l n j).toNat < giv l j)
    · rw [if_pos e]
      obtain ⟨e1, e2, e3⟩ := e
      refine .inr ⟨j, rfl, by omega, e1, e2, fun i hi h1 h2 => ?_⟩
      by_cases e4 : i = j
      · subst e4; exact Int.le_refl _
      · rcases ih with ⟨-, -, h⟩ | ⟨b, hb, hbj, hb1, hb2, hm⟩
        · exact absurd ⟨h1, h2⟩ (h i (by omega))
        · have := hm i (by omega) h1 h2
          rw [hb] at e3
          simp only [Int.toNat_natCast] at e3
          omega
    · rw [if_neg e]
      rcases ih with ⟨h0, h1, h⟩ | ⟨b, hb, hbj, hb1, hb2, hm⟩
      · refine .inl ⟨h0, h1, fun i hi g => ?_⟩
        by_cases e4 : i = j
        · subst e4; exact e ⟨g.1, g.2, .inl h0⟩
        · exact h i (by omega) g
      · refine .inr ⟨b, hb, by omega, hb1, hb2, fun i hi h1 h2 => ?_⟩
        by_cases e4 : i = j
        · subst e4
          apply Decidable.byContradiction
          intro hn
          exact e ⟨h1, h2, .inr (by rw [hb]; simp only [Int.toNat_natCast]; omega)⟩
        · exact hm i (by omega) h1 h2
/-- What the reference finds is the last that lies ready. -/
theorem best_last (s : Sim h r) (n : Int) : (best r.all n r.all.length < 0 ∧ (h.rd n).getLast? = none) ∨ (∃ b : Nat, best r.all n r.all.length = b ∧ b < r.all.length ∧ (h.rd n).getLast? = some ((b : Int) + 1) ∧ cel r.all b = n ∧ 0 < giv r.all b) := by
  rcases bestSpec r.all n r.all.length (Nat.le_refl _) with ⟨h0, -, hno⟩ | ⟨b, hb, hbl, h1, h2, hm⟩
  · refine .inl ⟨h0, ?_⟩
    rw [List.getLast?_eq_none_iff]
    apply List.eq_nil_iff_forall_not_mem.2
    intro x hx
    obtain ⟨i, hi, -, g1, g2⟩ := (s.rd n x).1 hx
    exact hno i hi ⟨g1, g2⟩
  · refine .inr ⟨b, hb, hbl, ?_, h1, h2⟩
    have hmem : (b : Int) + 1 ∈ h.rd n := (s.rd n _).2 ⟨b, hbl, rfl, h1, h2⟩
    cases e : (h.rd n).getLast? with
    | none => rw [List.getLast?_eq_none_iff] at e; rw [e] at hmem; simp at hmem
    | some y =>
      have hc := HS.getLast_concat e
      have hp := s.inc n
      rw [hc, List.pairwise_append] at hp
      rw [hc] at hmem
      rcases List.mem_append.1 hmem with hm2 | hm2
      · have := hp.2.2 _ hm2 y (by simp)
        obtain ⟨i, hi, rfl, g1, g2⟩ := (s.rd n y).1 (by rw [hc]; simp)
        have h3 := hm i hi g1 g2
        rw [show ((b : Int) + 1 - 1).toNat = b by omega, show ((i : Int) + 1 - 1).toNat = i by omega] at this
        omega
      · rw [List.mem_singleton.1 hm2]
theorem takeIdE (s : Sim h r) (n : Int) : h.takeId n = r.takeId n := by
  unfold HS.takeId RS.takeId
  rw [s.room]
  by_cases e : r.roomR n ≠ 0 ∨ n = 0
  · rw [if_pos e, if_pos e]
  · rw [if_neg e, if_neg e]
    rcases s.best_last n with ⟨h0, h1⟩ | ⟨b, hb, hbl, h1, -, -⟩
    · rw [if_pos h0, h1, s.len]
    · rw [h1, hb, if_neg (by omega)]
theorem giveEE (s : Sim h r) (id : Int) : h.giveE id = r.giveE id := by
  unfold HS.giveE RS.giveE
  by_cases h0 : id = 0
  · rw [if_pos h0, if_pos h0]
  · rw [if_neg h0, if_neg h0]
    by_cases h1 : 1 ≤ id ∧ id ≤ r.all.length
    · have e : id = (((id - 1).toNat : Nat) : Int) + 1 := by omega
      have := s.tk (id - 1).toNat (by omega)
      rw [← e] at this
      rw [this]
      have hc := s.clk (id - 1).toNat (by omega)
      by_cases h2 : giv r.all (id - 1).toNat = 0
      · rw [if_pos h2, if_neg (show ¬ (id < 0 ∨ (r.all.length : Int) < id ∨ 0 < giv r.all (id - 1).toNat) by omega)]; rfl
      · rw [if_neg h2, if_pos (show (id < 0 ∨ (r.all.length : Int) < id ∨ 0 < giv r.all (id - 1).toNat) by omega)]; rfl
    · rw [if_pos (show (id < 0 ∨ (r.all.length : Int) < id ∨ 0 < giv r.all (id - 1).toNat) by omega)]
      cases e : h.tk id with
      | none => rfl
      | some n => have := s.k.tk _ _ e; rw [s.len] at this; omega
theorem lsum_app (l : List (Int × Int)) (x : Int × Int) : ∀ j, j ≤ l.length → lsum (l ++ [x]) j = lsum l j
  | 0, _ => rfl
  | j + 1, h => by rw [lsum, lsum, lsum_app l x j (by omega), cel_app, giv_app, if_neg (show ¬ j = l.length by omega), if_neg (show ¬ j = l.length by omega)]
theorem lsum_set (l : List (Int × Int)) (i : Nat) (g : Int) (hi : i < l.length) : ∀ j, lsum (setG l i g) j = lsum l j + if i < j then (if g = 0 then cel l i else 0) - (if giv l i = 0 then cel l i else 0) else 0
  | 0 => by simp [lsum]
  | j + 1 => by
    rw [lsum, lsum, lsum_set l i g hi j, cel_set, giv_set _ _ _ _ hi]
    by_cases e : j = i
    · subst e; rw [if_neg (show ¬ j < j by omega), if_pos (show j < j + 1 by omega), if_pos rfl]; omega
    · rw [if_neg e]
      by_cases h : i < j
      · rw [if_pos h, if_pos (show i < j + 1 by omega)]; omega
      · rw [if_neg h, if_neg (show ¬ i < j + 1 by omega)]; omega
theorem take_sim (s : Sim h r) (n : Int) : Sim (h.take n) (r.take n) := by
  have hk := HS.ok_take s.k n
  revert hk
  unfold HS.take RS.take
  rw [s.room]
  by_cases e : r.roomR n ≠ 0 ∨ n = 0
  · rw [if_pos e, if_pos e]; exact fun _ => s
  · rw [if_neg e, if_neg e]
    rcases s.best_last n with ⟨h0, h1⟩ | ⟨b, hb, hbl, h1, h2, h3⟩
    · rw [if_pos h0, h1]
      intro hk
      have hl := s.len
      refine ⟨hk, s.lim, ?_, fun i hi => ?_, fun m x => ?_, fun m => ?_, fun i hi => ?_, s.c0, ?_⟩
      · show h.sizes ++ [n] = _
        rw [s.sizes]; simp
      · simp only [List.length_append, List.length_cons, List.length_nil] at hi
        show updI h.tk _ (some n) ((i : Int) + 1) = if giv (r.all ++ [(n, 0)]) i = 0 then some (cel (r.all ++ [(n, 0)]) i) else none
        rw [cel_app, giv_app]
        by_cases e2 : i = r.all.length
        · subst e2; rw [hl, updI_same]; simp
        · rw [updI_other _ _ _ (by omega), if_neg e2, if_neg e2]; exact s.tk i (by omega)
      · show x ∈ h.rd m ↔ _
        rw [s.rd m x]
        show (∃ i, i < r.all.length ∧ x = (i : Int) + 1 ∧ cel r.all i = m ∧ 0 < giv r.all i) ↔ ∃ i : Nat, i < (r.all ++ [(n, 0)]).length ∧ x = (i : Int) + 1 ∧ cel (r.all ++ [(n, 0)]) i = m ∧ 0 < giv (r.all ++ [(n, 0)]) i
        constructor
        · rintro ⟨i, a1, a2, a3, a4⟩
          exact ⟨i, by simp; omega, a2, by rw [cel_app, if_neg (by omega)]; exact a3, by rw [giv_app, if_neg (by omega)]; exact a4⟩
        · rintro ⟨i, a1, a2, a3, a4⟩
          simp only [List.length_append, List.length_cons, List.length_nil] at a1
          rw [giv_app] at a4
          rw [cel_app] at a3
          by_cases e2 : i = r.all.length
          · rw [if_pos e2] at a4; simp at a4
          · rw [if_neg e2] at a4 a3; exact ⟨i, by omega, a2, a3, a4⟩
      · show (h.rd m).Pairwise fun a b => giv (r.all ++ [(n, 0)]) (a - 1).toNat < giv (r.all ++ [(n, 0)]) (b - 1).toNat
        refine (s.inc m).imp_of_mem fun {a b} ha hb hab => ?_
        obtain ⟨i, hi, rfl, -, -⟩ := (s.rd m a).1 ha
        obtain ⟨j, hj, rfl, -, -⟩ := (s.rd m b).1 hb
        rw [giv_app, giv_app, if_neg (by omega), if_neg (by omega)]; exact hab
      · show 0 ≤ giv (r.all ++ [(n, 0)]) i ∧ giv (r.all ++ [(n, 0)]) i ≤ r.clock
        simp only [List.length_append, List.length_cons, List.length_nil] at hi
        rw [giv_app]
        by_cases e2 : i = r.all.length
        · rw [if_pos e2]; exact ⟨Int.le_refl _, s.c0⟩
        · rw [if_neg e2]; exact s.clk i (by omega)
      · show h.live + n = r.spent + lsum (r.all ++ [(n, 0)]) (r.all ++ [(n, 0)]).length
        rw [show (r.all ++ [(n, (0 : Int))]).length = r.all.length + 1 by simp, lsum, lsum_app _ _ _ (Nat.le_refl _), giv_app, cel_app, if_pos rfl, if_pos rfl, if_pos rfl, s.live]
        unfold liveR; omega
    · rw [h1, hb, if_neg (by omega)]
      intro hk
      have hc := HS.getLast_concat h1
      have hnd := s.k.nd n
      have hnot : (b : Int) + 1 ∉ (h.rd n).dropLast := by
        rw [hc, List.nodup_append] at hnd
        intro hm2
        exact hnd.2.2 _ hm2 _ (by simp) rfl
      have hsub : ∀ x, x ∈ (h.rd n).dropLast → x ∈ h.rd n := fun x hx => (List.dropLast_sublist _).subset hx
      simp only [Int.toNat_natCast]
      refine ⟨hk, s.lim, ?_, fun i hi => ?_, fun m x => ?_, fun m => ?_, fun i hi => ?_, s.c0, ?_⟩
      · show h.sizes = (setG r.all b 0).map Prod.fst
        rw [s.sizes]
        apply List.ext_getElem
        · simp [setG]
        · intro i h1 h2
          have hi : i < r.all.length := by simpa using h1
          have := cel_set r.all b i 0
          unfold cel at this
          rw [List.getD_eq_getElem?_getD, List.getD_eq_getElem?_getD, List.getElem?_eq_getElem (by rw [len_set]; exact hi), List.getElem?_eq_getElem hi] at this
          simp only [List.getElem_map]
          exact this.symm
      · rw [len_set] at hi
        show updI h.tk ((b : Int) + 1) (some n) ((i : Int) + 1) = if giv (setG r.all b 0) i = 0 then some (cel (setG r.all b 0) i) else none
        rw [cel_set, giv_set _ _ _ _ hbl]
        by_cases e2 : i = b
        · subst e2; rw [updI_same, if_pos rfl, h2]; simp
        · rw [updI_other _ _ _ (by omega), if_neg e2]; exact s.tk i hi
      · show x ∈ updI h.rd n (h.rd n).dropLast m ↔ ∃ i, i < (setG r.all b 0).length ∧ x = (i : Int) + 1 ∧ cel (setG r.all b 0) i = m ∧ 0 < giv (setG r.all b 0) i
        rw [len_set]
        have key : (∃ i, i < r.all.length ∧ x = (i : Int) + 1 ∧ cel (setG r.all b 0) i = m ∧ 0 < giv (setG r.all b 0) i) ↔ x ∈ h.rd m ∧ x ≠ (b : Int) + 1 := by
          rw [s.rd m x]
          constructor
          · rintro ⟨i, a1, a2, a3, a4⟩
            rw [cel_set] at a3
            rw [giv_set _ _ _ _ hbl] at a4
            by_cases e2 : i = b
            · rw [if_pos e2] at a4; omega
            · rw [if_neg e2] at a4; exact ⟨⟨i, a1, a2, a3, a4⟩, by omega⟩
          · rintro ⟨⟨i, a1, a2, a3, a4⟩, a5⟩
            exact ⟨i, a1, a2, by rw [cel_set]; exact a3, by rw [giv_set _ _ _ _ hbl, if_neg (by omega)]; exact a4⟩
        rw [key]
        by_cases e2 : m = n
        · subst e2
          rw [updI_same]
          constructor
          · intro hx; exact ⟨hsub x hx, fun e3 => by subst e3; exact hnot hx⟩
          · rintro ⟨hx, hne⟩
            rw [hc] at hx
            rcases List.mem_append.1 hx with hx | hx
            · exact hx
            · exact absurd (List.mem_singleton.1 hx) hne
        · rw [updI_other _ _ _ e2]
          constructor
          · intro hx
            refine ⟨hx, fun e3 => ?_⟩
            obtain ⟨i, a1, a2, a3, a4⟩ := (s.rd m x).1 hx
            have : i = b := by omega
            subst this
            exact e2 (a3.symm.trans h2)
          · exact fun hx => hx.1
      · show (updI h.rd n (h.rd n).dropLast m).Pairwise fun x y => giv (setG r.all b 0) (x - 1).toNat < giv (setG r.all b 0) (y - 1).toNat
        have hstep : ∀ l : List Int, l.Pairwise (fun x y => giv r.all (x - 1).toNat < giv r.all (y - 1).toNat) → (∀ x ∈ l, ∃ i : Nat, x = (i : Int) + 1 ∧ i ≠ b) → l.Pairwise fun x y => giv (setG r.all b 0) (x - 1).toNat < giv (setG r.all b 0) (y - 1).toNat := fun l hl hx => hl.imp_of_mem fun {a c} ha hcc hac => by
          obtain ⟨i, rfl, hi⟩ := hx a ha
          obtain ⟨j, rfl, hj⟩ := hx c hcc
          rw [show ((i : Int) + 1 - 1).toNat = i by omega, show ((j : Int) + 1 - 1).toNat = j by omega] at hac ⊢
          rw [giv_set _ _ _ _ hbl, giv_set _ _ _ _ hbl, if_neg hi, if_neg hj]; exact hac
        by_cases e2 : m = n
        · subst e2
          rw [updI_same]
          refine hstep _ ((s.inc m).sublist (List.dropLast_sublist _)) fun x hx => ?_
          obtain ⟨i, a1, rfl, a3, a4⟩ := (s.rd m x).1 (hsub x hx)
          exact ⟨i, rfl, fun e3 => by subst e3; exact hnot hx⟩
        · rw [updI_other _ _ _ e2]
          refine hstep _ (s.inc m) fun x hx => ?_
          obtain ⟨i, a1, rfl, a3, a4⟩ := (s.rd m x).1 hx
          exact ⟨i, rfl, fun e3 => by subst e3; exact e2 (a3.symm.trans h2)⟩
      · rw [len_set] at hi
        show 0 ≤ giv (setG r.all b 0) i ∧ giv (setG r.all b 0) i ≤ r.clock
        rw [giv_set _ _ _ _ hbl]
        by_cases e2 : i = b
        · rw [if_pos e2]; exact ⟨Int.le_refl _, s.c0⟩
        · rw [if_neg e2]; exact s.clk i hi
      · show h.live + n = r.spent + lsum (setG r.all b 0) (setG r.all b 0).length
        rw [len_set, lsum_set _ _ _ hbl, if_pos hbl, if_pos rfl, if_neg (show ¬ giv r.all b = 0 by omega), h2, s.live]
        unfold liveR; omega
theorem give_sim (s : Sim h r) (id : Int) : Sim (h.give id) (r.give id) := by
  have hk := HS.ok_give s.k id
  have hE := s.giveEE id
  unfold HS.giveE RS.giveE at hE
  revert hk
  unfold HS.give RS.give
  by_cases h0 : id = 0
  · rw [if_pos h0, if_pos h0]; exact fun _ => s
  · rw [if_neg h0, if_neg h0]
    rw [if_neg h0, if_neg h0] at hE
    by_cases hbad : id < 0 ∨ (r.all.length : Int) < id ∨ 0 < giv r.all (id - 1).toNat
    · rw [if_pos hbad] at hE ⊢
      cases e : h.tk id with
      | none => exact fun _ => s
      | some n => rw [e] at hE; simp at hE
    · rw [if_neg hbad] at hE ⊢
      cases e : h.tk id with
      | none => rw [e] at hE; simp at hE
      | some n =>
        intro hk
        obtain ⟨b, rfl⟩ : ∃ b : Nat, id = (b : Int) + 1 := ⟨(id - 1).toNat, by omega⟩
        have hb' : ((b : Int) + 1 - 1).toNat = b := by omega
        rw [hb'] at hbad ⊢
        have hbl : b < r.all.length := by omega
        have hg0 : giv r.all b = 0 := by have := s.clk b hbl; omega
        have htk := s.tk b hbl
        rw [if_pos hg0, e] at htk
        have hcel : cel r.all b = n := by simpa using htk.symm
        have hold : ∀ m x, x ∈ h.rd m → x ≠ (b : Int) + 1 := fun m x hx e3 => by
          obtain ⟨i, a1, a2, a3, a4⟩ := (s.rd m x).1 hx
          have : i = b := by omega
          subst this; omega
        refine ⟨hk, s.lim, ?_, fun i hi => ?_, fun m x => ?_, fun m => ?_, fun i hi => ?_, by show 0 ≤ r.clock + 1; have := s.c0; omega, ?_⟩
        · show h.sizes = (setG r.all b (r.clock + 1)).map Prod.fst
          rw [s.sizes]
          apply List.ext_getElem
          · simp [setG]
          · intro i h1 h2
            have hi : i < r.all.length := by simpa using h1
            have := cel_set r.all b i (r.clock + 1)
            unfold cel at this
            rw [List.getD_eq_getElem?_getD, List.getD_eq_getElem?_getD, List.getElem?_eq_getElem (by rw [len_set]; exact hi), List.getElem?_eq_getElem hi] at this
            simp only [List.getElem_map]
            exact this.symm
        · rw [len_set] at hi
          show updI h.tk ((b : Int) + 1) none ((i : Int) + 1) = if giv (setG r.all b (r.clock + 1)) i = 0 then some (cel (setG r.all b (r.clock + 1)) i) else none
          rw [cel_set, giv_set _ _ _ _ hbl]
          have := s.c0
          by_cases e2 : i = b
          · subst e2; rw [updI_same, if_pos rfl, if_neg (by omega)]
          · rw [updI_other _ _ _ (by omega), if_neg e2]; exact s.tk i hi
        · show x ∈ updI h.rd n (h.rd n ++ [(b : Int) + 1]) m ↔ ∃ i, i < (setG r.all b (r.clock + 1)).length ∧ x = (i : Int) + 1 ∧ cel (setG r.all b (r.clock + 1)) i = m ∧ 0 < giv (setG r.all b (r.clock + 1)) i
          rw [len_set]
          have := s.c0
          have key : (∃ i, i < r.all.length ∧ x = (i : Int) + 1 ∧ cel (setG r.all b (r.clock + 1)) i = m ∧ 0 < giv (setG r.all b (r.clock + 1)) i) ↔ x ∈ h.rd m ∨ (x = (b : Int) + 1 ∧ m = n) := by
            rw [s.rd m x]
            constructor
            · rintro ⟨i, a1, a2, a3, a4⟩
              rw [cel_set] at a3
              rw [giv_set _ _ _ _ hbl] at a4
              by_cases e2 : i = b
              · subst e2; exact .inr ⟨a2, a3.symm.trans hcel⟩
              · rw [if_neg e2] at a4; exact .inl ⟨i, a1, a2, a3, a4⟩
            · rintro (⟨i, a1, a2, a3, a4⟩ | ⟨a2, a3⟩)
              · exact ⟨i, a1, a2, by rw [cel_set]; exact a3, by rw [giv_set _ _ _ _ hbl]; by_cases e2 : i = b; rw [if_pos e2]; omega; rw [if_neg e2]; exact a4⟩
              · exact ⟨b, hbl, a2, by rw [cel_set, a3]; exact hcel, by rw [giv_set _ _ _ _ hbl, if_pos rfl]; omega⟩
          rw [key]
          by_cases e2 : m = n
          · subst e2
            rw [updI_same, List.mem_append, List.mem_singleton]
            simp
          · rw [updI_other _ _ _ e2]
            simp [e2]
        · show (updI h.rd n (h.rd n ++ [(b : Int) + 1]) m).Pairwise fun x y => giv (setG r.all b (r.clock + 1)) (x - 1).toNat < giv (setG r.all b (r.clock + 1)) (y - 1).toNat
          have hg : ∀ x, x ∈ h.rd m → giv (setG r.all b (r.clock + 1)) (x - 1).toNat = giv r.all (x - 1).toNat := fun x hx => by
            have hne := hold m x hx
            obtain ⟨i, a1, rfl, a3, a4⟩ := (s.rd m x).1 hx
            rw [giv_set _ _ _ _ hbl, if_neg (by omega)]
          have hp : (h.rd m).Pairwise fun x y => giv (setG r.all b (r.clock + 1)) (x - 1).toNat < giv (setG r.all b (r.clock + 1)) (y - 1).toNat := (s.inc m).imp_of_mem fun {a c} ha hcc hac => by rw [hg a ha, hg c hcc]; exact hac
          by_cases e2 : m = n
          · subst e2
            rw [updI_same, List.pairwise_append]
            refine ⟨hp, by simp, fun x hx y hy => ?_⟩
            rw [List.mem_singleton.1 hy, hg x hx, hb', giv_set _ _ _ _ hbl, if_pos rfl]
            obtain ⟨i, a1, rfl, a3, a4⟩ := (s.rd m x).1 hx
            have := (s.clk i a1).2
            rw [show ((i : Int) + 1 - 1).toNat = i by omega]
            omega
          · rw [updI_other _ _ _ e2]; exact hp
        · rw [len_set] at hi
          show 0 ≤ giv (setG r.all b (r.clock + 1)) i ∧ giv (setG r.all b (r.clock + 1)) i ≤ r.clock + 1
          rw [giv_set _ _ _ _ hbl]
          have := s.c0
          by_cases e2 : i = b
          · rw [if_pos e2]; omega
          · rw [if_neg e2]; have := s.clk i hi; omega
        · show h.live - n = r.spent + lsum (setG r.all b (r.clock + 1)) (setG r.all b (r.clock + 1)).length
          have := s.c0
          rw [len_set, lsum_set _ _ _ hbl, if_pos hbl, if_neg (show ¬ r.clock + 1 = 0 by omega), if_pos hg0, hcel, s.live]
          unfold liveR; omega
theorem spend_sim (s : Sim h r) (n : Int) : Sim (h.spend n) (r.spend n) := by
  have hk := HS.ok_spend s.k n
  revert hk
  unfold HS.spend RS.spend
  rw [s.room]
  by_cases e : r.roomR n = 0
  · rw [if_pos e, if_pos e]
    exact fun hk => ⟨hk, s.lim, s.sizes, s.tk, s.rd, s.inc, s.clk, s.c0, by show h.live + n = (r.spent + n) + lsum r.all r.all.length; rw [s.live]; unfold liveR; omega⟩
  · rw [if_neg e, if_neg e]; exact fun _ => s
theorem new_sim (lim : Int) (h0 : 0 ≤ lim) (h1 : lim ≤ 400000) : Sim (HS.new lim) (RS.new lim) := by
  refine ⟨HS.ok_new lim h0 h1, rfl, rfl, fun i hi => by simp [RS.new] at hi, fun n x => ?_, fun n => by simp [HS.new], fun i hi => by simp [RS.new] at hi, Int.le_refl _, ?_⟩
  · simp [HS.new, RS.new]
  · simp [HS.new, RS.new, liveR, lsum]
theorem blk_mem (l : List (Int × Int)) : ∀ j x, x ∈ blk l j ↔ ∃ i, i < j ∧ x = (i : Int) + 1 ∧ giv l i = 0
  | 0, x => by simp [blk]
  | j + 1, x => by
    rw [blk]
    by_cases e : giv l j = 0
    · rw [if_pos e, List.mem_append, List.mem_singleton, blk_mem l j x]
      constructor
      · rintro (⟨i, a1, a2, a3⟩ | a2)
        · exact ⟨i, by omega, a2, a3⟩
        · exact ⟨j, by omega, a2, e⟩
      · rintro ⟨i, a1, a2, a3⟩
        by_cases e2 : i = j
        · subst e2; exact .inr a2
        · exact .inl ⟨i, by omega, a2, a3⟩
    · rw [if_neg e, blk_mem l j x]
      constructor
      · rintro ⟨i, a1, a2, a3⟩; exact ⟨i, by omega, a2, a3⟩
      · rintro ⟨i, a1, a2, a3⟩
        refine ⟨i, ?_, a2, a3⟩
        by_cases e2 : i = j
        · subst e2; exact absurd a3 e
        · omega
end Sim
/-- The blocks that are taken, rising: what Blocks answers. -/
def HS.blocks (h : HS) : List Int := (Cs.up h.sizes.length).filter fun x => (h.tk x).isSome
theorem Sim.blocks {h : HS} {r : RS} (s : Sim h r) : h.blocks = blk r.all r.all.length := by
  unfold HS.blocks
  rw [s.len]
  have : ∀ j, j ≤ r.all.length → (Cs.up j).filter (fun x => (h.tk x).isSome) = blk r.all j := by
    intro j
    induction j with
    | zero => intro _; rfl
    | succ j ih =>
      intro hj
      rw [Cs.up_succ, List.filter_append, ih (by omega), blk]
      have := s.tk j (by omega)
      by_cases e : giv r.all j = 0
      · rw [if_pos e] at this ⊢
        simp [this]
      · rw [if_neg e] at this ⊢
        simp [this]
  exact this _ (Nat.le_refl _)
end Go.Proofs.YteheolefemlcgaaGreat
/- The program's heap: New, room, Live, Laid, Spend. -/
namespace Go.Proofs.YteheolefemlcgaaGreat
open Go.RowKit Go.Maps
set_option linter.unusedVariables false
set_option linter.unusedSimpArgs false

theorem heap_New_bad (lim : Int) (h : lim < 0 ∨ 400000 < lim) (w : World) : Calls Tryz.prog 45 #[.int .i64 lim] w fun e w' => e = .returned (.tuple #[.pointer none, .int .i64 1]) ∧ w = w' := by
  by_cases h1 : lim < 0
  · have d1 : decide (lim < 0) = true := by simpa using h1
    clear h
    go_enter Tryz.func45, Tryz.ntmps45
    go_wp2
    go_ret2
    exact ⟨rfl, rfl⟩
  · have d1 : decide (lim < 0) = false := by simpa using h1
    have d2 : decide (400000 < lim) = true := by simp; omega
    clear h
    go_enter Tryz.func45, Tryz.ntmps45
    go_wp2
    go_ret2
    exact ⟨rfl, rfl⟩
theorem HeapAt.fresh (lim : Int) (h0 : 0 ≤ lim) (h1 : lim ≤ 400000) (w : World) :
    ∃ F, HeapAt F (((w.alloc (Obj.map #[] 0)).alloc (Obj.map #[] 0)).alloc (Obj.cells #[Value.int IntKind.i64 lim, Value.int IntKind.i64 0, Value.int IntKind.i64 0, Value.slice none 0 0, Value.map (some w.heap.size), Value.map (some (w.heap.size + 1))] 140)) (w.heap.size + 1 + 1) (HS.new lim) ∧ ∀ q, F q → w.heap.size ≤ q := by
  have hb : ∀ (u : World) (o : Obj) (q : Nat), q < u.heap.size → (u.alloc o).heap[q]? = u.heap[q]? := fun u o q h => Below.heap_alloc _ _ q h
  have hob : ∀ i, (hvO nilSl (fun _ => none) i).ownBlock = none := fun i => by cases i <;> rfl
  refine ⟨own (w.heap.size + 1 + 1) w.heap.size (w.heap.size + 1) nilSl (fun _ => none), ⟨HS.ok_new lim h0 h1, w.heap.size, w.heap.size + 1, nilSl, fun _ => none, ⟨?_, ?_, ?_, ?_, ?_, ?_, fun i => ?_, ?_, ?_, ?_, fun i hi => ?_, by omega, by omega, by omega⟩, fun x hx h => by simp at h, rfl⟩, fun q hq => ?_⟩
  · simp [go_sem, HS.new]
  · simp [go_sem, HS.new]
  · simp [go_sem, HS.new]
  · simp [go_sem, nilSl]
  · simp [go_sem]
  · simp [go_sem]
  · simp [go_sem]
  · exact ((MapIs.made w).of_block (by rw [hb _ _ _ (by simp [go_sem]), hb _ _ _ (by simp [go_sem])])).congr (fun x hx => rfl)
  · have := (MapIs.made (w.alloc (.map #[] 0))).of_block (w' := ((w.alloc (Obj.map #[] 0)).alloc (Obj.map #[] 0)).alloc (Obj.cells #[Value.int IntKind.i64 lim, Value.int IntKind.i64 0, Value.int IntKind.i64 0, Value.slice none 0 0, Value.map (some w.heap.size), Value.map (some (w.heap.size + 1))] 140)) (by rw [hb _ _ _ (by simp [go_sem])])
    simpa [go_sem, HS.new] using this
  · refine ⟨fun i hi => ?_, fun i j _ _ _ => .inl (hob i)⟩
    cases i <;> exact World.ownsRow_nil _ _ _ _
  · rw [hob]; simp
  · rcases hq with rfl | rfl | rfl | ⟨i, hi, e⟩
    · omega
    · omega
    · omega
    · rw [hob] at e; simp at e
theorem heap_New (lim : Int) (h0 : 0 ≤ lim) (h1 : lim ≤ 400000) (w : World) : Calls Tryz.prog 45 #[.int .i64 lim] w fun e w' => ∃ p F, e = .returned (.tuple #[.pointer (some ⟨p, 0, none⟩), .int .i64 0]) ∧ w.heap.size ≤ p ∧ HeapAt F w' p (HS.new lim) ∧ (∀ q, F q → w.heap.size ≤ q) ∧ Below w.heap.size w w' := by
  have d1 : decide (lim < 0) = false := by simp; omega
  have d2 : decide (400000 < lim) = false := by simp; omega
  have hmm := @run_makeMap Tryz.prog
  go_enter Tryz.func45, Tryz.ntmps45
  go_wp2
  go_ret2
  obtain ⟨F, h2, h3⟩ := HeapAt.fresh lim h0 h1 w
  exact ⟨_, F, rfl, by omega, h2, h3, (((Below.refl _ w).alloc (Nat.le_refl _) _).alloc (by simp [go_sem]) _).alloc (by simp [go_sem]; omega) _⟩
theorem room_c (F : Nat → Prop) (p : Nat) (h : HS) (n : Int) (r : Int) (hr : h.roomE n = r) (w : World) (H : HeapAt F w p h) : Calls Tryz.prog 107 #[.pointer (some ⟨p, 0, none⟩), .int .i64 n] w fun e w' => e = .returned (.int .i64 r) ∧ Below w.heap.size w w' := by
  obtain ⟨k, bt, br, sv, rv, hin, -, -⟩ := H
  have c0 := hin.c0
  have c1 := hin.c1
  have l0 := k.l0
  have l1 := k.l1
  have l2 := k.l2
  have hs : wrap64 (h.lim - h.live) = h.lim - h.live := by unfold wrap64; omega
  clear hin
  obtain ⟨lim, hlim⟩ : ∃ x, h.lim = x := ⟨_, rfl⟩
  obtain ⟨live, hlive⟩ : ∃ x, h.live = x := ⟨_, rfl⟩
  unfold HS.roomE at hr
  rw [hlim, hlive] at hr hs
  rw [hlim] at c0
  rw [hlive] at c1
  clear hlim hlive l0 l1 l2 k
  by_cases h1 : n < 0
  · rw [if_pos h1] at hr
    subst hr
    have d1 : decide (n < 0) = true := by simpa using h1
    go_enter Tryz.func107, Tryz.ntmps107
    go_wp2
    go_ret
    exact ⟨rfl, Below.refl _ _⟩
  · rw [if_neg h1] at hr
    have d1 : decide (n < 0) = false := by simpa using h1
    by_cases h2 : lim - live < n
    · rw [if_pos h2] at hr
      subst hr
      have d2 : decide (lim - live < n) = true := by simpa using h2
      go_enter Tryz.func107, Tryz.ntmps107
      go_wp2
      go_quiet (fail)
      go_wp2
      go_ret
      exact ⟨rfl, below_drewN (Below.refl _ _) _⟩
    · rw [if_neg h2] at hr
      subst hr
      have d2 : decide (lim - live < n) = false := by simpa using h2
      go_enter Tryz.func107, Tryz.ntmps107
      go_wp2
      go_quiet (fail)
      go_wp2
      go_ret
      exact ⟨rfl, below_drewN (Below.refl _ _) _⟩
theorem Live_c (F : Nat → Prop) (p : Nat) (h : HS) (x : Int) (hx : h.live = x) (w : World) (H : HeapAt F w p h) : Calls Tryz.prog 29 #[.pointer (some ⟨p, 0, none⟩)] w fun e w' => e = .returned (.int .i64 x) ∧ w = w' := by
  obtain ⟨k, bt, br, sv, rv, hin, -, -⟩ := H
  have c1 := hin.c1
  rw [hx] at c1
  clear hin
  go_enter Tryz.func29, Tryz.ntmps29
  go_wp2
  go_ret
  exact ⟨rfl, rfl⟩
theorem Laid_c (F : Nat → Prop) (p : Nat) (h : HS) (x : Int) (hx : h.laid = x) (w : World) (H : HeapAt F w p h) : Calls Tryz.prog 50 #[.pointer (some ⟨p, 0, none⟩)] w fun e w' => e = .returned (.int .i64 x) ∧ w = w' := by
  obtain ⟨k, bt, br, sv, rv, hin, -, -⟩ := H
  have c2 := hin.c2
  rw [hx] at c2
  clear hin
  go_enter Tryz.func50, Tryz.ntmps50
  go_wp2
  go_ret
  exact ⟨rfl, rfl⟩
theorem HeapIn.goes {F : Nat → Prop} {w w1 : World} {p bt br nt nr : Nat} {sv : Value} {rv : Int → Option Value} {h' : HS} (k : h'.ok) (H : HeapIn w1 p bt br nt nr sv rv h') (hr : ∀ x, In64 x → (rv x).isSome = true → x ∈ h'.sizes) (hk : Kp F w w1) (hF : ∀ q, own p bt br sv rv q → F q ∨ w.heap.size ≤ q) : Goes F w p h' w1 := ⟨_, HeapAt.shut k H hr, hk, hF⟩
end Go.Proofs.YteheolefemlcgaaGreat
