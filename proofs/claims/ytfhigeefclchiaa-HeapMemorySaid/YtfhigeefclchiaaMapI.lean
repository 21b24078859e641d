/- Maps whose keys are whole numbers, whatever their elements: what they hold, key by key. -/
import Derived.Test.YtfhigeefclchiaaApp
import Derived.Maps.OwnSet
import Derived.Maps.OwnOps
import Derived.Maps.Range
import Derived.Lib.SlKeysI
namespace Go.Proofs.Ytfhigeefclchiaa
open Go.RowKit Go.Maps
set_option linter.unusedVariables false
set_option linter.unusedSimpArgs false

/-- An element reads as itself. -/
def tokR (v : Value) : Option (DataW Value × List MemPlace) := some (.held v, [])
theorem int_law : Keyed Try.prog 3 := int_keyed Try.underlying3
theorem In64.wf {x : Int} (h : In64 x) : (Lit.int .i64 x).wf = true := WalkArith.wf_i64 (by unfold In64 at h; omega)
theorem int_key {x : Int} (h : In64 x) : keyOf Try.prog 3 (.int .i64 x) = some (.int .i64 x) := keyOf_int_mk Try.underlying3 h.wf
/-- Block b is a map of at most n entries that holds f. -/
def MapIs (w : World) (b n : Nat) (f : Int → Option Value) : Prop :=
  ∃ D : DataW Value, w.ownsMap Try.prog 3 tokR b n D ∧ ∀ x, In64 x → Maps.has D (.int .i64 x) = (f x).isSome ∧ ∀ z, D.atKey (.int .i64 x) (.held z) = .held ((f x).getD z)
theorem MapIs.lt {w : World} {b n : Nat} {f : Int → Option Value} (h : MapIs w b n f) : b < w.heap.size := by obtain ⟨D, h, -⟩ := h; exact h.lt
theorem MapIs.of_block {w w' : World} {b n : Nat} {f : Int → Option Value} (h : MapIs w b n f) (hb : w'.heap[b]? = w.heap[b]?) : MapIs w' b n f := by
  obtain ⟨D, ⟨es, clock, h1, h2⟩, h3⟩ := h
  exact ⟨D, ⟨es, clock, hb.trans h1, h2⟩, h3⟩
theorem MapIs.made (w : World) : MapIs (w.alloc (.map #[] 0)) w.heap.size 0 fun _ => none :=
  ⟨_, World.ownsMap_made w _ _ _, fun x hx => ⟨rfl, fun z => rfl⟩⟩
theorem MapIs.congr {w : World} {b n : Nat} {f g : Int → Option Value} (h : MapIs w b n f) (hf : ∀ x, In64 x → f x = g x) : MapIs w b n g := by
  obtain ⟨D, h1, h2⟩ := h
  exact ⟨D, h1, fun x hx => by rw [← hf x hx]; exact h2 x hx⟩
/-- 'm[k]' and 'v, ok := m[k]'. -/
theorem MapIs.look {w : World} {b n : Nat} {f : Int → Option Value} (h : MapIs w b n f) {t e : TypeId} (ht : Try.prog.underlying t = some (.map 3 e)) {z : Value} (hz : (zeroValue e).run Try.prog w = .ok z w) {x : Int} (hx : In64 x) :
    (Instr.lookup t (.map (some b)) (.int .i64 x) false).run Try.prog w = .ok ((f x).getD z) w ∧ (Instr.lookup t (.map (some b)) (.int .i64 x) true).run Try.prog w = .ok (.tuple #[(f x).getD z, .bool (f x).isSome]) w := by
  obtain ⟨D, h1, h2⟩ := h
  obtain ⟨e1, e2⟩ := h2 x hx
  obtain ⟨v, ps, hr, hv⟩ := h1.lookup int_law ht hz (zd := .held z) rfl (int_key hx)
  obtain ⟨v', ps', hr', hv'⟩ := h1.look_ok int_law ht hz (zd := .held z) rfl (int_key hx)
  rw [e2 z] at hv hv'
  have hv1 : v = (f x).getD z := by simpa [tokR] using congrArg (fun o => o.map Prod.fst) hv
  have hv2 : v' = (f x).getD z := by simpa [tokR] using congrArg (fun o => o.map Prod.fst) hv'
  rw [hv1] at hr; rw [hv2, e1] at hr'
  exact ⟨hr, hr'⟩
def updI {α : Type} (f : Int → α) (k : Int) (x : α) (i : Int) : α := if i = k then x else f i
theorem updI_same {α : Type} (f : Int → α) (k : Int) (x : α) : updI f k x k = x := if_pos rfl
theorem updI_other {α : Type} (f : Int → α) (k : Int) (x : α) {i : Int} (h : i ≠ k) : updI f k x i = f i := if_neg h
theorem lit_ne {x y : Int} (h : x ≠ y) : Lit.int .i64 x ≠ Lit.int .i64 y := by intro e; exact h (by simpa using e)
theorem mapTurned_grown {w w' : World} {b : Nat} (h : w.mapTurned w' b) : w.grownBy w' (some b) := h.grown
/-- 'm[k] = v'. -/
theorem MapIs.store {w : World} {b n : Nat} {f : Int → Option Value} (h : MapIs w b n f) {t e : TypeId} (ht : Try.prog.underlying t = some (.map 3 e)) (hn : n < maxLen) {x : Int} (hx : In64 x) (v : Value) :
    ∃ w', (Instr.mapUpdate t (.map (some b)) (.int .i64 x) v).run Try.prog w = .ok () w' ∧ MapIs w' b (n + 1) (updI f x (some v)) ∧ w.grownBy w' (some b) := by
  obtain ⟨D, h1, h2⟩ := h
  obtain ⟨w', hr, ho, hg⟩ := h1.update int_law ht hn (d := .held v) (ps := []) (int_key hx) rfl
  refine ⟨w', hr, ⟨_, ho, fun y hy => ?_⟩, hg⟩
  by_cases e : y = x
  · subst e
    rw [updI_same]
    exact ⟨has_put_same h1.isMap (int_law.key (int_key hx)) _, fun z => atKey_put_same h1.isMap (int_law.key (int_key hx)) _ _⟩
  · rw [updI_other _ _ _ e]
    obtain ⟨e1, e2⟩ := h2 y hy
    exact ⟨by rw [has_put_other (lit_ne e)]; exact e1, fun z => by rw [atKey_put_other (lit_ne e)]; exact e2 z⟩
/-- 'delete(m, k)'. -/
theorem MapIs.drop {w : World} {b n : Nat} {f : Int → Option Value} (h : MapIs w b n f) {t e : TypeId} (ht : Try.prog.underlying t = some (.map 3 e)) {x : Int} (hx : In64 x) (ty : TypeId) :
    ∃ w', (Builtin.delete_ #[t, 3] ty #[.map (some b), .int .i64 x]).run Try.prog w = .ok (.tuple #[]) w' ∧ MapIs w' b n (updI f x none) ∧ w.grownBy w' (some b) := by
  obtain ⟨D, h1, h2⟩ := h
  obtain ⟨w', hr, ho, hg⟩ := h1.drop int_law ht (int_key hx) ty
  refine ⟨w', hr, ⟨_, ho, fun y hy => ?_⟩, hg.grown⟩
  by_cases e : y = x
  · subst e
    rw [updI_same]
    exact ⟨has_del_same, fun z => atKey_del_same _⟩
  · rw [updI_other _ _ _ e]
    obtain ⟨e1, e2⟩ := h2 y hy
    exact ⟨by rw [has_del_other (lit_ne e)]; exact e1, fun z => by rw [atKey_del_other (lit_ne e)]; exact e2 z⟩
/-! ### How many entries -/
theorem length_le_of_nodup {α : Type} [DecidableEq α] : ∀ (l m : List α), l.Nodup → (∀ x ∈ l, x ∈ m) → l.length ≤ m.length
  | [], m, _, _ => Nat.zero_le _
  | x :: l, m, hd, hs => by
    have h1 := List.nodup_cons.1 hd
    have hm := hs x (by simp)
    have := length_le_of_nodup l (m.erase x) h1.2 (fun y hy => (List.mem_erase_of_ne (by intro e; subst e; exact h1.1 hy)).2 (hs y (by simp [hy])))
    rw [List.length_erase_of_mem hm] at this
    have := List.length_pos_of_mem hm
    simp only [List.length_cons]
    omega
theorem wf_in64 {x : Int} (h : (Lit.int .i64 x).wf = true) : In64 x := by
  unfold In64
  have := bounds_i64 h
  exact this
theorem ownsMap_keys {w : World} {b n : Nat} {D : DataW Value} {R : Value → Option (DataW Value × List MemPlace)} (h : w.ownsMap Try.prog 3 R b n D) :
    ∃ ds, D = .map ds ∧ ds.length ≤ n ∧ ds.Pairwise (fun p q => p.1 ≠ q.1) ∧ (∀ p ∈ ds, ∃ x, In64 x ∧ p.1 = .int .i64 x) ∧ w.ownsMap Try.prog 3 R b ds.length D := by
  obtain ⟨es, clock, hb, F, hs, rfl⟩ := h
  have hl : ((es.toList.map (WideElems.rg Try.prog 3 R)).foldr DataW.insert []).length = es.size := by rw [length_sorted]; simp
  refine ⟨_, rfl, by rw [hl]; exact hs, ((WideShapes.sorted_perm _).pairwise_iff (fun {_ _} hne => Ne.symm hne)).2 (Maps.fit_apart int_law F), fun p hp => ?_, ⟨es, clock, hb, F, by rw [hl]; exact Nat.le_refl _, rfl⟩⟩
  obtain ⟨x, hx, rfl⟩ := List.mem_map.1 ((WideShapes.sorted_perm _).mem_iff.1 hp)
  obtain ⟨y, hy⟩ := F.reads x hx
  rw [WideElems.rg_of hy]
  obtain ⟨z, -, e2, h3⟩ := Maps.keyOf_i64 Try.underlying3 (WideElems.rd_key hy)
  exact ⟨z, wf_in64 h3, e2⟩
theorem MapIs.fit {w : World} {b n : Nat} {f : Int → Option Value} (h : MapIs w b n f) (m : List Int) (hm : ∀ x, In64 x → (f x).isSome = true → x ∈ m) : MapIs w b m.length f := by
  obtain ⟨D, h1, h2⟩ := h
  obtain ⟨ds, rfl, -, hp, hk, ho⟩ := ownsMap_keys h1
  refine ⟨_, ho.mono ?_, h2⟩
  have hnd : (Go.intKeys (.map ds)).Nodup := by
    refine List.pairwise_map.2 (hp.imp_of_mem fun {p q} hp' hq' hne e => hne ?_)
    obtain ⟨a, -, ha⟩ := hk p hp'
    obtain ⟨b, -, hb⟩ := hk q hq'
    rw [ha, hb] at e ⊢
    exact congrArg _ e
  have hl : (Go.intKeys (.map ds)).length = ds.length := List.length_map _
  rw [← hl]
  refine length_le_of_nodup _ _ hnd fun x hx => ?_
  obtain ⟨p, hp', e⟩ := List.mem_map.1 hx
  obtain ⟨a, ha64, ha⟩ := hk p hp'
  rw [ha] at e
  obtain rfl : a = x := e
  refine hm a ha64 ?_
  rw [← (h2 a ha64).1, has_eq, List.any_eq_true]
  exact ⟨p, hp', by rw [ha]; simp [Lit.sameKey]⟩
/-- The keys, for 'maps.Keys': a list without repeats that names just the keys that are there. -/
theorem MapIs.keys {w : World} {b n : Nat} {f : Int → Option Value} (h : MapIs w b n f) (ss : List Int) (hd : ss.Nodup) (hs : ∀ x ∈ ss, In64 x) (hm : ∀ x, In64 x → (x ∈ ss ↔ (f x).isSome = true)) :
    ∃ D : DataW Value, w.ownsMap Try.prog 3 tokR b n D ∧ Maps.size D = ss.length ∧ ss.Perm (Go.intKeys D) := by
  obtain ⟨D, h1, h2⟩ := h
  obtain ⟨ds, rfl, -, hp, hk, ho⟩ := ownsMap_keys h1
  have hperm : ss.Perm (Go.intKeys (.map ds)) := by
    refine perm_intKeys hp (fun p hp' => by obtain ⟨x, -, e⟩ := hk p hp'; exact ⟨x, e⟩) hd fun x => ?_
    by_cases hx : In64 x
    · rw [hm x hx, (h2 x hx).1]
    · constructor
      · intro h; exact absurd (hs x h) hx
      · intro h
        rw [has_eq, List.any_eq_true] at h
        obtain ⟨p, hp', e⟩ := h
        obtain ⟨y, hy, e2⟩ := hk p hp'
        rw [e2] at e
        have : y = x := by simpa [Lit.sameKey] using e
        subst this
        exact absurd hy hx
  refine ⟨_, h1, ?_, hperm⟩
  have hl : (Go.intKeys (.map ds)).length = ds.length := List.length_map _
  rw [hperm.length_eq, hl]; rfl
end Go.Proofs.Ytfhigeefclchiaa
