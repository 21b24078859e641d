/- The program's heap as it lies in memory: a struct, a row of sizes, two maps, a row for each entry of one of them. -/
import Derived.Test.YtfhigeefclchiaaMapI
import Derived.Test.YtfhigeefclchiaaTwice2
namespace Go.Proofs.Ytfhigeefclchiaa
open Go.RowKit Go.Maps
set_option linter.unusedVariables false
set_option linter.unusedSimpArgs false

/-- Of what lay there only blocks of F have turned. -/
structure Kp (F : Nat → Prop) (w w' : World) : Prop where
  os : w'.os = w.os
  tape : w'.tape = w.tape
  output : w'.output = w.output
  size : w.heap.size ≤ w'.heap.size
  block : ∀ k, k < w.heap.size → ¬ F k → w'.heap[k]? = w.heap[k]?
theorem Kp.refl (F : Nat → Prop) (w : World) : Kp F w w := ⟨rfl, rfl, rfl, Nat.le_refl _, fun _ _ _ => rfl⟩
theorem Kp.trans {F G : Nat → Prop} {a b c : World} (h : Kp F a b) (k : Kp G b c) (hG : ∀ q, G q → F q ∨ a.heap.size ≤ q) : Kp F a c :=
  ⟨k.os.trans h.os, k.tape.trans h.tape, k.output.trans h.output, Nat.le_trans h.size k.size, fun q hq hF => (k.block q (Nat.lt_of_lt_of_le hq h.size) (fun g => by rcases hG q g with g | g; exact hF g; omega)).trans (h.block q hq hF)⟩
theorem Kp.grown {F : Nat → Prop} {a b c : World} {row : Option Nat} (h : Kp F a b) (g : b.grownBy c row) (hr : ∀ q, row = some q → F q ∨ a.heap.size ≤ q) : Kp F a c :=
  ⟨g.os.trans h.os, g.tape.trans h.tape, g.output.trans h.output, Nat.le_trans h.size g.size, fun q hq hF => (g.block q (Nat.lt_of_lt_of_le hq h.size) (fun e => by rcases hr q e.symm with g | g; exact hF g; omega)).trans (h.block q hq hF)⟩
theorem Kp.below {F : Nat → Prop} {a b c : World} (h : Kp F a b) (g : Below b.heap.size b c) : Kp F a c :=
  ⟨g.os.trans h.os, g.tape.trans h.tape, g.output.trans h.output, Nat.le_trans h.size g.size, fun q hq hF => (g.block q (Nat.lt_of_lt_of_le hq h.size)).trans (h.block q hq hF)⟩
theorem Kp.set {F : Nat → Prop} {a b : World} (h : Kp F a b) (p : Addr) (hp : F p.block ∨ a.heap.size ≤ p.block) (v : Value) : Kp F a (b.setCell p v) :=
  ⟨h.os, h.tape, h.output, by rw [sz_set]; exact h.size, fun q hq hF => by
    rw [Below.heap_setCell _ _ _ _ (fun e => by subst e; rcases hp with g | g; exact hF g; omega)]; exact h.block q hq hF⟩
theorem Kp.mono {F G : Nat → Prop} {a b : World} (h : Kp F a b) (hG : ∀ q, F q → G q ∨ a.heap.size ≤ q) : Kp G a b :=
  ⟨h.os, h.tape, h.output, h.size, fun q hq hF => h.block q hq (fun g => by rcases hG q g with g | g; exact hF g; omega)⟩
theorem Kp.toBelow {F : Nat → Prop} {a b : World} {B : Nat} (h : Kp F a b) (hF : ∀ q, F q → B ≤ q) (hB : B ≤ a.heap.size) : Below B a b :=
  ⟨h.os, h.tape, h.output, h.size, fun q hq => h.block q (by omega) (fun g => by have := hF q g; omega)⟩
theorem below_kp {F : Nat → Prop} {a b : World} (h : Below a.heap.size a b) : Kp F a b := (Kp.refl F a).below h
/-- A family of rows of numbers, each in a block of its own. -/
structure Fam {ι : Type} (V : ι → Prop) (w : World) (hv : ι → Value) (hl : ι → List Int) : Prop where
  row : ∀ i, V i → w.ownsRow 0 3 1 (hv i) (hl i).length ((hl i).map (Value.int .i64))
  apart : ∀ i j, V i → V j → i ≠ j → (hv i).ownBlock = none ∨ (hv i).ownBlock ≠ (hv j).ownBlock
theorem ownsRow_of_block {w w' : World} {base : Nat} {e : TypeId} {size n : Nat} {v : Value} {xs : List Value} (h : w.ownsRow base e size v n xs) (hb : ∀ q, v.ownBlock = some q → w'.heap[q]? = w.heap[q]?) : w'.ownsRow base e size v n xs := by
  obtain ⟨h1, h2⟩ := h
  refine ⟨h1, ?_⟩
  rcases h2 with h2 | ⟨g, cap, cur, hv, hg, hh, r⟩
  · exact .inl h2
  · exact .inr ⟨g, cap, cur, hv, hg, by rw [hb g (by rw [hv]; rfl)]; exact hh, r⟩
theorem Fam.keep {ι : Type} {V : ι → Prop} {w w' : World} {hv : ι → Value} {hl : ι → List Int} (h : Fam V w hv hl) (hb : ∀ i q, V i → (hv i).ownBlock = some q → w'.heap[q]? = w.heap[q]?) : Fam V w' hv hl :=
  ⟨fun i hi => ownsRow_of_block (h.row i hi) (fun q e => hb i q hi e), h.apart⟩
def updO {ι α : Type} [DecidableEq ι] (f : ι → α) (k : ι) (x : α) (i : ι) : α := if i = k then x else f i
theorem updO_same {ι α : Type} [DecidableEq ι] (f : ι → α) (k : ι) (x : α) : updO f k x k = x := if_pos rfl
theorem updO_other {ι α : Type} [DecidableEq ι] (f : ι → α) (k : ι) (x : α) {i : ι} (h : i ≠ k) : updO f k x i = f i := if_neg h
theorem Fam.set {ι : Type} [DecidableEq ι] {V : ι → Prop} {w w' : World} {hv : ι → Value} {hl : ι → List Int} (h : Fam V w hv hl) (k : ι) (hk : V k) (hg : w.grownBy w' (hv k).ownBlock) (v' : Value) (ys : List Int)
    (ho : w'.ownsRow 0 3 1 v' ys.length (ys.map (Value.int .i64))) (ha : v'.ownBlock = (hv k).ownBlock ∨ ∀ q, v'.ownBlock = some q → w.heap.size ≤ q) : Fam V w' (updO hv k v') (updO hl k ys) := by
  have hap : ∀ i, V i → i ≠ k → (hv i).ownBlock = none ∨ (hv i).ownBlock ≠ v'.ownBlock := fun i hi e => by
    rcases ha with ha | ha
    · rw [ha]; exact h.apart i k hi hk e
    · cases e4 : (hv i).ownBlock with
      | none => exact .inl rfl
      | some q =>
        right
        intro e2
        have h1 := ha q e2.symm
        have := (h.row i hi).lt q e4
        omega
  refine ⟨fun i hi => ?_, fun i j hi hj hij => ?_⟩
  · by_cases e : i = k
    · subst e; rw [updO_same, updO_same]; exact ho
    · rw [updO_other _ _ _ e, updO_other _ _ _ e]
      exact (h.row i hi).kept hg (h.apart i k hi hk e)
  · by_cases e : i = k
    · subst e
      rw [updO_same, updO_other _ _ _ (fun e => hij e.symm)]
      exact ob_swap (hap j hj (fun e => hij e.symm))
    · rw [updO_other _ _ _ e]
      by_cases e2 : j = k
      · subst e2; rw [updO_same]; exact hap i hi e
      · rw [updO_other _ _ _ e2]; exact h.apart i j hi hj hij
end Go.Proofs.Ytfhigeefclchiaa
