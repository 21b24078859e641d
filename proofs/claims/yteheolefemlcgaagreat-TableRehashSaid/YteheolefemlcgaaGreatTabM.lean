/- TableCells: two tables on one heap. -/
import Derived.Test.YteheolefemlcgaaGreatTabV
import Derived.Deep.DeepCutAuto
import Derived.StillTailTactics
import Derived.Deep.RegionHeld3
namespace Go.Proofs.YteheolefemlcgaaGreat
open Go.RowKit Go.Maps
set_option linter.unusedVariables false
set_option linter.unusedSimpArgs false

theorem OT.cells_le {A : OT} (h : A.fit) : 0 ≤ A.cells ∧ A.cells ≤ 300000 := by
  cases A with
  | none => exact ⟨Int.le_refl _, by show (0 : Int) ≤ _; omega⟩
  | some x =>
    have h1 : x.2.p.sn ≤ 65536 := h.1.sz
    have h2 : x.2.p.h.n ≤ 65536 := h.1.hg.sz
    show 0 ≤ 4 + ((x.2.p.sn : Int) + 3 * (x.2.p.h.n : Int)) ∧ 4 + ((x.2.p.sn : Int) + 3 * (x.2.p.h.n : Int)) ≤ 300000
    omega
/-- A case in a block of its own. -/
def CB (w : World) (b : Nat) (x : CX) : Prop := C4 w b (.int .i64 x.lim) (.int .i64 x.arr) (.int .i64 x.hsh) (.slice x.A x.l.length x.c)
theorem CB.lt {w : World} {b : Nat} {x : CX} (H : CB w b x) : b < w.heap.size := C4.lt H
theorem CB.keep {w w' : World} {b : Nat} {x : CX} (H : CB w b x) (hb : w'.heap[b]? = w.heap[b]?) : CB w' b x := C4.keep H hb
theorem CB.below {w w' : World} {b : Nat} {x : CX} (H : CB w b x) (hb : Below w.heap.size w w') : CB w' b x := C4.below H hb (C4.lt H)
theorem C4.over {w : World} {a : Nat} {v0 v1 v2 v3 : Value} (H : C4 w a v0 v1 v2 v3) (u0 u1 u2 u3 : Value) : C4 ((((w.setCell ⟨a, 0, none⟩ u0).setCell ⟨a, 1, none⟩ u1).setCell ⟨a, 2, none⟩ u2).setCell ⟨a, 3, none⟩ u3) a u0 u1 u2 u3 := by
  have c0 := H.c0; have c1 := H.c1; have c2 := H.c2; have c3 := H.c3
  refine ⟨?_, ?_, ?_, ?_, fun i => ?_, ?_⟩
  · rw [cell_other _ _ _ _ _ (by omega), cell_other _ _ _ _ _ (by omega), cell_other _ _ _ _ _ (by omega), cell_set_self, c0]; rfl
  · rw [cell_other _ _ _ _ _ (by omega), cell_other _ _ _ _ _ (by omega), cell_set_self, cell_other _ _ _ _ _ (by omega), c1]; rfl
  · rw [cell_other _ _ _ _ _ (by omega), cell_set_self, cell_other _ _ _ _ _ (by omega), cell_other _ _ _ _ _ (by omega), c2]; rfl
  · rw [cell_set_self, cell_other _ _ _ _ _ (by omega), cell_other _ _ _ _ _ (by omega), cell_other _ _ _ _ _ (by omega), c3]; rfl
  · simp only [World.frozen?_setCell]; exact H.fz i
  · have := H.lt; simpa [go_sem] using this
theorem over_keep (w : World) (a b : Nat) (u0 u1 u2 u3 : Value) (h : b ≠ a) : ((((w.setCell ⟨a, 0, none⟩ u0).setCell ⟨a, 1, none⟩ u1).setCell ⟨a, 2, none⟩ u2).setCell ⟨a, 3, none⟩ u3).heap[b]? = w.heap[b]? := by
  rw [Below.heap_setCell _ _ _ _ h, Below.heap_setCell _ _ _ _ h, Below.heap_setCell _ _ _ _ h, Below.heap_setCell _ _ _ _ h]
theorem over_kp {F : Nat → Prop} (w : World) (a : Nat) (u0 u1 u2 u3 : Value) (h : F a) : Kp F w ((((w.setCell ⟨a, 0, none⟩ u0).setCell ⟨a, 1, none⟩ u1).setCell ⟨a, 2, none⟩ u2).setCell ⟨a, 3, none⟩ u3) :=
  ((((Kp.refl F w).set ⟨a, 0, none⟩ (.inl h) _).set ⟨a, 1, none⟩ (.inl h) _).set ⟨a, 2, none⟩ (.inl h) _).set ⟨a, 3, none⟩ (.inl h) _
/-- Reserved blocks are written. -/
theorem TT.kpS {w0 w w' : World} {S G : Nat → Prop} {hp : Nat} {A B : OT} {hs : HS} (H : TT w0 S hp A B hs w) (hk : Kp G w w') (hG : ∀ q, G q → S q ∧ w0.heap.size ≤ q) : TT w0 S hp A B hs w' := by
  obtain ⟨⟨F, D, E, h1, h2, h3, h4, h5, h6, h7, h8, h9⟩, h10, h11⟩ := H
  exact ⟨⟨F, D, E, h1.kp hk (fun q hq hg => (h4.o q hq).2 (hG q hg).1), h2.kp hk (fun q hq hg => (h5.o q hq).2 (hG q hg).1), h3.kp hk (fun q hq hg => (h6.o q hq).2 (hG q hg).1), h4.grow hk.size, h5.grow hk.size, h6.grow hk.size, h7, h8, h9⟩, fun q hq => Nat.lt_of_lt_of_le (h10 q hq) hk.size, h11.trans (hk.toBelow (fun q hq => (hG q hq).2) h11.size)⟩
theorem NewO.cases {hs : HS} {m n er : Int} {A : OT} (h : NewO hs m n A) (he : newE hs m n = er) : (A = none ∧ er ≠ 0) ∨ ∃ x, A = some x ∧ er = 0 := by
  subst he
  exact h.imp id (fun ⟨a, h1, h2⟩ => ⟨_, h1, h2⟩)
theorem cases_ptr {A : OT} {er : Int} (h : (A = none ∧ er ≠ 0) ∨ ∃ x, A = some x ∧ er = 0) : ∃ (P : Option Addr) (q : Bool), A.ptr = .pointer P ∧ P.isNone = q ∧ (P == none) = q ∧ (er != 0) = q := by
  rcases h with ⟨rfl, h⟩ | ⟨x, rfl, rfl⟩
  · exact ⟨none, true, rfl, rfl, rfl, by simpa using h⟩
  · exact ⟨some ⟨x.1, 0, none⟩, false, rfl, rfl, rfl, rfl⟩
theorem COp.bel {W w : World} {b o : Nat} {x : V × V} (H : COp W b o x) (hb : Below W.heap.size W w) (h : b < W.heap.size) : COp w b o x :=
  ⟨(hb.cell (p := ⟨b, _, none⟩) h).trans H.k0, (hb.cell (p := ⟨b, _, none⟩) h).trans H.k1, (hb.cell (p := ⟨b, _, none⟩) h).trans H.k2, (hb.cell (p := ⟨b, _, none⟩) h).trans H.v0, (hb.cell (p := ⟨b, _, none⟩) h).trans H.v1, (hb.cell (p := ⟨b, _, none⟩) h).trans H.v2⟩
theorem CSA.in64 {W : World} {v : Value} {x : CX} (f : CSA W v x) (j : Nat) : In64 (opAt x.l j).1.n := by
  unfold opAt
  rw [List.getD_eq_getElem?_getD]
  cases e : x.l[j]? with
  | none => show In64 0; unfold In64; omega
  | some y => exact (f.in_ y (List.mem_of_getElem? e)).1.2
theorem OT.set_ptr (A : OT) (hs : HS) (k v : V) : (A.set hs k v).1.ptr = A.ptr := by
  cases A <;> rfl
theorem Set_p {w0 w : World} {S : Nat → Prop} {hp : Nat} {A B : OT} {hs : HS} {p : Value} (hp' : A.ptr = p) (H : TT w0 S hp A B hs w) (hA : A.fit) (hsz : hs.sizes.length ≤ 800000) (kk kn : Int) (ks : ByteArray) (vk vn : Int) (vs : ByteArray) (h64 : In64 kn) :
    Calls Tryz.prog 12 #[p, .agg #[.int .i64 kk, .int .i64 kn, .string ks], .agg #[.int .i64 vk, .int .i64 vn, .string vs]] w fun e w' => e = .returned (.int .i64 (A.set hs ⟨kk, kn, ks⟩ ⟨vk, vn, vs⟩).2.2) ∧ TT w0 S hp (A.set hs ⟨kk, kn, ks⟩ ⟨vk, vn, vs⟩).1 B (A.set hs ⟨kk, kn, ks⟩ ⟨vk, vn, vs⟩).2.1 w' ∧ ∀ q, S q → w'.heap[q]? = w.heap[q]? := by
  subst hp'
  exact Set_t H hA hsz kk kn ks vk vn vs h64 _ rfl
def two (a b : Nat) (q : Nat) : Prop := q = a ∨ q = b
end Go.Proofs.YteheolefemlcgaaGreat
