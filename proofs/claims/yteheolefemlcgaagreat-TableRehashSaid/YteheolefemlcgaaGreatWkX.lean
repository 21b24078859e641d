/- walk.Next. -/
import Derived.Test.YteheolefemlcgaaGreatWkN
namespace Go.Proofs.YteheolefemlcgaaGreat
open Go.RowKit Go.Maps
set_option linter.unusedVariables false
set_option linter.unusedSimpArgs false

attribute [local go_sem] Oper.semAt_some
theorem chk_nil : errForm (okV ⟨0, 0, ⟨#[]⟩⟩) = 0 := by simp [errForm, okV]
/-- The three cells of a result. -/
structure R7 (W : World) (r1 r2 r3 : Nat) (x : V × V) (e : Int) : Prop where
  a0 : W.cell? ⟨r1, 0, none⟩ = some (.int .i64 x.1.k)
  a1 : W.cell? ⟨r1, 1, none⟩ = some (.int .i64 x.1.n)
  a2 : W.cell? ⟨r1, 2, none⟩ = some (.string x.1.s)
  b0 : W.cell? ⟨r2, 0, none⟩ = some (.int .i64 x.2.k)
  b1 : W.cell? ⟨r2, 1, none⟩ = some (.int .i64 x.2.n)
  b2 : W.cell? ⟨r2, 2, none⟩ = some (.string x.2.s)
  e0 : W.cell? ⟨r3, 0, none⟩ = some (.int .i64 e)
theorem R7.keep {W W' : World} {r1 r2 r3 : Nat} {x : V × V} {e : Int} (H : R7 W r1 r2 r3 x e) (h1 : W'.heap[r1]? = W.heap[r1]?) (h2 : W'.heap[r2]? = W.heap[r2]?) (h3 : W'.heap[r3]? = W.heap[r3]?) : R7 W' r1 r2 r3 x e :=
  ⟨(World.cell?_of_block (a := ⟨r1, _, none⟩) h1).trans H.a0, (World.cell?_of_block (a := ⟨r1, _, none⟩) h1).trans H.a1, (World.cell?_of_block (a := ⟨r1, _, none⟩) h1).trans H.a2, (World.cell?_of_block (a := ⟨r2, _, none⟩) h2).trans H.b0, (World.cell?_of_block (a := ⟨r2, _, none⟩) h2).trans H.b1, (World.cell?_of_block (a := ⟨r2, _, none⟩) h2).trans H.b2, (World.cell?_of_block (a := ⟨r3, _, none⟩) h3).trans H.e0⟩
theorem R7.own (B r1 r2 r3 : Nat) (x : V × V) (e : Int) {β : Type} : OwnFrom B (fun (_ : β) W => R7 W r1 r2 r3 x e) := fun u X Y row h hg hr =>
  ⟨own_cell B r1 0 _ u X Y row h.a0 hg hr, own_cell B r1 1 _ u X Y row h.a1 hg hr, own_cell B r1 2 _ u X Y row h.a2 hg hr, own_cell B r2 0 _ u X Y row h.b0 hg hr, own_cell B r2 1 _ u X Y row h.b1 hg hr, own_cell B r2 2 _ u X Y row h.b2 hg hr, own_cell B r3 0 _ u X Y row h.e0 hg hr⟩
theorem read_ph (t : Tbl) (k : V) : (t.read k).p = t.p ∧ (t.read k).hint = t.hint := by unfold Tbl.read; split <;> exact ⟨rfl, rfl⟩
/-- A Next has read what a Place reads. -/
def Tbl.nread (t : Tbl) (k : V) : Tbl := if okV k = true ∧ k.k ≠ 0 then t.read k else t
/-- The result's blocks lie empty. -/
def R3e (W : World) (r1 r2 r3 : Nat) : Prop := W.heap[r1]? = some (.cells #[.int .i64 0, .int .i64 0, .string ⟨#[]⟩] 35 (0, 0)) ∧ W.heap[r2]? = some (.cells #[.int .i64 0, .int .i64 0, .string ⟨#[]⟩] 35 (0, 0)) ∧ W.heap[r3]? = some (.cells #[.int .i64 0] 32 (0, 0))
theorem R3e.keep {W W' : World} {r1 r2 r3 : Nat} (H : R3e W r1 r2 r3) (h1 : W'.heap[r1]? = W.heap[r1]?) (h2 : W'.heap[r2]? = W.heap[r2]?) (h3 : W'.heap[r3]? = W.heap[r3]?) : R3e W' r1 r2 r3 := ⟨h1.trans H.1, h2.trans H.2.1, h3.trans H.2.2⟩
theorem R3e.own (B r1 r2 r3 : Nat) {β : Type} : OwnFrom B (fun (_ : β) W => R3e W r1 r2 r3) := fun u X Y row h hg hr =>
  ⟨own_cells B r1 _ _ u X Y row h.1 hg hr, own_cells B r2 _ _ u X Y row h.2.1 hg hr, own_cells B r3 _ _ u X Y row h.2.2 hg hr⟩
structure R3f (W : World) (r1 r2 r3 : Nat) : Prop where
  a0 : W.cell? ⟨r1, 0, none⟩ = some (.int .i64 0)
  a1 : W.cell? ⟨r1, 1, none⟩ = some (.int .i64 0)
  a2 : W.cell? ⟨r1, 2, none⟩ = some (.string ⟨#[]⟩)
  b0 : W.cell? ⟨r2, 0, none⟩ = some (.int .i64 0)
  b1 : W.cell? ⟨r2, 1, none⟩ = some (.int .i64 0)
  b2 : W.cell? ⟨r2, 2, none⟩ = some (.string ⟨#[]⟩)
  e0 : W.cell? ⟨r3, 0, none⟩ = some (.int .i64 0)
  fa : ∀ i, W.frozen? ⟨r1, i, none⟩ = false
  fb : ∀ i, W.frozen? ⟨r2, i, none⟩ = false
  fe : ∀ i, W.frozen? ⟨r3, i, none⟩ = false
theorem R3e.cells {W : World} {r1 r2 r3 : Nat} (H : R3e W r1 r2 r3) : R3f W r1 r2 r3 := by
  obtain ⟨h1, h2, h3⟩ := H
  constructor <;> simp [World.cell?, World.frozen?, h1, h2, h3, go_sem]
theorem fresh3 (w : World) (o : Obj) : R3e ((((w.alloc o).alloc (.cells #[.int .i64 0, .int .i64 0, .string ⟨#[]⟩] 35)).alloc (.cells #[.int .i64 0, .int .i64 0, .string ⟨#[]⟩] 35)).alloc (.cells #[.int .i64 0] 32)) (w.heap.size + 1) (w.heap.size + 1 + 1) (w.heap.size + 1 + 1 + 1) := by
  refine ⟨?_, ?_, ?_⟩
  · refine (Below.heap_alloc _ _ _ (by simp)).trans ((Below.heap_alloc _ _ _ (by simp)).trans ?_)
    have h := heap_alloc_new (w.alloc o) (.cells #[.int .i64 0, .int .i64 0, .string ⟨#[]⟩] 35)
    rw [World.size_alloc] at h; exact h
  · refine (Below.heap_alloc _ _ _ (by simp)).trans ?_
    have h := heap_alloc_new ((w.alloc o).alloc (.cells #[.int .i64 0, .int .i64 0, .string ⟨#[]⟩] 35)) (.cells #[.int .i64 0, .int .i64 0, .string ⟨#[]⟩] 35)
    rw [World.size_alloc, World.size_alloc] at h; exact h
  · have h := heap_alloc_new (((w.alloc o).alloc (.cells #[.int .i64 0, .int .i64 0, .string ⟨#[]⟩] 35)).alloc (.cells #[.int .i64 0, .int .i64 0, .string ⟨#[]⟩] 35)) (.cells #[.int .i64 0] 32)
    rw [World.size_alloc, World.size_alloc, World.size_alloc] at h; exact h
theorem R7.drewn {W : World} {r1 r2 r3 : Nat} {x : V × V} {e : Int} (H : R7 W r1 r2 r3 x e) : R7 W.drew r1 r2 r3 x e := H.keep rfl rfl rfl
theorem R7.set {W : World} {r1 r2 r3 : Nat} (H : R3f W r1 r2 r3) (n12 : ¬ r1 = r2) (n13 : ¬ r1 = r3) (n23 : ¬ r2 = r3) (yk yn : Int) (ys : ByteArray) (zk zn : Int) (zs : ByteArray) (e : Int) :
    R7 (((((((W.setCell ⟨r1, 0, none⟩ (.int .i64 yk)).setCell ⟨r1, 1, none⟩ (.int .i64 yn)).setCell ⟨r1, 2, none⟩ (.string ys)).setCell ⟨r2, 0, none⟩ (.int .i64 zk)).setCell ⟨r2, 1, none⟩ (.int .i64 zn)).setCell ⟨r2, 2, none⟩ (.string zs)).setCell ⟨r3, 0, none⟩ (.int .i64 e)) r1 r2 r3 (⟨yk, yn, ys⟩, ⟨zk, zn, zs⟩) e := by
  have m12 : ¬ r2 = r1 := fun h => n12 h.symm
  have m13 : ¬ r3 = r1 := fun h => n13 h.symm
  have m23 : ¬ r3 = r2 := fun h => n23 h.symm
  constructor
  all_goals repeat (first | rw [cell_set_self] | rw [World.cell?_setCell_other _ _ _ _ (by intro h; simp at h <;> omega)])
  · rw [H.a0]; rfl
  · rw [H.a1]; rfl
  · rw [H.a2]; rfl
  · rw [H.b0]; rfl
  · rw [H.b1]; rfl
  · rw [H.b2]; rfl
  · rw [H.e0]; rfl
theorem kp7 (W : World) (r1 r2 r3 : Nat) (v0 v1 v2 v3 v4 v5 v6 : Value) : Kp (fun z => z = r1 ∨ z = r2 ∨ z = r3) W (((((((W.setCell ⟨r1, 0, none⟩ v0).setCell ⟨r1, 1, none⟩ v1).setCell ⟨r1, 2, none⟩ v2).setCell ⟨r2, 0, none⟩ v3).setCell ⟨r2, 1, none⟩ v4).setCell ⟨r2, 2, none⟩ v5).setCell ⟨r3, 0, none⟩ v6) := by
  repeat (first | (with_reducible exact Kp.refl _ _) | (with_reducible refine Kp.set ?_ _ (.inl (.inl rfl)) _) | (with_reducible refine Kp.set ?_ _ (.inl (.inr (.inl rfl))) _) | (with_reducible refine Kp.set ?_ _ (.inl (.inr (.inr rfl))) _))
theorem below_kpHi {B : Nat} {w W Y : World} {F : Nat → Prop} (hB : Below B w W) (hk : Kp F W Y) (hF : ∀ z, F z → B ≤ z) (hs : B ≤ W.heap.size) : Below B w Y :=
  ⟨hk.os.trans hB.os, hk.tape.trans hB.tape, hk.output.trans hB.output, Nat.le_trans hB.size hk.size, fun z hz => (hk.block z (Nat.lt_of_lt_of_le hz hs) (fun e => by have := hF z e; omega)).trans (hB.block z hz)⟩
theorem nx_of {p : PT} {lo k j tot : Nat} (ht : lo + tot = p.tot) (hk : k < tot) (hf : p.full (lo + 1 + k)) (hj : p.pos lo k ++ [lo + 1 + k] = [j]) : p.nx lo = j := by
  have hl := congrArg List.length hj
  simp only [List.length_append, List.length_singleton] at hl
  have h0 : p.pos lo k = [] := List.eq_nil_of_length_eq_zero (by omega)
  rw [h0] at hj
  have e : lo + 1 + k = j := by simpa using hj
  subst e
  refine nx_some (by omega) (by omega) hf (fun i h1 h2 hi => ?_)
  have : i ∈ p.pos lo k := pos_mem.2 ⟨h1, by omega, hi⟩
  rw [h0] at this; simp at this
theorem next_end (W : World) (D r1 r2 r3 : Nat) (tmps : Array Value) (R : Ending → World → Prop) (x : V × V) (e : Int) (h4 : tmps[4]? = some (.pointer (some ⟨r1, 0, none⟩))) (h5 : tmps[5]? = some (.pointer (some ⟨r2, 0, none⟩))) (h6 : tmps[6]? = some (.pointer (some ⟨r3, 0, none⟩)))
    (h7 : R7 W r1 r2 r3 x e) (hD : W.heap[D]? = some (.deferred (some []))) (hne : D ≠ r1 ∧ D ≠ r2 ∧ D ≠ r3) (hR : R (.returned (.tuple #[vagg x.1, vagg x.2, .int .i64 e])) (W.putObj D (.deferred none))) :
    bodyPostM Fence.wide 4 Tryz.prog Tryz.f24 R .ret { tmps := tmps, defers := [{ target := .collected D, args := #[] }] } W := by
  have hk : ∀ r, D ≠ r → r < W.heap.size → (W.putObj D (.deferred none)).heap[r]? = W.heap[r]? := fun r h hl => (grownBy_putObj' W D (.deferred none)).block r hl (fun e => h (Option.some.inj e).symm)
  have h8 := h7.keep (hk r1 hne.1 (lt_cell h7.a0)) (hk r2 hne.2.1 (lt_cell h7.b0)) (hk r3 hne.2.2 (lt_cell h7.e0))
  refine ⟨by simp, .inl ⟨_, _, rfl, run_takeDeferred hD, ?_⟩⟩
  generalize W.putObj D (.deferred none) = W' at h8 hR ⊢
  refine ⟨_, ?_, hR⟩
  obtain ⟨a0, a1, a2, b0, b1, b2, e0⟩ := h8
  unfold vagg
  clear h7 hD hne hR hk
  simp [results, Tryz.results24, go_sem, *]
set_option maxRecDepth 100000 in
set_option maxHeartbeats 3200000 in
/-- Next of Nil: the first pair. -/
theorem walk_Next_nil (P : Option Addr) (p : PT) (w : World) (H : Tb w P p) :
    Calls Tryz.prog 24 #[.pointer P, .agg #[.int .i64 0, .int .i64 0, .string ⟨#[]⟩]] w fun e w' => e = .returned (.tuple #[vagg (p.pair ((p.nx 0 : Nat) : Int)).1, vagg (p.pair ((p.nx 0 : Nat) : Int)).2, .int .i64 0]) ∧ Below w.heap.size w w' := by
  refine (callsIn_wide (n := 4)).1 ?_
  have hro : Fence.wide.round = none := rfl
  have HH := Lib.hid H
  have hB0 : Below w.heap.size w ((((w.alloc (.cells #[.int .i64 0, .int .i64 0, .string ⟨#[]⟩] 35)).alloc (.cells #[.int .i64 0, .int .i64 0, .string ⟨#[]⟩] 35)).alloc (.cells #[.int .i64 0, .int .i64 0, .string ⟨#[]⟩] 35)).alloc (.cells #[.int .i64 0] 32)) := ((((Below.refl _ w).alloc (Nat.le_refl _) _).alloc (by simp) _).alloc (by simp; omega) _).alloc (by simp; omega) _
  have hR0 : R3e ((((w.alloc (.cells #[.int .i64 0, .int .i64 0, .string ⟨#[]⟩] 35)).alloc (.cells #[.int .i64 0, .int .i64 0, .string ⟨#[]⟩] 35)).alloc (.cells #[.int .i64 0, .int .i64 0, .string ⟨#[]⟩] 35)).alloc (.cells #[.int .i64 0] 32)) (w.heap.size + 1) (w.heap.size + 1 + 1) (w.heap.size + 1 + 1 + 1) := fresh3 w _
  have hS0 : ((((w.alloc (.cells #[.int .i64 0, .int .i64 0, .string ⟨#[]⟩] 35)).alloc (.cells #[.int .i64 0, .int .i64 0, .string ⟨#[]⟩] 35)).alloc (.cells #[.int .i64 0, .int .i64 0, .string ⟨#[]⟩] 35)).alloc (.cells #[.int .i64 0] 32)).heap.size = w.heap.size + 4 := by simp
  have hK0 : ((((w.alloc (.cells #[.int .i64 0, .int .i64 0, .string ⟨#[]⟩] 35)).alloc (.cells #[.int .i64 0, .int .i64 0, .string ⟨#[]⟩] 35)).alloc (.cells #[.int .i64 0, .int .i64 0, .string ⟨#[]⟩] 35)).alloc (.cells #[.int .i64 0] 32)).cell? ⟨w.heap.size, 0, none⟩ = some (.int .i64 0) := by simp [go_sem]
  have HB0 := Lib.hid hB0; have HR0 := Lib.hid hR0; have HS0 := Lib.hid hS0; have HK0 := Lib.hid hK0
  clear H hB0 hR0 hS0 hK0
  refine callsIn_of_wp_marks Tryz.func24 rfl trivial ?_ hro
  simp only [Tryz.ntmps24, List.size_toArray, List.length_cons, List.length_nil, Nat.reduceAdd, Nat.reduceSub, Array.replicate_succ, Array.replicate_zero, List.push_toArray, List.append_toArray, List.nil_append, List.cons_append]
  gi_wp2_with fail
  refine ⟨trivial, ?_⟩
  (refine (callsIn_wide.2 (box_Check_c 0 0 ⟨#[]⟩ 0 chk_nil _)).mono ?_)
  rintro e w2 ⟨rfl, hb⟩
  have HB2 := Lib.hid (HB0.out.trans (hb.mono HB0.out.size))
  have HR2 := Lib.hid (HR0.out.keep (hb.block _ (by rw [HS0.out]; omega)) (hb.block _ (by rw [HS0.out]; omega)) (hb.block _ (by rw [HS0.out]; omega)))
  have HS2 : Hid (w.heap.size + 4 ≤ w2.heap.size) := Lib.hid (by have := hb.size; rw [HS0.out] at this; exact this)
  have hk0 := (hb.cell (p := ⟨w.heap.size, 0, none⟩) (by rw [HS0.out]; show w.heap.size < _; omega)).trans HK0.out
  clear hb HB0 HR0 HS0 HK0
  gi_wp2_with fail
  refine ⟨trivial, ?_⟩
  (refine (callsIn_wide.2 (walk_behind P 0 _)).mono ?_)
  rintro e w' ⟨rfl, rfl⟩
  gi_wp2_with fail
  have hB3 : Below w.heap.size w ((w2.alloc (.cells #[.pointer P] 27)).alloc (.cells #[.int .i64 0] 3)) := (HB2.out.alloc HB2.out.size _).alloc (by rw [World.size_alloc]; have := HB2.out.size; omega) _
  have hb3 : Below w2.heap.size w2 ((w2.alloc (.cells #[.pointer P] 27)).alloc (.cells #[.int .i64 0] 3)) := ((Below.refl _ w2).alloc (Nat.le_refl _) _).alloc (by rw [World.size_alloc]; omega) _
  have hR3 : R3e ((w2.alloc (.cells #[.pointer P] 27)).alloc (.cells #[.int .i64 0] 3)) (w.heap.size + 1) (w.heap.size + 1 + 1) (w.heap.size + 1 + 1 + 1) := HR2.out.keep (hb3.block _ (by have := HS2.out; omega)) (hb3.block _ (by have := HS2.out; omega)) (hb3.block _ (by have := HS2.out; omega))
  have hS3 : ((w2.alloc (.cells #[.pointer P] 27)).alloc (.cells #[.int .i64 0] 3)).heap.size = w2.heap.size + 2 := by simp
  have c1 : ((w2.alloc (.cells #[.pointer P] 27)).alloc (.cells #[.int .i64 0] 3)).cell? ⟨w2.heap.size, 0, none⟩ = some (.pointer P) := by simp [go_sem]
  have c2 : ((w2.alloc (.cells #[.pointer P] 27)).alloc (.cells #[.int .i64 0] 3)).cell? ⟨w2.heap.size + 1, 0, none⟩ = some (.int .i64 0) := by simp [go_sem]
  have HB3 := Lib.hid hB3; have HR3 := Lib.hid hR3
  clear hB3 hb3 hR3
  generalize ((w2.alloc (.cells #[.pointer P] 27)).alloc (.cells #[.int .i64 0] 3)) = W1 at *
  have hsm := HH.out.small
  obtain ⟨G, hG, hseq⟩ := HH.out.stops HB3.out 3 (by decide) (w2.heap.size + 1) w2.heap.size 0 p.tot (by omega) c2 c1 (by omega) (by omega)
  have HG : Hid (∀ q, G q → q < w.heap.size ∨ q = w2.heap.size + 1 ∨ q = w2.heap.size) := Lib.hid hG
  have HSZ := Lib.hid hS3
  have HSM := Lib.hid hsm
  have hGl : ∀ q, G q → q < W1.heap.size := fun q hq => by have := HS2.out; rcases HG.out q hq with h | h | h <;> omega
  have HX : Hid (w.heap.size + 4 ≤ W1.heap.size) := Lib.hid (by have := HS2.out; omega)
  clear hG hsm c1 c2 hk0
  refine range_pairs 27 8 p (gf := 104) (lb := #[.pointer (some ⟨w2.heap.size + 1, 0, none⟩), .pointer (some ⟨w2.heap.size, 0, none⟩)]) rfl (enters_of Tryz.func104 (by kernel_rfl) rfl) W1.heap.size 0 p.tot hseq hGl rfl
    (fun pre W => pre = [] ∧ Below w.heap.size w W ∧ W1.heap.size ≤ W.heap.size ∧ R3e W (w.heap.size + 1) (w.heap.size + 1 + 1) (w.heap.size + 1 + 1 + 1))
    (fun c pre W => c = .ret ∧ ∃ j, pre = [j] ∧ Below w.heap.size w W ∧ R7 W (w.heap.size + 1) (w.heap.size + 1 + 1) (w.heap.size + 1 + 1 + 1) (p.pair ((j : Nat) : Int)) 0)
    (fun pre X Y row h hg hr => ⟨h.1, (ownFrom_below (β := Unit) (Nat.le_refl _) (by have := HX.out; omega)) () X Y row h.2.1 hg hr, own_size (β := Unit) _ _ () X Y row h.2.2.1 hg hr, R3e.own (β := Unit) _ _ _ _ () X Y row h.2.2.2 hg hr⟩)
    (fun c pre X Y row ⟨h1, j, h2, h3, h4⟩ hg hr => ⟨h1, j, h2, (ownFrom_below (β := Unit) (Nat.le_refl _) (by have := HX.out; omega)) () X Y row h3 hg hr, R7.own (β := Unit) _ _ _ _ _ _ () X Y row h4 hg hr⟩)
    ⟨rfl, HB3.out, Nat.le_refl _, HR3.out⟩ ?_ ?_ ?_ ?_
  · rintro l pre x W K ⟨hp, hB, hsz', hR⟩ hK
    have HK := Lib.hid hK; have HP := Lib.hid hp; have HRW := Lib.hid hR; have HB := Lib.hid hB; have HS := Lib.hid hsz'
    clear hK hp hR hB hsz'
    unfold pairX
    gi_wp2
    have hb := (Below.refl W.heap.size W).alloc (Nat.le_refl _) (.cells #[.int .i64 (p.pair (x : Nat)).1.k, .int .i64 (p.pair (x : Nat)).1.n, .string (p.pair (x : Nat)).1.s, .int .i64 (p.pair (x : Nat)).2.k, .int .i64 (p.pair (x : Nat)).2.n, .string (p.pair (x : Nat)).2.s] 135)
    have hx := HX.out; have hs := HS.out
    refine HK.out _ _ (keepsFrom_below hb) (keepG_below hb (fun q hq => Nat.lt_of_lt_of_le (hGl q hq) HS.out)) ⟨HP.out, HB.out.trans (hb.mono HB.out.size), Nat.le_trans HS.out hb.size, HRW.out.keep (hb.block _ (by omega)) (hb.block _ (by omega)) (hb.block _ (by omega))⟩ ⟨W.heap.size, ⟨HS.out, heap_alloc_new W _⟩, by rfl⟩
  · rintro l pre x a' W ⟨rfl, hB, hsz', hR⟩ ⟨q, hq, rfl⟩ hlt
    have hxx := HX.out
    have hq1 := hq.1
    have HQ := Lib.hid hq; have HB := Lib.hid hB; have HR := Lib.hid hR; have HS := Lib.hid hsz'
    unfold pairX
    obtain ⟨c0, c1, c2, c3, c4, c5⟩ := hq.c6
    simp only [Nat.zero_add] at c1 c2 c3 c4 c5
    obtain ⟨a0, a1, a2, b0, b1, b2, e0, fa, fb, fe⟩ := hR.cells
    have fa0 := fa 0; have fa1 := fa 1; have fa2 := fa 2; have fb0 := fb 0; have fb1 := fb 1; have fb2 := fb 2; have fe0 := fe 0
    have n1 : ¬ q = w.heap.size + 1 := by omega
    have n2 : ¬ q = w.heap.size + 1 + 1 := by omega
    have n3 : ¬ q = w.heap.size + 1 + 1 + 1 := by omega
    have n12 : ¬ w.heap.size + 1 = w.heap.size + 1 + 1 := by omega
    have n13 : ¬ w.heap.size + 1 = w.heap.size + 1 + 1 + 1 := by omega
    have n23 : ¬ w.heap.size + 1 + 1 = w.heap.size + 1 + 1 + 1 := by omega
    have HLW : Hid (∀ z, z = w.heap.size + 1 ∨ z = w.heap.size + 1 + 1 ∨ z = w.heap.size + 1 + 1 + 1 → w.heap.size ≤ z ∧ z < W1.heap.size) := Lib.hid (fun z hz => by rcases hz with h | h | h <;> omega)
    have HKPB : Hid (∀ Y : World, Kp (fun z => z = w.heap.size + 1 ∨ z = w.heap.size + 1 + 1 ∨ z = w.heap.size + 1 + 1 + 1) W Y → KeepsFrom W1.heap.size W Y ∧ Below w.heap.size w Y) := Lib.hid (fun Y hk => by
      refine ⟨keepsFrom_kp hk (fun z hz => (HLW.out z hz).2), ?_⟩
      exact ⟨hk.os.trans HB.out.os, hk.tape.trans HB.out.tape, hk.output.trans HB.out.output, Nat.le_trans HB.out.size hk.size, fun z hz => (hk.block z (Nat.lt_of_lt_of_le hz HB.out.size) (fun e => by have := (HLW.out z e).1; omega)).trans (HB.out.block z hz)⟩)
    have HRF := Lib.hid hR.cells
    have HNN := Lib.hid (And.intro n12 (And.intro n13 n23))
    clear fa fb fe hq hB hR hlt hsz' hxx hq1
    generalize w.heap.size + 1 + 1 + 1 = r3 at *
    generalize w.heap.size + 1 + 1 = r2 at *
    generalize w.heap.size + 1 = r1 at *
    have m1 : ¬ r1 = q := fun e => n1 e.symm
    have m2 : ¬ r2 = q := fun e => n2 e.symm
    have m3 : ¬ r3 = q := fun e => n3 e.symm
    have m12 : ¬ r2 = r1 := fun e => n12 e.symm
    have m13 : ¬ r3 = r1 := fun e => n13 e.symm
    have m23 : ¬ r3 = r2 := fun e => n23 e.symm
    obtain ⟨z, hz⟩ : ∃ z, p.pair ((x : Nat) : Int) = z := ⟨_, rfl⟩
    rw [hz] at c0 c1 c2 c3 c4 c5
    have HZ := Lib.hid hz
    obtain ⟨⟨yk, yn, ys⟩, ⟨zk, zn, zs⟩⟩ := z
    dsimp only at c0 c1 c2 c3 c4 c5
    gi_wp2
    gi_region
    all_goals gi_wp2
    all_goals refine ⟨(HKPB.out _ ?_).1, rfl, x, rfl, (HKPB.out _ ?_).2, ?_⟩
    all_goals first
      | (rw [HZ.out]; with_reducible exact (R7.set HRF.out HNN.out.1 HNN.out.2.1 HNN.out.2.2 yk yn ys zk zn zs 0).drewn)
      | (with_reducible exact (kp7 _ _ _ _ _ _ _ _ _ _ _).drewn)
  · rintro D W hD ⟨hnil, hB, hsz', hR⟩ hK
    obtain ⟨a0, a1, a2, b0, b1, b2, e0, fa, fb, fe⟩ := hR.cells
    have fa0 := fa 0; have fa1 := fa 1; have fa2 := fa 2; have fb0 := fb 0; have fb1 := fb 1; have fb2 := fb 2; have fe0 := fe 0
    have hx := HX.out
    have HHK := Lib.hid hK; have HB := Lib.hid hB; have HRF := Lib.hid hR.cells
    have HNX : Hid (p.pair ((p.nx 0 : Nat) : Int) = (⟨0, 0, ⟨#[]⟩⟩, ⟨0, 0, ⟨#[]⟩⟩)) := Lib.hid (by
      have e : p.nx 0 = 0 := by unfold PT.nx; rw [Nat.sub_zero, hnil]; rfl
      rw [e]; exact pair_zero)
    clear hB hR hnil hK
    gi_wp2
    have hkp := kp7 W (w.heap.size + 1) (w.heap.size + 1 + 1) (w.heap.size + 1 + 1 + 1) (.int .i64 0) (.int .i64 0) (.string ⟨#[]⟩) (.int .i64 0) (.int .i64 0) (.string ⟨#[]⟩) (.int .i64 0)
    have hdd := (hkp.block D (Array.getElem?_eq_some_iff.1 HHK.out).1 (by omega)).trans HHK.out
    have hbb := (below_kpHi HB.out hkp (fun z hz => by omega) HB.out.size).trans (belowK_b (w := w) (Nat.le_refl _) _ D _ (.deferred none) (by omega) hdd rfl rfl)
    have hr7 := R7.set HRF.out (show ¬ w.heap.size + 1 = w.heap.size + 1 + 1 by omega) (show ¬ w.heap.size + 1 = w.heap.size + 1 + 1 + 1 by omega) (show ¬ w.heap.size + 1 + 1 = w.heap.size + 1 + 1 + 1 by omega) 0 0 ⟨#[]⟩ 0 0 ⟨#[]⟩ 0
    exact next_end _ D (w.heap.size + 1) (w.heap.size + 1 + 1) (w.heap.size + 1 + 1 + 1) _ _ (⟨0, 0, ⟨#[]⟩⟩, ⟨0, 0, ⟨#[]⟩⟩) 0 rfl rfl rfl hr7 hdd ⟨by omega, by omega, by omega⟩ ⟨by rw [HNX.out], hbb⟩
  · rintro D c pre W hD ⟨k, hk, hf, rfl⟩ ⟨rfl, j, hj, hB, hR⟩ hK
    have hx := HX.out
    have HHK := Lib.hid hK; have HB := Lib.hid hB; have HRR := Lib.hid hR
    have HNX : Hid (p.nx 0 = j) := Lib.hid (nx_of (by omega) hk hf hj)
    clear hB hR hj hK
    gi_wp2
    refine next_end W D (w.heap.size + 1) (w.heap.size + 1 + 1) (w.heap.size + 1 + 1 + 1) _ _ (p.pair ((j : Nat) : Int)) 0 rfl rfl rfl HRR.out HHK.out ⟨by omega, by omega, by omega⟩ ⟨by rw [HNX.out], HB.out.trans (belowK_b (w := w) (Nat.le_refl _) W D _ _ (by omega) HHK.out rfl rfl)⟩
end Go.Proofs.YteheolefemlcgaaGreat
