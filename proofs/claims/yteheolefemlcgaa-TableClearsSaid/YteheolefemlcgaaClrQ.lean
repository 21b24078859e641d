/- TableClears: its state, its calls. -/
import Derived.Test.YteheolefemlcgaaClrF
import Derived.Test.YteheolefemlcgaaClrP
import Derived.Test.YteheolefemlcgaaBeg2
import Derived.Test.YteheolefemlcgaaWkB
namespace Go.Proofs.Yteheolefemlcgaa
open Go.RowKit Go.Maps
set_option linter.unusedVariables false
set_option linter.unusedSimpArgs false

theorem FIT.bound {a h : Nat} {l : List V} (F : FIT a h l) : a ≤ 2 * l.length ∧ h ≤ 2 * l.length := by
  have h1 := cntK_le l a
  refine ⟨?_, ?_⟩
  · by_cases e : 0 < a
    · have := F.de e; omega
    · omega
  · rcases F.rs with ⟨-, h0⟩ | ⟨h2, -, h3, h4⟩ <;> omega
theorem kys_le {p : PT} (H : p.ok) {L : List V} (hL : ∀ k, (p.get k).k ≠ 0 → k ∈ L) : p.kys.length ≤ L.length :=
  List.Nodup.length_le_of_subset (PT.kys_nodup H) (fun k hk => hL k ((PT.kys_mem H).1 hk))
/-- The table of the law with cells enough. -/
structure CQ (w0 : World) (S : Nat → Prop) (hp a : Nat) (t : Tbl) (hs : HS) (n : Nat) (w : World) : Prop where
  bs : BS w0 S hp a t hs n w
  lim : hs.lim = 400000
  cl : t.p.cells ≤ 10000
theorem bare_get (hs : HS) (m n : Int) (hg : (newT hs m n).p.ok) (k : V) : (newT hs m n).get k = nilV := by
  show (newT hs m n).p.get k = nilV
  by_cases hb : (newT hs m n).p.inB k
  · rw [PT.get_in hb]; rfl
  · rw [PT.get_out hb]
    exact PH.get_no hg.hg k (fun i hi => absurd rfl hi)
/-- The sizes behind a Set among few keys. -/
theorem set_cells {t : Tbl} {hs : HS} (H : t.p.ok) (hc : t.p.cells ≤ 10000) {L : List V} (hL : ∀ k, (t.get k).k ≠ 0 → k ∈ L) (hl : L.length ≤ 1000) {k v : V} (h64 : In64 k.n) :
    (t.set hs k v).1.p.cells ≤ 10000 ∧ ∀ k', ((t.set hs k v).1.get k').k ≠ 0 → k' ∈ k :: L := by
  obtain ⟨s1, s2, s3⟩ := Tbl.set_is (hs := hs) (v := v) H h64
  have hL' : ∀ k', ((t.set hs k v).1.get k').k ≠ 0 → k' ∈ k :: L := fun k' h => by
    by_cases e : (t.set hs k v).2.2 = 0
    · rw [s2 e] at h
      by_cases ek : k' = k
      · exact ek ▸ List.mem_cons_self
      · rw [if_neg ek] at h
        exact List.mem_cons_of_mem _ (hL k' h)
    · rw [s3 e] at h
      exact List.mem_cons_of_mem _ (hL k' h)
  refine ⟨?_, hL'⟩
  unfold PT.cells
  rcases set_sizes (hs := hs) (v := v) H h64 with ⟨-, -, F, -⟩ | ⟨-, e1, e2, -⟩
  · obtain ⟨b1, b2⟩ := F.bound
    have b3 := kys_le s1 hL'
    simp only [List.length_cons] at b3
    omega
  · rw [e1, e2]; exact hc
section
variable {w0 w w' : World} {S : Nat → Prop} {hp a n : Nat} {t : Tbl} {hs : HS}
theorem CQ.below (H : CQ w0 S hp a t hs n w) (hb : Below w.heap.size w w') : CQ w0 S hp a t hs n w' := ⟨H.bs.below hb, H.lim, H.cl⟩
theorem CQ.mono {m : Nat} (H : CQ w0 S hp a t hs n w) (h : n ≤ m) : CQ w0 S hp a t hs m w := ⟨H.bs.mono h, H.lim, H.cl⟩
theorem CQ.reserve {S' : Nat → Prop} (H : CQ w0 S hp a t hs n w) (hb : Below w.heap.size w w') (hS' : ∀ q, S' q → q < w'.heap.size ∧ (S q ∨ w.heap.size ≤ q)) : CQ w0 S' hp a t hs n w' := ⟨H.bs.reserve hb hS', H.lim, H.cl⟩
theorem CQ.live (H : CQ w0 S hp a t hs n w) : hs.live = 4 + t.p.cells := by have := H.bs.k.live; rw [this]; exact Int.add_zero _
theorem CQ.ok (H : CQ w0 S hp a t hs n w) : t.p.ok := H.bs.ok
theorem CQ.bel (H : CQ w0 S hp a t hs n w) : Below w0.heap.size w0 w := H.bs.bel
/-- Any Set among few keys. -/
theorem CQ.set (H : CQ w0 S hp a t hs n w) (hn : n ≤ 800000) {L : List V} (hL : ∀ k, (t.get k).k ≠ 0 → k ∈ L) (hl : L.length ≤ 1000) (kk kn : Int) (ks : ByteArray) (vk vn : Int) (vs : ByteArray) (h64 : In64 kn) :
    Calls Try.prog 23 #[.pointer (some ⟨a, 0, none⟩), .agg #[.int .i64 kk, .int .i64 kn, .string ks], .agg #[.int .i64 vk, .int .i64 vn, .string vs]] w fun e w' => ∃ t' hs' z, e = .returned (.int .i64 z) ∧ CQ w0 S hp a t' hs' (n + 2) w' ∧ (∀ k', (t'.get k').k ≠ 0 → k' ∈ ⟨kk, kn, ks⟩ :: L) ∧ ∀ q, S q → w'.heap[q]? = w.heap[q]? := by
  obtain ⟨t1, t2, t3⟩ := H.bs.k.a _ rfl
  obtain ⟨f1, f2⟩ := set_cells (hs := hs) (k := ⟨kk, kn, ks⟩) (v := ⟨vk, vn, vs⟩) t1 H.cl hL hl h64
  obtain ⟨-, -, d3, -⟩ := set_held (k := ⟨kk, kn, ks⟩) (v := ⟨vk, vn, vs⟩) ⟨t1, t2, H.bs.k.hok, H.bs.k.sz⟩ t3 h64
  refine (BS.set H.bs hn kk kn ks vk vn vs h64).mono ?_
  rintro e w' ⟨he, hx, hk⟩
  exact ⟨_, _, _, he, ⟨hx, d3.trans H.lim, f1⟩, f2, hk⟩
/-- A full place is cleared. -/
theorem free_here {p : PT} {k : V} {v : V} (hk : okV k = true) (hv : okV v = true) (hk0 : k.k ≠ 0) (hg : (p.get k).k ≠ 0) : (p.put k v).1.h.free = p.h.free := by
  by_cases hb : p.inB k
  · rw [PT.put_in hb]
  · rw [PT.put_out hb]
    show (p.h.put k v).1.free = _
    cases e : (p.h.findA k).1 with
    | some m =>
      unfold PH.put
      rw [if_neg (by rw [hk, hv]; simp), if_neg hk0, e]
      rfl
    | none =>
      exfalso; apply hg
      unfold PT.get; rw [if_neg hb]; unfold PH.get; rw [e]; rfl
/-- The table behind clearing the places up to k: nothing that can be seen of its layout turns. -/
structure CLQ (t0 t : Tbl) (k : Nat) : Prop where
  c : CLR t0.p t.p k
  f : t.p.h.free = t0.p.h.free
  h : t.hint = t0.hint
theorem CLQ.start (t : Tbl) : CLQ t t 0 := ⟨CLR.start _, rfl, rfl⟩
theorem CQ.clear {t0 : Tbl} {k : Nat} (H : CQ w0 S hp a t hs n w) (hn : n ≤ 800000) (C : CLQ t0 t k) (h : t.p.full (k + 1)) (kk kn : Int) (ks : ByteArray) (hk : (t.p.pair ((k + 1 : Nat) : Int)).1 = ⟨kk, kn, ks⟩) :
    Calls Try.prog 23 #[.pointer (some ⟨a, 0, none⟩), .agg #[.int .i64 kk, .int .i64 kn, .string ks], .agg #[.int .i64 0, .int .i64 0, .string ⟨#[]⟩]] w fun e w' => ∃ t' hs', e = .returned (.int .i64 0) ∧ CQ w0 S hp a t' hs' (n + 2) w' ∧ CLQ t0 t' (k + 1) ∧ ∀ q, S q → w'.heap[q]? = w.heap[q]? := by
  obtain ⟨t1, t2, t3⟩ := H.bs.k.a _ rfl
  obtain ⟨k1, k2, k3⟩ := key_full t1 h
  obtain ⟨g1, g2⟩ := C.c.clear t1 h
  have hg : (t.p.get (t.p.pair ((k + 1 : Nat) : Int)).1).k ≠ 0 := by rw [get_full t1 h]; exact h
  have hfr := free_here (v := nilV) k2 okV_nilV k1 hg
  rw [hk] at k1 k2 k3 g1 g2 hfr
  obtain ⟨e1, e2⟩ := set_here (hs := hs) (v := nilV) k2 okV_nilV g1
  have he0 : (t.set hs ⟨kk, kn, ks⟩ nilV).2.2 = 0 := by
    unfold Tbl.set
    rw [if_neg (by rw [k2, okV_nilV]; simp), if_pos (by rw [g1]; decide)]
    exact g1
  have hh : (t.set hs ⟨kk, kn, ks⟩ nilV).1.hint = t.hint := by
    unfold Tbl.set
    rw [if_neg (by rw [k2, okV_nilV]; simp), if_pos (by rw [g1]; decide)]
    rfl
  obtain ⟨-, -, d3, -⟩ := set_held (k := ⟨kk, kn, ks⟩) (v := nilV) ⟨t1, t2, H.bs.k.hok, H.bs.k.sz⟩ t3 k3
  refine (BS.set H.bs hn kk kn ks 0 0 ⟨#[]⟩ k3).mono ?_
  rintro e w' ⟨he, hx, hk'⟩
  refine ⟨_, _, ?_, ⟨hx, d3.trans H.lim, ?_⟩, ⟨?_, ?_, hh.trans C.h⟩, hk'⟩
  · rw [he]; exact congrArg (fun x => Ending.returned (.int .i64 x)) he0
  · show (t.set hs ⟨kk, kn, ks⟩ nilV).1.p.cells ≤ 10000
    rw [e1]
    have := H.cl
    unfold PT.cells at this ⊢
    rw [g2.sn, g2.n, ← C.c.sn, ← C.c.n]
    exact this
  · show CLR t0.p (t.set hs ⟨kk, kn, ks⟩ nilV).1.p (k + 1)
    rw [e1]; exact g2
  · show (t.set hs ⟨kk, kn, ks⟩ nilV).1.p.h.free = _
    rw [e1, hfr]; exact C.f
theorem CLQ.pass {t0 : Tbl} {k : Nat} (C : CLQ t0 t k) (h : ¬ t.p.full (k + 1)) : CLQ t0 t (k + 1) := ⟨C.c.pass h, C.f, C.h⟩
theorem CLQ.tot {t0 : Tbl} {k : Nat} (C : CLQ t0 t k) : t.p.tot = t0.p.tot := by unfold PT.tot; rw [C.c.sn, C.c.n]
theorem CLQ.none {t0 : Tbl} (C : CLQ t0 t t0.p.tot) : t.p.kys = [] := by
  unfold PT.kys
  have : t.p.pos 0 t.p.tot = [] := List.eq_nil_iff_forall_not_mem.2 (fun j hj => by
    obtain ⟨-, h2, h3⟩ := pos_mem.1 hj
    exact C.c.gone j (by rw [← C.tot]; omega) h3)
  rw [this]; rfl
theorem CLQ.dead {t0 : Tbl} (C : CLQ t0 t t0.p.tot) (Hp : t.p.ok) (k : V) (h : (t.get k).k ≠ 0) : k ∈ ([] : List V) := by
  have := (PT.kys_mem Hp (k := k)).2 h
  rw [C.none] at this
  exact this
/-- A new key: it goes in; where all nodes hold keys, the sizes fit behind it. -/
theorem CQ.add (H : CQ w0 S hp a t hs n w) (hn : n ≤ 800000) {L : List V} (hL : ∀ k, (t.get k).k ≠ 0 → k ∈ L) (hl : L.length ≤ 10000) (kk kn : Int) (ks : ByteArray) (vk vn : Int) (vs : ByteArray) (h64 : In64 kn) (hk : okV ⟨kk, kn, ks⟩ = true) (hv : okV ⟨vk, vn, vs⟩ = true) (hk0 : kk ≠ 0) (hv0 : vk ≠ 0) (hpl : t.p.place ⟨kk, kn, ks⟩ = 0) :
    Calls Try.prog 23 #[.pointer (some ⟨a, 0, none⟩), .agg #[.int .i64 kk, .int .i64 kn, .string ks], .agg #[.int .i64 vk, .int .i64 vn, .string vs]] w fun e w' => ∃ t' hs', e = .returned (.int .i64 0) ∧ BS w0 S hp a t' hs' (n + 2) w' ∧ (t.p.fullC = false → CQ w0 S hp a t' hs' (n + 2) w' ∧ t'.p.h.n = t.p.h.n ∧ ∀ k', (t'.get k').k ≠ 0 → k' ∈ ⟨kk, kn, ks⟩ :: L) ∧ (t.p.fullC = true → FIT t'.p.sn t'.p.h.n t'.p.kys ∧ t'.p.kys.length ≤ L.length + 1 ∧ t'.get ⟨kk, kn, ks⟩ = ⟨vk, vn, vs⟩) ∧ ∀ q, S q → w'.heap[q]? = w.heap[q]? := by
  obtain ⟨t1, t2, t3⟩ := H.bs.k.a _ rfl
  have he0 := set_goes (hs := hs) t1 H.bs.k.hok H.lim H.live H.cl hL hl (k := ⟨kk, kn, ks⟩) (v := ⟨vk, vn, vs⟩) hk hv hk0 h64
  obtain ⟨s1, s2, -⟩ := Tbl.set_is (hs := hs) (k := ⟨kk, kn, ks⟩) (v := ⟨vk, vn, vs⟩) t1 h64
  have hL' : ∀ k', ((t.set hs ⟨kk, kn, ks⟩ ⟨vk, vn, vs⟩).1.get k').k ≠ 0 → k' ∈ ⟨kk, kn, ks⟩ :: L := fun k' h => by
    rw [s2 he0] at h
    by_cases ek : k' = ⟨kk, kn, ks⟩
    · exact ek ▸ List.mem_cons_self
    · rw [if_neg ek] at h
      exact List.mem_cons_of_mem _ (hL k' h)
  obtain ⟨-, -, d3, -⟩ := set_held (k := ⟨kk, kn, ks⟩) (v := ⟨vk, vn, vs⟩) ⟨t1, t2, H.bs.k.hok, H.bs.k.sz⟩ t3 h64
  have hss := set_sizes (hs := hs) (k := ⟨kk, kn, ks⟩) (v := ⟨vk, vn, vs⟩) t1 h64
  refine (BS.set H.bs hn kk kn ks vk vn vs h64).mono ?_
  rintro e w' ⟨he, hx, hk'⟩
  refine ⟨_, _, ?_, hx, fun hf => ?_, fun hf => ?_, hk'⟩
  · rw [he]; exact congrArg (fun x => Ending.returned (.int .i64 x)) he0
  · rcases hss with ⟨-, ⟨-, -, -, -, h5, -⟩, -⟩ | ⟨-, e1, e2, -⟩
    · rw [fullC_iff.2 h5] at hf; simp at hf
    · refine ⟨⟨hx, d3.trans H.lim, ?_⟩, e2, hL'⟩
      have := H.cl
      unfold PT.cells at this ⊢
      rw [e1, e2]; exact this
  · rcases hss with ⟨-, -, F, -⟩ | ⟨h, -⟩
    · refine ⟨F, ?_, ?_⟩
      · have := kys_le s1 hL'
        simpa using this
      · rw [s2 he0, if_pos rfl]
    · rcases h with h | h
      · exact absurd he0 h
      · exact absurd ⟨hk, hv, hk0, hv0, fullC_iff.1 hf, hpl⟩ h
end
/-- begin, where the limit is the greatest one. -/
theorem law08_begin400 {W : World} {vx : Value} {x : CX} (f : CSA W vx x) (h1 : x.arr ≤ 2000 ∨ 65536 < x.arr) (h2 : x.hsh ≤ 2000 ∨ 65536 < x.hsh) (w0 w : World) (S : Nat → Prop) (hS : ∀ q, S q → q < w.heap.size) (hB : Below w0.heap.size w0 w) : Calls Try.prog 24 #[.agg #[.int .i64 400000, .int .i64 x.arr, .int .i64 x.hsh, .slice x.A x.l.length x.c]] w fun e w' => ∃ (hp : Nat) (P Q : Option Addr), e = .returned (.tuple #[.pointer P, .pointer (some ⟨hp, 0, none⟩), .pointer Q, .bool true]) ∧ ((P = none ∧ Below w0.heap.size w0 w') ∨ ∃ (a : Nat) (t : Tbl) (hs : HS), P = some ⟨a, 0, none⟩ ∧ CQ w0 S hp a t hs 3 w' ∧ ∀ k, t.get k = nilV) ∧ ∀ q, S q → w'.heap[q]? = w.heap[q]? := by
  have f2 : CSA W (CX.val ⟨400000, x.arr, x.hsh, x.A, x.c, x.l⟩) ⟨400000, x.arr, x.hsh, x.A, x.c, x.l⟩ := ⟨rfl, by show In64 400000; unfold In64; omega, f.l1, f.l2, f.le, f.mx, f.ops, f.in_⟩
  refine (law08_begin_is f2 (by show (0 : Int) ≤ 400000; omega) (by show (400000 : Int) ≤ 400000; omega) w0 w S hS hB).mono ?_
  rintro e w' ⟨A, hs, hp, P, Q, rfl, hP, hN, hh, hT, hA, hk⟩
  refine ⟨hp, P, Q, rfl, ?_, hk⟩
  rcases hN with ⟨rfl, -⟩ | ⟨a, rfl, he⟩
  · left
    exact ⟨by simpa [OT.ptr] using hP.symm, hT.bel⟩
  · right
    dsimp only at he hh hT hA
    have hok := newT_ok _ _ _ he
    refine ⟨a, _, hs, by simpa [OT.ptr] using hP.symm, ⟨⟨hT, hA, Int.le_refl _, by show (0 : Int) ≤ _; omega⟩, ?_, ?_⟩, bare_get _ _ _ hok⟩
    · rw [hh]
      unfold newE at he
      unfold newH
      by_cases hb : ¬ (0 ≤ x.arr ∧ x.arr ≤ 65536) ∨ ¬ (0 ≤ x.hsh ∧ x.hsh ≤ 65536)
      · rw [if_pos hb]; rfl
      · rw [if_neg hb] at he ⊢
        by_cases h4 : (HS.new 400000).roomE 4 ≠ 0
        · rw [if_pos h4]; rfl
        · rw [if_neg h4] at he ⊢
          rw [if_neg (by rw [he]; simp)]
          obtain ⟨-, -, b3, b4, -⟩ := HS.take_bears (HS.ok_new 400000 (by decide) (by decide)) (by simpa using h4 : (HS.new 400000).roomE 4 = 0)
          exact (layH_yes b3 he).2.2.1.trans b4
    · unfold newE at he
      by_cases hb : ¬ (0 ≤ x.arr ∧ x.arr ≤ 65536) ∨ ¬ (0 ≤ x.hsh ∧ x.hsh ≤ 65536)
      · rw [if_pos hb] at he; simp at he
      · show ((x.arr.toNat : Nat) : Int) + 3 * (((Ws.ceil2 x.hsh).toNat : Nat) : Int) ≤ 10000
        by_cases e : x.hsh = 0
        · rw [e]
          have : Ws.ceil2 0 = 0 := by decide
          rw [this]; simp; omega
        · obtain ⟨k, -, -, h2', -, -, h6, -⟩ := Ws.ceil2_k x.hsh (by omega) (by omega)
          rw [h2']
          have h3 : ((2 : Int) ^ k) = ((2 ^ k : Nat) : Int) := by simp
          rw [h3] at h6 ⊢
          have h7 : (2 : Nat) ^ k ≤ 2048 := by
            by_cases hk : k ≤ 11
            · exact Nat.le_trans (Nat.pow_le_pow_right (by omega) hk) (by decide)
            · exfalso
              have h8 : 4096 ≤ (2 : Nat) ^ k := Nat.le_trans (by decide) (Nat.pow_le_pow_right (by omega) (by omega : 12 ≤ k))
              generalize (2 : Nat) ^ k = q at h6 h8
              rw [show ((q : Int)).tdiv 2 = ((q / 2 : Nat) : Int) by rw [Int.tdiv_eq_ediv_of_nonneg (by omega)]; omega] at h6
              omega
          generalize (2 : Nat) ^ k = q at h7 ⊢
          omega
end Go.Proofs.Yteheolefemlcgaa
