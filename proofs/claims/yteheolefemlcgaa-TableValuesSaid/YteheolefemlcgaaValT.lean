/- Two tables, each on a heap of its own. -/
import Derived.Test.YteheolefemlcgaaBeg2
import Derived.Test.YteheolefemlcgaaDump
import Derived.Test.YteheolefemlcgaaValP
namespace Go.Proofs.Yteheolefemlcgaa
open Go.RowKit Go.Maps
set_option linter.unusedVariables false
set_option linter.unusedSimpArgs false

/-- A heap and a table on it, on the blocks F and D. -/
structure Pt (w : World) (hp a : Nat) (t : Tbl) (hs : HS) (F D : Nat → Prop) : Prop where
  hh : HeapAt F w hp hs
  tt : ∃ s b g, TabIn w a s b g hp t ∧ ∀ q, D q ↔ PB a s b g q
  ne : ∀ q, D q → ¬ F q
section
variable {w w' : World} {hp a : Nat} {t : Tbl} {hs : HS} {F D G : Nat → Prop}
theorem Pt.lt (H : Pt w hp a t hs F D) : ∀ q, F q ∨ D q → q < w.heap.size := fun q hq => hq.elim (H.hh.lt q) (fun h => by
  obtain ⟨s, b, g, hT, hD⟩ := H.tt
  exact hT.pt.lt ((hD q).1 h))
theorem Pt.keep (H : Pt w hp a t hs F D) (hk : Kp G w w') (hG : ∀ q, F q ∨ D q → ¬ G q) : Pt w' hp a t hs F D := by
  obtain ⟨s, b, g, hT, hD⟩ := H.tt
  exact ⟨H.hh.kp hk (fun q hq => hG q (.inl hq)), ⟨s, b, g, hT.kp hk (fun q hq => hG q (.inr ((hD q).2 hq))), hD⟩, H.ne⟩
theorem Pt.below (H : Pt w hp a t hs F D) (hb : Below w.heap.size w w') : Pt w' hp a t hs F D := H.keep (G := fun _ => False) ((Kp.refl _ w).below hb) (fun _ _ h => h)
end
/-- Two of them, apart; the blocks R are left alone. -/
structure T2 (W : World) (R : Nat → Prop) (p1 a1 p2 a2 : Nat) (t u : Tbl) (h1 h2 : HS) (w : World) : Prop where
  ex : ∃ F1 D1 F2 D2, Pt w p1 a1 t h1 F1 D1 ∧ Pt w p2 a2 u h2 F2 D2 ∧ (∀ q, F1 q ∨ D1 q → W.heap.size ≤ q ∧ ¬ R q) ∧ (∀ q, F2 q ∨ D2 q → W.heap.size ≤ q ∧ ¬ R q) ∧ ∀ q, F1 q ∨ D1 q → ¬ (F2 q ∨ D2 q)
  res : ∀ q, R q → q < w.heap.size
  bel : Below W.heap.size W w
section
variable {W w w' : World} {R : Nat → Prop} {p1 a1 p2 a2 : Nat} {t u : Tbl} {h1 h2 : HS}
theorem T2.swap (H : T2 W R p1 a1 p2 a2 t u h1 h2 w) : T2 W R p2 a2 p1 a1 u t h2 h1 w := by
  obtain ⟨⟨F1, D1, F2, D2, x1, x2, x3, x4, x5⟩, x6, x7⟩ := H
  exact ⟨⟨F2, D2, F1, D1, x2, x1, x4, x3, fun q h h' => x5 q h' h⟩, x6, x7⟩
theorem T2.below (H : T2 W R p1 a1 p2 a2 t u h1 h2 w) (hb : Below w.heap.size w w') : T2 W R p1 a1 p2 a2 t u h1 h2 w' := by
  obtain ⟨⟨F1, D1, F2, D2, x1, x2, x3, x4, x5⟩, x6, x7⟩ := H
  exact ⟨⟨F1, D1, F2, D2, x1.below hb, x2.below hb, x3, x4, x5⟩, fun q hq => Nat.lt_of_lt_of_le (x6 q hq) hb.size, below_step x7 hb⟩
/-- Further new blocks are left alone. -/
theorem T2.hold {R' : Nat → Prop} (H : T2 W R p1 a1 p2 a2 t u h1 h2 w) (hb : Below w.heap.size w w') (hR : ∀ q, R' q → q < w'.heap.size ∧ (R q ∨ w.heap.size ≤ q)) : T2 W R' p1 a1 p2 a2 t u h1 h2 w' := by
  obtain ⟨⟨F1, D1, F2, D2, x1, x2, x3, x4, x5⟩, x6, x7⟩ := H
  exact ⟨⟨F1, D1, F2, D2, x1.below hb, x2.below hb, fun q hq => ⟨(x3 q hq).1, fun h => (hR q h).2.elim (x3 q hq).2 (fun h => by have := x1.lt q hq; omega)⟩, fun q hq => ⟨(x4 q hq).1, fun h => (hR q h).2.elim (x4 q hq).2 (fun h => by have := x2.lt q hq; omega)⟩, x5⟩, fun q hq => (hR q hq).1, below_step x7 hb⟩
theorem T2.set (H : T2 W R p1 a1 p2 a2 t u h1 h2 w) (hok : t.p.ok) (hid : t.p.ids) (hsz : h1.sizes.length ≤ 800000) (kk kn : Int) (kst : ByteArray) (vk vn : Int) (vst : ByteArray) (h64 : In64 kn) :
    Calls Try.prog 23 #[.pointer (some ⟨a1, 0, none⟩), .agg #[.int .i64 kk, .int .i64 kn, .string kst], .agg #[.int .i64 vk, .int .i64 vn, .string vst]] w fun e w' => e = .returned (.int .i64 (t.set h1 ⟨kk, kn, kst⟩ ⟨vk, vn, vst⟩).2.2) ∧ T2 W R p1 a1 p2 a2 (t.set h1 ⟨kk, kn, kst⟩ ⟨vk, vn, vst⟩).1 u (t.set h1 ⟨kk, kn, kst⟩ ⟨vk, vn, vst⟩).2.1 h2 w' ∧ ∀ q, R q → w'.heap[q]? = w.heap[q]? := by
  obtain ⟨⟨F1, D1, F2, D2, x1, x2, x3, x4, x5⟩, x6, x7⟩ := H
  obtain ⟨s, b, g, hT, hD⟩ := x1.tt
  refine (tab_Set F1 a1 s b g p1 t h1 kk kn kst vk vn vst hok h64 hsz hid (fun q hq => x1.ne q ((hD q).2 hq)) _ rfl w hT x1.hh).mono ?_
  rintro e w' ⟨he, s', b', g', F', n1, n2, n3, n4, n5, n6⟩
  have hnew : ∀ q, w.heap.size ≤ q → W.heap.size ≤ q ∧ ¬ R q ∧ ¬ (F2 q ∨ D2 q) := fun q hq => ⟨Nat.le_trans x7.size hq, fun h => by have := x6 q h; omega, fun h => by have := x2.lt q h; omega⟩
  have hsub : ∀ q, F' q ∨ PB a1 s' b' g' q → (F1 q ∨ D1 q) ∨ w.heap.size ≤ q := fun q hq => hq.elim (fun h => (n5 q h).imp .inl id) (fun h => (n4 q h).imp (fun h => .inr ((hD q).2 h)) id)
  have hG : ∀ q, PB a1 s b g q ∨ F1 q → F1 q ∨ D1 q := fun q hq => hq.elim (fun h => .inr ((hD q).2 h)) .inl
  refine ⟨he, ⟨⟨F', PB a1 s' b' g', F2, D2, ⟨n2, ⟨s', b', g', n1, fun q => Iff.rfl⟩, n6⟩, x2.keep n3 (fun q hq h => x5 q (hG q h) hq), fun q hq => ?_, x4, fun q hq => ?_⟩, fun q hq => Nat.lt_of_lt_of_le (x6 q hq) n3.size, ?_⟩, fun q hq => n3.block q (x6 q hq) (fun h => (x3 q (hG q h)).2 hq)⟩
  · rcases hsub q hq with h | h
    · exact x3 q h
    · exact ⟨(hnew q h).1, (hnew q h).2.1⟩
  · rcases hsub q hq with h | h
    · exact x5 q h
    · exact (hnew q h).2.2
  · exact x7.trans (n3.toBelow (fun q hq => (x3 q (hG q hq)).1) x7.size)
/-- Blocks that are left alone are written. -/
theorem T2.kpR {G : Nat → Prop} (H : T2 W R p1 a1 p2 a2 t u h1 h2 w) (hk : Kp G w w') (hG : ∀ q, G q → R q ∧ W.heap.size ≤ q) : T2 W R p1 a1 p2 a2 t u h1 h2 w' := by
  obtain ⟨⟨F1, D1, F2, D2, x1, x2, x3, x4, x5⟩, x6, x7⟩ := H
  exact ⟨⟨F1, D1, F2, D2, x1.keep hk (fun q hq h => (x3 q hq).2 (hG q h).1), x2.keep hk (fun q hq h => (x4 q hq).2 (hG q h).1), x3, x4, x5⟩, fun q hq => Nat.lt_of_lt_of_le (x6 q hq) hk.size, x7.trans (hk.toBelow (fun q hq => (hG q hq).2) x7.size)⟩
theorem T2.stats (H : T2 W R p1 a1 p2 a2 t u h1 h2 w) (n m f x : Int) (hn : (t.p.sn : Int) = n) (hm : (t.p.h.n : Int) = m) (hf : (t.p.h.free : Int) = f) (hx : t.hint = x) : Calls Try.prog 28 #[.pointer (some ⟨a1, 0, none⟩)] w fun e w' => e = .returned (.agg #[.int .i64 n, .int .i64 m, .int .i64 f, .int .i64 x]) ∧ Below w.heap.size w w' := by
  obtain ⟨⟨F1, D1, F2, D2, x1, -⟩, -, -⟩ := H
  obtain ⟨s, b, g, hT, hD⟩ := x1.tt
  exact tab_Stats a1 s b g p1 t n m f x hn hm hf hx w hT
theorem T2.probes (H : T2 W R p1 a1 p2 a2 t u h1 h2 w) (x : Int) (hx : t.pr = x) : Calls Try.prog 27 #[.pointer (some ⟨a1, 0, none⟩)] w fun e w' => e = .returned (.int .i64 x) ∧ w = w' := by
  subst hx
  obtain ⟨⟨F1, D1, F2, D2, x1, -⟩, -, -⟩ := H
  obtain ⟨s, b, g, hT, hD⟩ := x1.tt
  exact tab_Probes a1 s b g p1 t w hT
theorem T2.dump (H : T2 W R p1 a1 p2 a2 t u h1 h2 w) (hok : t.p.ok) : Calls Try.prog 31 #[.pointer (some ⟨a1, 0, none⟩)] w fun e w' => ∃ gs cs gd cp, e = .returned (.tuple #[.slice (some ⟨gs, 0, none⟩) t.p.sn cs, .slice (some ⟨gd, 0, none⟩) t.p.h.n cp]) ∧ gd < w'.heap.size ∧ DumpAt w' gd t.p.h ∧ t.p.h.n ≤ cp ∧ Below w.heap.size w w' := by
  obtain ⟨⟨F1, D1, F2, D2, x1, -⟩, -, -⟩ := H
  obtain ⟨s, b, g, hT, hD⟩ := x1.tt
  refine (tab_Dump a1 s b g p1 t hok w hT).mono ?_
  rintro e w' ⟨gs, cs, gd, cp, he, -, -, hl, -, -, hd, -, hc, hb⟩
  exact ⟨gs, cs, gd, cp, he, hl, hd, hc, hb⟩
end
/-- Out of two begins. -/
theorem Pt.ofTT {w0 w : World} {S : Nat → Prop} {hp a : Nat} {t : Tbl} {hs : HS} (H : TT w0 S hp (some (a, t)) none hs w) : ∃ F D, Pt w hp a t hs F D ∧ ∀ q, F q ∨ D q → w0.heap.size ≤ q ∧ ¬ S q := by
  obtain ⟨⟨F, D, E, y1, ⟨s, b, g, hT, hD⟩, -, y4, y5, -, y7, -, -⟩, -, -⟩ := H
  exact ⟨F, PB a s b g, ⟨y1, ⟨s, b, g, hT, fun q => Iff.rfl⟩, fun q hq => y7 q (hD q hq)⟩, fun q hq => hq.elim (y4.o q) (fun h => y5.o q (hD q h))⟩
theorem Pt.block {w w' : World} {hp a : Nat} {t : Tbl} {hs : HS} {F D : Nat → Prop} (H : Pt w hp a t hs F D) (hk : ∀ q, F q ∨ D q → w'.heap[q]? = w.heap[q]?) (hz : w.heap.size ≤ w'.heap.size) (ho : w'.os = w.os) (ht : w'.tape = w.tape) (hu : w'.output = w.output) : Pt w' hp a t hs F D :=
  H.keep (G := fun q => ¬ (F q ∨ D q)) ⟨ho, ht, hu, hz, fun q hq h => hk q (Classical.not_not.1 h)⟩ (fun q hq h => h hq)
end Go.Proofs.Yteheolefemlcgaa
