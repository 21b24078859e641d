/- WalkWhole: the state of its loop in memory. -/
import Derived.Test.YteheolefemlcgaaWkH
import Derived.Test.YteheolefemlcgaaWkV
namespace Go.Proofs.Yteheolefemlcgaa
open Go.RowKit Go.Maps
set_option linter.unusedVariables false
set_option linter.unusedSimpArgs false

theorem BS.grow {w0 w w' : World} {S S' G : Nat → Prop} {hp a n : Nat} {t : Tbl} {hs : HS} (H : BS w0 S hp a t hs n w) (hk : Kp G w w') (hG : ∀ q, G q → S q ∧ w0.heap.size ≤ q) (hS' : ∀ q, S' q → q < w'.heap.size ∧ (S q ∨ w.heap.size ≤ q)) : BS w0 S' hp a t hs n w' := ⟨H.tt.grow hk hG hS', H.k, H.h0, H.h1⟩
/-- One table; the box of a key; the first list; the keys that have gone and come. K: blocks that are left alone. -/
structure WS (W : World) (kb : Nat) (K : Nat → Prop) (v1 : Value) (P : List (V × V)) (hp a : Nat) (gv cv : Value) (G C : List V) (t : Tbl) (hs : HS) (n : Nat) (ky : V) (w : World) : Prop where
  ex : ∃ S, BS W S hp a t hs n w ∧ S kb ∧ (∀ q, K q → S q) ∧ (∀ q, v1.ownBlock = some q → S q) ∧ (∀ q, gv.ownBlock = some q → S q) ∧ ∀ q, cv.ownBlock = some q → S q
  kc : C3 w kb 0 ky
  kw : W.heap.size ≤ kb
  pr : PRow W.heap.size w v1 P
  gr : VRow W.heap.size w gv G
  cr : VRow W.heap.size w cv C
  d1 : ∀ q, gv.ownBlock = some q → q ≠ kb ∧ ¬ K q ∧ v1.ownBlock ≠ some q ∧ cv.ownBlock ≠ some q
  d2 : ∀ q, cv.ownBlock = some q → q ≠ kb ∧ ¬ K q ∧ v1.ownBlock ≠ some q
  d3 : v1.ownBlock ≠ some kb
  d4 : ∀ q, K q → q ≠ kb
section
variable {W w w' : World} {kb hp a n : Nat} {K K' : Nat → Prop} {v1 gv cv : Value} {P : List (V × V)} {G C : List V} {t : Tbl} {hs : HS} {ky : V}
theorem WS.bel (H : WS W kb K v1 P hp a gv cv G C t hs n ky w) : Below W.heap.size W w := by obtain ⟨S, hB, -⟩ := H.ex; exact hB.bel
theorem WS.ok (H : WS W kb K v1 P hp a gv cv G C t hs n ky w) : t.p.ok := by obtain ⟨S, hB, -⟩ := H.ex; exact hB.ok
theorem WS.klt (H : WS W kb K v1 P hp a gv cv G C t hs n ky w) {q : Nat} (h : K q) : q < w.heap.size := by obtain ⟨S, hB, -, hK, -⟩ := H.ex; exact hB.keepS q (hK q h)
theorem WS.hold (H : WS W kb K v1 P hp a gv cv G C t hs n ky w) (hb : Below w.heap.size w w') (hK : ∀ q, K' q → q < w'.heap.size ∧ (K q ∨ w.heap.size ≤ q)) : WS W kb K' v1 P hp a gv cv G C t hs n ky w' := by
  obtain ⟨S, hB, h1, h2, h3, h4, h5⟩ := H.ex
  have hk : ∀ q, q < w.heap.size → ¬ K q → ¬ K' q := fun q hq hn h => (hK q h).2.elim hn (fun h => by omega)
  refine ⟨⟨fun q => S q ∨ K' q, hB.reserve hb (fun q hq => ?_), .inl h1, fun q h => .inr h, fun q h => .inl (h3 q h), fun q h => .inl (h4 q h), fun q h => .inl (h5 q h)⟩, H.kc.below hb H.kc.lt, H.kw, H.pr.keep (fun q hq => hb.block q (H.pr.lt q hq).2), H.gr.keep (fun q hq => hb.block q (H.gr.lt q hq).2), H.cr.keep (fun q hq => hb.block q (H.cr.lt q hq).2), fun q hq => ?_, fun q hq => ?_, H.d3, fun q hq => ?_⟩
  · rcases hq with h | h
    · exact ⟨Nat.lt_of_lt_of_le (hB.keepS q h) hb.size, .inl h⟩
    · exact ⟨(hK q h).1, (hK q h).2.imp (h2 q) id⟩
  · obtain ⟨a1, a2, a3, a4⟩ := H.d1 q hq
    exact ⟨a1, hk q (H.gr.lt q hq).2 a2, a3, a4⟩
  · obtain ⟨a1, a2, a3⟩ := H.d2 q hq
    exact ⟨a1, hk q (H.cr.lt q hq).2 a2, a3⟩
  · rcases (hK q hq).2 with h | h
    · exact H.d4 q h
    · have := H.kc.lt; omega
theorem WS.below (H : WS W kb K v1 P hp a gv cv G C t hs n ky w) (hb : Below w.heap.size w w') : WS W kb K v1 P hp a gv cv G C t hs n ky w' := H.hold hb (fun q hq => ⟨Nat.lt_of_lt_of_le (H.klt hq) hb.size, .inl hq⟩)
theorem WS.mono {m : Nat} (H : WS W kb K v1 P hp a gv cv G C t hs n ky w) (h : n ≤ m) : WS W kb K v1 P hp a gv cv G C t hs m ky w := by
  obtain ⟨S, hB, h1⟩ := H.ex
  exact ⟨⟨S, hB.mono h, h1⟩, H.kc, H.kw, H.pr, H.gr, H.cr, H.d1, H.d2, H.d3, H.d4⟩
/-- The table has turned, nothing else. -/
theorem WS.turn {S : Nat → Prop} {t' : Tbl} {hs' : HS} {m : Nat} (H : WS W kb K v1 P hp a gv cv G C t hs n ky w) (h1 : S kb) (h2 : ∀ q, K q → S q) (h3 : ∀ q, v1.ownBlock = some q → S q) (h4 : ∀ q, gv.ownBlock = some q → S q) (h5 : ∀ q, cv.ownBlock = some q → S q)
    (hB : BS W S hp a t' hs' m w') (hk : ∀ q, S q → w'.heap[q]? = w.heap[q]?) : WS W kb K v1 P hp a gv cv G C t' hs' m ky w' ∧ ∀ q, K q → w'.heap[q]? = w.heap[q]? :=
  ⟨⟨⟨S, hB, h1, h2, h3, h4, h5⟩, H.kc.keep (hk _ h1), H.kw, H.pr.keep (fun q hq => hk q (h3 q hq)), H.gr.keep (fun q hq => hk q (h4 q hq)), H.cr.keep (fun q hq => hk q (h5 q hq)), H.d1, H.d2, H.d3, H.d4⟩, fun q hq => hk q (h2 q hq)⟩
theorem WS.next (H : WS W kb K v1 P hp a gv cv G C t hs n ky w) (kk kn : Int) (ks : ByteArray) (x : V × V) (er : Int) (hx : t.p.nextP ⟨kk, kn, ks⟩ = x) (he : t.p.nextE ⟨kk, kn, ks⟩ = er) :
    Calls Try.prog 41 #[.pointer (some ⟨a, 0, none⟩), .agg #[.int .i64 kk, .int .i64 kn, .string ks]] w fun e w' => ∃ t', e = .returned (.tuple #[.agg #[.int .i64 x.1.k, .int .i64 x.1.n, .string x.1.s], .agg #[.int .i64 x.2.k, .int .i64 x.2.n, .string x.2.s], .int .i64 er]) ∧ t'.p = t.p ∧ WS W kb K v1 P hp a gv cv G C t' hs n ky w' ∧ ∀ q, K q → w'.heap[q]? = w.heap[q]? := by
  obtain ⟨S, hB, h1, h2, h3, h4, h5⟩ := H.ex
  refine (BS.next hB kk kn ks x er hx he).mono ?_
  rintro e w' ⟨t', ⟨rfl, -⟩, hp1, hb, hk⟩
  exact ⟨t', rfl, hp1, H.turn h1 h2 h3 h4 h5 hb hk⟩
theorem WS.get (H : WS W kb K v1 P hp a gv cv G C t hs n ky w) (kk kn : Int) (ks : ByteArray) (v : V) (hv : t.get ⟨kk, kn, ks⟩ = v) :
    Calls Try.prog 25 #[.pointer (some ⟨a, 0, none⟩), .agg #[.int .i64 kk, .int .i64 kn, .string ks]] w fun e w' => ∃ t', e = .returned (.agg #[.int .i64 v.k, .int .i64 v.n, .string v.s]) ∧ t'.p = t.p ∧ WS W kb K v1 P hp a gv cv G C t' hs n ky w' ∧ ∀ q, K q → w'.heap[q]? = w.heap[q]? := by
  obtain ⟨S, hB, h1, h2, h3, h4, h5⟩ := H.ex
  refine (BS.get hB kk kn ks v hv).mono ?_
  rintro e w' ⟨t', ⟨rfl, -⟩, hp1, hb, hk⟩
  exact ⟨t', rfl, hp1, H.turn h1 h2 h3 h4 h5 hb hk⟩
theorem WS.set (H : WS W kb K v1 P hp a gv cv G C t hs n ky w) (hn : n ≤ 800000) (kk kn : Int) (ks : ByteArray) (vk vn : Int) (vs : ByteArray) (h64 : In64 kn) (hk1 : okV ⟨kk, kn, ks⟩ = true) (hv1 : okV ⟨vk, vn, vs⟩ = true) (hp2 : (t.p.put ⟨kk, kn, ks⟩ ⟨vk, vn, vs⟩).2.2 = 0) :
    Calls Try.prog 23 #[.pointer (some ⟨a, 0, none⟩), .agg #[.int .i64 kk, .int .i64 kn, .string ks], .agg #[.int .i64 vk, .int .i64 vn, .string vs]] w fun e w' => ∃ t', e = .returned (.int .i64 (t.set hs ⟨kk, kn, ks⟩ ⟨vk, vn, vs⟩).2.2) ∧ t'.p = (t.p.put ⟨kk, kn, ks⟩ ⟨vk, vn, vs⟩).1 ∧ WS W kb K v1 P hp a gv cv G C t' hs (n + 2) ky w' ∧ ∀ q, K q → w'.heap[q]? = w.heap[q]? := by
  obtain ⟨S, hB, h1, h2, h3, h4, h5⟩ := H.ex
  obtain ⟨e1, e2⟩ := set_here (hs := hs) hk1 hv1 hp2
  refine (hB.set hn kk kn ks vk vn vs h64).mono ?_
  rintro e w' ⟨rfl, hb, hk⟩
  rw [e2] at hb
  exact ⟨_, rfl, e1, H.turn h1 h2 h3 h4 h5 hb hk⟩
/-- The key's box is set anew. -/
theorem WS.key (H : WS W kb K v1 P hp a gv cv G C t hs n ky w) (kk kn : Int) (ks : ByteArray) : WS W kb K v1 P hp a gv cv G C t hs n ⟨kk, kn, ks⟩ (((w.setCell ⟨kb, 0, none⟩ (.int .i64 kk)).setCell ⟨kb, 1, none⟩ (.int .i64 kn)).setCell ⟨kb, 2, none⟩ (.string ks)) ∧ ∀ q, K q → (((w.setCell ⟨kb, 0, none⟩ (.int .i64 kk)).setCell ⟨kb, 1, none⟩ (.int .i64 kn)).setCell ⟨kb, 2, none⟩ (.string ks)).heap[q]? = w.heap[q]? := by
  obtain ⟨S, hB, h1, h2, h3, h4, h5⟩ := H.ex
  have hk := (((Kp.refl (fun q => q = kb) w).set ⟨kb, 0, none⟩ (.inl rfl) (.int .i64 kk)).set ⟨kb, 1, none⟩ (.inl rfl) (.int .i64 kn)).set ⟨kb, 2, none⟩ (.inl rfl) (.string ks)
  have hkeep : ∀ q, q < w.heap.size → q ≠ kb → (((w.setCell ⟨kb, 0, none⟩ (.int .i64 kk)).setCell ⟨kb, 1, none⟩ (.int .i64 kn)).setCell ⟨kb, 2, none⟩ (.string ks)).heap[q]? = w.heap[q]? := fun q h1 h2 => hk.block q h1 h2
  refine ⟨⟨⟨S, hB.kpS hk (fun q hq => by rw [hq]; exact ⟨h1, H.kw⟩), h1, h2, h3, h4, h5⟩, H.kc.over kk kn ks, H.kw, H.pr.keep (fun q hq => hkeep q (H.pr.lt q hq).2 (fun e => H.d3 (by rw [← e]; exact hq))), H.gr.keep (fun q hq => hkeep q (H.gr.lt q hq).2 (H.d1 q hq).1), H.cr.keep (fun q hq => hkeep q (H.cr.lt q hq).2 (H.d2 q hq).1), H.d1, H.d2, H.d3, H.d4⟩, fun q hq => hkeep q (H.klt hq) (H.d4 q hq)⟩
/-- One more has come. -/
theorem WS.appC {cv' : Value} {C' : List V} (H : WS W kb K v1 P hp a gv cv G C t hs n ky w) (hr : VRow W.heap.size w' cv' C') (hg : w.grownBy w' cv.ownBlock) (hat : cv'.ownBlock = cv.ownBlock ∨ cv'.ownBlock = some w.heap.size) : WS W kb K v1 P hp a gv cv' G C' t hs n ky w' ∧ ∀ q, K q → w'.heap[q]? = w.heap[q]? := by
  obtain ⟨S, hB, h1, h2, h3, h4, h5⟩ := H.ex
  have hK : Kp (fun q => cv.ownBlock = some q) w w' := (Kp.refl _ w).grown hg (fun q e => .inl e)
  have hcv : ∀ q, cv'.ownBlock = some q → cv.ownBlock = some q ∨ q = w.heap.size := fun q hq => by
    rcases hat with e | e
    · exact .inl (by rw [← e]; exact hq)
    · exact .inr (by rw [e] at hq; exact (Option.some.inj hq).symm)
  have hkeep : ∀ q, q < w.heap.size → cv.ownBlock ≠ some q → w'.heap[q]? = w.heap[q]? := fun q hq e => hg.block q hq (fun h => e h.symm)
  refine ⟨⟨⟨fun q => S q ∨ cv'.ownBlock = some q, hB.grow hK (fun q e => ⟨h5 q e, (H.cr.lt q e).1⟩) (fun q hq => ?_), .inl h1, fun q h => .inl (h2 q h), fun q h => .inl (h3 q h), fun q h => .inl (h4 q h), fun q h => .inr h⟩, H.kc.keep (hkeep kb H.kc.lt (fun e => (H.d2 kb e).1 rfl)), H.kw, H.pr.keep (fun q hq => hkeep q (H.pr.lt q hq).2 (fun e => (H.d2 q e).2.2 hq)), H.gr.keep (fun q hq => hkeep q (H.gr.lt q hq).2 (H.d1 q hq).2.2.2), hr, fun q hq => ?_, fun q hq => ?_, H.d3, H.d4⟩, fun q hq => hkeep q (H.klt hq) (fun e => (H.d2 q e).2.1 hq)⟩
  · rcases hq with h | h
    · exact ⟨Nat.lt_of_lt_of_le (hB.keepS q h) hg.size, .inl h⟩
    · exact ⟨(hr.lt q h).2, (hcv q h).imp (h5 q) (fun e => by omega)⟩
  · obtain ⟨a1, a2, a3, a4⟩ := H.d1 q hq
    refine ⟨a1, a2, a3, fun e => ?_⟩
    rcases hcv q e with h | h
    · exact a4 h
    · have := (H.gr.lt q hq).2; omega
  · rcases hcv q hq with h | h
    · exact H.d2 q h
    · exact ⟨by have := H.kc.lt; omega, fun hk => by have := H.klt hk; omega, fun e => by have := (H.pr.lt q e).2; omega⟩
/-- One more has gone. -/
theorem WS.appG {gv' : Value} {G' : List V} (H : WS W kb K v1 P hp a gv cv G C t hs n ky w) (hr : VRow W.heap.size w' gv' G') (hg : w.grownBy w' gv.ownBlock) (hat : gv'.ownBlock = gv.ownBlock ∨ gv'.ownBlock = some w.heap.size) : WS W kb K v1 P hp a gv' cv G' C t hs n ky w' ∧ ∀ q, K q → w'.heap[q]? = w.heap[q]? := by
  obtain ⟨S, hB, h1, h2, h3, h4, h5⟩ := H.ex
  have hK : Kp (fun q => gv.ownBlock = some q) w w' := (Kp.refl _ w).grown hg (fun q e => .inl e)
  have hgv : ∀ q, gv'.ownBlock = some q → gv.ownBlock = some q ∨ q = w.heap.size := fun q hq => by
    rcases hat with e | e
    · exact .inl (by rw [← e]; exact hq)
    · exact .inr (by rw [e] at hq; exact (Option.some.inj hq).symm)
  have hkeep : ∀ q, q < w.heap.size → gv.ownBlock ≠ some q → w'.heap[q]? = w.heap[q]? := fun q hq e => hg.block q hq (fun h => e h.symm)
  refine ⟨⟨⟨fun q => S q ∨ gv'.ownBlock = some q, hB.grow hK (fun q e => ⟨h4 q e, (H.gr.lt q e).1⟩) (fun q hq => ?_), .inl h1, fun q h => .inl (h2 q h), fun q h => .inl (h3 q h), fun q h => .inr h, fun q h => .inl (h5 q h)⟩, H.kc.keep (hkeep kb H.kc.lt (fun e => (H.d1 kb e).1 rfl)), H.kw, H.pr.keep (fun q hq => hkeep q (H.pr.lt q hq).2 (fun e => (H.d1 q e).2.2.1 hq)), hr, H.cr.keep (fun q hq => hkeep q (H.cr.lt q hq).2 (fun e => (H.d1 q e).2.2.2 hq)), fun q hq => ?_, H.d2, H.d3, H.d4⟩, fun q hq => hkeep q (H.klt hq) (fun e => (H.d1 q e).2.1 hq)⟩
  · rcases hq with h | h
    · exact ⟨Nat.lt_of_lt_of_le (hB.keepS q h) hg.size, .inl h⟩
    · exact ⟨(hr.lt q h).2, (hgv q h).imp (h4 q) (fun e => by omega)⟩
  · rcases hgv q hq with h | h
    · exact H.d1 q h
    · exact ⟨by have := H.kc.lt; omega, fun hk => by have := H.klt hk; omega, fun e => by have := (H.pr.lt q e).2; omega, fun e => by have := (H.cr.lt q e).2; omega⟩
end
end Go.Proofs.Yteheolefemlcgaa
