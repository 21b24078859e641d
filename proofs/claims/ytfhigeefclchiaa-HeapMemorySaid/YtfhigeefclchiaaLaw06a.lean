/- The statements of layer 6: a heap of the call's own; the fixed answers; HeapSizes. -/
import Derived.Test.YtfhigeefclchiaaPlay2
namespace Go.Proofs.Ytfhigeefclchiaa
open Go.RowKit Go.Maps
set_option linter.unusedVariables false
set_option linter.unusedSimpArgs false

/-- A heap that a call has made (its world began as w0), beside blocks S that it leaves alone. -/
structure HA (w0 : World) (S : Nat → Prop) (p : Nat) (h : HS) (w : World) : Prop where
  ex : ∃ F, HeapAt F w p h ∧ ∀ q, F q → w0.heap.size ≤ q ∧ ¬ S q
  res : ∀ q, S q → q < w.heap.size
  bel : Below w0.heap.size w0 w
theorem HA.call {w0 w : World} {S : Nat → Prop} {p f : Nat} {h h' : HS} {args : Array Value} {r : Ending} (H : HA w0 S p h w) (c : ∀ F, HeapAt F w p h → Calls Try.prog f args w fun e w' => e = r ∧ Goes F w p h' w') :
    Calls Try.prog f args w fun e w' => e = r ∧ HA w0 S p h' w' ∧ ∀ q, S q → w'.heap[q]? = w.heap[q]? := by
  obtain ⟨⟨F, hF, hS⟩, res, bel⟩ := H
  refine (c F hF).mono ?_
  rintro e w' ⟨he, F', hH', hk, hF'⟩
  refine ⟨he, ⟨⟨F', hH', fun q hq => ?_⟩, fun q hq => Nat.lt_of_lt_of_le (res q hq) hk.size, bel.trans (hk.toBelow (fun q hq => (hS q hq).1) bel.size)⟩, fun q hq => hk.block q (res q hq) (fun h => (hS q h).2 hq)⟩
  rcases hF' q hq with h | h
  · exact hS q h
  · exact ⟨Nat.le_trans bel.size h, fun h2 => by have := res q h2; omega⟩
theorem HA.below {w0 w w' : World} {S : Nat → Prop} {p : Nat} {h : HS} (H : HA w0 S p h w) (hb : Below w.heap.size w w') : HA w0 S p h w' := by
  obtain ⟨⟨F, hF, hS⟩, res, bel⟩ := H
  exact ⟨⟨F, hF.below hb, hS⟩, fun q hq => Nat.lt_of_lt_of_le (res q hq) hb.size, below_step bel hb⟩
/-- A row that is made new, or whose block is among S, is reserved. -/
theorem HA.grown {w0 w w' : World} {S S' : Nat → Prop} {p : Nat} {h : HS} {row : Option Nat} (H : HA w0 S p h w) (hg : w.grownBy w' row) (hr : ∀ q, row = some q → S q ∧ w0.heap.size ≤ q) (hS' : ∀ q, S' q → q < w'.heap.size ∧ (S q ∨ w.heap.size ≤ q)) : HA w0 S' p h w' := by
  obtain ⟨⟨F, hF, hS⟩, res, bel⟩ := H
  refine ⟨⟨F, hF.kp (G := fun q => row = some q) ((Kp.refl _ _).grown hg (fun q e => .inl e)) (fun q hq e => (hS q hq).2 (hr q e).1), fun q hq => ⟨(hS q hq).1, fun h2 => ?_⟩⟩, fun q hq => (hS' q hq).1, bel.grown hg bel.size (fun q e => (hr q e).2)⟩
  rcases (hS' q h2).2 with h3 | h3
  · exact (hS q hq).2 h3
  · have := hF.lt q hq; omega
theorem HA.reserve {w0 w w' : World} {S S' : Nat → Prop} {p : Nat} {h : HS} (H : HA w0 S p h w) (hb : Below w.heap.size w w') (hS' : ∀ q, S' q → q < w'.heap.size ∧ (S q ∨ w.heap.size ≤ q)) : HA w0 S' p h w' := by
  obtain ⟨⟨F, hF, hS⟩, res, bel⟩ := H
  refine ⟨⟨F, hF.below hb, fun q hq => ⟨(hS q hq).1, fun h2 => ?_⟩⟩, fun q hq => (hS' q hq).1, below_step bel hb⟩
  rcases (hS' q h2).2 with h3 | h3
  · exact (hS q hq).2 h3
  · have := hF.lt q hq; omega
def noS : Nat → Prop := fun _ => False
theorem New_h (w0 : World) (lim : Int) (h0 : 0 ≤ lim) (h1 : lim ≤ 400000) (w : World) (hB : Below w0.heap.size w0 w) : Calls Try.prog 34 #[.int .i64 lim] w fun e w' => ∃ p, e = .returned (.tuple #[.pointer (some ⟨p, 0, none⟩), .int .i64 0]) ∧ HA w0 noS p (HS.new lim) w' := by
  refine (heap_New lim h0 h1 w).mono ?_
  rintro e w' ⟨p, F, he, hp, hH, hF, hb⟩
  exact ⟨p, he, ⟨F, hH, fun q hq => ⟨Nat.le_trans hB.size (hF q hq), fun h => h⟩⟩, fun q h => h.elim, below_step hB hb⟩
section
variable {w0 w : World} {S : Nat → Prop} {p : Nat} {h : HS}
theorem Take_h (n id r : Int) (hid : h.takeId n = id) (hr : h.roomE n = r) (hsz : h.sizes.length ≤ 1000000) (H : HA w0 S p h w) : Calls Try.prog 40 #[.pointer (some ⟨p, 0, none⟩), .int .i64 n] w fun e w' => e = .returned (.tuple #[.int .i64 id, .int .i64 r]) ∧ HA w0 S p (h.take n) w' ∧ ∀ q, S q → w'.heap[q]? = w.heap[q]? :=
  H.call fun F hF => Take_c F p h n id r hid hr hsz w hF
theorem Give_h (id r : Int) (hid : In64 id) (hr : h.giveE id = r) (hsz : h.sizes.length ≤ 1000000) (H : HA w0 S p h w) : Calls Try.prog 38 #[.pointer (some ⟨p, 0, none⟩), .int .i64 id] w fun e w' => e = .returned (.int .i64 r) ∧ HA w0 S p (h.give id) w' ∧ ∀ q, S q → w'.heap[q]? = w.heap[q]? :=
  H.call fun F hF => Give_c F p h id r hid hr hsz w hF
theorem Spend_h (n r : Int) (hr : h.roomE n = r) (H : HA w0 S p h w) : Calls Try.prog 39 #[.pointer (some ⟨p, 0, none⟩), .int .i64 n] w fun e w' => e = .returned (.int .i64 r) ∧ HA w0 S p (h.spend n) w' ∧ ∀ q, S q → w'.heap[q]? = w.heap[q]? :=
  H.call fun F hF => Spend_c F p h n r hr w hF
theorem Live_h (x : Int) (hx : h.live = x) (H : HA w0 S p h w) : Calls Try.prog 35 #[.pointer (some ⟨p, 0, none⟩)] w fun e w' => e = .returned (.int .i64 x) ∧ w = w' := by
  obtain ⟨⟨F, hF, -⟩, -, -⟩ := H; exact Live_c F p h x hx w hF
theorem Laid_h (x : Int) (hx : h.laid = x) (H : HA w0 S p h w) : Calls Try.prog 36 #[.pointer (some ⟨p, 0, none⟩)] w fun e w' => e = .returned (.int .i64 x) ∧ w = w' := by
  obtain ⟨⟨F, hF, -⟩, -, -⟩ := H; exact Laid_c F p h x hx w hF
theorem Blocks_h (bl : List Int) (hbl : h.blocks = bl) (hsz : h.sizes.length ≤ 1000000) (H : HA w0 S p h w) : Calls Try.prog 37 #[.pointer (some ⟨p, 0, none⟩)] w fun e w' => ∃ v, e = .returned v ∧ w'.ownsRow w.heap.size 3 1 v bl.length (bl.map (Value.int .i64)) ∧ Below w.heap.size w w' := by
  obtain ⟨⟨F, hF, -⟩, -, -⟩ := H; exact Blocks_c F p h bl hbl hsz w hF
end
theorem opN_in (l : List (Int × Int)) (h : ∀ x ∈ l, In64 x.2) (j : Nat) : In64 (opN l j) := by
  unfold opN
  rw [List.getD_eq_getElem?_getD]
  cases e : l[j]? with
  | none => show In64 0; unfold In64; omega
  | some x => exact h x (List.mem_of_getElem? e)
def fixL : List (Int × Int) := [(1, 4), (1, 4), (1, 4), (2, 1), (1, 4)]
theorem fix_gots : (HS.new 10).gots fixL = [(1, 0, 4, 4), (2, 0, 8, 8), (0, 10, 8, 8), (0, 0, 4, 8), (1, 0, 8, 8)] := by decide
theorem fix_blocks : ((HS.new 10).run fixL).blocks = [1, 2] := by decide
theorem fix_ops (w : World) : POps (w.alloc (.cells #[.int .i64 1, .int .i64 4, .int .i64 1, .int .i64 4, .int .i64 1, .int .i64 4, .int .i64 2, .int .i64 1, .int .i64 1, .int .i64 4] 49)) (.slice (some ⟨w.heap.size, 0, none⟩) 5 5) fixL := by
  refine ⟨_, _, rfl, fun _ => ⟨_, _, rfl, by simp [go_sem], fun j hj => ?_⟩⟩
  match j, hj with
  | 0, _ => simp [go_sem, opK, opN, fixL]
  | 1, _ => simp [go_sem, opK, opN, fixL]
  | 2, _ => simp [go_sem, opK, opN, fixL]
  | 3, _ => simp [go_sem, opK, opN, fixL]
  | 4, _ => simp [go_sem, opK, opN, fixL]
set_option maxRecDepth 100000 in
theorem law06_fixed (w : World) : Calls Try.prog 32 #[] w fun e w' => e = .returned (.bool true) ∧ Below w.heap.size w w' := by
  have hP := Lib.hid (fix_ops w)
  have hN : ∀ j, In64 (opN fixL j) := opN_in fixL (by unfold fixL; intro x hx; simp at hx; rcases hx with rfl | rfl | rfl | rfl | rfl <;> (unfold In64; simp))
  have hE : playE 10 fixL = 0 := by decide
  go_enter Try.func32, Try.ntmps32
  go_wp2_with (first
    | (go_at_call 29; (with_reducible refine (Play_ok 10 fixL _ _ hP.out hN hE).mono ?_); rintro e w1 ⟨gv, bv, rfl, hg, hb, -, hbl⟩; rw [fix_gots] at hg; rw [fix_blocks] at hb; obtain ⟨g, gc, rfl, -⟩ := row_form (n := 4) hg; have x9 := hg.cellAt 9 (by decide); have x16 := hg.cellAt 16 (by decide); have x18 := hg.cellAt 18 (by decide); have x19 := hg.cellAt 19 (by decide); simp [gotCells] at x9 x16 x18 x19; have hBL := hbl)
    | (go_at_call 19; (refine (SameInts _ _ [1, 2] [1, 2] true (by decide) _ (by decide) (by decide) ((IS.of_row (zs := [1, 2]) hb).below ((Below.refl _ w1).alloc (Nat.le_refl _) _)) (IS_lit (w := w1) 3 [1, 2])).mono ?_); rintro e w2 ⟨rfl, hb2⟩))
  go_ret
  exact ⟨rfl, ((((Below.refl _ w).alloc (Nat.le_refl _) _).trans (hBL.mono (by simp [go_sem]))).alloc (by have := hBL.size; simp [go_sem] at this; omega) _).trans (hb2.mono (by have := hBL.size; simp [go_sem] at this ⊢; omega))⟩
/-! ### HeapSizes -/
namespace HS
theorem sz_1 (A : Int) (h0 : 1 ≤ A) (h1 : A ≤ 100) : (new 1000).take A = (new 1000).takeNew A ∧ (new 1000).takeId A = 1 ∧ roomE (new 1000) A = 0 := by
  have hr : roomE (new 1000) A = 0 := roomE_ok.2 ⟨by omega, by show 0 + A ≤ 1000; omega⟩
  have hn : ¬ (roomE (new 1000) A ≠ 0 ∨ A = 0) := by rw [hr]; omega
  unfold take takeId
  rw [if_neg hn, if_neg hn]
  exact ⟨rfl, rfl, hr⟩
/-- After one block was taken and given back. -/
theorem sz_2 (A : Int) : ((new 1000).takeNew A).giveE 1 = 0 ∧ ((new 1000).takeNew A).give 1 = ((new 1000).takeNew A).giveBack 1 A := by
  have e : ((new 1000).takeNew A).tk 1 = some A := by
    simp [takeNew, new, updI]
  unfold giveE give
  simp [e]
theorem sz_3 (A B : Int) (a0 : 1 ≤ A) (a1 : A ≤ 100) (h0 : 1 ≤ B) (h1 : B ≤ 100) (h : HS) (hh : h = ((new 1000).takeNew A).giveBack 1 A) :
    roomE h B = 0 ∧ h.takeId B = (if A = B then 1 else 2) ∧ (h.take B).live = B ∧ (h.take B).laid = (if A = B then A else A + B) ∧ (h.take B).blocks = (if A = B then [1] else [2]) ∧ h.sizes.length = 1 ∧ (h.take B).sizes.length ≤ 2 := by
  have hlive : h.live = 0 := by rw [hh]; show 0 + A - A = 0; omega
  have hlim : h.lim = 1000 := by rw [hh]; rfl
  have hlaid : h.laid = A := by rw [hh]; show 0 + A = A; omega
  have hsz : h.sizes = [A] := by rw [hh]; rfl
  have htk : h.tk = updI (updI (fun _ => none) 1 (some A)) 1 none := by rw [hh]; rfl
  have hrd : h.rd = updI (fun _ => []) A [1] := by rw [hh]; rfl
  have hr : roomE h B = 0 := roomE_ok.2 ⟨by omega, by rw [hlive, hlim]; omega⟩
  have hn : ¬ (roomE h B ≠ 0 ∨ B = 0) := by rw [hr]; omega
  have t1 : h.tk 1 = none := by rw [htk, updI_same]
  unfold take takeId
  rw [if_neg hn, if_neg hn, hrd]
  by_cases e : A = B
  · subst e
    rw [updI_same]
    simp only [if_true]
    refine ⟨hr, rfl, ?_, ?_, ?_, by rw [hsz]; rfl, ?_⟩
    · show h.live + A = A; omega
    · show h.laid = A; exact hlaid
    · show (Cs.up h.sizes.length).filter (fun x => (updI h.tk 1 (some A) x).isSome) = [1]
      rw [hsz]
      show (Cs.up 1).filter _ = _
      simp [Cs.up, updI]
    · show h.sizes.length ≤ 2; rw [hsz]; simp
  · rw [updI_other _ _ _ (fun h => e h.symm)]
    simp only [if_neg e]
    refine ⟨hr, by show (h.sizes.length : Int) + 1 = 2; rw [hsz]; rfl, ?_, ?_, ?_, by rw [hsz]; rfl, ?_⟩
    · show h.live + B = B; omega
    · show h.laid + B = A + B; omega
    · show (Cs.up (h.sizes ++ [B]).length).filter (fun x => (updI h.tk ((h.sizes.length : Int) + 1) (some B) x).isSome) = [2]
      rw [hsz, htk]
      show List.filter _ [((0 : Nat) : Int) + 1, ((1 : Nat) : Int) + 1] = [2]
      simp [List.filter, updI]
    · show (h.sizes ++ [B]).length ≤ 2; rw [hsz]; simp
end HS
theorem umod1 (n : Int) (m : Int) (h0 : 0 < m) (h1 : m ≤ 3000) : ∃ A : Int, 1 ≤ A ∧ A ≤ m ∧ ∃ N : Nat, (IntKind.u64.wrap n).tmod m = N ∧ wrap64 (N : Int) = N ∧ IntKind.u64.wrap (N : Int) = N ∧ wrap64 (1 + (N : Int)) = A := by
  obtain ⟨N, h2, h3, h4, h5⟩ := umod n m h0 h1
  exact ⟨1 + N, by omega, by omega, N, h3, h4, h5, by unfold wrap64; omega⟩
set_option maxRecDepth 100000 in
set_option maxHeartbeats 1600000 in
theorem walk_HeapSizes (a b : Int) (A B : Int) (NA NB : Nat) (a0 : 1 ≤ A) (a1 : A ≤ 100) (b0 : 1 ≤ B) (b1 : B ≤ 100) (ha : (IntKind.u64.wrap a).tmod 100 = NA) (ha1 : wrap64 (NA : Int) = NA) (ha2 : wrap64 (1 + (NA : Int)) = A) (hb : (IntKind.u64.wrap b).tmod 100 = NB) (hb1 : wrap64 (NB : Int) = NB) (hb2 : wrap64 (1 + (NB : Int)) = B) (w : World) :
    Calls Try.prog 15 #[.int .i64 a, .int .i64 b] w fun e w' => e = .returned (.bool true) ∧ Below w.heap.size w w' := by
  obtain ⟨s1, s2, s3⟩ := HS.sz_1 A a0 a1
  obtain ⟨g1, g2⟩ := HS.sz_2 A
  obtain ⟨t1, t2, t3, t4, t5, t6, t7⟩ := HS.sz_3 A B a0 a1 b0 b1 _ rfl
  rw [← g2, ← s1] at t1 t2 t3 t4 t5 t6 t7
  rw [← s1] at g1
  have S2 := Lib.hid s2; have S3 := Lib.hid s3; have G1 := Lib.hid g1
  have T1 := Lib.hid t1; have T2 := Lib.hid t2; have T3 := Lib.hid t3; have T4 := Lib.hid t4; have T5 := Lib.hid t5; have T6 := Lib.hid t6; have T7 := Lib.hid t7
  have L1 : Hid (((HS.new 1000).take A).sizes.length ≤ 1000000) := Lib.hid (by have := HS.take_len (HS.new 1000) A; have e : (HS.new 1000).sizes.length = 0 := rfl; omega)
  clear s1 s2 s3 g1 g2 t1 t2 t3 t4 t5 t6 t7
  have q1 := Lib.hid ha; have q2 := Lib.hid ha1; have q3 := Lib.hid ha2; have q4 := Lib.hid hb; have q5 := Lib.hid hb1; have q6 := Lib.hid hb2
  clear ha ha1 ha2 hb hb1 hb2
  go_enter Try.func15, Try.ntmps15
  go_wp2_with (first
    | (go_at_call 32; (with_reducible refine (law06_fixed _).mono ?_); rintro e w1 ⟨rfl, hb1⟩))
  rw [q1.out, q2.out, q3.out, q4.out, q5.out, q6.out]
  by_cases e : A = B
  · subst e
    rw [if_pos rfl] at T2 T4 T5
    go_wp2_with (first
      | (go_at_call 34; (with_reducible refine (New_h w 1000 (by decide) (by decide) _ hb1).mono ?_); rintro e w2 ⟨p, rfl, H2⟩)
      | (go_at_call 40; (with_reducible refine (Take_h A 1 0 S2.out S3.out (Nat.zero_le _) H2).mono ?_); rintro e w3 ⟨rfl, H3, -⟩; clear H2)
      | (go_at_call 38; (with_reducible refine (Give_h 1 0 (by unfold In64; decide) G1.out L1.out H3).mono ?_); rintro e w4 ⟨rfl, H4, -⟩; clear H3)
      | (go_at_call 40; (with_reducible refine (Take_h A 1 0 T2.out T1.out (by rw [T6.out]; decide) H4).mono ?_); rintro e w5 ⟨rfl, H5, -⟩; clear H4)
      | (go_at_call 35; (with_reducible refine (Live_h A T3.out H5).mono ?_); rintro e w6 ⟨rfl, rfl⟩)
      | (go_at_call 36; (with_reducible refine (Laid_h A T4.out H5).mono ?_); rintro e w6 ⟨rfl, rfl⟩)
      | (go_at_call 37; (with_reducible refine (Blocks_h [1] T5.out (Nat.le_trans T7.out (by decide)) H5).mono ?_); rintro e w7 ⟨bv, rfl, hbo, hbb⟩; have hB7 := below_step H5.bel hbb)
      | (go_at_call 19; (refine (SameInts _ _ [1] [1] true (by decide) _ (by decide) (by decide) ((IS.of_row (zs := [1]) hbo).below ((Below.refl _ w7).alloc (Nat.le_refl _) _)) (IS_lit (w := w7) 3 [1])).mono ?_); rintro e w8 ⟨rfl, hb8⟩; have hB8 := below_step (hB7.alloc hB7.size _) hb8))
    go_ret
    exact ⟨rfl, hB8⟩
  · rw [if_neg e] at T2 T4 T5
    have ne : (A == B) = false := by simpa using e
    have wab : wrap64 (A + B) = A + B := by unfold wrap64; omega
    clear e
    go_wp2_with (first
      | (go_at_call 34; (with_reducible refine (New_h w 1000 (by decide) (by decide) _ hb1).mono ?_); rintro e w2 ⟨p, rfl, H2⟩)
      | (go_at_call 40; (with_reducible refine (Take_h A 1 0 S2.out S3.out (Nat.zero_le _) H2).mono ?_); rintro e w3 ⟨rfl, H3, -⟩; clear H2)
      | (go_at_call 38; (with_reducible refine (Give_h 1 0 (by unfold In64; decide) G1.out L1.out H3).mono ?_); rintro e w4 ⟨rfl, H4, -⟩; clear H3)
      | (go_at_call 40; (with_reducible refine (Take_h B 2 0 T2.out T1.out (by rw [T6.out]; decide) H4).mono ?_); rintro e w5 ⟨rfl, H5, -⟩; clear H4)
      | (go_at_call 35; (with_reducible refine (Live_h B T3.out H5).mono ?_); rintro e w6 ⟨rfl, rfl⟩)
      | (go_at_call 36; (with_reducible refine (Laid_h (A + B) T4.out H5).mono ?_); rintro e w6 ⟨rfl, rfl⟩)
      | (go_at_call 37; (with_reducible refine (Blocks_h [2] T5.out (Nat.le_trans T7.out (by decide)) H5).mono ?_); rintro e w7 ⟨bv, rfl, hbo, hbb⟩; have hB7 := below_step H5.bel hbb)
      | (go_at_call 19; (refine (SameInts _ _ [2] [2] true (by decide) _ (by decide) (by decide) ((IS.of_row (zs := [2]) hbo).below ((Below.refl _ w7).alloc (Nat.le_refl _) _)) (IS_lit (w := w7) 3 [2])).mono ?_); rintro e w8 ⟨rfl, hb8⟩; have hB8 := below_step (hB7.alloc hB7.size _) hb8))
    go_ret
    exact ⟨rfl, hB8⟩
theorem rowHeapSizes (a b : Int) (ha : In64 a) (hb : In64 b) (w : World) : Calls Try.prog 15 #[.int .i64 a, .int .i64 b] w fun e w' => e = .returned (.bool true) ∧ Below w.heap.size w w' := by
  obtain ⟨A, a0, a1, NA, h1, h2, -, h3⟩ := umod1 a 100 (by decide) (by decide)
  obtain ⟨B, b0, b1, NB, k1, k2, -, k3⟩ := umod1 b 100 (by decide) (by decide)
  exact walk_HeapSizes a b A B NA NB a0 a1 b0 b1 h1 h2 h3 k1 k2 k3 w
end Go.Proofs.Ytfhigeefclchiaa
