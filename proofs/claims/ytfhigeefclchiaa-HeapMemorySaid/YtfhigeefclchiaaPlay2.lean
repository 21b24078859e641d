/- The program's heap: Play. -/
import Derived.Test.YtfhigeefclchiaaPlay1
import Derived.BigQuiet
namespace Go.Proofs.Ytfhigeefclchiaa
open Go.RowKit Go.Maps
set_option linter.unusedVariables false
set_option linter.unusedSimpArgs false

namespace HS
def step (h : HS) (k n : Int) : HS := if k = 1 then h.take n else if k = 2 then h.give n else if k = 3 then h.spend n else h
def stepId (h : HS) (k n : Int) : Int := if k = 1 then h.takeId n else 0
def stepE (h : HS) (k n : Int) : Int := if k = 1 then roomE h n else if k = 2 then h.giveE n else if k = 3 then roomE h n else 0
def run (h : HS) (l : List (Int × Int)) : HS := l.foldl (fun h x => h.step x.1 x.2) h
/-- What the operations come to: number, error, live, laid. -/
def gots (h : HS) : List (Int × Int) → List (Int × Int × Int × Int)
  | [] => []
  | x :: l => (h.stepId x.1 x.2, h.stepE x.1 x.2, (h.step x.1 x.2).live, (h.step x.1 x.2).laid) :: gots (h.step x.1 x.2) l
theorem gots_len (l : List (Int × Int)) : ∀ h : HS, (gots h l).length = l.length := by
  induction l with
  | nil => intro h; rfl
  | cons x l ih => intro h; simp [gots, ih]
theorem run_app (h : HS) (l m : List (Int × Int)) : run h (l ++ m) = run (run h l) m := by simp [run, List.foldl_append]
theorem gots_app (m : List (Int × Int)) (l : List (Int × Int)) : ∀ h : HS, gots h (l ++ m) = gots h l ++ gots (run h l) m := by
  induction l with
  | nil => intro h; rfl
  | cons x l ih => intro h; simp only [List.cons_append, gots, ih]; rfl
theorem take_op (l : List (Int × Int)) (j : Nat) (hj : j < l.length) : l.take (j + 1) = l.take j ++ [(opK l j, opN l j)] := by
  have e : l[j]? = some l[j] := List.getElem?_eq_getElem hj
  rw [List.take_add_one, e]
  unfold opK opN
  rw [List.getD_eq_getElem?_getD, e]
  rfl
theorem run_step (h : HS) (l : List (Int × Int)) (j : Nat) (hj : j < l.length) : run h (l.take (j + 1)) = (run h (l.take j)).step (opK l j) (opN l j) := by rw [take_op l j hj, run_app]; rfl
theorem gots_step (h : HS) (l : List (Int × Int)) (j : Nat) (hj : j < l.length) : gots h (l.take (j + 1)) = gots h (l.take j) ++ [((run h (l.take j)).stepId (opK l j) (opN l j), (run h (l.take j)).stepE (opK l j) (opN l j), (run h (l.take (j + 1))).live, (run h (l.take (j + 1))).laid)] := by
  rw [run_step h l j hj, take_op l j hj, gots_app]; rfl
theorem ok_step {h : HS} (k : h.ok) (a n : Int) : (h.step a n).ok := by
  unfold step
  split
  · exact ok_take k n
  · split
    · exact ok_give k n
    · split
      · exact ok_spend k n
      · exact k
theorem take_len (h : HS) (n : Int) : (h.take n).sizes.length ≤ h.sizes.length + 1 := by
  unfold take
  split
  · omega
  · split
    · exact Nat.le_succ _
    · show (h.sizes ++ [n]).length ≤ _; simp
theorem give_len (h : HS) (n : Int) : (h.give n).sizes.length = h.sizes.length := by
  unfold give
  split
  · rfl
  · split <;> rfl
theorem spend_len (h : HS) (n : Int) : (h.spend n).sizes.length = h.sizes.length := by
  unfold spend
  split <;> rfl
theorem step_len (h : HS) (a n : Int) : (h.step a n).sizes.length ≤ h.sizes.length + 1 := by
  unfold step
  split
  · exact take_len h n
  · split
    · rw [give_len]; omega
    · split
      · rw [spend_len]; omega
      · omega
theorem run_len (h : HS) (l : List (Int × Int)) : ∀ j, j ≤ l.length → (run h (l.take j)).sizes.length ≤ h.sizes.length + j
  | 0, _ => Nat.le_refl _
  | j + 1, hj => by
    rw [run_step h l j (by omega)]
    have := run_len h l j (by omega)
    have := step_len (run h (l.take j)) (opK l j) (opN l j)
    omega
theorem ok_run {h : HS} (k : h.ok) (l : List (Int × Int)) : ∀ j, j ≤ l.length → (run h (l.take j)).ok
  | 0, _ => k
  | j + 1, hj => by rw [run_step h l j (by omega)]; exact ok_step (ok_run k l j (by omega)) _ _
end HS
def gotCells (g : List (Int × Int × Int × Int)) : List Value := g.flatMap fun x => [.int .i64 x.1, .int .i64 x.2.1, .int .i64 x.2.2.1, .int .i64 x.2.2.2]
theorem gotCells_app (g m : List (Int × Int × Int × Int)) : gotCells (g ++ m) = gotCells g ++ gotCells m := by simp [gotCells]
theorem Try.infoGot : (Try.prog.info? 52).map (fun i => (i.zero, i.size, i.bytes)) = some (some (.agg #[.int .i64 0, .int .i64 0, .int .i64 0, .int .i64 0]), 4, 32) := by kernel_rfl
def playE (lim : Int) (l : List (Int × Int)) : Int := if lim < 0 ∨ 400000 < lim then 1 else if 1000 < l.length then 14 else if badOps l = true then 2 else 0
theorem Play_no (lim : Int) (l : List (Int × Int)) (v : Value) (w : World) (hl : l.length ≤ 17592186044416) (hv : POps w v l) (r : Int) (hr : playE lim l = r) (h0 : r ≠ 0) : Calls Try.prog 29 #[.int .i64 lim, v] w fun e w' => e = .returned (.tuple #[nilSl, nilSl, .int .i64 r]) ∧ Below w.heap.size w w' := by
  unfold playE at hr
  by_cases h1 : lim < 0 ∨ 400000 < lim
  · rw [if_pos h1] at hr
    subst hr
    have H1 := Lib.hid h1
    clear h1 h0 hv
    go_enter Try.func29, Try.ntmps29
    go_wp2_with (first | (go_at_call 34; (with_reducible refine (heap_New_bad lim H1.out _).mono ?_); rintro e w1 ⟨rfl, rfl⟩))
    go_ret3
    exact ⟨rfl, Below.refl _ _⟩
  · rw [if_neg h1] at hr
    have a1 : 0 ≤ lim := by omega
    have a2 : lim ≤ 400000 := by omega
    have A1 := Lib.hid a1
    have A2 := Lib.hid a2
    have HV := Lib.hid hv
    obtain ⟨A, c, rfl, -⟩ := hv
    by_cases h2 : 1000 < l.length
    · rw [if_pos h2] at hr
      subst hr
      have d2 : decide ((1000 : Int) < (l.length : Int)) = true := by simp; omega
      clear h0 h1 a1 a2
      go_enter Try.func29, Try.ntmps29
      go_wp2_with (first | (go_at_call 34; (with_reducible refine (heap_New lim A1.out A2.out _).mono ?_); rintro e w1 ⟨p, F, rfl, -, -, -, hb⟩))
      go_ret3
      exact ⟨rfl, hb⟩
    · rw [if_neg h2] at hr
      have d2 : decide ((1000 : Int) < (l.length : Int)) = false := by simp; omega
      by_cases h3 : badOps l = true
      · rw [if_pos h3] at hr
        subst hr
        have H3 := Lib.hid h3
        clear h0 h1 a1 a2 h3
        go_enter Try.func29, Try.ntmps29
        go_wp2_with (first
          | (go_at_call 34; (with_reducible refine (heap_New lim A1.out A2.out _).mono ?_); rintro e w1 ⟨p, F, rfl, -, -, -, hb⟩)
          | (go_at_call 56; (with_reducible refine (opsContains l _ true H3.out _ hl (HV.out.below hb)).mono ?_); rintro e w2 ⟨rfl, hb2⟩))
        go_ret3
        exact ⟨rfl, hb.trans (hb2.mono hb.size)⟩
      · rw [if_neg h3] at hr
        exact absurd hr.symm h0
/-- Where the rounds of Play stand. -/
def PlayR (l : List (Int × Int)) (lim : Int) (w : World) (p : Nat) (v i : Value) (wr : World) : Prop :=
  ∃ (j : Nat) (F : Nat → Prop), j ≤ l.length ∧ i = .int .i64 j ∧ HeapAt F wr p ((HS.new lim).run (l.take j)) ∧ (∀ q, F q → w.heap.size ≤ q) ∧ wr.ownsRow w.heap.size 52 4 v j (gotCells ((HS.new lim).gots (l.take j))) ∧ (∀ q, v.ownBlock = some q → ¬ F q) ∧ Below w.heap.size w wr
theorem kp_got3 (w3 : World) (b : Nat) (x y z : Value) : Kp (fun q => q = b) w3 ((((w3.setCell ⟨b, 1, none⟩ x).setCell ⟨b, 2, none⟩ y).setCell ⟨b, 3, none⟩ z).drew) := by
  have h0 : Kp (fun q => q = b) w3 w3 := Kp.refl _ _
  have h1 := h0.set ⟨b, 1, none⟩ (.inl rfl) x
  have h2 := h1.set ⟨b, 2, none⟩ (.inl rfl) y
  have h3 := h2.set ⟨b, 3, none⟩ (.inl rfl) z
  exact h3.below (Below.refl _ _).drew
theorem kp_got4 (w3 : World) (b : Nat) (x0 x y z : Value) : Kp (fun q => q = b) w3 (((((w3.setCell ⟨b, 0, none⟩ x0).setCell ⟨b, 1, none⟩ x).setCell ⟨b, 2, none⟩ y).setCell ⟨b, 3, none⟩ z).drew) :=
  (((Kp.refl (fun q => q = b) w3).set ⟨b, 0, none⟩ (.inl rfl) x0)).trans (kp_got3 (w3.setCell ⟨b, 0, none⟩ x0) b x y z) (fun q h => .inl h)
/-- What a call of Take, Give or Spend leaves for the rest of a round. -/
theorem play_called {F : Nat → Prop} {wr w3 : World} {p : Nat} {h h' : HS} {k n : Int} (hH : HeapAt F wr p h) (hG : Goes F ((wr.alloc (.cells #[.int .i64 k, .int .i64 n] 49)).alloc (.cells #[.int .i64 0, .int .i64 0, .int .i64 0, .int .i64 0] 52)) p h' w3) :
    ∃ b2, b2 = wr.heap.size + 1 ∧ w3.cell? ⟨b2, 0, none⟩ = some (.int .i64 0) ∧ w3.cell? ⟨b2, 1, none⟩ = some (.int .i64 0) ∧ w3.cell? ⟨b2, 2, none⟩ = some (.int .i64 0) ∧ w3.cell? ⟨b2, 3, none⟩ = some (.int .i64 0) ∧ w3.frozen? ⟨b2, 0, none⟩ = false ∧ w3.frozen? ⟨b2, 1, none⟩ = false ∧ w3.frozen? ⟨b2, 2, none⟩ = false ∧ w3.frozen? ⟨b2, 3, none⟩ = false ∧
      w3.cell? ⟨p, 1, none⟩ = some (.int .i64 h'.live) ∧ w3.cell? ⟨p, 2, none⟩ = some (.int .i64 h'.laid) ∧ p ≠ b2 ∧ Hid (∃ F', HeapAt F' w3 p h' ∧ Kp F wr w3 ∧ (∀ q, F' q → F q ∨ wr.heap.size + 2 ≤ q) ∧ ¬ F' b2) := by
  obtain ⟨F', hH', hk, hF'⟩ := hG
  have hsz : ((wr.alloc (.cells #[.int .i64 k, .int .i64 n] 49)).alloc (.cells #[.int .i64 0, .int .i64 0, .int .i64 0, .int .i64 0] 52)).heap.size = wr.heap.size + 2 := by simp [go_sem]
  have hlt : wr.heap.size + 1 < ((wr.alloc (.cells #[.int .i64 k, .int .i64 n] 49)).alloc (.cells #[.int .i64 0, .int .i64 0, .int .i64 0, .int .i64 0] 52)).heap.size := by omega
  have hnF : ¬ F (wr.heap.size + 1) := fun h => by have := hH.lt _ h; omega
  have hb2 := hk.block _ hlt hnF
  have hc : ∀ i, w3.cell? ⟨wr.heap.size + 1, i, none⟩ = ((wr.alloc (.cells #[.int .i64 k, .int .i64 n] 49)).alloc (.cells #[.int .i64 0, .int .i64 0, .int .i64 0, .int .i64 0] 52)).cell? ⟨wr.heap.size + 1, i, none⟩ := fun i => World.cell?_of_block (a := ⟨wr.heap.size + 1, i, none⟩) hb2
  have hf : ∀ i, w3.frozen? ⟨wr.heap.size + 1, i, none⟩ = ((wr.alloc (.cells #[.int .i64 k, .int .i64 n] 49)).alloc (.cells #[.int .i64 0, .int .i64 0, .int .i64 0, .int .i64 0] 52)).frozen? ⟨wr.heap.size + 1, i, none⟩ := fun i => World.frozen?_of_block (a := ⟨wr.heap.size + 1, i, none⟩) hb2
  have hpF : p < wr.heap.size := by obtain ⟨-, bt, br, sv, rv, hin, -, -⟩ := hH; exact hin.pl
  rw [hsz] at hF'
  have hkk : Kp F wr w3 := (below_kp (((Below.refl _ wr).alloc (Nat.le_refl _) (.cells #[.int .i64 k, .int .i64 n] 49)).alloc (by simp [go_sem]) (.cells #[.int .i64 0, .int .i64 0, .int .i64 0, .int .i64 0] 52))).trans hk (fun q hq => .inl hq)
  have hl : w3.cell? ⟨p, 1, none⟩ = some (.int .i64 h'.live) ∧ w3.cell? ⟨p, 2, none⟩ = some (.int .i64 h'.laid) := by obtain ⟨-, bt, br, sv, rv, hin, -, -⟩ := hH'; exact ⟨hin.c1, hin.c2⟩
  refine ⟨_, rfl, ?_, ?_, ?_, ?_, ?_, ?_, ?_, ?_, hl.1, hl.2, by omega, Lib.hid ⟨F', hH', hkk, hF', fun h => ?_⟩⟩
  · rw [hc]; simp [go_sem]
  · rw [hc]; simp [go_sem]
  · rw [hc]; simp [go_sem]
  · rw [hc]; simp [go_sem]
  · rw [hf]; simp [go_sem]
  · rw [hf]; simp [go_sem]
  · rw [hf]; simp [go_sem]
  · rw [hf]; simp [go_sem]
  · rcases hF' _ h with h | h
    · exact hnF h
    · omega
theorem play_end {l : List (Int × Int)} {lim : Int} {w wr w3 W4 : World} {p j : Nat} {F : Nat → Prop} {v : Value} {h h' : HS} (hj : j < l.length) (hH : HeapAt F wr p h) (hF : ∀ q, F q → w.heap.size ≤ q) (hrow : wr.ownsRow w.heap.size 52 4 v j (gotCells ((HS.new lim).gots (l.take j)))) (hvF : ∀ q, v.ownBlock = some q → ¬ F q) (hB : Below w.heap.size w wr)
    (hX : ∃ F', HeapAt F' w3 p h' ∧ Kp F wr w3 ∧ (∀ q, F' q → F q ∨ wr.heap.size + 2 ≤ q) ∧ ¬ F' (wr.heap.size + 1)) (hk4 : Kp (fun q => q = wr.heap.size + 1) w3 W4) (o : Obj) (hr : (HS.new lim).run (l.take (j + 1)) = h') (cs : List Value) (hcs : gotCells ((HS.new lim).gots (l.take (j + 1))) = gotCells ((HS.new lim).gots (l.take j)) ++ cs) :
    (W4.alloc o).ownsRow w.heap.size 52 4 v j (gotCells ((HS.new lim).gots (l.take j))) ∧ w.heap.size ≤ (W4.alloc o).heap.size ∧ ∀ v2 w5, w5.ownsRow w.heap.size 52 4 v2 (j + 1) (gotCells ((HS.new lim).gots (l.take j)) ++ cs) → (W4.alloc o).grownBy w5 v.ownBlock → (v2.ownBlock = v.ownBlock ∨ v2.ownBlock = some (W4.alloc o).heap.size) → PlayR l lim w p v2 (.int .i64 ((j : Int) + 1)) w5 := by
  obtain ⟨F', hH3, hk3, hF', hnb⟩ := hX
  have hkF : Kp F wr W4 := hk3.trans hk4 (fun q e => .inr (by omega))
  have hbo : Below W4.heap.size W4 (W4.alloc o) := (Below.refl _ W4).alloc (Nat.le_refl _) o
  have hkA : Kp F wr (W4.alloc o) := hkF.below hbo
  have hlt : ∀ q, v.ownBlock = some q → q < wr.heap.size := fun q e => (hrow.lt q e).2
  have hBA : Below w.heap.size w (W4.alloc o) := hB.trans (hkA.toBelow hF hB.size)
  have hHA : HeapAt F' (W4.alloc o) p h' := (hH3.kp hk4 (fun q hq e => hnb (e ▸ hq))).below hbo
  refine ⟨ownsRow_of_block hrow (fun q e => hkA.block q (hlt q e) (hvF q e)), hBA.size, fun v2 w5 hown hg hat => ?_⟩
  have hvF' : ∀ q, v.ownBlock = some q → ¬ F' q := fun q e hq => by
    rcases hF' q hq with h | h
    · exact hvF q e h
    · have := hlt q e; omega
  have hH5 : HeapAt F' w5 p h' := hHA.kp (G := fun q => v.ownBlock = some q) ((Kp.refl _ _).grown hg (fun q e => .inl e)) (fun q hq e => hvF' q e hq)
  refine ⟨j + 1, F', hj, rfl, by rw [hr]; exact hH5, fun q hq => ?_, by rw [hcs]; exact hown, fun q e hq => ?_, hBA.grown hg hBA.size (fun q e => (hrow.lt q e).1)⟩
  · rcases hF' q hq with h | h
    · exact hF q h
    · have := hB.size; omega
  · rcases hat with hat | hat
    · exact hvF' q (by rw [← hat]; exact e) hq
    · rw [hat] at e
      have := hHA.lt q hq
      rw [Option.some.injEq] at e
      omega
theorem new_len (lim : Int) (l : List (Int × Int)) (j : Nat) (hj : j ≤ l.length) (hl : l.length ≤ 1000) : ((HS.new lim).run (l.take j)).sizes.length ≤ 1000000 := by
  have := HS.run_len (HS.new lim) l j hj
  have e : (HS.new lim).sizes.length = 0 := rfl
  omega
set_option maxRecDepth 100000 in
set_option maxHeartbeats 3200000 in
theorem Play_ok (lim : Int) (l : List (Int × Int)) (v : Value) (w : World) (hv : POps w v l) (hN : ∀ j, In64 (opN l j)) (hr : playE lim l = 0) : Calls Try.prog 29 #[.int .i64 lim, v] w fun e w' => ∃ gv bv, e = .returned (.tuple #[gv, bv, .int .i64 0]) ∧ w'.ownsRow w.heap.size 52 4 gv l.length (gotCells ((HS.new lim).gots l)) ∧ w'.ownsRow w.heap.size 3 1 bv ((HS.new lim).run l).blocks.length (((HS.new lim).run l).blocks.map (Value.int .i64)) ∧ (gv.ownBlock = none ∨ gv.ownBlock ≠ bv.ownBlock) ∧ Below w.heap.size w w' := by
  obtain ⟨i0, hi, hz0, hz1, hz2⟩ := info_parts Try.infoGot
  unfold playE at hr
  by_cases h1 : lim < 0 ∨ 400000 < lim
  · rw [if_pos h1] at hr; simp at hr
  rw [if_neg h1] at hr
  by_cases h2 : 1000 < l.length
  · rw [if_pos h2] at hr; simp at hr
  rw [if_neg h2] at hr
  have hl : l.length ≤ 1000 := by omega
  have h3 : badOps l = false := by
    cases e : badOps l with
    | true => rw [e] at hr; simp at hr
    | false => rfl
  have H3 := Lib.hid h3
  have A1 : Hid (0 ≤ lim) := Lib.hid (by omega)
  have A2 : Hid (lim ≤ 400000) := Lib.hid (by omega)
  have HV := Lib.hid hv
  obtain ⟨A, c, rfl, hA⟩ := hv
  have HA := Lib.hid hA
  have d2 : decide ((1000 : Int) < (l.length : Int)) = false := by simp; omega
  have HN := Lib.hid hN
  clear h1 h2 hr h3 hA hN
  go_enter Try.func29, Try.ntmps29
  go_wp2_with (first
    | (go_at_call 34; (with_reducible refine (heap_New lim A1.out A2.out _).mono ?_); rintro e w1 ⟨p, F, rfl, hp, hH, hF, hb⟩)
    | (go_at_call 56; (with_reducible refine (opsContains l _ false H3.out _ (by omega) (HV.out.below hb)).mono ?_); rintro e w2 ⟨rfl, hb2⟩))
  have hB2 := hb.trans (hb2.mono hb.size)
  have hS : PlayR l lim w p nilSl (.int .i64 0) w2 := ⟨0, F, Nat.zero_le _, rfl, hH.below hb2, hF, World.ownsRow_nil _ _ _ _, fun q hq => by simp [nilSl, Value.ownBlock] at hq, hB2⟩
  have HP := Lib.hid hp
  clear hH hF hb hb2 hB2 hp
  go_loopw [9, 31] (fun v i wr => PlayR l lim w p v i wr) (fun _ i _ => l.length - (intOf i).toNat)
  case atStart => exact hS
  case round =>
    clear hS
    obtain ⟨j, F, hj, rfl, hH, hF, hrow, hvF, hB⟩ := hrel
    by_cases hjl : j < l.length
    · obtain ⟨b, o, rfl, hbl, hc⟩ := HA.out (by omega)
      obtain ⟨ck, cn⟩ := hc j hjl
      replace ck := (hB.cell (p := ⟨b, _, none⟩) hbl).trans ck
      replace cn := (hB.cell (p := ⟨b, _, none⟩) hbl).trans cn
      clear hc
      have dj : decide ((j : Int) < (l.length : Int)) = true := by simp; omega
      have HH := Lib.hid hH; have HF := Lib.hid hF; have HROW := Lib.hid hrow; have HVF := Lib.hid hvF
      clear hH hF hrow hvF
      generalize hk : opK l j = k at ck
      generalize hn : opN l j = n at cn
      have HK := Lib.hid hk; have HNN := Lib.hid hn
      clear hk hn
      have hlen := new_len lim l j hj hl
      have hbad : badOp k = false := by
        rw [← HK.out]
        cases e : badOp (opK l j) with
        | false => rfl
        | true => have := badOps_of l j hjl e; rw [H3.out] at this; simp at this
      have HR := Lib.hid (HS.run_step (HS.new lim) l j hjl)
      have HG := Lib.hid (HS.gots_step (HS.new lim) l j hjl)
      have hn64 : In64 n := by rw [← HNN.out]; exact HN.out j
      generalize hh : (HS.new lim).run (l.take j) = h at HH hlen HR HG
      have HHH := Lib.hid hh
      clear hh
      have HW : Hid (HeapAt F ((wr.alloc (.cells #[.int .i64 k, .int .i64 n] 49)).alloc (.cells #[.int .i64 0, .int .i64 0, .int .i64 0, .int .i64 0] 52)) p h) := Lib.hid (HH.out.below (((Below.refl _ wr).alloc (Nat.le_refl _) (.cells #[.int .i64 k, .int .i64 n] 49)).alloc (by simp [go_sem]) (.cells #[.int .i64 0, .int .i64 0, .int .i64 0, .int .i64 0] 52)))
      have Hn64 := Lib.hid hn64
      have Hlen := Lib.hid hlen
      clear hn64 hlen
      by_cases k1 : k = 1
      · subst k1
        clear hbad
        go_wp2_with (first
          | (go_at_call 40; (with_reducible refine (Take_c F p h n _ _ rfl rfl Hlen.out _ HW.out).mono ?_); rintro e w3 ⟨rfl, hG⟩; obtain ⟨_, rfl, z0, z1, z2, z3, f0, f1, f2, f3, cl, cd, pne, HX⟩ := play_called HH.out hG; clear hG))
        have pne' : ¬ (wr.heap.size + 1 = p) := fun e => pne e.symm
        go_region
        have hE := Lib.hid (play_end (l := l) (lim := lim) (v := u9) hjl HH.out HF.out HROW.out HVF.out hB HX.out (W4 := ((((w3.setCell ⟨wr.heap.size + 1, 0, none⟩ (.int .i64 (h.takeId n))).setCell ⟨wr.heap.size + 1, 1, none⟩ (.int .i64 (h.roomE n))).setCell ⟨wr.heap.size + 1, 2, none⟩ (.int .i64 (h.take n).live)).setCell ⟨wr.heap.size + 1, 3, none⟩ (.int .i64 (h.take n).laid)).drew) (kp_got4 w3 _ _ _ _ _) (.cells #[.int .i64 (h.takeId n), .int .i64 (h.roomE n), .int .i64 (h.take n).live, .int .i64 (h.take n).laid] 52) (by rw [HR.out, HK.out, HNN.out]; rfl) [.int .i64 (h.takeId n), .int .i64 (h.roomE n), .int .i64 (h.take n).live, .int .i64 (h.take n).laid] (by rw [HG.out, HR.out, HK.out, HNN.out, gotCells_app]; rfl))
        go_wp2_with (first
          | (at_builtin; refine wpList_append_own_at _ rfl (Operand.tmp 72) (Operand.tmp 74) 38 rfl w.heap.size 52 i0 _ 4 32 Try.underlying38 hi hz0 hz1 hz2 rfl (by decide) u9 j (gotCells ((HS.new lim).gots (l.take j))) (by simp [Act.eval, Act.put]) hE.out.1 ⟨_, 0, none⟩ 1 1 [.int .i64 (h.takeId n), .int .i64 (h.roomE n), .int .i64 (h.take n).live, .int .i64 (h.take n).laid] (by simp [Act.eval, Act.put]; rfl) rfl (fun q u hq => by match q, hq with | 0, hq => (simp at hq; subst hq; simp [Addr.add, go_sem]) | 1, hq => (simp at hq; subst hq; simp [Addr.add, go_sem]) | 2, hq => (simp at hq; subst hq; simp [Addr.add, go_sem]) | 3, hq => (simp at hq; subst hq; simp [Addr.add, go_sem])) (fun u hu => by simp at hu; rcases hu with rfl | rfl | rfl | rfl <;> rfl) (by unfold maxLen; omega) (by omega) hE.out.2.1 ?_; intro v2 w5 hown2 hg2 hn2 hat2; have hPR := hE.out.2.2 v2 w5 hown2 hg2 hat2; clear hown2 hg2 hn2 hat2))
        refine ⟨hPR, ?_⟩
        simp [intOf]; omega
      · by_cases k2 : k = 2
        · subst k2
          clear hbad k1
          go_wp2_with (first
            | (go_at_call 38; (with_reducible refine (Give_c F p h n _ Hn64.out rfl Hlen.out _ HW.out).mono ?_); rintro e w3 ⟨rfl, hG⟩; obtain ⟨_, rfl, z0, z1, z2, z3, f0, f1, f2, f3, cl, cd, pne, HX⟩ := play_called HH.out hG; clear hG))
          have pne' : ¬ (wr.heap.size + 1 = p) := fun e => pne e.symm
          go_region
          have hE := Lib.hid (play_end (l := l) (lim := lim) (v := u9) hjl HH.out HF.out HROW.out HVF.out hB HX.out (W4 := (((w3.setCell ⟨wr.heap.size + 1, 1, none⟩ (.int .i64 (h.giveE n))).setCell ⟨wr.heap.size + 1, 2, none⟩ (.int .i64 (h.give n).live)).setCell ⟨wr.heap.size + 1, 3, none⟩ (.int .i64 (h.give n).laid)).drew) (kp_got3 w3 _ _ _ _) (.cells #[.int .i64 0, .int .i64 (h.giveE n), .int .i64 (h.give n).live, .int .i64 (h.give n).laid] 52) (by rw [HR.out, HK.out, HNN.out]; rfl) [.int .i64 0, .int .i64 (h.giveE n), .int .i64 (h.give n).live, .int .i64 (h.give n).laid] (by rw [HG.out, HR.out, HK.out, HNN.out, gotCells_app]; rfl))
          go_wp2_with (first
            | (at_builtin; refine wpList_append_own_at _ rfl (Operand.tmp 72) (Operand.tmp 74) 38 rfl w.heap.size 52 i0 _ 4 32 Try.underlying38 hi hz0 hz1 hz2 rfl (by decide) u9 j (gotCells ((HS.new lim).gots (l.take j))) (by simp [Act.eval, Act.put]) hE.out.1 ⟨_, 0, none⟩ 1 1 [.int .i64 0, .int .i64 (h.giveE n), .int .i64 (h.give n).live, .int .i64 (h.give n).laid] (by simp [Act.eval, Act.put]; rfl) rfl (fun q u hq => by match q, hq with | 0, hq => (simp at hq; subst hq; simp [Addr.add, go_sem]) | 1, hq => (simp at hq; subst hq; simp [Addr.add, go_sem]) | 2, hq => (simp at hq; subst hq; simp [Addr.add, go_sem]) | 3, hq => (simp at hq; subst hq; simp [Addr.add, go_sem])) (fun u hu => by simp at hu; rcases hu with rfl | rfl | rfl | rfl <;> rfl) (by unfold maxLen; omega) (by omega) hE.out.2.1 ?_; intro v2 w5 hown2 hg2 hn2 hat2; have hPR := hE.out.2.2 v2 w5 hown2 hg2 hat2; clear hown2 hg2 hn2 hat2))
          refine ⟨hPR, ?_⟩
          simp [intOf]; omega
        · have k3 : k = 3 := by
            unfold badOp at hbad
            simp at hbad
            omega
          subst k3
          clear hbad k1 k2
          go_wp2_with (first
            | (go_at_call 39; (with_reducible refine (Spend_c F p h n _ rfl _ HW.out).mono ?_); rintro e w3 ⟨rfl, hG⟩; obtain ⟨_, rfl, z0, z1, z2, z3, f0, f1, f2, f3, cl, cd, pne, HX⟩ := play_called HH.out hG; clear hG))
          have pne' : ¬ (wr.heap.size + 1 = p) := fun e => pne e.symm
          go_region
          have hE := Lib.hid (play_end (l := l) (lim := lim) (v := u9) hjl HH.out HF.out HROW.out HVF.out hB HX.out (W4 := (((w3.setCell ⟨wr.heap.size + 1, 1, none⟩ (.int .i64 (h.roomE n))).setCell ⟨wr.heap.size + 1, 2, none⟩ (.int .i64 (h.spend n).live)).setCell ⟨wr.heap.size + 1, 3, none⟩ (.int .i64 (h.spend n).laid)).drew) (kp_got3 w3 _ _ _ _) (.cells #[.int .i64 0, .int .i64 (h.roomE n), .int .i64 (h.spend n).live, .int .i64 (h.spend n).laid] 52) (by rw [HR.out, HK.out, HNN.out]; rfl) [.int .i64 0, .int .i64 (h.roomE n), .int .i64 (h.spend n).live, .int .i64 (h.spend n).laid] (by rw [HG.out, HR.out, HK.out, HNN.out, gotCells_app]; rfl))
          go_wp2_with (first
            | (at_builtin; refine wpList_append_own_at _ rfl (Operand.tmp 72) (Operand.tmp 74) 38 rfl w.heap.size 52 i0 _ 4 32 Try.underlying38 hi hz0 hz1 hz2 rfl (by decide) u9 j (gotCells ((HS.new lim).gots (l.take j))) (by simp [Act.eval, Act.put]) hE.out.1 ⟨_, 0, none⟩ 1 1 [.int .i64 0, .int .i64 (h.roomE n), .int .i64 (h.spend n).live, .int .i64 (h.spend n).laid] (by simp [Act.eval, Act.put]; rfl) rfl (fun q u hq => by match q, hq with | 0, hq => (simp at hq; subst hq; simp [Addr.add, go_sem]) | 1, hq => (simp at hq; subst hq; simp [Addr.add, go_sem]) | 2, hq => (simp at hq; subst hq; simp [Addr.add, go_sem]) | 3, hq => (simp at hq; subst hq; simp [Addr.add, go_sem])) (fun u hu => by simp at hu; rcases hu with rfl | rfl | rfl | rfl <;> rfl) (by unfold maxLen; omega) (by omega) hE.out.2.1 ?_; intro v2 w5 hown2 hg2 hn2 hat2; have hPR := hE.out.2.2 v2 w5 hown2 hg2 hat2; clear hown2 hg2 hn2 hat2))
          refine ⟨hPR, ?_⟩
          simp [intOf]; omega
    · obtain rfl : j = l.length := by omega
      rw [List.take_length] at hH hrow
      have HH := Lib.hid hH; have HF := Lib.hid hF; have HROW := Lib.hid hrow
      have hlen := new_len lim l l.length (Nat.le_refl _) hl
      rw [List.take_length] at hlen
      have Hlen := Lib.hid hlen
      clear hH hF hrow hvF hlen
      go_wp2_with (first | (go_at_call 37; (with_reducible refine (Blocks_c F p _ _ rfl Hlen.out _ HH.out).mono ?_); rintro e w3 ⟨bv, rfl, hbo, hbb⟩))
      go_ret3
      refine ⟨u9, bv, rfl, ownsRow_of_block HROW.out (fun q e => hbb.block q (HROW.out.lt q e).2), ownsRow_base_a hbo hB.size, ?_, hB.trans (hbb.mono hB.size)⟩
      cases e : u9.ownBlock with
      | none => exact .inl rfl
      | some q =>
        right
        intro e2
        have := (HROW.out.lt q e).2
        have := (hbo.lt q e2.symm).1
        omega
end Go.Proofs.Ytfhigeefclchiaa
