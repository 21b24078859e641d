/- The reference's Play. -/
import Derived.Test.YtfhigeefclchiaaLaw06d
namespace Go.Proofs.Ytfhigeefclchiaa
open Go.RowKit Go.Maps
set_option linter.unusedVariables false
set_option linter.unusedSimpArgs false

theorem Try.infoRGot : (Try.prog.info? 78).map (fun i => (i.zero, i.size, i.bytes)) = some (some (.agg #[.int .i64 0, .int .i64 0, .int .i64 0, .int .i64 0]), 4, 32) := by kernel_rfl
theorem badOp_no {l : List (Int × Int)} {j : Nat} {k : Int} (hj : j < l.length) (hk : opK l j = k) (h : badOps l = false) : badOp k = false := by
  rw [← hk]
  cases e : badOp (opK l j) with
  | false => rfl
  | true => have := badOps_of l j hj e; rw [h] at this; simp at this
set_option maxRecDepth 100000 in
set_option maxHeartbeats 1600000 in
theorem RPlay_no (lim : Int) (l : List (Int × Int)) (v : Value) (w : World) (hl : l.length ≤ 17592186044416) (hv : POps w v l) (r : Int) (hr : playE lim l = r) (h0 : r ≠ 0) : Calls Try.prog 31 #[.int .i64 lim, v] w fun e w' => e = .returned (.tuple #[nilSl, nilSl, .int .i64 r]) ∧ Below w.heap.size w w' := by
  unfold playE at hr
  obtain ⟨A, c, rfl, hA⟩ := hv
  by_cases h1 : lim < 0 ∨ 400000 < lim
  · rw [if_pos h1] at hr
    subst hr
    clear h0 hA
    by_cases h2 : lim < 0
    · have d1 : decide (lim < 0) = true := by simpa using h2
      clear h1 h2
      go_enter Try.func31, Try.ntmps31
      go_wp2
      go_ret3
      exact ⟨rfl, Below.refl _ _⟩
    · have d1 : decide (lim < 0) = false := by simpa using h2
      have d2 : decide (400000 < lim) = true := by simp; omega
      clear h1 h2
      go_enter Try.func31, Try.ntmps31
      go_wp2
      go_ret3
      exact ⟨rfl, Below.refl _ _⟩
  · rw [if_neg h1] at hr
    have d1 : decide (lim < 0) = false := by simp; omega
    have d2 : decide (400000 < lim) = false := by simp; omega
    by_cases h2 : 1000 < l.length
    · rw [if_pos h2] at hr
      subst hr
      have d3 : decide ((1000 : Int) < (l.length : Int)) = true := by simp; omega
      clear h0 h1 h2 hA
      go_enter Try.func31, Try.ntmps31
      go_wp2
      go_ret3
      exact ⟨rfl, Below.refl _ _⟩
    · rw [if_neg h2] at hr
      have d3 : decide ((1000 : Int) < (l.length : Int)) = false := by simp; omega
      by_cases h3 : badOps l = true
      · rw [if_pos h3] at hr
        subst hr
        have H3 := Lib.hid h3
        have HA := Lib.hid hA
        have hlI : (l.length : Int) ≤ 9223372036854775807 := by omega
        clear h0 h1 h2 h3 hA
        go_enter Try.func31, Try.ntmps31
        go_wp2
        go_loopw [7] (fun i wr => ∃ j : Nat, j ≤ l.length ∧ i = .int .i64 j ∧ badOps (l.take j) = false ∧ w = wr) (fun i _ => l.length - (intOf i).toNat)
        case atStart => exact ⟨0, Nat.zero_le _, rfl, rfl, rfl⟩
        case round =>
          obtain ⟨j, hj, rfl, hf, rfl⟩ := hrel
          have HF := Lib.hid hf
          clear hf
          by_cases hjl : j < l.length
          · obtain ⟨b, o, rfl, hbl, hc⟩ := HA.out (by omega)
            obtain ⟨ck, -⟩ := hc j hjl
            clear hc
            have HT := Lib.hid (badOps_take l j hjl)
            generalize opK l j = k at ck HT
            have dj : decide ((j : Int) < (l.length : Int)) = true := by simp; omega
            have jl : (j : Int) < (l.length : Int) := by omega
            by_cases k1 : k < 1
            · have e1 : decide (k < 1) = true := by simpa using k1
              clear k1
              go_wp2
              go_ret3
              exact ⟨rfl, Below.refl _ _⟩
            · have e1 : decide (k < 1) = false := by simpa using k1
              by_cases k3 : 3 < k
              · have e3 : decide (3 < k) = true := by simpa using k3
                clear k1 k3
                go_wp2
                go_ret3
                exact ⟨rfl, Below.refl _ _⟩
              · have e3 : decide (3 < k) = false := by simpa using k3
                have HB : Hid (badOp k = false) := Lib.hid (by unfold badOp; simp; omega)
                clear k1 k3
                go_wp2
                go_roundw
                case rel => exact ⟨j + 1, by omega, by go_num, by rw [HT.out, HF.out, HB.out]; rfl, (by first | rfl | trivial)⟩
                case measure => simp [intOf]; omega
          · exfalso
            obtain rfl : j = l.length := by omega
            have := HF.out
            rw [List.take_length, H3.out] at this
            simp at this
      · rw [if_neg h3] at hr
        exact absurd hr.symm h0
theorem kp_r3 (w3 : World) (b : Nat) (x y z : Value) : Kp (fun q => q = b) w3 (((w3.setCell ⟨b, 1, none⟩ x).setCell ⟨b, 2, none⟩ y).setCell ⟨b, 3, none⟩ z) := by
  have h0 : Kp (fun q => q = b) w3 w3 := Kp.refl _ _
  have h1 := h0.set ⟨b, 1, none⟩ (.inl rfl) x
  have h2 := h1.set ⟨b, 2, none⟩ (.inl rfl) y
  exact h2.set ⟨b, 3, none⟩ (.inl rfl) z
theorem kp_r4 (w3 : World) (b : Nat) (x0 x y z : Value) : Kp (fun q => q = b) w3 ((((w3.setCell ⟨b, 0, none⟩ x0).setCell ⟨b, 1, none⟩ x).setCell ⟨b, 2, none⟩ y).setCell ⟨b, 3, none⟩ z) :=
  (((Kp.refl (fun q => q = b) w3).set ⟨b, 0, none⟩ (.inl rfl) x0)).trans (kp_r3 (w3.setCell ⟨b, 0, none⟩ x0) b x y z) (fun q h => .inl h)
theorem kp_r1 (w3 : World) (b : Nat) (x : Value) : Kp (fun q => q = b) w3 (w3.setCell ⟨b, 1, none⟩ x) := (Kp.refl (fun q => q = b) w3).set ⟨b, 1, none⟩ (.inl rfl) x
theorem kp_r2 (w3 : World) (b : Nat) (x0 x : Value) : Kp (fun q => q = b) w3 ((w3.setCell ⟨b, 0, none⟩ x0).setCell ⟨b, 1, none⟩ x) := by
  have h0 : Kp (fun q => q = b) w3 w3 := Kp.refl _ _
  have h1 := h0.set ⟨b, 0, none⟩ (.inl rfl) x0
  exact h1.set ⟨b, 1, none⟩ (.inl rfl) x
theorem rplay_called {G : Nat → Prop} {wr w3 : World} {q : Nat} {r r' : RS} (hH : RefAt G wr q r) (hG : GoesR G (wr.alloc (.cells #[.int .i64 0, .int .i64 0, .int .i64 0, .int .i64 0] 78)) q r' w3) :
    w3.cell? ⟨wr.heap.size, 0, none⟩ = some (.int .i64 0) ∧ w3.cell? ⟨wr.heap.size, 1, none⟩ = some (.int .i64 0) ∧ w3.cell? ⟨wr.heap.size, 2, none⟩ = some (.int .i64 0) ∧ w3.cell? ⟨wr.heap.size, 3, none⟩ = some (.int .i64 0) ∧ w3.frozen? ⟨wr.heap.size, 0, none⟩ = false ∧ w3.frozen? ⟨wr.heap.size, 1, none⟩ = false ∧ w3.frozen? ⟨wr.heap.size, 2, none⟩ = false ∧ w3.frozen? ⟨wr.heap.size, 3, none⟩ = false ∧
      Hid (∃ G', RefAt G' w3 q r' ∧ Kp G wr w3 ∧ (∀ k, G' k → G k ∨ wr.heap.size + 1 ≤ k) ∧ ¬ G' wr.heap.size) := by
  obtain ⟨G', hH', hk, hG'⟩ := hG
  have hsz : (wr.alloc (.cells #[.int .i64 0, .int .i64 0, .int .i64 0, .int .i64 0] 78)).heap.size = wr.heap.size + 1 := by simp [go_sem]
  have hnG : ¬ G wr.heap.size := fun h => by have := hH.lt _ h; omega
  have hb2 := hk.block wr.heap.size (by omega) hnG
  have hc : ∀ i, w3.cell? ⟨wr.heap.size, i, none⟩ = (wr.alloc (.cells #[.int .i64 0, .int .i64 0, .int .i64 0, .int .i64 0] 78)).cell? ⟨wr.heap.size, i, none⟩ := fun i => World.cell?_of_block (a := ⟨wr.heap.size, i, none⟩) hb2
  have hf : ∀ i, w3.frozen? ⟨wr.heap.size, i, none⟩ = (wr.alloc (.cells #[.int .i64 0, .int .i64 0, .int .i64 0, .int .i64 0] 78)).frozen? ⟨wr.heap.size, i, none⟩ := fun i => World.frozen?_of_block (a := ⟨wr.heap.size, i, none⟩) hb2
  rw [hsz] at hG'
  have hkk : Kp G wr w3 := (below_kp ((Below.refl _ wr).alloc (Nat.le_refl _) (.cells #[.int .i64 0, .int .i64 0, .int .i64 0, .int .i64 0] 78))).trans hk (fun k hk => .inl hk)
  refine ⟨?_, ?_, ?_, ?_, ?_, ?_, ?_, ?_, Lib.hid ⟨G', hH', hkk, hG', fun h => ?_⟩⟩
  · rw [hc]; simp [go_sem]
  · rw [hc]; simp [go_sem]
  · rw [hc]; simp [go_sem]
  · rw [hc]; simp [go_sem]
  · rw [hf]; simp [go_sem]
  · rw [hf]; simp [go_sem]
  · rw [hf]; simp [go_sem]
  · rw [hf]; simp [go_sem]
  · rcases hG' _ h with h | h
    · exact hnG h
    · omega
/-- Where the rounds of the reference's Play stand. -/
def PlayRR (l : List (Int × Int)) (lim : Int) (w : World) (q : Nat) (v i : Value) (wr : World) : Prop :=
  ∃ (j : Nat) (G : Nat → Prop) (r : RS), j ≤ l.length ∧ i = .int .i64 j ∧ SR ((HS.new lim).run (l.take j)) r j ∧ RefAt G wr q r ∧ (∀ k, G k → w.heap.size ≤ k) ∧ wr.ownsRow w.heap.size 78 4 v j (gotCells ((HS.new lim).gots (l.take j))) ∧ (∀ k, v.ownBlock = some k → ¬ G k) ∧ Below w.heap.size w wr
theorem rplay_end {l : List (Int × Int)} {lim : Int} {w wr w3 W4 : World} {q j : Nat} {G G' : Nat → Prop} {v : Value} {r r' : RS} (hj : j < l.length) (hH : RefAt G wr q r) (hG : ∀ k, G k → w.heap.size ≤ k) (hrow : wr.ownsRow w.heap.size 78 4 v j (gotCells ((HS.new lim).gots (l.take j)))) (hvG : ∀ k, v.ownBlock = some k → ¬ G k) (hB : Below w.heap.size w wr)
    (hX : RefAt G' w3 q r' ∧ Kp G wr w3 ∧ (∀ k, G' k → G k ∨ wr.heap.size + 1 ≤ k) ∧ ¬ G' wr.heap.size) (hk4 : Kp (fun k => k = wr.heap.size) w3 W4) (o : Obj) (hr : SR ((HS.new lim).run (l.take (j + 1))) r' (j + 1)) (cs : List Value) (hcs : gotCells ((HS.new lim).gots (l.take (j + 1))) = gotCells ((HS.new lim).gots (l.take j)) ++ cs) :
    (W4.alloc o).ownsRow w.heap.size 78 4 v j (gotCells ((HS.new lim).gots (l.take j))) ∧ w.heap.size ≤ (W4.alloc o).heap.size ∧ ∀ v2 w5, w5.ownsRow w.heap.size 78 4 v2 (j + 1) (gotCells ((HS.new lim).gots (l.take j)) ++ cs) → (W4.alloc o).grownBy w5 v.ownBlock → (v2.ownBlock = v.ownBlock ∨ v2.ownBlock = some (W4.alloc o).heap.size) → PlayRR l lim w q v2 (.int .i64 ((j : Int) + 1)) w5 := by
  obtain ⟨hH3, hk3, hG', hnb⟩ := hX
  have hkF : Kp G wr W4 := hk3.trans hk4 (fun k e => .inr (by omega))
  have hbo : Below W4.heap.size W4 (W4.alloc o) := (Below.refl _ W4).alloc (Nat.le_refl _) o
  have hkA : Kp G wr (W4.alloc o) := hkF.below hbo
  have hlt : ∀ k, v.ownBlock = some k → k < wr.heap.size := fun k e => (hrow.lt k e).2
  have hBA : Below w.heap.size w (W4.alloc o) := hB.trans (hkA.toBelow hG hB.size)
  have hHA : RefAt G' (W4.alloc o) q r' := (hH3.kp hk4 (fun k hk e => hnb (e ▸ hk))).below hbo
  refine ⟨ownsRow_of_block hrow (fun k e => hkA.block k (hlt k e) (hvG k e)), hBA.size, fun v2 w5 hown hg hat => ?_⟩
  have hvG' : ∀ k, v.ownBlock = some k → ¬ G' k := fun k e hk => by
    rcases hG' k hk with h | h
    · exact hvG k e h
    · have := hlt k e; omega
  have hH5 : RefAt G' w5 q r' := hHA.kp (F := fun k => v.ownBlock = some k) ((Kp.refl _ _).grown hg (fun k e => .inl e)) (fun k hk e => hvG' k e hk)
  refine ⟨j + 1, G', r', hj, rfl, hr, hH5, fun k hk => ?_, by rw [hcs]; exact hown, fun k e hk => ?_, hBA.grown hg hBA.size (fun k e => (hrow.lt k e).1)⟩
  · rcases hG' k hk with h | h
    · exact hG k h
    · have := hB.size; omega
  · rcases hat with hat | hat
    · exact hvG' k (by rw [← hat]; exact e) hk
    · rw [hat] at e
      have := hHA.lt k hk
      rw [Option.some.injEq] at e
      omega
theorem ref_begin (lim : Int) (w : World) : ∃ G, RefAt G (w.alloc (.cells #[.int .i64 lim, .int .i64 0, .int .i64 0, nilSl] 62)) w.heap.size (RS.new lim) ∧ ∀ k, G k → w.heap.size ≤ k := by
  refine ⟨_, ⟨nilSl, ⟨?_, ?_, ?_, ?_, fun i => ?_, World.ownsRow_nil _ _ _ _, by simp [nilSl, Value.ownBlock]⟩, rfl⟩, fun k hk => ?_⟩
  · simp [go_sem, RS.new]
  · simp [go_sem, RS.new]
  · simp [go_sem, RS.new]
  · simp [go_sem, RS.new]
  · simp [go_sem]
  · rcases hk with h | h
    · omega
    · simp [nilSl, Value.ownBlock] at h
set_option maxRecDepth 100000 in
set_option maxHeartbeats 6400000 in
theorem RPlay_ok (lim : Int) (l : List (Int × Int)) (v : Value) (w : World) (hv : POps w v l) (hN : ∀ j, In64 (opN l j)) (hr : playE lim l = 0) : Calls Try.prog 31 #[.int .i64 lim, v] w fun e w' => ∃ gv bv, e = .returned (.tuple #[gv, bv, .int .i64 0]) ∧ w'.ownsRow w.heap.size 78 4 gv l.length (gotCells ((HS.new lim).gots l)) ∧ w'.ownsRow w.heap.size 3 1 bv ((HS.new lim).run l).blocks.length (((HS.new lim).run l).blocks.map (Value.int .i64)) ∧ Below w.heap.size w w' := by
  obtain ⟨i0, hi, hz0, hz1, hz2⟩ := info_parts Try.infoRGot
  unfold playE at hr
  by_cases h1 : lim < 0 ∨ 400000 < lim
  · rw [if_pos h1] at hr; simp at hr
  rw [if_neg h1] at hr
  by_cases h2 : 1000 < l.length
  · rw [if_pos h2] at hr; simp at hr
  rw [if_neg h2] at hr
  have hl : l.length ≤ 1000 := by omega
  have h3 : badOps l = false := by
    cases e : badOps l with
    | true => rw [e] at hr; simp at hr
    | false => rfl
  have H3 := Lib.hid h3
  have A1 : Hid (0 ≤ lim) := Lib.hid (by omega)
  have A2 : Hid (lim ≤ 400000) := Lib.hid (by omega)
  obtain ⟨A, c, rfl, hA⟩ := hv
  have HA := Lib.hid hA
  have d0 : decide (lim < 0) = false := by simp; omega
  have d1 : decide (400000 < lim) = false := by simp; omega
  have d2 : decide ((1000 : Int) < (l.length : Int)) = false := by simp; omega
  have HN := Lib.hid hN
  have hlI : (l.length : Int) ≤ 9223372036854775807 := by omega
  clear h1 h2 hr h3 hA hN
  go_enter Try.func31, Try.ntmps31
  go_wp2
  go_loopw [7] (fun i wr => ∃ j : Nat, j ≤ l.length ∧ i = .int .i64 j ∧ w = wr) (fun i _ => l.length - (intOf i).toNat)
  case atStart => exact ⟨0, Nat.zero_le _, rfl, rfl⟩
  case round =>
    obtain ⟨j, hj, rfl, rfl⟩ := hrel
    by_cases hjl : j < l.length
    · obtain ⟨b, o, rfl, hbl, hc⟩ := HA.out (by omega)
      obtain ⟨ck, -⟩ := hc j hjl
      clear hc
      have hbad := badOp_no hjl rfl H3.out
      generalize opK l j = k at ck hbad
      unfold badOp at hbad
      have e1 : decide (k < 1) = false := by simp at hbad ⊢; omega
      have e3 : decide (3 < k) = false := by simp at hbad ⊢; omega
      have dj : decide ((j : Int) < (l.length : Int)) = true := by simp; omega
      have jl : (j : Int) < (l.length : Int) := by omega
      clear hbad
      go_wp2
      go_roundw
      case rel => exact ⟨j + 1, by omega, by go_num, (by first | rfl | trivial)⟩
      case measure => simp [intOf]; omega
    · obtain rfl : l.length = j := by omega
      clear hj hjl
      go_wp2
      obtain ⟨q, hq⟩ : ∃ q, w.heap.size = q := ⟨_, rfl⟩
      have hS : PlayRR l lim w q nilSl (.int .i64 0) (w.alloc (.cells #[.int .i64 lim, .int .i64 0, .int .i64 0, nilSl] 62)) := by
        obtain ⟨G, hG, hG2⟩ := ref_begin lim w
        exact ⟨0, G, RS.new lim, Nat.zero_le _, rfl, SR.new lim A1.out A2.out, by rw [← hq]; exact hG, hG2, World.ownsRow_nil _ _ _ _, fun q hq => by simp [nilSl, Value.ownBlock] at hq, (Below.refl _ w).alloc (Nat.le_refl _) _⟩
      rw [hq]
      go_loopw [9, 10] (fun v i wr => PlayRR l lim w q v i wr) (fun _ i _ => l.length - (intOf i).toNat)
      case atStart => exact hS
      case round =>
        clear hS hq
        obtain ⟨j, G, r, hj, rfl, hSR, hH, hG, hrow, hvG, hB⟩ := hrel
        by_cases hjl : j < l.length
        · obtain ⟨b, o, rfl, hbl, hc⟩ := HA.out (by omega)
          obtain ⟨ck, cn⟩ := hc j hjl
          replace ck := (hB.cell (p := ⟨b, _, none⟩) hbl).trans ck
          have HCN := Lib.hid cn
          replace cn := (hB.cell (p := ⟨b, _, none⟩) hbl).trans cn
          clear hc
          have dj : decide ((j : Int) < (l.length : Int)) = true := by simp; omega
          have jl : (j : Int) < (l.length : Int) := by omega
          have hbr : b < wr.heap.size := Nat.lt_of_lt_of_le hbl hB.size
          have hbne : ¬ (b = wr.heap.size) := by omega
          have J2 : Hid (j ≤ 2000) := Lib.hid (by omega)
          have J3 : Hid (j + 1 ≤ 2000) := Lib.hid (by omega)
          have HH := Lib.hid hH; have HG := Lib.hid hG; have HROW := Lib.hid hrow; have HVG := Lib.hid hvG; have HS' := Lib.hid hSR
          clear hH hG hrow hvG hSR
          generalize hk : opK l j = k at ck
          generalize hn : opN l j = n at cn HCN
          have hbad := badOp_no hjl hk H3.out
          have HK := Lib.hid hk; have HNN := Lib.hid hn
          have HR := Lib.hid (HS.run_step (HS.new lim) l j hjl)
          have HGO := Lib.hid (HS.gots_step (HS.new lim) l j hjl)
          have N64 : Hid (In64 n) := Lib.hid (by rw [← hn]; exact HN.out j)
          generalize hh : (HS.new lim).run (l.take j) = h at HS' HR HGO
          have HW : Hid (RefAt G (wr.alloc (.cells #[.int .i64 0, .int .i64 0, .int .i64 0, .int .i64 0] 78)) q r) := Lib.hid (HH.out.below ((Below.refl _ wr).alloc (Nat.le_refl _) _))
          clear hk hn hh
          by_cases k1 : k = 1
          · subst k1
            clear hbad
            have HSR := Lib.hid (HS'.out.take n)
            obtain ⟨x, hx⟩ : ∃ x, (h.take n).live = x := ⟨_, rfl⟩
            obtain ⟨y, hy⟩ : ∃ y, (h.take n).laid = y := ⟨_, rfl⟩
            have HX := Lib.hid hx; have HY := Lib.hid hy
            clear hx hy
            have HRE : Hid ((HS.new lim).run (l.take (j + 1)) = (h.take n)) := Lib.hid (by rw [HR.out, HK.out, HNN.out]; rfl)
            have HCE : Hid (gotCells ((HS.new lim).gots (l.take (j + 1))) = gotCells ((HS.new lim).gots (l.take j)) ++ [.int .i64 (h.takeId n), .int .i64 (HS.roomE h n), .int .i64 x, .int .i64 y]) := Lib.hid (by rw [HGO.out, HRE.out, HX.out, HY.out, HK.out, HNN.out, gotCells_app]; rfl)
            go_wp2_with (first
              | (go_at_call 41; (with_reducible refine (RTake_c G q h r j HS'.out J2.out n _ _ N64.out rfl rfl _ HW.out).mono ?_); rintro e w3 ⟨rfl, hGo⟩; obtain ⟨z0, z1, z2, z3, f0, f1, f2, f3, hx3⟩ := rplay_called HH.out hGo; obtain ⟨G', hG', hX'⟩ := hx3.out; have HG' := Lib.hid hG'; have HX' := Lib.hid hX'; have HL4 := Lib.hid (hG'.kp (kp_r2 w3 wr.heap.size _ _) (fun k hk e => hX'.2.2 (e ▸ hk)) : RefAt G' ((w3.setCell ⟨wr.heap.size, 0, none⟩ (.int .i64 (h.takeId n))).setCell ⟨wr.heap.size, 1, none⟩ (.int .i64 (HS.roomE h n))) q (r.take n)); clear hGo hx3 hG' hX')
              | (go_at_call 45; (with_reducible refine (RLive_c G' q _ _ (j + 1) HSR.out J3.out x HX.out _ HL4.out).mono ?_); rintro e w6 ⟨rfl, rfl⟩)
              | (go_at_call 46; (with_reducible refine (RLaid_c G' q _ _ (j + 1) HSR.out J3.out y HY.out _ HL4.out).mono ?_); rintro e w6 ⟨rfl, rfl⟩; have hE := Lib.hid (rplay_end (l := l) (lim := lim) (v := u9) hjl HH.out HG.out HROW.out HVG.out hB ⟨HG'.out, HX'.out⟩ (W4 := (((w3.setCell ⟨wr.heap.size, 0, none⟩ (.int .i64 (h.takeId n))).setCell ⟨wr.heap.size, 1, none⟩ (.int .i64 (HS.roomE h n))).setCell ⟨wr.heap.size, 2, none⟩ (.int .i64 x)).setCell ⟨wr.heap.size, 3, none⟩ (.int .i64 y)) (kp_r4 w3 wr.heap.size _ _ _ _) (.cells #[.int .i64 (h.takeId n), .int .i64 (HS.roomE h n), .int .i64 x, .int .i64 y] 78) (by rw [HRE.out]; exact HSR.out) [.int .i64 (h.takeId n), .int .i64 (HS.roomE h n), .int .i64 x, .int .i64 y] HCE.out))
              | (at_builtin; refine wpList_append_own_at _ rfl (Operand.tmp 96) (Operand.tmp 98) 43 rfl w.heap.size 78 i0 _ 4 32 Try.underlying43 hi hz0 hz1 hz2 rfl (by decide) u9 j (gotCells ((HS.new lim).gots (l.take j))) (by simp [Act.eval, Act.put]) hE.out.1 ⟨_, 0, none⟩ 1 1 [.int .i64 (h.takeId n), .int .i64 (HS.roomE h n), .int .i64 x, .int .i64 y] (by simp [Act.eval, Act.put]; rfl) rfl (fun q u hq => by match q, hq with | 0, hq => (simp at hq; subst hq; simp [Addr.add, go_sem]) | 1, hq => (simp at hq; subst hq; simp [Addr.add, go_sem]) | 2, hq => (simp at hq; subst hq; simp [Addr.add, go_sem]) | 3, hq => (simp at hq; subst hq; simp [Addr.add, go_sem])) (fun u hu => by simp at hu; rcases hu with rfl | rfl | rfl | rfl <;> rfl) (by unfold maxLen; omega) (by omega) hE.out.2.1 ?_; intro v2 w5 hown2 hg2 hn2 hat2; have hPR := hE.out.2.2 v2 w5 hown2 hg2 hat2; clear hown2 hg2 hn2 hat2))
            refine ⟨hPR, ?_⟩
            simp [intOf]; omega
          by_cases k2 : k = 2
          · subst k2
            clear hbad k1
            have HSR := Lib.hid (HS'.out.give n)
            obtain ⟨x, hx⟩ : ∃ x, (h.give n).live = x := ⟨_, rfl⟩
            obtain ⟨y, hy⟩ : ∃ y, (h.give n).laid = y := ⟨_, rfl⟩
            have HX := Lib.hid hx; have HY := Lib.hid hy
            clear hx hy
            have HRE : Hid ((HS.new lim).run (l.take (j + 1)) = (h.give n)) := Lib.hid (by rw [HR.out, HK.out, HNN.out]; rfl)
            have HCE : Hid (gotCells ((HS.new lim).gots (l.take (j + 1))) = gotCells ((HS.new lim).gots (l.take j)) ++ [.int .i64 0, .int .i64 (h.giveE n), .int .i64 x, .int .i64 y]) := Lib.hid (by rw [HGO.out, HRE.out, HX.out, HY.out, HK.out, HNN.out, gotCells_app]; rfl)
            go_wp2_with (first
              | (go_at_call 42; (with_reducible refine (RGive_c G q h r j HS'.out J2.out n _ N64.out rfl _ HW.out).mono ?_); rintro e w3 ⟨rfl, hGo⟩; obtain ⟨z0, z1, z2, z3, f0, f1, f2, f3, hx3⟩ := rplay_called HH.out hGo; obtain ⟨G', hG', hX'⟩ := hx3.out; have HG' := Lib.hid hG'; have HX' := Lib.hid hX'; have HL4 := Lib.hid (hG'.kp (kp_r1 w3 wr.heap.size _) (fun k hk e => hX'.2.2 (e ▸ hk)) : RefAt G' (w3.setCell ⟨wr.heap.size, 1, none⟩ (.int .i64 (h.giveE n))) q (r.give n)); clear hGo hx3 hG' hX')
              | (go_at_call 45; (with_reducible refine (RLive_c G' q _ _ (j + 1) HSR.out J3.out x HX.out _ HL4.out).mono ?_); rintro e w6 ⟨rfl, rfl⟩)
              | (go_at_call 46; (with_reducible refine (RLaid_c G' q _ _ (j + 1) HSR.out J3.out y HY.out _ HL4.out).mono ?_); rintro e w6 ⟨rfl, rfl⟩; have hE := Lib.hid (rplay_end (l := l) (lim := lim) (v := u9) hjl HH.out HG.out HROW.out HVG.out hB ⟨HG'.out, HX'.out⟩ (W4 := ((w3.setCell ⟨wr.heap.size, 1, none⟩ (.int .i64 (h.giveE n))).setCell ⟨wr.heap.size, 2, none⟩ (.int .i64 x)).setCell ⟨wr.heap.size, 3, none⟩ (.int .i64 y)) (kp_r3 w3 wr.heap.size _ _ _) (.cells #[.int .i64 0, .int .i64 (h.giveE n), .int .i64 x, .int .i64 y] 78) (by rw [HRE.out]; exact HSR.out) [.int .i64 0, .int .i64 (h.giveE n), .int .i64 x, .int .i64 y] HCE.out))
              | (at_builtin; refine wpList_append_own_at _ rfl (Operand.tmp 96) (Operand.tmp 98) 43 rfl w.heap.size 78 i0 _ 4 32 Try.underlying43 hi hz0 hz1 hz2 rfl (by decide) u9 j (gotCells ((HS.new lim).gots (l.take j))) (by simp [Act.eval, Act.put]) hE.out.1 ⟨_, 0, none⟩ 1 1 [.int .i64 0, .int .i64 (h.giveE n), .int .i64 x, .int .i64 y] (by simp [Act.eval, Act.put]; rfl) rfl (fun q u hq => by match q, hq with | 0, hq => (simp at hq; subst hq; simp [Addr.add, go_sem]) | 1, hq => (simp at hq; subst hq; simp [Addr.add, go_sem]) | 2, hq => (simp at hq; subst hq; simp [Addr.add, go_sem]) | 3, hq => (simp at hq; subst hq; simp [Addr.add, go_sem])) (fun u hu => by simp at hu; rcases hu with rfl | rfl | rfl | rfl <;> rfl) (by unfold maxLen; omega) (by omega) hE.out.2.1 ?_; intro v2 w5 hown2 hg2 hn2 hat2; have hPR := hE.out.2.2 v2 w5 hown2 hg2 hat2; clear hown2 hg2 hn2 hat2))
            refine ⟨hPR, ?_⟩
            simp [intOf]; omega
          have k3 : k = 3 := by
            unfold badOp at hbad
            simp at hbad
            omega
          subst k3
          clear hbad k1 k2
          have HSR := Lib.hid (HS'.out.spend n)
          obtain ⟨x, hx⟩ : ∃ x, (h.spend n).live = x := ⟨_, rfl⟩
          obtain ⟨y, hy⟩ : ∃ y, (h.spend n).laid = y := ⟨_, rfl⟩
          have HX := Lib.hid hx; have HY := Lib.hid hy
          clear hx hy
          have HRE : Hid ((HS.new lim).run (l.take (j + 1)) = (h.spend n)) := Lib.hid (by rw [HR.out, HK.out, HNN.out]; rfl)
          have HCE : Hid (gotCells ((HS.new lim).gots (l.take (j + 1))) = gotCells ((HS.new lim).gots (l.take j)) ++ [.int .i64 0, .int .i64 (HS.roomE h n), .int .i64 x, .int .i64 y]) := Lib.hid (by rw [HGO.out, HRE.out, HX.out, HY.out, HK.out, HNN.out, gotCells_app]; rfl)
          go_wp2_with (first
            | (go_at_call 43; (with_reducible refine (RSpend_c G q h r j HS'.out J2.out n _ rfl _ HW.out).mono ?_); rintro e w3 ⟨rfl, hGo⟩; obtain ⟨z0, z1, z2, z3, f0, f1, f2, f3, hx3⟩ := rplay_called HH.out hGo; obtain ⟨G', hG', hX'⟩ := hx3.out; have HG' := Lib.hid hG'; have HX' := Lib.hid hX'; have HL4 := Lib.hid (hG'.kp (kp_r1 w3 wr.heap.size _) (fun k hk e => hX'.2.2 (e ▸ hk)) : RefAt G' (w3.setCell ⟨wr.heap.size, 1, none⟩ (.int .i64 (HS.roomE h n))) q (r.spend n)); clear hGo hx3 hG' hX')
            | (go_at_call 45; (with_reducible refine (RLive_c G' q _ _ (j + 1) HSR.out J3.out x HX.out _ HL4.out).mono ?_); rintro e w6 ⟨rfl, rfl⟩)
            | (go_at_call 46; (with_reducible refine (RLaid_c G' q _ _ (j + 1) HSR.out J3.out y HY.out _ HL4.out).mono ?_); rintro e w6 ⟨rfl, rfl⟩; have hE := Lib.hid (rplay_end (l := l) (lim := lim) (v := u9) hjl HH.out HG.out HROW.out HVG.out hB ⟨HG'.out, HX'.out⟩ (W4 := ((w3.setCell ⟨wr.heap.size, 1, none⟩ (.int .i64 (HS.roomE h n))).setCell ⟨wr.heap.size, 2, none⟩ (.int .i64 x)).setCell ⟨wr.heap.size, 3, none⟩ (.int .i64 y)) (kp_r3 w3 wr.heap.size _ _ _) (.cells #[.int .i64 0, .int .i64 (HS.roomE h n), .int .i64 x, .int .i64 y] 78) (by rw [HRE.out]; exact HSR.out) [.int .i64 0, .int .i64 (HS.roomE h n), .int .i64 x, .int .i64 y] HCE.out))
            | (at_builtin; refine wpList_append_own_at _ rfl (Operand.tmp 96) (Operand.tmp 98) 43 rfl w.heap.size 78 i0 _ 4 32 Try.underlying43 hi hz0 hz1 hz2 rfl (by decide) u9 j (gotCells ((HS.new lim).gots (l.take j))) (by simp [Act.eval, Act.put]) hE.out.1 ⟨_, 0, none⟩ 1 1 [.int .i64 0, .int .i64 (HS.roomE h n), .int .i64 x, .int .i64 y] (by simp [Act.eval, Act.put]; rfl) rfl (fun q u hq => by match q, hq with | 0, hq => (simp at hq; subst hq; simp [Addr.add, go_sem]) | 1, hq => (simp at hq; subst hq; simp [Addr.add, go_sem]) | 2, hq => (simp at hq; subst hq; simp [Addr.add, go_sem]) | 3, hq => (simp at hq; subst hq; simp [Addr.add, go_sem])) (fun u hu => by simp at hu; rcases hu with rfl | rfl | rfl | rfl <;> rfl) (by unfold maxLen; omega) (by omega) hE.out.2.1 ?_; intro v2 w5 hown2 hg2 hn2 hat2; have hPR := hE.out.2.2 v2 w5 hown2 hg2 hat2; clear hown2 hg2 hn2 hat2))
          refine ⟨hPR, ?_⟩
          simp [intOf]; omega
        · obtain rfl : j = l.length := by omega
          rw [List.take_length] at hSR hrow
          have HH := Lib.hid hH; have HG := Lib.hid hG; have HROW := Lib.hid hrow; have HS' := Lib.hid hSR
          have J2 : Hid (l.length ≤ 2000) := Lib.hid (by omega)
          clear hH hG hrow hvG hSR
          go_wp2_with (first | (go_at_call 44; (with_reducible refine (RBlocks_c G q _ r l.length HS'.out J2.out _ rfl _ HH.out).mono ?_); rintro e w3 ⟨bv, rfl, hbo, hbb⟩))
          go_ret3
          exact ⟨u9, bv, rfl, ownsRow_of_block HROW.out (fun q e => hbb.block q (HROW.out.lt q e).2), ownsRow_base_a hbo hB.size, hB.trans (hbb.mono hB.size)⟩
end Go.Proofs.Ytfhigeefclchiaa
