/- HeapCalls: the program's heap and the reference's, call by call. -/
import Derived.Test.YtfhigeefclchiaaRefH4
import Derived.Deep.RegionHeld3
namespace Go.Proofs.Ytfhigeefclchiaa
open Go.RowKit Go.Maps
set_option linter.unusedVariables false
set_option linter.unusedSimpArgs false

/-- Both heaps, that a call has made (its world began as w0). -/
structure Tw (w0 : World) (p : Nat) (h : HS) (q : Nat) (r : RS) (w : World) : Prop where
  ex : ∃ F G, HeapAt F w p h ∧ RefAt G w q r ∧ (∀ k, F k → w0.heap.size ≤ k ∧ ¬ G k) ∧ ∀ k, G k → w0.heap.size ≤ k
  bel : Below w0.heap.size w0 w
theorem Tw.prog {w0 w : World} {p q f : Nat} {h h' : HS} {r : RS} {args : Array Value} {x : Ending} (H : Tw w0 p h q r w) (c : ∀ F, HeapAt F w p h → Calls Try.prog f args w fun e w' => e = x ∧ Goes F w p h' w') : Calls Try.prog f args w fun e w' => e = x ∧ Tw w0 p h' q r w' := by
  obtain ⟨⟨F, G, hF, hG, d1, d2⟩, bel⟩ := H
  refine (c F hF).mono ?_
  rintro e w' ⟨he, F', hH', hk, hF'⟩
  refine ⟨he, ⟨F', G, hH', hG.kp hk (fun k hk h => (d1 k h).2 hk), fun k hk => ?_, d2⟩, bel.trans (hk.toBelow (fun k hk => (d1 k hk).1) bel.size)⟩
  rcases hF' k hk with h | h
  · exact d1 k h
  · exact ⟨Nat.le_trans bel.size h, fun h2 => by have := hG.lt k h2; omega⟩
theorem Tw.refc {w0 w : World} {p q f : Nat} {h : HS} {r r' : RS} {args : Array Value} {x : Ending} (H : Tw w0 p h q r w) (c : ∀ G, RefAt G w q r → Calls Try.prog f args w fun e w' => e = x ∧ GoesR G w q r' w') : Calls Try.prog f args w fun e w' => e = x ∧ Tw w0 p h q r' w' := by
  obtain ⟨⟨F, G, hF, hG, d1, d2⟩, bel⟩ := H
  refine (c G hG).mono ?_
  rintro e w' ⟨he, G', hH', hk, hG'⟩
  refine ⟨he, ⟨F, G', hF.kp hk (fun k hk h => (d1 k hk).2 h), hH', fun k hk => ⟨(d1 k hk).1, fun h => ?_⟩, fun k hk => ?_⟩, bel.trans (hk.toBelow d2 bel.size)⟩
  · rcases hG' k h with h | h
    · exact (d1 k hk).2 h
    · have := hF.lt k hk; omega
  · rcases hG' k hk with h | h
    · exact d2 k h
    · exact Nat.le_trans bel.size h
theorem Tw.below {w0 w w' : World} {p q : Nat} {h : HS} {r : RS} (H : Tw w0 p h q r w) (hb : Below w.heap.size w w') : Tw w0 p h q r w' := by
  obtain ⟨⟨F, G, hF, hG, d1, d2⟩, bel⟩ := H
  exact ⟨⟨F, G, hF.below hb, hG.below hb, d1, d2⟩, below_step bel hb⟩
section
variable {w0 w : World} {p q j : Nat} {h : HS} {r : RS}
theorem Take_t (n id e : Int) (hid : h.takeId n = id) (he : h.roomE n = e) (hsz : h.sizes.length ≤ 1000000) (H : Tw w0 p h q r w) : Calls Try.prog 40 #[.pointer (some ⟨p, 0, none⟩), .int .i64 n] w fun x w' => x = .returned (.tuple #[.int .i64 id, .int .i64 e]) ∧ Tw w0 p (h.take n) q r w' :=
  H.prog fun F hF => Take_c F p h n id e hid he hsz w hF
theorem Give_t (id e : Int) (hid : In64 id) (he : h.giveE id = e) (hsz : h.sizes.length ≤ 1000000) (H : Tw w0 p h q r w) : Calls Try.prog 38 #[.pointer (some ⟨p, 0, none⟩), .int .i64 id] w fun x w' => x = .returned (.int .i64 e) ∧ Tw w0 p (h.give id) q r w' :=
  H.prog fun F hF => Give_c F p h id e hid he hsz w hF
theorem Spend_t (n e : Int) (he : h.roomE n = e) (H : Tw w0 p h q r w) : Calls Try.prog 39 #[.pointer (some ⟨p, 0, none⟩), .int .i64 n] w fun x w' => x = .returned (.int .i64 e) ∧ Tw w0 p (h.spend n) q r w' :=
  H.prog fun F hF => Spend_c F p h n e he w hF
theorem Live_t (x : Int) (hx : h.live = x) (H : Tw w0 p h q r w) : Calls Try.prog 35 #[.pointer (some ⟨p, 0, none⟩)] w fun e w' => e = .returned (.int .i64 x) ∧ w = w' := by
  obtain ⟨⟨F, G, hF, -, -, -⟩, -⟩ := H; exact Live_c F p h x hx w hF
theorem Laid_t (x : Int) (hx : h.laid = x) (H : Tw w0 p h q r w) : Calls Try.prog 36 #[.pointer (some ⟨p, 0, none⟩)] w fun e w' => e = .returned (.int .i64 x) ∧ w = w' := by
  obtain ⟨⟨F, G, hF, -, -, -⟩, -⟩ := H; exact Laid_c F p h x hx w hF
theorem Blocks_t (bl : List Int) (hbl : h.blocks = bl) (hsz : h.sizes.length ≤ 1000000) (H : Tw w0 p h q r w) : Calls Try.prog 37 #[.pointer (some ⟨p, 0, none⟩)] w fun e w' => ∃ v, e = .returned v ∧ w'.ownsRow w.heap.size 3 1 v bl.length (bl.map (Value.int .i64)) ∧ Below w.heap.size w w' := by
  obtain ⟨⟨F, G, hF, -, -, -⟩, -⟩ := H; exact Blocks_c F p h bl hbl hsz w hF
variable {h' : HS}
theorem RTake_t (s : SR h r j) (hj : j ≤ 2000) (n id e : Int) (hn : In64 n) (hid : h.takeId n = id) (he : h.roomE n = e) (H : Tw w0 p h' q r w) : Calls Try.prog 41 #[.pointer (some ⟨q, 0, none⟩), .int .i64 n] w fun x w' => x = .returned (.tuple #[.int .i64 id, .int .i64 e]) ∧ Tw w0 p h' q (r.take n) w' :=
  H.refc fun G hG => RTake_c G q h r j s hj n id e hn hid he w hG
theorem RGive_t (s : SR h r j) (hj : j ≤ 2000) (id e : Int) (hid : In64 id) (he : h.giveE id = e) (H : Tw w0 p h' q r w) : Calls Try.prog 42 #[.pointer (some ⟨q, 0, none⟩), .int .i64 id] w fun x w' => x = .returned (.int .i64 e) ∧ Tw w0 p h' q (r.give id) w' :=
  H.refc fun G hG => RGive_c G q h r j s hj id e hid he w hG
theorem RSpend_t (s : SR h r j) (hj : j ≤ 2000) (n e : Int) (he : h.roomE n = e) (H : Tw w0 p h' q r w) : Calls Try.prog 43 #[.pointer (some ⟨q, 0, none⟩), .int .i64 n] w fun x w' => x = .returned (.int .i64 e) ∧ Tw w0 p h' q (r.spend n) w' :=
  H.refc fun G hG => RSpend_c G q h r j s hj n e he w hG
theorem RLive_t (s : SR h r j) (hj : j ≤ 2000) (x : Int) (hx : h.live = x) (H : Tw w0 p h' q r w) : Calls Try.prog 45 #[.pointer (some ⟨q, 0, none⟩)] w fun e w' => e = .returned (.int .i64 x) ∧ w = w' := by
  obtain ⟨⟨F, G, -, hG, -, -⟩, -⟩ := H; exact RLive_c G q h r j s hj x hx w hG
theorem RLaid_t (s : SR h r j) (hj : j ≤ 2000) (x : Int) (hx : h.laid = x) (H : Tw w0 p h' q r w) : Calls Try.prog 46 #[.pointer (some ⟨q, 0, none⟩)] w fun e w' => e = .returned (.int .i64 x) ∧ w = w' := by
  obtain ⟨⟨F, G, -, hG, -, -⟩, -⟩ := H; exact RLaid_c G q h r j s hj x hx w hG
theorem RBlocks_t (s : SR h r j) (hj : j ≤ 2000) (bl : List Int) (hbl : h.blocks = bl) (H : Tw w0 p h' q r w) : Calls Try.prog 44 #[.pointer (some ⟨q, 0, none⟩)] w fun e w' => ∃ v, e = .returned v ∧ w'.ownsRow w.heap.size 3 1 v bl.length (bl.map (Value.int .i64)) ∧ Below w.heap.size w w' := by
  obtain ⟨⟨F, G, -, hG, -, -⟩, -⟩ := H; exact RBlocks_c G q h r j s hj bl hbl w hG
end
/-- The reference's new heap beside the program's. -/
theorem Tw.begin {w0 w : World} {p : Nat} {h : HS} {lim : Int} (H : HA w0 noS p h w) : Tw w0 p h w.heap.size (RS.new lim) (w.alloc (.cells #[.int .i64 lim, .int .i64 0, .int .i64 0, nilSl] 62)) := by
  obtain ⟨⟨F, hF, hS⟩, -, bel⟩ := H
  have hb : Below w.heap.size w (w.alloc (.cells #[.int .i64 lim, .int .i64 0, .int .i64 0, nilSl] 62)) := (Below.refl _ w).alloc (Nat.le_refl _) _
  refine ⟨⟨F, _, hF.below hb, ⟨nilSl, ⟨?_, ?_, ?_, ?_, fun i => ?_, World.ownsRow_nil _ _ _ _, by simp [nilSl, Value.ownBlock]⟩, rfl⟩, fun k hk => ⟨(hS k hk).1, fun h => ?_⟩, fun k hk => ?_⟩, below_step bel hb⟩
  · simp [go_sem, RS.new]
  · simp [go_sem, RS.new]
  · simp [go_sem, RS.new]
  · simp [go_sem, RS.new]
  · simp [go_sem]
  · have := hF.lt k hk
    rcases h with h | h
    · omega
    · simp [nilSl, Value.ownBlock] at h
  · rcases hk with h | h
    · rw [h]; exact bel.size
    · simp [nilSl, Value.ownBlock] at h
theorem row_any {w : World} {base e n : Nat} {v : Value} {xs : List Value} (h : w.ownsRow base e 1 v n xs) : ∃ A c, v = .slice A n c ∧ (0 < n → ∃ g, A = some ⟨g, 0, none⟩ ∧ base ≤ g) := by
  rcases h.2 with ⟨e, h0⟩ | ⟨g, cap, cur, e, hb, hg, hn, hc, hs, ht⟩
  · exact ⟨none, 0, by rw [e, h0], fun h => by omega⟩
  · exact ⟨some ⟨g, 0, none⟩, cap, e, fun _ => ⟨g, rfl, hb⟩⟩
set_option maxRecDepth 100000 in
theorem walk_HeapCalls_no (lim : Int) (v : Value) (hlim : lim < 0 ∨ 400000 < lim) (w : World) : Calls Try.prog 12 #[.int .i64 lim, v] w fun e w' => e = .returned (.bool true) ∧ Below w.heap.size w w' := by
  have HB := Lib.hid hlim
  by_cases h1 : lim < 0
  · have d1 : decide (lim < 0) = true := by simpa using h1
    clear h1 hlim
    go_enter Try.func12, Try.ntmps12
    go_wp2_with (first
      | (go_at_call 32; (with_reducible refine (law06_fixed _).mono ?_); rintro e w1 ⟨rfl, hb1⟩)
      | (go_at_call 34; (with_reducible refine (heap_New_bad lim HB.out _).mono ?_); rintro e w2 ⟨rfl, rfl⟩)
      | (go_at_call 35; (with_reducible refine (Live_nil _).mono ?_); rintro e w2 ⟨rfl, rfl⟩)
      | (go_at_call 36; (with_reducible refine (Laid_nil _).mono ?_); rintro e w2 ⟨rfl, rfl⟩)
      | (go_at_call 37; (with_reducible refine (Blocks_nil _).mono ?_); rintro e w2 ⟨rfl, rfl⟩)
      | (go_at_call 38; (with_reducible refine (Give_nil _ _).mono ?_); rintro e w2 ⟨rfl, rfl⟩)
      | (go_at_call 39; (with_reducible refine (Spend_nil _ _).mono ?_); rintro e w2 ⟨rfl, rfl⟩))
    go_ret
    exact ⟨rfl, hb1⟩
  · have d1 : decide (lim < 0) = false := by simpa using h1
    have d2 : decide (400000 < lim) = true := by simp; omega
    clear h1 hlim
    go_enter Try.func12, Try.ntmps12
    go_wp2_with (first
      | (go_at_call 32; (with_reducible refine (law06_fixed _).mono ?_); rintro e w1 ⟨rfl, hb1⟩)
      | (go_at_call 34; (with_reducible refine (heap_New_bad lim HB.out _).mono ?_); rintro e w2 ⟨rfl, rfl⟩)
      | (go_at_call 35; (with_reducible refine (Live_nil _).mono ?_); rintro e w2 ⟨rfl, rfl⟩)
      | (go_at_call 36; (with_reducible refine (Laid_nil _).mono ?_); rintro e w2 ⟨rfl, rfl⟩)
      | (go_at_call 37; (with_reducible refine (Blocks_nil _).mono ?_); rintro e w2 ⟨rfl, rfl⟩)
      | (go_at_call 38; (with_reducible refine (Give_nil _ _).mono ?_); rintro e w2 ⟨rfl, rfl⟩)
      | (go_at_call 39; (with_reducible refine (Spend_nil _ _).mono ?_); rintro e w2 ⟨rfl, rfl⟩))
    go_ret
    exact ⟨rfl, hb1⟩
set_option maxRecDepth 100000 in
set_option maxHeartbeats 6400000 in
theorem walk_HeapCalls (lim : Int) (l : List (Int × Int)) (v : Value) (h0 : 0 ≤ lim) (h1 : lim ≤ 400000) (w : World) (hv : OSA w v l) : Calls Try.prog 12 #[.int .i64 lim, v] w fun e w' => e = .returned (.bool true) ∧ Below w.heap.size w w' := by
  have HN := Lib.hid hv.opN64
  have hll := hv.len
  obtain ⟨A, c, rfl, hc, hA⟩ := hv.cells
  have HA' := Lib.hid hA
  have A0 := Lib.hid h0; have A1 := Lib.hid h1
  have hl63 : (l.length : Int) ≤ 9223372036854775807 := by omega
  have d1 : decide (lim < 0) = false := by simp; omega
  have d2 : decide (400000 < lim) = false := by simp; omega
  clear hA hv hc
  go_enter Try.func12, Try.ntmps12
  go_wp2_with (first
    | (go_at_call 32; (with_reducible refine (law06_fixed _).mono ?_); rintro e w1 ⟨rfl, hb1⟩)
    | (go_at_call 34; (with_reducible refine (New_h w lim A0.out A1.out _ hb1).mono ?_); rintro e w2 ⟨p, rfl, h2⟩; have H2 := Lib.hid (Tw.begin (lim := lim) h2); clear h2 hb1))
  obtain ⟨q, hq⟩ : ∃ q, w2.heap.size = q := ⟨_, rfl⟩
  rw [hq] at H2 ⊢
  go_loopw [8] (fun i wr => ∃ (j : Nat) (h : HS) (r : RS), j ≤ l.length ∧ j ≤ 300 ∧ i = .int .i64 j ∧ Hid (SR h r j) ∧ Hid (Tw w p h q r wr)) (fun i _ => l.length - (intOf i).toNat)
  case atStart => exact ⟨0, _, _, Nat.zero_le _, Nat.zero_le _, rfl, Lib.hid (SR.new lim A0.out A1.out), H2⟩
  case round =>
    clear H2
    obtain ⟨j, h, r, hj, hj3, rfl, HL, HH⟩ := hrel
    have J2 : Hid (j ≤ 2000) := Lib.hid (by omega)
    have J3 : Hid (j + 1 ≤ 2000) := Lib.hid (by omega)
    have LN : Hid (h.sizes.length ≤ 1000000) := Lib.hid (by have := HL.out.len; have := HL.out.sim.len; omega)
    by_cases hjl : j < l.length ∧ j < 300
    · obtain ⟨hjl, hj30⟩ := hjl
      obtain ⟨b, o, rfl, hbl, hcell⟩ := HA'.out (by omega)
      obtain ⟨ck, cn⟩ := hcell j hjl
      replace ck := (HH.out.bel.cell (p := ⟨b, _, none⟩) hbl).trans ck
      have HCN := Lib.hid cn
      replace cn := (HH.out.bel.cell (p := ⟨b, _, none⟩) hbl).trans cn
      have N2 := Lib.hid (HN.out j)
      clear hcell
      generalize opK l j = k at ck
      generalize opN l j = m at cn HCN N2
      have dj : decide ((j : Int) < (l.length : Int)) = true := by simp; omega
      have dj3 : decide ((j : Int) < 300) = true := by simp; omega
      have jl : (j : Int) < (l.length : Int) := by omega
      by_cases k1 : k = 1
      · subst k1
        have HLV := Lib.hid (HL.out.take m)
        obtain ⟨x, hx⟩ : ∃ x, (h.take m).live = x := ⟨_, rfl⟩
        obtain ⟨y, hy⟩ : ∃ y, (h.take m).laid = y := ⟨_, rfl⟩
        obtain ⟨id, hid⟩ : ∃ x, h.takeId m = x := ⟨_, rfl⟩
        obtain ⟨er, her⟩ : ∃ x, h.roomE m = x := ⟨_, rfl⟩
        have HX := Lib.hid hx; have HY := Lib.hid hy; have HID := Lib.hid hid; have HER := Lib.hid her
        clear hx hy hid her
        go_wp2_with (first
          | (go_at_call 40; (with_reducible refine (Take_t m id er HID.out HER.out LN.out HH.out).mono ?_); rintro e w3 ⟨rfl, h3⟩; have cn3 := (h3.bel.cell (p := ⟨b, o + j * 2 + 1, none⟩) hbl).trans HCN.out; have H3 := Lib.hid h3; clear h3)
          | (go_at_call 41; (with_reducible refine (RTake_t HL.out J2.out m id er N2.out HID.out HER.out H3.out).mono ?_); rintro e w4 ⟨rfl, h4⟩; have H4 := Lib.hid h4; clear h4)
          | (go_at_call 35; (with_reducible refine (Live_t x HX.out H4.out).mono ?_); rintro e w6 ⟨rfl, rfl⟩)
          | (go_at_call 45; (with_reducible refine (RLive_t HLV.out J3.out x HX.out H4.out).mono ?_); rintro e w6 ⟨rfl, rfl⟩)
          | (go_at_call 36; (with_reducible refine (Laid_t y HY.out H4.out).mono ?_); rintro e w6 ⟨rfl, rfl⟩)
          | (go_at_call 46; (with_reducible refine (RLaid_t HLV.out J3.out y HY.out H4.out).mono ?_); rintro e w6 ⟨rfl, rfl⟩))
        go_roundw
        case rel => exact ⟨j + 1, _, _, by omega, by omega, by go_num, HLV, H4⟩
        case measure => simp [intOf]; omega
      by_cases k2 : k = 2
      · subst k2
        clear k1
        have HLV := Lib.hid (HL.out.give m)
        obtain ⟨x, hx⟩ : ∃ x, (h.give m).live = x := ⟨_, rfl⟩
        obtain ⟨y, hy⟩ : ∃ y, (h.give m).laid = y := ⟨_, rfl⟩
        obtain ⟨er, her⟩ : ∃ x, h.giveE m = x := ⟨_, rfl⟩
        have HX := Lib.hid hx; have HY := Lib.hid hy; have HER := Lib.hid her
        clear hx hy her
        have HHd : Hid (Tw w p h q r wr.drew) := Lib.hid (HH.out.below (Below.refl _ _).drew)
        have S0 : wr.drew.cell? ⟨b, o + j * 2 + 1, none⟩ = some (.int .i64 m) ∧ Below w.heap.size w wr.drew := ⟨cn, HH.out.bel.drew⟩
        go_wp2
        go_region_held3 (fun wq => wq.cell? ⟨b, o + j * 2 + 1, none⟩ = some (.int .i64 m) ∧ Below w.heap.size w wq)
          (first | exact S0 | assumption | exact ⟨(H4.out.bel.cell (p := ⟨b, o + j * 2 + 1, none⟩) hbl).trans HCN.out, H4.out.bel⟩ | exact ⟨(H3.out.bel.cell (p := ⟨b, o + j * 2 + 1, none⟩) hbl).trans HCN.out, H3.out.bel⟩)
          (first
          | (go_at_call 38; (with_reducible refine (Give_t m er N2.out HER.out LN.out HHd.out).mono ?_); rintro e w3 ⟨rfl, h3⟩; have H3 := Lib.hid h3; clear h3)
          | (go_at_call 42; (with_reducible refine (RGive_t HL.out J2.out m er N2.out HER.out H3.out).mono ?_); rintro e w4 ⟨rfl, h4⟩; have H4 := Lib.hid h4; clear h4))
        all_goals go_wp2_with (first
          | (go_at_call 35; (with_reducible refine (Live_t x HX.out H4.out).mono ?_); rintro e w6 ⟨rfl, rfl⟩)
          | (go_at_call 45; (with_reducible refine (RLive_t HLV.out J3.out x HX.out H4.out).mono ?_); rintro e w6 ⟨rfl, rfl⟩)
          | (go_at_call 36; (with_reducible refine (Laid_t y HY.out H4.out).mono ?_); rintro e w6 ⟨rfl, rfl⟩)
          | (go_at_call 46; (with_reducible refine (RLaid_t HLV.out J3.out y HY.out H4.out).mono ?_); rintro e w6 ⟨rfl, rfl⟩))
        all_goals go_roundw
        all_goals first | exact ⟨j + 1, _, _, by omega, by omega, by go_num, HLV, H4⟩ | (simp [intOf]; omega)
      by_cases k3 : k = 3
      · subst k3
        clear k1 k2
        have HLV := Lib.hid (HL.out.spend m)
        obtain ⟨x, hx⟩ : ∃ x, (h.spend m).live = x := ⟨_, rfl⟩
        obtain ⟨y, hy⟩ : ∃ y, (h.spend m).laid = y := ⟨_, rfl⟩
        obtain ⟨er, her⟩ : ∃ x, h.roomE m = x := ⟨_, rfl⟩
        have HX := Lib.hid hx; have HY := Lib.hid hy; have HER := Lib.hid her
        clear hx hy her
        have HHd : Hid (Tw w p h q r wr.drew) := Lib.hid (HH.out.below (Below.refl _ _).drew)
        have S0 : wr.drew.cell? ⟨b, o + j * 2 + 1, none⟩ = some (.int .i64 m) ∧ Below w.heap.size w wr.drew := ⟨cn, HH.out.bel.drew⟩
        go_wp2
        go_region_held3 (fun wq => wq.cell? ⟨b, o + j * 2 + 1, none⟩ = some (.int .i64 m) ∧ Below w.heap.size w wq)
          (first | exact S0 | assumption | exact ⟨(H4.out.bel.cell (p := ⟨b, o + j * 2 + 1, none⟩) hbl).trans HCN.out, H4.out.bel⟩ | exact ⟨(H3.out.bel.cell (p := ⟨b, o + j * 2 + 1, none⟩) hbl).trans HCN.out, H3.out.bel⟩)
          (first
          | (go_at_call 39; (with_reducible refine (Spend_t m er HER.out HHd.out).mono ?_); rintro e w3 ⟨rfl, h3⟩; have H3 := Lib.hid h3; clear h3)
          | (go_at_call 43; (with_reducible refine (RSpend_t HL.out J2.out m er HER.out H3.out).mono ?_); rintro e w4 ⟨rfl, h4⟩; have H4 := Lib.hid h4; clear h4))
        all_goals go_wp2_with (first
          | (go_at_call 35; (with_reducible refine (Live_t x HX.out H4.out).mono ?_); rintro e w6 ⟨rfl, rfl⟩)
          | (go_at_call 45; (with_reducible refine (RLive_t HLV.out J3.out x HX.out H4.out).mono ?_); rintro e w6 ⟨rfl, rfl⟩)
          | (go_at_call 36; (with_reducible refine (Laid_t y HY.out H4.out).mono ?_); rintro e w6 ⟨rfl, rfl⟩)
          | (go_at_call 46; (with_reducible refine (RLaid_t HLV.out J3.out y HY.out H4.out).mono ?_); rintro e w6 ⟨rfl, rfl⟩))
        all_goals go_roundw
        all_goals first | exact ⟨j + 1, _, _, by omega, by omega, by go_num, HLV, H4⟩ | (simp [intOf]; omega)
      · have e1 : (k == 1) = false := by simpa using k1
        have e2 : (k == 2) = false := by simpa using k2
        have e3 : (k == 3) = false := by simpa using k3
        have HLV := Lib.hid HL.out.mono
        obtain ⟨x, hx⟩ : ∃ x, h.live = x := ⟨_, rfl⟩
        obtain ⟨y, hy⟩ : ∃ y, h.laid = y := ⟨_, rfl⟩
        obtain ⟨bl, hbl2⟩ : ∃ bl, h.blocks = bl := ⟨_, rfl⟩
        have hbll : bl.length ≤ 1000000 := by rw [← hbl2]; exact Nat.le_trans h.blocks_len LN.out
        have HX := Lib.hid hx; have HY := Lib.hid hy; have HBL := Lib.hid hbl2; have HBLL : Hid (bl.length ≤ 17592186044416) := Lib.hid (by omega)
        have hblI : (bl.length : Int) ≤ 9223372036854775807 := by omega
        clear hx hy hbl2 k1 k2 k3
        go_wp2_with (first
          | (go_at_call 37; (with_reducible refine (Blocks_t bl HBL.out LN.out HH.out).mono ?_); rintro e w3 ⟨bv, rfl, hbo, hbb⟩; have H3 := Lib.hid (HH.out.below hbb); have HO3 := Lib.hid hbo; have HB3 := Lib.hid hbb; clear hbo hbb)
          | (go_at_call 44; (with_reducible refine (RBlocks_t HL.out J2.out bl HBL.out H3.out).mono ?_); rintro e w4 ⟨cv, rfl, hbo4, hbb4⟩; have HI4 := Lib.hid (IS.of_row (zs := bl) hbo4); have HO4 := Lib.hid (ownsRow_below HO3.out hbb4); have HB4 := Lib.hid (below_step HB3.out hbb4); clear hbo4 hbb4 H3 HO3 HB3)
          | (go_at_call 19; (with_reducible refine (SameInts _ _ bl bl true (by simp) _ HBLL.out HBLL.out (IS.of_row (zs := bl) HO4.out) HI4.out).mono ?_); rintro e w5 ⟨rfl, hb5⟩; have HO5 := Lib.hid (ownsRow_below HO4.out hb5); have HB5 := Lib.hid (below_step HB4.out hb5); clear HO4 HB4 HI4 hb5))
        obtain ⟨wo, rfl⟩ : ∃ wo, wo = wr := ⟨_, rfl⟩
        obtain ⟨AV, cc, ebv, hAV⟩ := row_any HO5.out
        subst ebv
        have HAV := Lib.hid hAV
        clear hAV
        go_loopw [14] (fun i wx => ∃ t : Nat, t ≤ bl.length ∧ i = .int .i64 t ∧ Hid (∃ xs, wx.ownsRow wo.heap.size 3 1 (.slice AV bl.length cc) bl.length xs) ∧ Hid (Below wo.heap.size wo wx)) (fun i _ => bl.length - (intOf i).toNat)
        case atStart => exact ⟨0, Nat.zero_le _, rfl, Lib.hid ⟨_, HO5.out⟩, HB5⟩
        case round =>
          clear HO5 HB5
          obtain ⟨t, ht, rfl, HXS, HBW⟩ := hrel
          by_cases htl : t < bl.length
          · obtain ⟨g, rfl, hgw⟩ := HAV.out (by omega)
            obtain ⟨xs, hxs⟩ := HXS.out
            have cg : ∃ u, wr.cell? ⟨g, t, none⟩ = some u := ⟨_, (hxs.cellAt t (by omega)).trans (List.getElem?_eq_getElem (by rw [hxs.1]; omega))⟩
            obtain ⟨u, cg⟩ := cg
            have fg := hxs.frozenAt t
            have HST := Lib.hid (fun uu => (hxs.stored t uu).1)
            have HB6 := Lib.hid (fun uu => HBW.out.setCell (p := ⟨g, t, none⟩) hgw uu)
            have dt : decide ((t : Int) < (bl.length : Int)) = true := by simp; omega
            have tl : (t : Int) < (bl.length : Int) := by omega
            clear hxs
            go_wp2
            go_roundw
            case rel => exact ⟨t + 1, by omega, by go_num, Lib.hid ⟨_, HST.out _⟩, Lib.hid (HB6.out _)⟩
            case measure => simp [intOf]; omega
          · obtain rfl : bl.length = t := by omega
            have H4 := Lib.hid (HH.out.below HBW.out)
            go_wp2_with (first
              | (go_at_call 35; (with_reducible refine (Live_t x HX.out H4.out).mono ?_); rintro e w6 ⟨rfl, rfl⟩)
              | (go_at_call 45; (with_reducible refine (RLive_t HLV.out J3.out x HX.out H4.out).mono ?_); rintro e w6 ⟨rfl, rfl⟩)
              | (go_at_call 36; (with_reducible refine (Laid_t y HY.out H4.out).mono ?_); rintro e w6 ⟨rfl, rfl⟩)
              | (go_at_call 46; (with_reducible refine (RLaid_t HLV.out J3.out y HY.out H4.out).mono ?_); rintro e w6 ⟨rfl, rfl⟩))
            go_roundw
            case rel => exact ⟨j + 1, _, _, by omega, by omega, by go_num, HLV, H4⟩
            case measure => simp [intOf]; omega
    · have dj : l.length = j ∨ (300 < l.length ∧ 300 = j) := by omega
      obtain ⟨bl, hbl2⟩ : ∃ bl, h.blocks = bl := ⟨_, rfl⟩
      have hbll : bl.length ≤ 1000000 := by rw [← hbl2]; exact Nat.le_trans h.blocks_len LN.out
      have HBL := Lib.hid hbl2; have HBLL : Hid (bl.length ≤ 17592186044416) := Lib.hid (by omega)
      clear hj hj3 hjl hbl2
      rcases dj with rfl | ⟨dj, rfl⟩
      · go_wp2_with (first
          | (go_at_call 37; (with_reducible refine (Blocks_t bl HBL.out LN.out HH.out).mono ?_); rintro e w3 ⟨bv, rfl, hbo, hbb⟩; have H3 := Lib.hid (HH.out.below hbb); have HO3 := Lib.hid hbo; clear hbo hbb)
          | (go_at_call 44; (with_reducible refine (RBlocks_t HL.out J2.out bl HBL.out H3.out).mono ?_); rintro e w4 ⟨cv, rfl, hbo4, hbb4⟩; have HI4 := Lib.hid (IS.of_row (zs := bl) hbo4); have HO4 := Lib.hid (ownsRow_below HO3.out hbb4); have H4 := Lib.hid (H3.out.below hbb4); clear hbo4 hbb4 H3 HO3)
          | (go_at_call 19; (with_reducible refine (SameInts _ _ bl bl true (by simp) _ HBLL.out HBLL.out (IS.of_row (zs := bl) HO4.out) HI4.out).mono ?_); rintro e w5 ⟨rfl, hb5⟩; have H5 := Lib.hid (H4.out.below hb5); clear HO4 HI4 hb5 H4))
        go_ret
        exact ⟨rfl, H5.out.bel⟩
      · have dj2 : decide ((300 : Int) < (l.length : Int)) = true := by simp; omega
        have dj4 : (300 : Int) < (l.length : Int) := by omega
        go_wp2_with (first
          | (go_at_call 37; (with_reducible refine (Blocks_t bl HBL.out LN.out HH.out).mono ?_); rintro e w3 ⟨bv, rfl, hbo, hbb⟩; have H3 := Lib.hid (HH.out.below hbb); have HO3 := Lib.hid hbo; clear hbo hbb)
          | (go_at_call 44; (with_reducible refine (RBlocks_t HL.out J2.out bl HBL.out H3.out).mono ?_); rintro e w4 ⟨cv, rfl, hbo4, hbb4⟩; have HI4 := Lib.hid (IS.of_row (zs := bl) hbo4); have HO4 := Lib.hid (ownsRow_below HO3.out hbb4); have H4 := Lib.hid (H3.out.below hbb4); clear hbo4 hbb4 H3 HO3)
          | (go_at_call 19; (with_reducible refine (SameInts _ _ bl bl true (by simp) _ HBLL.out HBLL.out (IS.of_row (zs := bl) HO4.out) HI4.out).mono ?_); rintro e w5 ⟨rfl, hb5⟩; have H5 := Lib.hid (H4.out.below hb5); clear HO4 HI4 hb5 H4))
        go_ret
        exact ⟨rfl, H5.out.bel⟩
theorem rowHeapCalls {v : Value} {W : World} (lim : Int) (l : List (Int × Int)) (hlim : In64 lim) (f : OSA W v l) (w : World) : Calls Try.prog 12 #[.int .i64 lim, v] W fun e w' => e = .returned (.bool true) ∧ Below W.heap.size W w' := by
  by_cases h : lim < 0 ∨ 400000 < lim
  · exact walk_HeapCalls_no lim v h W
  · exact walk_HeapCalls lim l v (by omega) (by omega) W f
end Go.Proofs.Ytfhigeefclchiaa
