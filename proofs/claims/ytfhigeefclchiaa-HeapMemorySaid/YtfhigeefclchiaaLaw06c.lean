/- HeapLives: never above the limit; what is taken and given back leaves no trace but in Laid. -/
import Derived.Test.YtfhigeefclchiaaOpenO
import Derived.Test.YtfhigeefclchiaaLaw06b
namespace Go.Proofs.Ytfhigeefclchiaa
open Go.RowKit Go.Maps
set_option linter.unusedVariables false
set_option linter.unusedSimpArgs false

namespace HS
/-- What the calls have left: s cells are spent, the rest is taken. -/
structure LV (lim : Int) (h : HS) (s : Int) (j : Nat) : Prop where
  k : h.ok
  lim : h.lim = lim
  live : h.live = s + tsum h.tk h.sizes.length
  s0 : 0 ≤ s
  len : h.sizes.length ≤ j
theorem tsum_le {h : HS} (k : h.ok) : ∀ i, i ≤ h.sizes.length → tsum h.tk i ≤ (h.sizes.take i).sum
  | 0, _ => by simp [tsum]
  | i + 1, hi => by
    have ih := tsum_le k i (by omega)
    have e : h.sizes[i]? = some h.sizes[i] := List.getElem?_eq_getElem (by omega)
    rw [tsum_succ, List.take_add_one, e, List.sum_append]
    have h1 := (k.sz _ (List.getElem_mem (show i < h.sizes.length by omega))).1
    cases e2 : h.tk ((i : Int) + 1) with
    | none => simp; omega
    | some n =>
      obtain ⟨-, -, h3⟩ := k.tk _ _ e2
      rw [show ((i : Int) + 1 - 1).toNat = i by omega, List.getD_eq_getElem?_getD, e] at h3
      simp at h3 ⊢
      omega
theorem LV.facts {lim s : Int} {h : HS} {j : Nat} (H : LV lim h s j) : h.live ≤ lim ∧ s ≤ h.live ∧ h.live - s ≤ h.laid ∧ 0 ≤ h.live ∧ h.live ≤ 400000 := by
  have h1 := tsum_le H.k h.sizes.length (Nat.le_refl _)
  rw [List.take_length, ← H.k.ld] at h1
  have h2 := tsum_nonneg h.tk (fun id n e => by have := H.k.tkn e; omega) h.sizes.length
  have h3 := H.live
  have h4 := H.k.l1
  have h5 := H.k.l2
  have h6 := H.lim
  have h7 := H.s0
  omega
theorem LV.mono {lim s : Int} {h : HS} {j : Nat} (H : LV lim h s j) : LV lim h s (j + 1) := ⟨H.k, H.lim, H.live, H.s0, by have := H.len; omega⟩
theorem lv_new (lim : Int) (h0 : 0 ≤ lim) (h1 : lim ≤ 400000) : LV lim (new lim) 0 0 := ⟨ok_new lim h0 h1, rfl, by simp [new, tsum], Int.le_refl _, Nat.le_refl _⟩
theorem tk_new {h : HS} (k : h.ok) : h.tk ((h.sizes.length : Int) + 1) = none := by
  cases e : h.tk ((h.sizes.length : Int) + 1) with
  | none => rfl
  | some n => have := k.tk _ _ e; omega
theorem LV.take {lim s : Int} {h : HS} {j : Nat} (H : LV lim h s j) (n : Int) : LV lim (h.take n) s (j + 1) := by
  have hk := ok_take H.k n
  revert hk
  unfold HS.take
  by_cases hr : roomE h n ≠ 0 ∨ n = 0
  · rw [if_pos hr]; exact fun _ => H.mono
  · rw [if_neg hr]
    cases hl : (h.rd n).getLast? with
    | some id =>
      intro hk
      obtain ⟨a1, a2, -, a4⟩ := H.k.rd n id (by rw [getLast_concat hl]; simp)
      refine ⟨hk, H.lim, ?_, H.s0, by have := H.len; exact Nat.le_succ_of_le this⟩
      show h.live + n = s + tsum (updI h.tk id (some n)) h.sizes.length
      rw [tsum_upd _ _ _ a1 _ a2, a4, H.live]; simp; omega
    | none =>
      intro hk
      have e : (h.sizes ++ [n]).length = h.sizes.length + 1 := by simp
      refine ⟨hk, H.lim, ?_, H.s0, by show (h.sizes ++ [n]).length ≤ _; rw [e]; have := H.len; omega⟩
      show h.live + n = s + tsum (updI h.tk _ (some n)) (h.sizes ++ [n]).length
      rw [e, tsum_succ, tsum_out _ _ _ _ (by omega), updI_same, H.live]; simp; omega
theorem LV.give {lim s : Int} {h : HS} {j : Nat} (H : LV lim h s j) (id : Int) : LV lim (h.give id) s (j + 1) := by
  have hk := ok_give H.k id
  revert hk
  unfold HS.give
  by_cases h0 : id = 0
  · rw [if_pos h0]; exact fun _ => H.mono
  · rw [if_neg h0]
    cases e : h.tk id with
    | none => exact fun _ => H.mono
    | some n =>
      intro hk
      obtain ⟨a1, a2, -⟩ := H.k.tk _ _ e
      refine ⟨hk, H.lim, ?_, H.s0, by have := H.len; exact Nat.le_succ_of_le this⟩
      show h.live - n = s + tsum (updI h.tk id none) h.sizes.length
      rw [tsum_upd _ _ _ a1 _ a2, e, H.live]; simp; omega
theorem LV.spend {lim s : Int} {h : HS} {j : Nat} (H : LV lim h s j) (n : Int) (hr : roomE h n = 0) : LV lim (h.spend n) (s + n) (j + 1) := by
  have hk := ok_spend H.k n
  revert hk
  unfold HS.spend
  rw [if_pos hr]
  obtain ⟨r1, r2⟩ := roomE_ok.1 hr
  exact fun hk => ⟨hk, H.lim, by show h.live + n = s + n + tsum h.tk h.sizes.length; rw [H.live]; omega, by have := H.s0; omega, by have := H.len; exact Nat.le_succ_of_le this⟩
theorem LV.spend_no {lim s : Int} {h : HS} {j : Nat} (H : LV lim h s j) (n : Int) (hr : roomE h n ≠ 0) : LV lim (h.spend n) s (j + 1) := by
  unfold HS.spend
  rw [if_neg hr]
  exact H.mono
theorem updI_back {α : Type} (f : Int → α) (k : Int) (x y : α) (h : f k = y) : updI (updI f k x) k y = f := by
  funext i
  by_cases e : i = k
  · subst e; rw [updI_same]; exact h.symm
  · rw [updI_other _ _ _ e, updI_other _ _ _ e]
/-- Taken, given back, taken again. -/
theorem again {h : HS} (k : h.ok) (n : Int) (hr : roomE h n = 0) (hlen : h.sizes.length ≤ 1000000) : (h.take n).live = h.live + n ∧ (h.take n).giveE (h.takeId n) = 0 ∧ ((h.take n).give (h.takeId n)).live = h.live ∧ ((h.take n).give (h.takeId n)).blocks = h.blocks ∧ roomE ((h.take n).give (h.takeId n)) n = 0 ∧ ((h.take n).give (h.takeId n)).takeId n = h.takeId n ∧
    (((h.take n).give (h.takeId n)).take n).laid = (h.take n).laid ∧ (((h.take n).give (h.takeId n)).take n).live = h.live + n ∧ In64 (h.takeId n) ∧ 0 ≤ h.takeId n := by
  by_cases h0 : n = 0
  · subst h0
    have e1 : h.take 0 = h := by unfold HS.take; rw [if_pos (.inr rfl)]
    have e2 : h.takeId 0 = 0 := by unfold takeId; rw [if_pos (.inr rfl)]
    have e3 : h.give 0 = h := by unfold HS.give; rw [if_pos rfl]
    rw [e1, e2, e3, e1, e2]
    exact ⟨by omega, by unfold giveE; rw [if_pos rfl], rfl, rfl, hr, rfl, rfl, by omega, by unfold In64; omega, Int.le_refl _⟩
  · obtain ⟨r1, r2⟩ := roomE_ok.1 hr
    obtain ⟨id, h1, e1, e2, i0, hn, htk, hlive, hlim, hbl⟩ : ∃ id h1, h.takeId n = id ∧ h.take n = h1 ∧ 1 ≤ id ∧ h.tk id = none ∧ h1.tk = updI h.tk id (some n) ∧ h1.live = h.live + n ∧ h1.lim = h.lim ∧ (h1.sizes = h.sizes ∨ (h1.sizes = h.sizes ++ [n] ∧ id = (h.sizes.length : Int) + 1)) := by
      cases hl : (h.rd n).getLast? with
      | some id =>
        obtain ⟨e1, e2⟩ := take_old hr h0 hl
        obtain ⟨a1, a2, -, a4⟩ := k.rd n id (by rw [getLast_concat hl]; simp)
        exact ⟨id, _, e2, e1, a1, a4, rfl, rfl, rfl, .inl rfl⟩
      | none =>
        obtain ⟨e1, e2⟩ := take_new hr h0 (List.getLast?_eq_none_iff.1 hl)
        exact ⟨_, _, e2, e1, by omega, tk_new k, rfl, rfl, rfl, .inr ⟨rfl, rfl⟩⟩
    have hk1 : h1.ok := by rw [← e2]; exact ok_take k n
    rw [e1, e2]
    have t1 : h1.tk id = some n := by rw [htk, updI_same]
    have id64 : In64 id := by
      have := hk1.tk _ _ t1
      have h4 : h1.sizes.length ≤ 1 + h.sizes.length := by rcases hbl with h | ⟨h, -⟩ <;> rw [h] <;> simp <;> omega
      unfold In64; omega
    have g1 : h1.giveE id = 0 := by unfold giveE; rw [if_neg (by omega), t1]; rfl
    have g2 : h1.give id = h1.giveBack id n := by unfold HS.give; rw [if_neg (by omega), t1]
    rw [g2]
    have hr2 : roomE (h1.giveBack id n) n = 0 := roomE_ok.2 ⟨r1, by show h1.live - n + n ≤ h1.lim; rw [hlive, hlim]; omega⟩
    have hl2 : ((h1.giveBack id n).rd n).getLast? = some id := by
      show (updI h1.rd n (h1.rd n ++ [id]) n).getLast? = some id
      rw [updI_same]; simp
    obtain ⟨f1, f2⟩ := take_old hr2 h0 hl2
    rw [f1, f2]
    refine ⟨hlive, g1, by show h1.live - n = h.live; omega, ?_, hr2, rfl, rfl, by show h1.live - n + n = h.live + n; omega, id64, by omega⟩
    unfold HS.blocks
    show (Cs.up h1.sizes.length).filter (fun x => (updI h1.tk id none x).isSome) = _
    rw [htk, updI_back _ _ _ _ hn]
    rcases hbl with hbl | ⟨hbl, he⟩
    · rw [hbl]
    · rw [hbl, show (h.sizes ++ [n]).length = h.sizes.length + 1 by simp, Cs.up_succ, List.filter_append]
      rw [← he]
      simp [hn]
end HS
theorem OSA.cells {W : World} {v : Value} {l : List (Int × Int)} (h : OSA W v l) : ∃ A c, v = .slice A l.length c ∧ l.length ≤ c ∧ (0 < l.length → ∃ b o, A = some ⟨b, o, none⟩ ∧ b < W.heap.size ∧ ∀ j, j < l.length → W.cell? ⟨b, o + j * 2, none⟩ = some (.int .i64 (opK l j)) ∧ W.cell? ⟨b, o + j * 2 + 1, none⟩ = some (.int .i64 (opN l j))) := by
  obtain ⟨⟨A, c, rfl, hc⟩, ⟨A', c', e, hp⟩, -, -⟩ := h
  cases e
  exact ⟨A, c, rfl, hc, hp⟩
theorem OSA.opN64 {W : World} {v : Value} {l : List (Int × Int)} (h : OSA W v l) (j : Nat) : In64 (opN l j) := opN_in l (fun x hx => (h.2.2.1 x hx).2) j
theorem OSA.len {W : World} {v : Value} {l : List (Int × Int)} (h : OSA W v l) : l.length ≤ 8796093022208 := by have := h.2.2.2; omega
theorem HA.empty {w0 w : World} {p : Nat} {h : HS} (H : HA w0 noS p h w) (v : Value) (hv : v.ownBlock = none) : HA w0 (fun q => v.ownBlock = some q) p h w := by
  obtain ⟨⟨F, hF, hS⟩, -, bel⟩ := H
  exact ⟨⟨F, hF, fun q hq => ⟨(hS q hq).1, by rw [hv]; simp⟩⟩, fun q e => by rw [hv] at e; simp at e, bel⟩
set_option maxRecDepth 100000 in
theorem walk_HeapLives_no (lim n : Int) (v : Value) (hlim : lim < 0 ∨ 400000 < lim) (w : World) : Calls Try.prog 13 #[.int .i64 lim, v, .int .i64 n] w fun e w' => e = .returned (.bool true) ∧ Below w.heap.size w w' := by
  have HB := Lib.hid hlim
  by_cases h1 : lim < 0
  · have d1 : decide (lim < 0) = true := by simpa using h1
    clear h1 hlim
    go_enter Try.func13, Try.ntmps13
    go_wp2_with (first
      | (go_at_call 32; (with_reducible refine (law06_fixed _).mono ?_); rintro e w1 ⟨rfl, hb1⟩)
      | (go_at_call 34; (with_reducible refine (heap_New_bad lim HB.out _).mono ?_); rintro e w2 ⟨rfl, rfl⟩))
    go_ret
    exact ⟨rfl, hb1⟩
  · have d1 : decide (lim < 0) = false := by simpa using h1
    have d2 : decide (400000 < lim) = true := by simp; omega
    clear h1 hlim
    go_enter Try.func13, Try.ntmps13
    go_wp2_with (first
      | (go_at_call 32; (with_reducible refine (law06_fixed _).mono ?_); rintro e w1 ⟨rfl, hb1⟩)
      | (go_at_call 34; (with_reducible refine (heap_New_bad lim HB.out _).mono ?_); rintro e w2 ⟨rfl, rfl⟩))
    go_ret
    exact ⟨rfl, hb1⟩
set_option maxRecDepth 100000 in
set_option maxHeartbeats 6400000 in
theorem walk_HeapLives (lim n : Int) (l : List (Int × Int)) (v : Value) (h0 : 0 ≤ lim) (h1 : lim ≤ 400000) (w : World) (hv : OSA w v l) (hn64 : In64 n) : Calls Try.prog 13 #[.int .i64 lim, v, .int .i64 n] w fun e w' => e = .returned (.bool true) ∧ Below w.heap.size w w' := by
  have HN := Lib.hid hv.opN64
  have hll := hv.len
  obtain ⟨A, c, rfl, hc, hA⟩ := hv.cells
  have HA' := Lib.hid hA
  have A0 := Lib.hid h0; have A1 := Lib.hid h1; have N64 := Lib.hid hn64
  have hl63 : (l.length : Int) ≤ 9223372036854775807 := by omega
  clear hA hv hc hn64
  go_enter Try.func13, Try.ntmps13
  go_wp2_with (first
    | (go_at_call 32; (with_reducible refine (law06_fixed _).mono ?_); rintro e w1 ⟨rfl, hb1⟩)
    | (go_at_call 34; (with_reducible refine (New_h w lim A0.out A1.out _ hb1).mono ?_); rintro e w2 ⟨p, rfl, h2⟩; have H2 := Lib.hid h2; clear h2 hb1))
  go_loopw [9, 10] (fun s i wr => ∃ (j : Nat) (h : HS) (sp : Int), j ≤ l.length ∧ j ≤ 300 ∧ i = .int .i64 j ∧ s = .int .i64 sp ∧ Hid (HS.LV lim h sp j) ∧ Hid (HA w noS p h wr)) (fun _ i _ => l.length - (intOf i).toNat)
  case atStart => exact ⟨0, _, 0, Nat.zero_le _, Nat.zero_le _, rfl, rfl, Lib.hid (HS.lv_new lim A0.out A1.out), H2⟩
  case round =>
    clear H2
    obtain ⟨j, h, sp, hj, hj3, rfl, rfl, HL, HH⟩ := hrel
    by_cases hjl : j < l.length ∧ j < 300
    · obtain ⟨hjl, hj30⟩ := hjl
      obtain ⟨b, o, rfl, hbl, hcell⟩ := HA'.out (by omega)
      obtain ⟨ck, cn⟩ := hcell j hjl
      replace ck := (HH.out.bel.cell (p := ⟨b, _, none⟩) hbl).trans ck
      have HCN := Lib.hid cn
      replace cn := (HH.out.bel.cell (p := ⟨b, _, none⟩) hbl).trans cn
      have N2 := Lib.hid (HN.out j)
      clear hcell
      generalize opK l j = k at ck
      generalize opN l j = m at cn HCN N2
      have dj : decide ((j : Int) < (l.length : Int)) = true := by simp; omega
      have dj3 : decide ((j : Int) < 300) = true := by simp; omega
      have jl : (j : Int) < (l.length : Int) := by omega
      have LN : Hid (h.sizes.length ≤ 1000000) := Lib.hid (by have := HL.out.len; omega)
      by_cases k1 : k = 1
      · subst k1
        have HLV : Hid (HS.LV lim (h.take m) sp (j + 1)) := Lib.hid (HL.out.take m)
        obtain ⟨f1, f2, f3, f4, f5⟩ := HLV.out.facts
        obtain ⟨x, hx⟩ : ∃ x, (h.take m).live = x := ⟨_, rfl⟩
        obtain ⟨y, hy⟩ : ∃ y, (h.take m).laid = y := ⟨_, rfl⟩
        rw [hx] at f1 f2 f3 f4 f5
        rw [hy] at f3
        have ss0 := HLV.out.s0
        have a1 : decide (lim < x) = false := by simp; omega
        have a2 : decide (x < sp) = false := by simp; omega
        have a3 : decide (y < x - (sp)) = false := by simp; omega
        have a4 : wrap64 (x - (sp)) = x - (sp) := by unfold wrap64; omega
        have HX := Lib.hid hx; have HY := Lib.hid hy
        clear f1 f2 f3 f4 f5 ss0 hx hy
        go_wp2_with (first
          | (go_at_call 40; (with_reducible refine (Take_h m _ _ rfl rfl LN.out HH.out).mono ?_); rintro e w3 ⟨rfl, h3, -⟩; have H3 := Lib.hid h3; clear h3)
          | (go_at_call 35; (with_reducible refine (Live_h x HX.out H3.out).mono ?_); rintro e w6 ⟨rfl, rfl⟩)
          | (go_at_call 36; (with_reducible refine (Laid_h y HY.out H3.out).mono ?_); rintro e w6 ⟨rfl, rfl⟩))
        go_roundw
        case rel => exact ⟨j + 1, _, _, by omega, by omega, by go_num, rfl, HLV, H3⟩
        case measure => simp [intOf]; omega
      by_cases k2 : k = 2
      · subst k2
        clear k1
        have HLV : Hid (HS.LV lim (h.give m) sp (j + 1)) := Lib.hid (HL.out.give m)
        obtain ⟨f1, f2, f3, f4, f5⟩ := HLV.out.facts
        obtain ⟨x, hx⟩ : ∃ x, (h.give m).live = x := ⟨_, rfl⟩
        obtain ⟨y, hy⟩ : ∃ y, (h.give m).laid = y := ⟨_, rfl⟩
        rw [hx] at f1 f2 f3 f4 f5
        rw [hy] at f3
        have ss0 := HLV.out.s0
        have a1 : decide (lim < x) = false := by simp; omega
        have a2 : decide (x < sp) = false := by simp; omega
        have a3 : decide (y < x - (sp)) = false := by simp; omega
        have a4 : wrap64 (x - (sp)) = x - (sp) := by unfold wrap64; omega
        have HX := Lib.hid hx; have HY := Lib.hid hy
        clear f1 f2 f3 f4 f5 ss0 hx hy
        go_wp2_with (first
          | (go_at_call 38; (with_reducible refine (Give_h m _ N2.out rfl LN.out HH.out).mono ?_); rintro e w3 ⟨rfl, h3, -⟩; have H3 := Lib.hid h3; clear h3)
          | (go_at_call 35; (with_reducible refine (Live_h x HX.out H3.out).mono ?_); rintro e w6 ⟨rfl, rfl⟩)
          | (go_at_call 36; (with_reducible refine (Laid_h y HY.out H3.out).mono ?_); rintro e w6 ⟨rfl, rfl⟩))
        go_roundw
        case rel => exact ⟨j + 1, _, _, by omega, by omega, by go_num, rfl, HLV, H3⟩
        case measure => simp [intOf]; omega
      by_cases k3 : k = 3
      · subst k3
        clear k1 k2
        by_cases hr : h.roomE m = 0
        · have HR := Lib.hid hr
          obtain ⟨r1, r2⟩ := HS.roomE_ok.1 hr
          have wsp : wrap64 (sp + m) = sp + m := by
            have g1 := HL.out.facts
            have g2 := HL.out.s0
            have g3 := HL.out.lim
            unfold wrap64; omega
          clear hr r1 r2
          have HLV : Hid (HS.LV lim (h.spend m) (sp + m) (j + 1)) := Lib.hid (HL.out.spend m HR.out)
          obtain ⟨f1, f2, f3, f4, f5⟩ := HLV.out.facts
          obtain ⟨x, hx⟩ : ∃ x, (h.spend m).live = x := ⟨_, rfl⟩
          obtain ⟨y, hy⟩ : ∃ y, (h.spend m).laid = y := ⟨_, rfl⟩
          rw [hx] at f1 f2 f3 f4 f5
          rw [hy] at f3
          have ss0 := HLV.out.s0
          have a1 : decide (lim < x) = false := by simp; omega
          have a2 : decide (x < (sp + m)) = false := by simp; omega
          have a3 : decide (y < x - ((sp + m))) = false := by simp; omega
          have a4 : wrap64 (x - ((sp + m))) = x - ((sp + m)) := by unfold wrap64; omega
          have HX := Lib.hid hx; have HY := Lib.hid hy
          clear f1 f2 f3 f4 f5 ss0 hx hy
          go_wp2_with (first
            | (go_at_call 39; (with_reducible refine (Spend_h m 0 HR.out HH.out).mono ?_); rintro e w3 ⟨rfl, h3, -⟩; have H3 := Lib.hid h3; have cn3 := (h3.bel.cell (p := ⟨b, o + j * 2 + 1, none⟩) hbl).trans HCN.out; clear h3)
            | (go_at_call 35; (with_reducible refine (Live_h x HX.out H3.out).mono ?_); rintro e w6 ⟨rfl, rfl⟩)
            | (go_at_call 36; (with_reducible refine (Laid_h y HY.out H3.out).mono ?_); rintro e w6 ⟨rfl, rfl⟩))
          go_roundw
          case rel => exact ⟨j + 1, _, _, by omega, by omega, by go_num, rfl, HLV, H3⟩
          case measure => simp [intOf]; omega
        · obtain ⟨r, hr2⟩ : ∃ r, h.roomE m = r := ⟨_, rfl⟩
          have HR := Lib.hid hr2
          rw [hr2] at hr
          have HRN := Lib.hid hr
          have dr : (r == 0) = false := by simpa using hr
          clear hr hr2
          have HLV : Hid (HS.LV lim (h.spend m) sp (j + 1)) := Lib.hid (HL.out.spend_no m (by rw [HR.out]; exact HRN.out))
          obtain ⟨f1, f2, f3, f4, f5⟩ := HLV.out.facts
          obtain ⟨x, hx⟩ : ∃ x, (h.spend m).live = x := ⟨_, rfl⟩
          obtain ⟨y, hy⟩ : ∃ y, (h.spend m).laid = y := ⟨_, rfl⟩
          rw [hx] at f1 f2 f3 f4 f5
          rw [hy] at f3
          have ss0 := HLV.out.s0
          have a1 : decide (lim < x) = false := by simp; omega
          have a2 : decide (x < sp) = false := by simp; omega
          have a3 : decide (y < x - (sp)) = false := by simp; omega
          have a4 : wrap64 (x - (sp)) = x - (sp) := by unfold wrap64; omega
          have HX := Lib.hid hx; have HY := Lib.hid hy
          clear f1 f2 f3 f4 f5 ss0 hx hy
          go_wp2_with (first
            | (go_at_call 39; (with_reducible refine (Spend_h m r HR.out HH.out).mono ?_); rintro e w3 ⟨rfl, h3, -⟩; have H3 := Lib.hid h3; clear h3)
            | (go_at_call 35; (with_reducible refine (Live_h x HX.out H3.out).mono ?_); rintro e w6 ⟨rfl, rfl⟩)
            | (go_at_call 36; (with_reducible refine (Laid_h y HY.out H3.out).mono ?_); rintro e w6 ⟨rfl, rfl⟩))
          go_roundw
          case rel => exact ⟨j + 1, _, _, by omega, by omega, by go_num, rfl, HLV, H3⟩
          case measure => simp [intOf]; omega
      · have e1 : (k == 1) = false := by simpa using k1
        have e2 : (k == 2) = false := by simpa using k2
        have e3 : (k == 3) = false := by simpa using k3
        have H3 := HH
        clear k1 k2 k3
        have HLV : Hid (HS.LV lim h sp (j + 1)) := Lib.hid (HL.out.mono)
        obtain ⟨f1, f2, f3, f4, f5⟩ := HLV.out.facts
        obtain ⟨x, hx⟩ : ∃ x, h.live = x := ⟨_, rfl⟩
        obtain ⟨y, hy⟩ : ∃ y, h.laid = y := ⟨_, rfl⟩
        rw [hx] at f1 f2 f3 f4 f5
        rw [hy] at f3
        have ss0 := HLV.out.s0
        have a1 : decide (lim < x) = false := by simp; omega
        have a2 : decide (x < sp) = false := by simp; omega
        have a3 : decide (y < x - (sp)) = false := by simp; omega
        have a4 : wrap64 (x - (sp)) = x - (sp) := by unfold wrap64; omega
        have HX := Lib.hid hx; have HY := Lib.hid hy
        clear f1 f2 f3 f4 f5 ss0 hx hy
        go_wp2_with (first
          | (go_at_call 35; (with_reducible refine (Live_h x HX.out H3.out).mono ?_); rintro e w6 ⟨rfl, rfl⟩)
          | (go_at_call 36; (with_reducible refine (Laid_h y HY.out H3.out).mono ?_); rintro e w6 ⟨rfl, rfl⟩))
        go_roundw
        case rel => exact ⟨j + 1, _, _, by omega, by omega, by go_num, rfl, HLV, H3⟩
        case measure => simp [intOf]; omega
    · have LN : Hid (h.sizes.length ≤ 1000000) := Lib.hid (by have := HL.out.len; omega)
      have dj : l.length = j ∨ (300 < l.length ∧ 300 = j) := by omega
      obtain ⟨f1, f2, f3, f4, f5⟩ := HL.out.facts
      obtain ⟨x, hx⟩ : ∃ x, h.live = x := ⟨_, rfl⟩
      have hlimE := HL.out.lim
      obtain ⟨y, hy⟩ : ∃ y, h.takeId n = y := ⟨_, rfl⟩
      obtain ⟨bl, hbl⟩ : ∃ bl, h.blocks = bl := ⟨_, rfl⟩
      have hbll : bl.length ≤ 1000000 := by rw [← hbl]; exact Nat.le_trans h.blocks_len LN.out
      have HX := Lib.hid hx; have HY := Lib.hid hy; have HBL := Lib.hid hbl; have HBLL : Hid (bl.length ≤ 17592186044416) := Lib.hid (by omega)
      have wlx : wrap64 (lim - x) = lim - x := by unfold wrap64; omega
      clear hjl
      by_cases hr : h.roomE n = 0
      · obtain ⟨r1, r2⟩ := HS.roomE_ok.1 hr
        obtain ⟨b1, b2, b3, b4, b5, b6, b7, b8, b9, b10⟩ := HS.again HL.out.k n hr (by have := HL.out.len; omega)
        rw [hx] at b1 b3 b8
        rw [hbl] at b4
        rw [hy] at b2 b3 b4 b5 b6 b7 b8 b9
        have wxn : wrap64 (x + n) = x + n := by unfold wrap64; omega
        obtain ⟨z, hz⟩ : ∃ z, (h.take n).laid = z := ⟨_, rfl⟩
        rw [hz] at b7
        have HR := Lib.hid hr; have HZ := Lib.hid hz; have B1 := Lib.hid b1; have B2 := Lib.hid b2; have B3 := Lib.hid b3; have B4 := Lib.hid b4; have B5 := Lib.hid b5; have B6 := Lib.hid b6; have B7 := Lib.hid b7; have B8 := Lib.hid b8; have B9 := Lib.hid b9
        have L1 : Hid ((h.take n).sizes.length ≤ 1000000) := Lib.hid (by have := HS.take_len h n; have := HL.out.len; omega)
        have L2 : Hid (((h.take n).give y).sizes.length ≤ 1000000) := Lib.hid (by rw [HS.give_len]; exact L1.out)
        have dn : decide (n < 0) = false := by simp; omega
        clear hr hz b1 b2 b3 b4 b5 b6 b7 b8 b9 r1 r2 f1 f2 f3 f4 f5 hx hy hbl
        clear hj hj3
        rcases dj with rfl | ⟨dj, rfl⟩
        · go_wp2_with (first
            | (go_at_call 35; (with_reducible refine (Live_h x HX.out HH.out).mono ?_); rintro e w6 ⟨rfl, rfl⟩)
            | (go_at_call 37; (with_reducible refine (Blocks_h bl HBL.out LN.out HH.out).mono ?_); rintro e w3 ⟨bv, rfl, hbo, hbb⟩; have H3 := Lib.hid (HH.out.reserve (S' := fun q => bv.ownBlock = some q) hbb (fun q e => ⟨(hbo.lt q e).2, .inr (hbo.lt q e).1⟩)); have HO3 := Lib.hid hbo; clear HH hbo hbb)
            | (go_at_call 40; (with_reducible refine (Take_h n y 0 HY.out HR.out LN.out H3.out).mono ?_); rintro e w4 ⟨rfl, h4, hk4⟩; have H4 := Lib.hid h4; have HO4 := Lib.hid (ownsRow_of_block HO3.out (fun q e => hk4 q e)); clear h4 hk4 H3 HO3)
            | (go_at_call 36; (with_reducible refine (Laid_h z HZ.out H4.out).mono ?_); rintro e w6 ⟨rfl, rfl⟩)
            | (go_at_call 35; (with_reducible refine (Live_h (x + n) B1.out H4.out).mono ?_); rintro e w6 ⟨rfl, rfl⟩)
            | (go_at_call 38; (with_reducible refine (Give_h y 0 B9.out B2.out L1.out H4.out).mono ?_); rintro e w5 ⟨rfl, h5, hk5⟩; have H5 := Lib.hid h5; have HO5 := Lib.hid (ownsRow_of_block HO4.out (fun q e => hk5 q e)); clear h5 hk5 H4 HO4)
            | (go_at_call 35; (with_reducible refine (Live_h x B3.out H5.out).mono ?_); rintro e w6 ⟨rfl, rfl⟩)
            | (go_at_call 37; (with_reducible refine (Blocks_h bl B4.out L2.out H5.out).mono ?_); rintro e w6 ⟨bv6, rfl, hbo6, hbb6⟩; have I1 := Lib.hid (IS.of_row (zs := bl) hbo6); have I2 := Lib.hid ((IS.of_row (zs := bl) HO5.out).below hbb6); have H6 := Lib.hid (H5.out.below hbb6); clear hbo6 hbb6 H5 HO5)
            | (go_at_call 19; (with_reducible refine (SameInts _ _ bl bl true (by simp) _ HBLL.out HBLL.out I1.out I2.out).mono ?_); rintro e w7 ⟨rfl, hb7⟩; have H7 := Lib.hid (H6.out.below hb7); clear H6 I1 I2 hb7)
            | (go_at_call 40; (with_reducible refine (Take_h n y 0 B6.out B5.out L2.out H7.out).mono ?_); rintro e w8 ⟨rfl, h8, -⟩; have H8 := Lib.hid h8; clear h8 H7)
            | (go_at_call 36; (with_reducible refine (Laid_h z B7.out H8.out).mono ?_); rintro e w9 ⟨rfl, rfl⟩)
            | (go_at_call 35; (with_reducible refine (Live_h (x + n) B8.out H8.out).mono ?_); rintro e w9 ⟨rfl, rfl⟩))
          go_ret
          exact ⟨rfl, H8.out.bel⟩
        · have dj2 : decide ((300 : Int) < (l.length : Int)) = true := by simp; omega
          have dj4 : (300 : Int) < (l.length : Int) := by omega
          go_wp2_with (first
            | (go_at_call 35; (with_reducible refine (Live_h x HX.out HH.out).mono ?_); rintro e w6 ⟨rfl, rfl⟩)
            | (go_at_call 37; (with_reducible refine (Blocks_h bl HBL.out LN.out HH.out).mono ?_); rintro e w3 ⟨bv, rfl, hbo, hbb⟩; have H3 := Lib.hid (HH.out.reserve (S' := fun q => bv.ownBlock = some q) hbb (fun q e => ⟨(hbo.lt q e).2, .inr (hbo.lt q e).1⟩)); have HO3 := Lib.hid hbo; clear HH hbo hbb)
            | (go_at_call 40; (with_reducible refine (Take_h n y 0 HY.out HR.out LN.out H3.out).mono ?_); rintro e w4 ⟨rfl, h4, hk4⟩; have H4 := Lib.hid h4; have HO4 := Lib.hid (ownsRow_of_block HO3.out (fun q e => hk4 q e)); clear h4 hk4 H3 HO3)
            | (go_at_call 36; (with_reducible refine (Laid_h z HZ.out H4.out).mono ?_); rintro e w6 ⟨rfl, rfl⟩)
            | (go_at_call 35; (with_reducible refine (Live_h (x + n) B1.out H4.out).mono ?_); rintro e w6 ⟨rfl, rfl⟩)
            | (go_at_call 38; (with_reducible refine (Give_h y 0 B9.out B2.out L1.out H4.out).mono ?_); rintro e w5 ⟨rfl, h5, hk5⟩; have H5 := Lib.hid h5; have HO5 := Lib.hid (ownsRow_of_block HO4.out (fun q e => hk5 q e)); clear h5 hk5 H4 HO4)
            | (go_at_call 35; (with_reducible refine (Live_h x B3.out H5.out).mono ?_); rintro e w6 ⟨rfl, rfl⟩)
            | (go_at_call 37; (with_reducible refine (Blocks_h bl B4.out L2.out H5.out).mono ?_); rintro e w6 ⟨bv6, rfl, hbo6, hbb6⟩; have I1 := Lib.hid (IS.of_row (zs := bl) hbo6); have I2 := Lib.hid ((IS.of_row (zs := bl) HO5.out).below hbb6); have H6 := Lib.hid (H5.out.below hbb6); clear hbo6 hbb6 H5 HO5)
            | (go_at_call 19; (with_reducible refine (SameInts _ _ bl bl true (by simp) _ HBLL.out HBLL.out I1.out I2.out).mono ?_); rintro e w7 ⟨rfl, hb7⟩; have H7 := Lib.hid (H6.out.below hb7); clear H6 I1 I2 hb7)
            | (go_at_call 40; (with_reducible refine (Take_h n y 0 B6.out B5.out L2.out H7.out).mono ?_); rintro e w8 ⟨rfl, h8, -⟩; have H8 := Lib.hid h8; clear h8 H7)
            | (go_at_call 36; (with_reducible refine (Laid_h z B7.out H8.out).mono ?_); rintro e w9 ⟨rfl, rfl⟩)
            | (go_at_call 35; (with_reducible refine (Live_h (x + n) B8.out H8.out).mono ?_); rintro e w9 ⟨rfl, rfl⟩))
          go_ret
          exact ⟨rfl, H8.out.bel⟩
      · obtain ⟨r, hr2⟩ : ∃ r, h.roomE n = r := ⟨_, rfl⟩
        rw [hr2] at hr
        have dr : (r == 0) = false := by simpa using hr
        have HR := Lib.hid hr2
        have hcase : decide (n < 0) = true ∨ (decide (n < 0) = false ∧ decide (lim - x < n) = true) := by
          by_cases e : n < 0
          · exact .inl (by simpa using e)
          · right
            unfold HS.roomE at hr2
            rw [if_neg e] at hr2
            by_cases e2 : h.lim - h.live < n
            · rw [hlimE, hx] at e2
              exact ⟨by simpa using e, by simpa using e2⟩
            · rw [if_neg e2] at hr2; exact absurd hr2.symm hr
        have HTK : Hid (h.take n = h) := Lib.hid (by unfold HS.take; rw [if_pos (.inl (by rw [hr2]; exact hr))])
        have HID : Hid (h.takeId n = 0) := Lib.hid (by unfold HS.takeId; rw [if_pos (.inl (by rw [hr2]; exact hr))])
        clear hr hr2 f1 f2 f3 f4 f5 hx hy hbl
        clear hj hj3
        rcases dj with rfl | ⟨dj, rfl⟩ <;> rcases hcase with dn | ⟨dn, dn2⟩
        · go_wp2_with (first
            | (go_at_call 35; (with_reducible refine (Live_h x HX.out HH.out).mono ?_); rintro e w6 ⟨rfl, rfl⟩)
            | (go_at_call 37; (with_reducible refine (Blocks_h bl HBL.out LN.out HH.out).mono ?_); rintro e w3 ⟨bv, rfl, hbo, hbb⟩; have H3 := Lib.hid (HH.out.below hbb); clear HH hbo hbb)
            | (go_at_call 40; (with_reducible refine (Take_h n 0 r HID.out HR.out LN.out H3.out).mono ?_); rintro e w4 ⟨rfl, h4, hk4⟩; rw [HTK.out] at h4; have H4 := Lib.hid h4; clear h4 hk4 H3)
            | (go_at_call 35; (with_reducible refine (Live_h x HX.out H4.out).mono ?_); rintro e w6 ⟨rfl, rfl⟩))
          go_ret
          exact ⟨rfl, H4.out.bel⟩
        · go_wp2_with (first
            | (go_at_call 35; (with_reducible refine (Live_h x HX.out HH.out).mono ?_); rintro e w6 ⟨rfl, rfl⟩)
            | (go_at_call 37; (with_reducible refine (Blocks_h bl HBL.out LN.out HH.out).mono ?_); rintro e w3 ⟨bv, rfl, hbo, hbb⟩; have H3 := Lib.hid (HH.out.below hbb); clear HH hbo hbb)
            | (go_at_call 40; (with_reducible refine (Take_h n 0 r HID.out HR.out LN.out H3.out).mono ?_); rintro e w4 ⟨rfl, h4, hk4⟩; rw [HTK.out] at h4; have H4 := Lib.hid h4; clear h4 hk4 H3)
            | (go_at_call 35; (with_reducible refine (Live_h x HX.out H4.out).mono ?_); rintro e w6 ⟨rfl, rfl⟩))
          go_ret
          exact ⟨rfl, H4.out.bel⟩
        · have dj2 : decide ((300 : Int) < (l.length : Int)) = true := by simp; omega
          have dj4 : (300 : Int) < (l.length : Int) := by omega
          go_wp2_with (first
            | (go_at_call 35; (with_reducible refine (Live_h x HX.out HH.out).mono ?_); rintro e w6 ⟨rfl, rfl⟩)
            | (go_at_call 37; (with_reducible refine (Blocks_h bl HBL.out LN.out HH.out).mono ?_); rintro e w3 ⟨bv, rfl, hbo, hbb⟩; have H3 := Lib.hid (HH.out.below hbb); clear HH hbo hbb)
            | (go_at_call 40; (with_reducible refine (Take_h n 0 r HID.out HR.out LN.out H3.out).mono ?_); rintro e w4 ⟨rfl, h4, hk4⟩; rw [HTK.out] at h4; have H4 := Lib.hid h4; clear h4 hk4 H3)
            | (go_at_call 35; (with_reducible refine (Live_h x HX.out H4.out).mono ?_); rintro e w6 ⟨rfl, rfl⟩))
          go_ret
          exact ⟨rfl, H4.out.bel⟩
        · have dj2 : decide ((300 : Int) < (l.length : Int)) = true := by simp; omega
          have dj4 : (300 : Int) < (l.length : Int) := by omega
          go_wp2_with (first
            | (go_at_call 35; (with_reducible refine (Live_h x HX.out HH.out).mono ?_); rintro e w6 ⟨rfl, rfl⟩)
            | (go_at_call 37; (with_reducible refine (Blocks_h bl HBL.out LN.out HH.out).mono ?_); rintro e w3 ⟨bv, rfl, hbo, hbb⟩; have H3 := Lib.hid (HH.out.below hbb); clear HH hbo hbb)
            | (go_at_call 40; (with_reducible refine (Take_h n 0 r HID.out HR.out LN.out H3.out).mono ?_); rintro e w4 ⟨rfl, h4, hk4⟩; rw [HTK.out] at h4; have H4 := Lib.hid h4; clear h4 hk4 H3)
            | (go_at_call 35; (with_reducible refine (Live_h x HX.out H4.out).mono ?_); rintro e w6 ⟨rfl, rfl⟩))
          go_ret
          exact ⟨rfl, H4.out.bel⟩
theorem rowHeapLives {v : Value} {W : World} (lim : Int) (l : List (Int × Int)) (n : Int) (hlim : In64 lim) (f : OSA W v l) (hn : In64 n) (w : World) : Calls Try.prog 13 #[.int .i64 lim, v, .int .i64 n] W fun e w' => e = .returned (.bool true) ∧ Below W.heap.size W w' := by
  by_cases h : lim < 0 ∨ 400000 < lim
  · exact walk_HeapLives_no lim n v h W
  · exact walk_HeapLives lim n l v (by omega) (by omega) W f hn
end Go.Proofs.Ytfhigeefclchiaa
