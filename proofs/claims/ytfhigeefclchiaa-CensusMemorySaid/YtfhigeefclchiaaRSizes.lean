/- The reference's Sizes. -/
import Derived.Test.YtfhigeefclchiaaTwice2
namespace Go.Proofs.Ytfhigeefclchiaa
open Go.RowKit
set_option linter.unusedVariables false
set_option linter.unusedSimpArgs false

theorem Cs.countL_in64 (l : List Int) (h : l.length ≤ 4294967296) : ∀ x ∈ Cs.countL l, In64 x := by
  intro x hx
  unfold Cs.countL at hx
  obtain ⟨i, -, rfl⟩ := List.mem_map.1 hx
  have h1 := Cs.cnt_nonneg l i
  have h2 := Cs.cnt_le l i
  unfold In64
  omega
theorem Cs.ceil2_char (n : Int) (h1 : 1 ≤ n) (h2 : n ≤ 65536) (k : Nat) (hj : ∀ j, j < k → (2 : Int) ^ j < n) (hk : n ≤ 2 ^ k) : Ws.ceil2 n = 2 ^ k := by
  have := Ws.log2_char n h1 (by omega) k hj hk
  unfold Ws.ceil2
  rw [if_neg (by omega), if_neg (by omega), this]; rfl
set_option maxRecDepth 100000 in
set_option maxHeartbeats 1600000 in
theorem ref_Sizes_one (A : Option Addr) (c : Nat) (zs : List Int) (o : Int) (w : World) (hl : zs.length ≤ 4294967296) (hz : ∀ x ∈ zs, In64 x) (hon : ¬ o < 0) (hoi : In64 o) (h : IS w (.slice A zs.length c) zs) (hd : Cs.dup zs = false) (r s z : Int) (hr : (Cs.sizesA zs o, Cs.sizesH zs o, Cs.sizesE zs o) = (r, s, z)) :
    Calls Try.prog 26 #[.slice A zs.length c, .int .i64 o] w fun e w' => e = .returned (.tuple #[.int .i64 r, .int .i64 s, .int .i64 z]) ∧ Below w.heap.size w w' := by
  have d0 : decide (o < 0) = false := by simpa using hon
  have HS := Lib.hid h
  have HZ := Lib.hid hz
  have HD := Lib.hid hd
  have hl63 : (zs.length : Int) ≤ 9223372036854775807 := by omega
  have HIC := Lib.hid (Cs.countL_in64 zs hl)
  clear h hz
  have hoi' := hoi
  unfold In64 at hoi'
  have hcn := Cs.chooseN_bound zs hl
  obtain ⟨a, ha⟩ : ∃ a, Cs.chooseA (Cs.countL zs) = a := ⟨_, rfl⟩
  obtain ⟨n, hn⟩ : ∃ a, Cs.chooseN (Cs.countL zs) = a := ⟨_, rfl⟩
  have hE : Cs.chooseE (Cs.countL zs) = 0 := by unfold Cs.chooseE; rw [if_pos (Cs.okC_countL zs hl)]
  have hrest : Cs.rest zs o = zs.length - n + o := by unfold Cs.rest; rw [hn]
  rw [hn] at hcn
  have HAa := Lib.hid ha; have HNn := Lib.hid hn; have HEe := Lib.hid hE
  have SB := Lib.hid (fun b => Cs.sizes_big hon hd b); have SO := Lib.hid (fun b => Cs.sizes_ok hon hd b)
  rw [ha, hrest] at SO; rw [hrest] at SB
  have HR := Lib.hid hr
  clear hd ha hn hE hr hrest
  have wr1 : wrap64 ((zs.length : Int) - n) = zs.length - n := by unfold wrap64; omega
  by_cases hbig : 65536 < o
  · have db : decide (65536 < o) = true := by simpa using hbig
    obtain ⟨e1, e2, e3⟩ := SB.out (.inl hbig)
    rw [e1, e2, e3] at HR
    obtain ⟨rfl, rfl, rfl⟩ : 0 = r ∧ 0 = s ∧ 14 = z := by simpa using HR.out
    clear HR SB SO e1 e2 e3
    go_enter Try.func26, Try.ntmps26
    go_wp2_with (first
    | (go_at_call 55; (with_reducible refine (ref_twice _ zs _ (by omega) false HD.out (HS.out.below (Below.refl _ _))).mono ?_); rintro e w1 ⟨rfl, hb1⟩; have hB1 : Below w.heap.size w w1 := hb1; clear hb1)
    | (go_at_call 22; (refine (ref_Count (.slice A zs.length c) zs _ (by omega) HZ.out (HS.out.below hB1)).mono ?_); rintro e w5 ⟨v5, rfl, ho5, hb5⟩; have hB5 : Below w.heap.size w w5 := below_step hB1 hb5; have HO5 := Lib.hid ho5; clear ho5 hb5)
    | (go_at_call 24; (refine (RChoose_c v5 (Cs.countL zs) _ (by rw [Cs.countL_length]; omega) HIC.out (IS.of_row (by rw [Cs.countL_length]; exact HO5.out)) a n 0 HAa.out HNn.out HEe.out).mono ?_); rintro e w6 ⟨rfl, rfl⟩))
    exact bodyPost_ret (v := .tuple #[.int .i64 0, .int .i64 0, .int .i64 14]) (by simp [results, Try.results26, go_sem, *]) rfl ⟨rfl, hB5⟩
  · have db : decide (65536 < o) = false := by simpa using hbig
    have wr2 : wrap64 (65536 - o) = 65536 - o := by unfold wrap64; omega
    obtain ⟨t, ht⟩ : ∃ t, (zs.length : Int) - n = t := ⟨_, rfl⟩
    rw [ht] at SB SO wr1
    by_cases hb2 : 65536 < t + o
    · have db2 : decide (65536 - o < t) = true := by simp; omega
      obtain ⟨e1, e2, e3⟩ := SB.out (.inr hb2)
      rw [e1, e2, e3] at HR
      obtain ⟨rfl, rfl, rfl⟩ : 0 = r ∧ 0 = s ∧ 14 = z := by simpa using HR.out
      clear HR SB SO e1 e2 e3
      go_enter Try.func26, Try.ntmps26
      go_wp2_with (first
    | (go_at_call 55; (with_reducible refine (ref_twice _ zs _ (by omega) false HD.out (HS.out.below (Below.refl _ _))).mono ?_); rintro e w1 ⟨rfl, hb1⟩; have hB1 : Below w.heap.size w w1 := hb1; clear hb1)
    | (go_at_call 22; (refine (ref_Count (.slice A zs.length c) zs _ (by omega) HZ.out (HS.out.below hB1)).mono ?_); rintro e w5 ⟨v5, rfl, ho5, hb5⟩; have hB5 : Below w.heap.size w w5 := below_step hB1 hb5; have HO5 := Lib.hid ho5; clear ho5 hb5)
    | (go_at_call 24; (refine (RChoose_c v5 (Cs.countL zs) _ (by rw [Cs.countL_length]; omega) HIC.out (IS.of_row (by rw [Cs.countL_length]; exact HO5.out)) a n 0 HAa.out HNn.out HEe.out).mono ?_); rintro e w6 ⟨rfl, rfl⟩))
      exact bodyPost_ret (v := .tuple #[.int .i64 0, .int .i64 0, .int .i64 14]) (by simp [results, Try.results26, go_sem, *]) rfl ⟨rfl, hB5⟩
    · have db2 : decide (65536 - o < t) = false := by simp; omega
      obtain ⟨e1, e2, e3⟩ := SO.out (by omega)
      rw [e1, e2, e3] at HR
      have wr3 : wrap64 (t + o) = t + o := by unfold wrap64; omega
      obtain ⟨u, hu⟩ : ∃ u, t + o = u := ⟨_, rfl⟩
      rw [hu] at HR wr3
      have hu0 : 0 ≤ u ∧ u ≤ 65536 := by omega
      clear SB SO e1 e2 e3
      by_cases h0 : u = 0
      · subst h0
        obtain ⟨rfl, rfl, rfl⟩ : a = r ∧ 0 = s ∧ 0 = z := by
          have := HR.out
          rw [show Ws.ceil2 0 = 0 by decide] at this
          simpa using this
        clear HR
        go_enter Try.func26, Try.ntmps26
        go_wp2_with (first
    | (go_at_call 55; (with_reducible refine (ref_twice _ zs _ (by omega) false HD.out (HS.out.below (Below.refl _ _))).mono ?_); rintro e w1 ⟨rfl, hb1⟩; have hB1 : Below w.heap.size w w1 := hb1; clear hb1)
    | (go_at_call 22; (refine (ref_Count (.slice A zs.length c) zs _ (by omega) HZ.out (HS.out.below hB1)).mono ?_); rintro e w5 ⟨v5, rfl, ho5, hb5⟩; have hB5 : Below w.heap.size w w5 := below_step hB1 hb5; have HO5 := Lib.hid ho5; clear ho5 hb5)
    | (go_at_call 24; (refine (RChoose_c v5 (Cs.countL zs) _ (by rw [Cs.countL_length]; omega) HIC.out (IS.of_row (by rw [Cs.countL_length]; exact HO5.out)) a n 0 HAa.out HNn.out HEe.out).mono ?_); rintro e w6 ⟨rfl, rfl⟩))
        exact bodyPost_ret (v := .tuple #[.int .i64 a, .int .i64 0, .int .i64 0]) (by simp [results, Try.results26, go_sem, *]) rfl ⟨rfl, hB5⟩
      · have du : (u == 0) = false := by simpa using h0
        obtain ⟨rfl, HC, rfl⟩ : a = r ∧ Hid (Ws.ceil2 u = s) ∧ 0 = z := by
          have := HR.out
          simp only [Prod.mk.injEq] at this
          exact ⟨this.1, Lib.hid this.2.1, this.2.2⟩
        clear HR
        go_enter Try.func26, Try.ntmps26
        go_wp2_with (first
    | (go_at_call 55; (with_reducible refine (ref_twice _ zs _ (by omega) false HD.out (HS.out.below (Below.refl _ _))).mono ?_); rintro e w1 ⟨rfl, hb1⟩; have hB1 : Below w.heap.size w w1 := hb1; clear hb1)
    | (go_at_call 22; (refine (ref_Count (.slice A zs.length c) zs _ (by omega) HZ.out (HS.out.below hB1)).mono ?_); rintro e w5 ⟨v5, rfl, ho5, hb5⟩; have hB5 : Below w.heap.size w w5 := below_step hB1 hb5; have HO5 := Lib.hid ho5; clear ho5 hb5)
    | (go_at_call 24; (refine (RChoose_c v5 (Cs.countL zs) _ (by rw [Cs.countL_length]; omega) HIC.out (IS.of_row (by rw [Cs.countL_length]; exact HO5.out)) a n 0 HAa.out HNn.out HEe.out).mono ?_); rintro e w6 ⟨rfl, rfl⟩))
        go_loopw [12] (fun i wr => ∃ k : Nat, k ≤ 17 ∧ i = .int .i64 (2 ^ k) ∧ Hid (∀ j, j < k → (2 : Int) ^ j < u) ∧ wr = w5) (fun i _ => 131072 - (intOf i).toNat)
        case atStart => exact ⟨0, by omega, rfl, Lib.hid (fun j hj => by omega), rfl⟩
        case round =>
          obtain ⟨k, hk, rfl, HJ, rfl⟩ := hrel
          have hp : (2 : Int) ^ (k + 1) = 2 ^ k * 2 := Int.pow_succ ..
          have hp1 : (1 : Int) ≤ 2 ^ k := by have h9 : (0 : Int) < 2 ^ k := Int.pow_pos (by decide); omega
          by_cases h7 : (2 : Int) ^ k < u
          · have hk16 : k ≤ 16 := by
              apply Decidable.byContradiction
              intro hn
              have : (2 : Int) ^ 17 ≤ 2 ^ k := by exact_mod_cast Nat.pow_le_pow_right (by decide) (show 17 ≤ k by omega)
              omega
            have hw := Ws.pow_wrap (k + 1) (by omega)
            rw [hp] at hw
            have HP := Lib.hid hp
            clear hp
            go_wp2
            go_roundw
            case rel => exact ⟨k + 1, by omega, by rw [HP.out], Lib.hid (fun j hj' => by
              by_cases e : j = k
              · rw [e]; exact h7
              · exact HJ.out j (by omega)), (by first | rfl | trivial)⟩
            case measure => simp [intOf]; omega
          · have HR := Lib.hid (Cs.ceil2_char u (by omega) (by omega) k HJ.out (by omega))
            rw [HC.out] at HR
            obtain rfl := HR.out
            clear hp HC HR
            go_wp2
            exact bodyPost_ret (v := .tuple #[.int .i64 a, .int .i64 (2 ^ k), .int .i64 0]) (by simp [results, Try.results26, go_sem, *]) rfl ⟨rfl, hB5⟩
theorem ref_Sizes (sv : Value) (zs : List Int) (o : Int) (w : World) (hl : zs.length ≤ 4294967296) (hz : ∀ x ∈ zs, In64 x) (hoi : In64 o) (h : IS w sv zs) :
    Calls Try.prog 26 #[sv, .int .i64 o] w fun e w' => e = .returned (.tuple #[.int .i64 (Cs.sizesA zs o), .int .i64 (Cs.sizesH zs o), .int .i64 (Cs.sizesE zs o)]) ∧ Below w.heap.size w w' := by
  have h' := h
  obtain ⟨A, c, rfl, -⟩ := h
  by_cases hon : o < 0
  · obtain ⟨e1, e2, e3⟩ := Cs.sizes_neg (l := zs) hon
    rw [e1, e2, e3]
    have d0 : decide (o < 0) = true := by simpa using hon
    go_enter Try.func26, Try.ntmps26
    go_wp2
    exact bodyPost_ret (v := .tuple #[.int .i64 0, .int .i64 0, .int .i64 1]) (by simp [results, Try.results26, go_sem, *]) rfl ⟨rfl, Below.refl _ _⟩
  · have d0 : decide (o < 0) = false := by simpa using hon
    cases hd : Cs.dup zs with
    | true =>
      obtain ⟨e1, e2, e3⟩ := Cs.sizes_dup (l := zs) hon hd
      rw [e1, e2, e3]
      have HS := Lib.hid h'
      have HD := Lib.hid hd
      have hl63 : (zs.length : Int) ≤ 9223372036854775807 := by omega
      clear h' hd e1 e2 e3
      go_enter Try.func26, Try.ntmps26
      go_wp2_with (first | (go_at_call 55; (with_reducible refine (ref_twice _ zs _ (by omega) true HD.out (HS.out.below (Below.refl _ _))).mono ?_); rintro e w1 ⟨rfl, hb1⟩; have hB1 : Below w.heap.size w w1 := hb1; clear hb1))
      exact bodyPost_ret (v := .tuple #[.int .i64 0, .int .i64 0, .int .i64 2]) (by simp [results, Try.results26, go_sem, *]) rfl ⟨rfl, hB1⟩
    | false => exact ref_Sizes_one A c zs o w hl hz hon hoi h' hd _ _ _ rfl
theorem RSizes_c (sv : Value) (zs : List Int) (o : Int) (w : World) (hl : zs.length ≤ 4294967296) (hz : ∀ x ∈ zs, In64 x) (hoi : In64 o) (h : IS w sv zs) (a b e : Int) (ha : Cs.sizesA zs o = a) (hb : Cs.sizesH zs o = b) (he : Cs.sizesE zs o = e) :
    Calls Try.prog 26 #[sv, .int .i64 o] w fun x w' => x = .returned (.tuple #[.int .i64 a, .int .i64 b, .int .i64 e]) ∧ Below w.heap.size w w' := by
  rw [← ha, ← hb, ← he]; exact ref_Sizes sv zs o w hl hz hoi h
end Go.Proofs.Ytfhigeefclchiaa
