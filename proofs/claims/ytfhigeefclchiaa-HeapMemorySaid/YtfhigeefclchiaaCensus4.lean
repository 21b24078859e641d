/- Contracts of the package census: Sizes, joined. -/
import Derived.Test.YtfhigeefclchiaaCensus3
namespace Go.Proofs.Ytfhigeefclchiaa
open Go.RowKit Go.Sort Go.Maps
set_option linter.unusedVariables false
set_option linter.unusedSimpArgs false

namespace Cs
theorem filter_lt_succ (k : Nat) : ∀ s : List Nat, (s.filter fun x => decide (x < k + 1)).length = (s.filter fun x => decide (x < k)).length + (s.filter (· == k)).length
  | [] => rfl
  | x :: s => by
    have ih := filter_lt_succ k s
    by_cases h1 : x < k
    · have h2 : x < k + 1 := by omega
      have h3 : ¬ (x = k) := by omega
      simp [h1, h2, h3, ih]; omega
    · by_cases h3 : x = k
      · simp [h3, ih]; omega
      · have h2 : ¬ (x < k + 1) := by omega
        simp [h1, h2, h3, ih]
theorem pre_countL (l : List Int) : ∀ k, k ≤ 17 → pre (countL l) k = (((slots l).filter fun x => decide (x < k)).length : Int)
  | 0, _ => by unfold pre; rw [List.filter_eq_nil_iff.2 (by simp)]; rfl
  | k + 1, h => by
    have ih := pre_countL l k (by omega)
    unfold pre
    rw [ih, countL_get l k (by omega), filter_lt_succ]
    unfold cnt
    push_cast; rfl
theorem pre_le (l : List Int) (k : Nat) (h : k ≤ 17) : 0 ≤ pre (countL l) k ∧ pre (countL l) k ≤ l.length := by
  rw [pre_countL l k h]
  have h1 : ((slots l).filter fun x => decide (x < k)).length ≤ (slots l).length := List.length_filter_le _ _
  have h2 := slots_le l
  omega
theorem best_lt (c : List Int) : ∀ k i, best c k = some i → i < k
  | 0, i, h => by unfold best at h; exact absurd h (by simp)
  | k + 1, i, h => by
    unfold best at h
    by_cases f : fit c k = true
    · rw [if_pos f] at h; have : k = i := by simpa using h
      omega
    · rw [if_neg f] at h; have := best_lt c k i h; omega
theorem okC_countL (l : List Int) (h : l.length ≤ 4294967296) : okC (countL l) = true := by
  unfold okC
  rw [countL_length, Bool.and_eq_true, List.all_eq_true]
  refine ⟨rfl, fun x hx => ?_⟩
  unfold countL at hx
  obtain ⟨i, -, rfl⟩ := List.mem_map.1 hx
  have h1 := cnt_nonneg l i
  have h2 := cnt_le l i
  simp
  omega
theorem chooseN_bound (l : List Int) (h : l.length ≤ 4294967296) : 0 ≤ chooseN (countL l) ∧ chooseN (countL l) ≤ l.length := by
  unfold chooseN
  rw [if_pos (okC_countL l h)]
  cases hb : best (countL l) 17 with
  | none => simp
  | some i => exact pre_le l (i + 1) (by have := best_lt _ _ _ hb; omega)
theorem ceil2_le (n : Int) (h0 : 0 ≤ n) (h1 : n ≤ 65536) : Ws.ceil2 n ≤ 65536 ∧ Ws.ceil2E n = 0 := by
  by_cases e : n = 0
  · subst e; decide
  · obtain ⟨k, hk, -, h2, h3, h4, h5, -⟩ := Ws.ceil2_k n (by omega) (by omega)
    refine ⟨?_, h3⟩
    rw [h2]
    have hk16 : k ≤ 16 := by
      apply Decidable.byContradiction
      intro hn
      have h6 : (2 : Int) ^ 17 ≤ 2 ^ k := by exact_mod_cast Nat.pow_le_pow_right (by decide) (show 17 ≤ k by omega)
      have h7 : (2 : Int) ^ k = 2 * (2 ^ (k - 1)) := by
        have : k = (k - 1) + 1 := by omega
        rw [this, Int.pow_succ]; simp; omega
      have h8 : ((2 : Int) ^ k).tdiv 2 = 2 ^ (k - 1) := by rw [h7, Int.mul_tdiv_cancel_left _ (by decide)]
      omega
    have : (2 : Int) ^ k ≤ 2 ^ 16 := by exact_mod_cast Nat.pow_le_pow_right (by decide) hk16
    omega
theorem ceil2_gt (n : Int) (h0 : 65536 < n) : Ws.ceil2E n ≠ 0 ∨ (Ws.ceil2E n = 0 ∧ 65536 < Ws.ceil2 n) := by
  by_cases e : n ≤ 1073741824
  · obtain ⟨k, hk, -, h2, h3, h4, -⟩ := Ws.ceil2_k n (by omega) e
    exact .inr ⟨h3, by rw [h2]; omega⟩
  · exact .inl (Ws.ceil2E_bad n (by omega))
theorem sizes_neg {l : List Int} {o : Int} (h : o < 0) : sizesE l o = 1 ∧ sizesA l o = 0 ∧ sizesH l o = 0 := by
  have e : sizesE l o = 1 := by unfold sizesE; rw [if_pos h]
  refine ⟨e, ?_, ?_⟩
  · unfold sizesA; rw [e]; rfl
  · unfold sizesH; rw [e]; rfl
theorem sizes_dup {l : List Int} {o : Int} (h : ¬ o < 0) (d : dup l = true) : sizesE l o = 2 ∧ sizesA l o = 0 ∧ sizesH l o = 0 := by
  have e : sizesE l o = 2 := by unfold sizesE; rw [if_neg h, if_pos d]
  refine ⟨e, ?_, ?_⟩
  · unfold sizesA; rw [e]; rfl
  · unfold sizesH; rw [e]; rfl
theorem sizes_big {l : List Int} {o : Int} (h : ¬ o < 0) (d : dup l = false) (b : 65536 < o ∨ 65536 < rest l o) : sizesE l o = 14 ∧ sizesA l o = 0 ∧ sizesH l o = 0 := by
  have e : sizesE l o = 14 := by unfold sizesE; rw [if_neg h, if_neg (by rw [d]; decide), if_pos b]
  refine ⟨e, ?_, ?_⟩
  · unfold sizesA; rw [e]; rfl
  · unfold sizesH; rw [e]; rfl
theorem sizes_ok {l : List Int} {o : Int} (h : ¬ o < 0) (d : dup l = false) (b : ¬ (65536 < o ∨ 65536 < rest l o)) : sizesE l o = 0 ∧ sizesA l o = chooseA (countL l) ∧ sizesH l o = Ws.ceil2 (rest l o) := by
  have e : sizesE l o = 0 := by unfold sizesE; rw [if_neg h, if_neg (by rw [d]; decide), if_neg b]
  refine ⟨e, ?_, ?_⟩
  · unfold sizesA; rw [if_pos e]
  · unfold sizesH; rw [if_pos e]
end Cs
theorem words_Ceil2_c (n : Int) (hn : In64 n) (c z : Int) (hc : Ws.ceil2 n = c) (he : Ws.ceil2E n = z) (w : World) : Calls Try.prog 54 #[.int .i64 n] w fun e w' => e = .returned (.tuple #[.int .i64 c, .int .i64 z]) ∧ w = w' := by
  rw [← hc, ← he]; exact words_Ceil2 n hn w
theorem row_slice {w : World} {base size n : Nat} {e : TypeId} {v : Value} {xs : List Value} (h : w.ownsRow base e size v n xs) : ∃ A c, v = .slice A n c := by
  rcases h.2 with ⟨rfl, h0⟩ | ⟨g, cap, cur, rfl, r⟩
  · exact ⟨none, 0, by rw [h0]⟩
  · exact ⟨_, _, rfl⟩
theorem IntsIn.more {n₀ n₁ : Nat} {W : World} {sv : Value} {zs : List Int} (hn : n₀ ≤ n₁) : IntsIn n₀ W sv zs → IntsIn n₁ W sv zs
  | .inl e => .inl e
  | .inr ⟨b, off, cap, e, hb, hc⟩ => .inr ⟨b, off, cap, e, Nat.lt_of_lt_of_le hb hn, hc⟩
theorem Choose_c (sv : Value) (zs : List Int) (w : World) (hl : zs.length ≤ 17592186044416) (h : IS w sv zs) (a n z : Int) (ha : Cs.chooseA zs = a) (hn : Cs.chooseN zs = n) (hz : Cs.chooseE zs = z) :
    Calls Try.prog 23 #[sv] w fun e w' => e = .returned (.tuple #[.int .i64 a, .int .i64 n, .int .i64 z]) ∧ w = w' := by
  rw [← ha, ← hn, ← hz]; exact census_Choose sv zs w hl h
theorem compact_of_row (w : World) (base : Nat) (v : Value) (zs : List Int) (hl : zs.length * 8 ≤ 140737488351232) (h : w.ownsRow base 3 1 v zs.length (zs.map (Value.int .i64))) (hb : base ≤ w.heap.size) :
    Calls Try.prog 52 #[v] w fun e w' => ∃ A c, e = .returned (.slice A (Lib.compact zs).length c) ∧ Below base w w' := by
  rcases h.2 with ⟨rfl, hz⟩ | ⟨g, cap, cur, rfl, hbase, hgb, r1, r2, r3, r4⟩
  · have hz0 : zs = [] := List.eq_nil_of_length_eq_zero hz
    subst hz0
    exact (Try.slices_Compact_int_empty none 0 w).mono fun e w' ⟨h1, h2⟩ => ⟨none, 0, h1, h2 ▸ Below.refl _ _⟩
  · have hH : Holds encZ w g 0 zs.toArray := holds_of_block_i hgb (by simpa using r4)
    refine (Try.slices_Compact_int g 0 cap zs w hH (by omega) r1).mono fun e w' ⟨h1, q, h2⟩ => ⟨_, _, h1, ?_⟩
    have hg : w.grownBy w' (some g) := by
      rw [h2]
      have := grownBy_sorted_i (w := w) (g := g) (n := q) (os := #[]) (Lib.compact zs ++ List.replicate (zs.length - (Lib.compact zs).length) 0).toArray
      rw [grow_empty] at this
      exact this
    exact (Below.refl base w).grown hg hb (fun j hj => by cases hj; exact hbase)
theorem clone_of_row (w : World) (base : Nat) (v : Value) (zs : List Int) (hl : zs.length * 8 ≤ 140737488351232) (h : w.ownsRow base 3 1 v zs.length (zs.map (Value.int .i64))) :
    Calls Try.prog 53 #[v] w fun e w' => ∃ v', e = .returned v' ∧ w'.ownsRow w.heap.size 3 1 v' zs.length (zs.map (Value.int .i64)) ∧ Below w.heap.size w w' := by
  rcases h.2 with ⟨rfl, hz⟩ | ⟨g, cap, cur, rfl, hbase, hgb, r1, r2, r3, r4⟩
  · have hz0 : zs = [] := List.eq_nil_of_length_eq_zero hz
    subst hz0
    exact (Try.slices_Clone_int_nil 0 0 w).mono fun e w' ⟨h1, h2⟩ => ⟨_, h1, World.ownsRow_nil _ _ _ _, by rw [h2]; exact Below.refl _ _⟩
  · refine (Try.slices_Clone_int g 0 zs.length cap zs w (Nat.le_refl _) (by omega) (fun j hj => ?_)).mono (by rintro e w' ⟨v', h1, h2, -, h3⟩; rw [List.take_length] at h2; exact ⟨v', h1, h2, h3⟩)
    rw [Nat.zero_add, h.cellAt j (by omega)]
    simp [hj]
set_option maxRecDepth 100000 in
set_option maxHeartbeats 1600000 in
theorem census_Sizes_dup (A : Option Addr) (c : Nat) (zs : List Int) (o : Int) (w : World) (hl : zs.length ≤ 4294967296) (hz : ∀ x ∈ zs, In64 x) (hon : ¬ o < 0) (hoi : In64 o) (h : IS w (.slice A zs.length c) zs) (hd : Cs.dup zs = true) :
    Calls Try.prog 25 #[.slice A zs.length c, .int .i64 o] w fun e w' => e = .returned (.tuple #[.int .i64 0, .int .i64 0, .int .i64 2]) ∧ Below w.heap.size w w' := by
  have d0 : decide (o < 0) = false := by simpa using hon
  have HI : Hid (IntsIn w.heap.size w (.slice A zs.length c) zs) := Lib.hid (by
    obtain ⟨A', b, o', c', e, hc, hn, hf⟩ := h.form
    cases e
    by_cases h0 : 0 < zs.length
    · obtain ⟨rfl, hb, hcell⟩ := hf h0
      exact .inr ⟨b, o', c, rfl, hb, fun j hj => by rw [hcell j hj, List.getD_eq_getElem?_getD]⟩
    · have : zs = [] := List.eq_nil_of_length_eq_zero (by omega)
      subst this
      exact .inl ⟨A, c, rfl, rfl⟩)
  have HS := Lib.hid h
  have HZ := Lib.hid hz
  have hl8 : zs.length * 8 ≤ 140737488351232 := by omega
  have hl63 : (zs.length : Int) ≤ 9223372036854775807 := by omega
  obtain ⟨m, hm⟩ : ∃ m, (Lib.compact (srt zs)).length = m := ⟨_, rfl⟩
  have HM := Lib.hid hm
  have hmle : m ≤ zs.length := by rw [← hm, ← srt_length zs]; exact compact_le _
  have hq : ((m : Int) != (zs.length : Int)) = Cs.dup zs := by
    have := compact_iff zs
    rw [hm] at this
    unfold Cs.dup
    by_cases hn : zs.Nodup
    · simp [hn, this.2 hn]
    · have h2 : ¬ (m = zs.length) := fun h => hn (this.1 h)
      simp [hn]; omega
  clear h hz hm
  rw [hd] at hq
  clear hd
  go_enter Try.func25, Try.ntmps25
  go_wp2_with (first
    | (go_at_call 51; (with_reducible refine (slices_Values A zs.length c _).mono ?_); rintro e w1 ⟨rfl, rfl⟩)
    | (go_at_call 50; (refine (slices_Sorted w.heap.size (.slice A zs.length c) zs hl8 _ (by simp) (by simp [go_sem]) ((HI.out.below ((Below.refl _ w).alloc (Nat.le_refl _) _)).more (by simp))).mono ?_); rintro e w2 ⟨v, rfl, ho2, -, hb2⟩; obtain ⟨A2, c2, rfl⟩ := row_slice ho2; have hB2 : Below w.heap.size w w2 := below_step ((Below.refl _ w).alloc (Nat.le_refl _) _) hb2; have HO2 := Lib.hid ho2; clear ho2 hb2)
    | (go_at_call 53; (refine (clone_of_row _ _ _ (srt zs) (by rw [srt_length]; exact hl8) (by rw [srt_length]; exact HO2.out)).mono ?_); rintro e w3 ⟨v3, rfl, ho3, hb3⟩; have hB3 : Below w.heap.size w w3 := below_step hB2 hb3; have HO3 := Lib.hid ho3; have hs3 := hb3.size; clear ho3 hb3)
    | (go_at_call 52; (refine (compact_of_row _ w2.heap.size _ (srt zs) (by rw [srt_length]; exact hl8) HO3.out hs3).mono ?_); rintro e w4 ⟨A4, c4, rfl, hb4⟩; rw [HM.out]; have hB4 : Below w.heap.size w w4 := hB3.trans (hb4.mono hB2.size); clear hb4))
  exact bodyPost_ret (v := .tuple #[.int .i64 0, .int .i64 0, .int .i64 2]) (by simp [results, Try.results25, go_sem, *]) rfl ⟨rfl, hB4⟩
set_option maxRecDepth 100000 in
set_option maxHeartbeats 1600000 in
theorem census_Sizes_one (A : Option Addr) (c : Nat) (zs : List Int) (o : Int) (w : World) (hl : zs.length ≤ 4294967296) (hz : ∀ x ∈ zs, In64 x) (hon : ¬ o < 0) (hoi : In64 o) (h : IS w (.slice A zs.length c) zs) (hd : Cs.dup zs = false) (r s z : Int) (hr : (Cs.sizesA zs o, Cs.sizesH zs o, Cs.sizesE zs o) = (r, s, z)) :
    Calls Try.prog 25 #[.slice A zs.length c, .int .i64 o] w fun e w' => e = .returned (.tuple #[.int .i64 r, .int .i64 s, .int .i64 z]) ∧ Below w.heap.size w w' := by
  have d0 : decide (o < 0) = false := by simpa using hon
  have HI : Hid (IntsIn w.heap.size w (.slice A zs.length c) zs) := Lib.hid (by
    obtain ⟨A', b, o', c', e, hc, hn, hf⟩ := h.form
    cases e
    by_cases h0 : 0 < zs.length
    · obtain ⟨rfl, hb, hcell⟩ := hf h0
      exact .inr ⟨b, o', c, rfl, hb, fun j hj => by rw [hcell j hj, List.getD_eq_getElem?_getD]⟩
    · have : zs = [] := List.eq_nil_of_length_eq_zero (by omega)
      subst this
      exact .inl ⟨A, c, rfl, rfl⟩)
  have HS := Lib.hid h
  have HZ := Lib.hid hz
  have hl8 : zs.length * 8 ≤ 140737488351232 := by omega
  have hl63 : (zs.length : Int) ≤ 9223372036854775807 := by omega
  obtain ⟨m, hm⟩ : ∃ m, (Lib.compact (srt zs)).length = m := ⟨_, rfl⟩
  have HM := Lib.hid hm
  have hmle : m ≤ zs.length := by rw [← hm, ← srt_length zs]; exact compact_le _
  have hq : ((m : Int) != (zs.length : Int)) = Cs.dup zs := by
    have := compact_iff zs
    rw [hm] at this
    unfold Cs.dup
    by_cases hn : zs.Nodup
    · simp [hn, this.2 hn]
    · have h2 : ¬ (m = zs.length) := fun h => hn (this.1 h)
      simp [hn]; omega
  clear h hz hm
  rw [hd] at hq
  have hoi' := hoi
  unfold In64 at hoi'
  have hcn := Cs.chooseN_bound zs hl
  obtain ⟨a, ha⟩ : ∃ a, Cs.chooseA (Cs.countL zs) = a := ⟨_, rfl⟩
  obtain ⟨n, hn⟩ : ∃ a, Cs.chooseN (Cs.countL zs) = a := ⟨_, rfl⟩
  have hE : Cs.chooseE (Cs.countL zs) = 0 := by unfold Cs.chooseE; rw [if_pos (Cs.okC_countL zs hl)]
  have hrest : Cs.rest zs o = zs.length - n + o := by unfold Cs.rest; rw [hn]
  rw [hn] at hcn
  have HAa := Lib.hid ha; have HNn := Lib.hid hn; have HEe := Lib.hid hE
  have SB := Lib.hid (fun b => Cs.sizes_big hon hd b); have SO := Lib.hid (fun b => Cs.sizes_ok hon hd b)
  rw [ha, hrest] at SO; rw [hrest] at SB
  have HR := Lib.hid hr
  clear hd ha hn hE hr hrest
  by_cases hbig : 65536 < o
  · have db : decide (65536 < o) = true := by simpa using hbig
    obtain ⟨e1, e2, e3⟩ := SB.out (.inl hbig)
    rw [e1, e2, e3] at HR
    obtain ⟨rfl, rfl, rfl⟩ : 0 = r ∧ 0 = s ∧ 14 = z := by simpa using HR.out
    clear HR SB SO e1 e2 e3
    go_enter Try.func25, Try.ntmps25
    go_wp2_with (first
    | (go_at_call 51; (with_reducible refine (slices_Values A zs.length c _).mono ?_); rintro e w1 ⟨rfl, rfl⟩)
    | (go_at_call 50; (refine (slices_Sorted w.heap.size (.slice A zs.length c) zs hl8 _ (by simp) (by simp [go_sem]) ((HI.out.below ((Below.refl _ w).alloc (Nat.le_refl _) _)).more (by simp))).mono ?_); rintro e w2 ⟨v, rfl, ho2, -, hb2⟩; obtain ⟨A2, c2, rfl⟩ := row_slice ho2; have hB2 : Below w.heap.size w w2 := below_step ((Below.refl _ w).alloc (Nat.le_refl _) _) hb2; have HO2 := Lib.hid ho2; clear ho2 hb2)
    | (go_at_call 53; (refine (clone_of_row _ _ _ (srt zs) (by rw [srt_length]; exact hl8) (by rw [srt_length]; exact HO2.out)).mono ?_); rintro e w3 ⟨v3, rfl, ho3, hb3⟩; have hB3 : Below w.heap.size w w3 := below_step hB2 hb3; have HO3 := Lib.hid ho3; have hs3 := hb3.size; clear ho3 hb3)
    | (go_at_call 52; (refine (compact_of_row _ w2.heap.size _ (srt zs) (by rw [srt_length]; exact hl8) HO3.out hs3).mono ?_); rintro e w4 ⟨A4, c4, rfl, hb4⟩; rw [HM.out]; have hB4 : Below w.heap.size w w4 := hB3.trans (hb4.mono hB2.size); clear hb4)
    | (go_at_call 20; (refine (census_Count (.slice A zs.length c) zs _ (by omega) HZ.out (HS.out.below hB4)).mono ?_); rintro e w5 ⟨v5, rfl, ho5, hb5⟩; have hB5 : Below w.heap.size w w5 := below_step hB4 hb5; have HO5 := Lib.hid ho5; clear ho5 hb5)
    | (go_at_call 23; (refine (Choose_c v5 (Cs.countL zs) _ (by rw [Cs.countL_length]; omega) (IS.of_row (by rw [Cs.countL_length]; exact HO5.out)) a n 0 HAa.out HNn.out HEe.out).mono ?_); rintro e w6 ⟨rfl, rfl⟩))
    exact bodyPost_ret (v := .tuple #[.int .i64 0, .int .i64 0, .int .i64 14]) (by simp [results, Try.results25, go_sem, *]) rfl ⟨rfl, hB5⟩
  · have db : decide (65536 < o) = false := by simpa using hbig
    have w1 : wrap64 (o + zs.length) = o + zs.length := by unfold wrap64; omega
    have w2 : wrap64 (o + zs.length - n) = o + zs.length - n := by unfold wrap64; omega
    have e9 : (zs.length : Int) - n + o = o + zs.length - n := by omega
    rw [e9] at SB SO
    have hti : In64 (o + zs.length - n) := by unfold In64; omega
    have ht0 : 0 ≤ o + zs.length - n := by omega
    obtain ⟨t, ht⟩ : ∃ t, o + zs.length - n = t := ⟨_, rfl⟩
    rw [ht] at SB SO w2 hti ht0
    obtain ⟨x, hx⟩ : ∃ x, Ws.ceil2 t = x := ⟨_, rfl⟩
    obtain ⟨y, hy⟩ : ∃ y, Ws.ceil2E t = y := ⟨_, rfl⟩
    have HX := Lib.hid hx; have HY := Lib.hid hy
    by_cases hb2 : 65536 < t
    · obtain ⟨e1, e2, e3⟩ := SB.out (.inr hb2)
      rw [e1, e2, e3] at HR
      obtain ⟨rfl, rfl, rfl⟩ : 0 = r ∧ 0 = s ∧ 14 = z := by simpa using HR.out
      have hg := Cs.ceil2_gt t hb2
      rw [hx, hy] at hg
      clear HR SB SO e1 e2 e3 hx hy
      rcases hg with hg | ⟨rfl, hg⟩
      · have dy : (y != 0) = true := by simpa using hg
        go_enter Try.func25, Try.ntmps25
        go_wp2_with (first
    | (go_at_call 51; (with_reducible refine (slices_Values A zs.length c _).mono ?_); rintro e w1 ⟨rfl, rfl⟩)
    | (go_at_call 50; (refine (slices_Sorted w.heap.size (.slice A zs.length c) zs hl8 _ (by simp) (by simp [go_sem]) ((HI.out.below ((Below.refl _ w).alloc (Nat.le_refl _) _)).more (by simp))).mono ?_); rintro e w2 ⟨v, rfl, ho2, -, hb2⟩; obtain ⟨A2, c2, rfl⟩ := row_slice ho2; have hB2 : Below w.heap.size w w2 := below_step ((Below.refl _ w).alloc (Nat.le_refl _) _) hb2; have HO2 := Lib.hid ho2; clear ho2 hb2)
    | (go_at_call 53; (refine (clone_of_row _ _ _ (srt zs) (by rw [srt_length]; exact hl8) (by rw [srt_length]; exact HO2.out)).mono ?_); rintro e w3 ⟨v3, rfl, ho3, hb3⟩; have hB3 : Below w.heap.size w w3 := below_step hB2 hb3; have HO3 := Lib.hid ho3; have hs3 := hb3.size; clear ho3 hb3)
    | (go_at_call 52; (refine (compact_of_row _ w2.heap.size _ (srt zs) (by rw [srt_length]; exact hl8) HO3.out hs3).mono ?_); rintro e w4 ⟨A4, c4, rfl, hb4⟩; rw [HM.out]; have hB4 : Below w.heap.size w w4 := hB3.trans (hb4.mono hB2.size); clear hb4)
    | (go_at_call 20; (refine (census_Count (.slice A zs.length c) zs _ (by omega) HZ.out (HS.out.below hB4)).mono ?_); rintro e w5 ⟨v5, rfl, ho5, hb5⟩; have hB5 : Below w.heap.size w w5 := below_step hB4 hb5; have HO5 := Lib.hid ho5; clear ho5 hb5)
    | (go_at_call 23; (refine (Choose_c v5 (Cs.countL zs) _ (by rw [Cs.countL_length]; omega) (IS.of_row (by rw [Cs.countL_length]; exact HO5.out)) a n 0 HAa.out HNn.out HEe.out).mono ?_); rintro e w6 ⟨rfl, rfl⟩)
    | (go_at_call 54; (with_reducible refine (words_Ceil2_c t hti x _ HX.out HY.out _).mono ?_); rintro e w7 ⟨rfl, rfl⟩))
        exact bodyPost_ret (v := .tuple #[.int .i64 0, .int .i64 0, .int .i64 14]) (by simp [results, Try.results25, go_sem, *]) rfl ⟨rfl, hB5⟩
      · have dy : decide (65536 < x) = true := by simpa using hg
        go_enter Try.func25, Try.ntmps25
        go_wp2_with (first
    | (go_at_call 51; (with_reducible refine (slices_Values A zs.length c _).mono ?_); rintro e w1 ⟨rfl, rfl⟩)
    | (go_at_call 50; (refine (slices_Sorted w.heap.size (.slice A zs.length c) zs hl8 _ (by simp) (by simp [go_sem]) ((HI.out.below ((Below.refl _ w).alloc (Nat.le_refl _) _)).more (by simp))).mono ?_); rintro e w2 ⟨v, rfl, ho2, -, hb2⟩; obtain ⟨A2, c2, rfl⟩ := row_slice ho2; have hB2 : Below w.heap.size w w2 := below_step ((Below.refl _ w).alloc (Nat.le_refl _) _) hb2; have HO2 := Lib.hid ho2; clear ho2 hb2)
    | (go_at_call 53; (refine (clone_of_row _ _ _ (srt zs) (by rw [srt_length]; exact hl8) (by rw [srt_length]; exact HO2.out)).mono ?_); rintro e w3 ⟨v3, rfl, ho3, hb3⟩; have hB3 : Below w.heap.size w w3 := below_step hB2 hb3; have HO3 := Lib.hid ho3; have hs3 := hb3.size; clear ho3 hb3)
    | (go_at_call 52; (refine (compact_of_row _ w2.heap.size _ (srt zs) (by rw [srt_length]; exact hl8) HO3.out hs3).mono ?_); rintro e w4 ⟨A4, c4, rfl, hb4⟩; rw [HM.out]; have hB4 : Below w.heap.size w w4 := hB3.trans (hb4.mono hB2.size); clear hb4)
    | (go_at_call 20; (refine (census_Count (.slice A zs.length c) zs _ (by omega) HZ.out (HS.out.below hB4)).mono ?_); rintro e w5 ⟨v5, rfl, ho5, hb5⟩; have hB5 : Below w.heap.size w w5 := below_step hB4 hb5; have HO5 := Lib.hid ho5; clear ho5 hb5)
    | (go_at_call 23; (refine (Choose_c v5 (Cs.countL zs) _ (by rw [Cs.countL_length]; omega) (IS.of_row (by rw [Cs.countL_length]; exact HO5.out)) a n 0 HAa.out HNn.out HEe.out).mono ?_); rintro e w6 ⟨rfl, rfl⟩)
    | (go_at_call 54; (with_reducible refine (words_Ceil2_c t hti x _ HX.out HY.out _).mono ?_); rintro e w7 ⟨rfl, rfl⟩))
        exact bodyPost_ret (v := .tuple #[.int .i64 0, .int .i64 0, .int .i64 14]) (by simp [results, Try.results25, go_sem, *]) rfl ⟨rfl, hB5⟩
    · obtain ⟨e1, e2, e3⟩ := SO.out (by omega)
      rw [e1, e2, e3, hx] at HR
      obtain ⟨rfl, rfl, rfl⟩ : a = r ∧ x = s ∧ 0 = z := by simpa using HR.out
      have hg := Cs.ceil2_le t ht0 (by omega)
      rw [hx, hy] at hg
      obtain ⟨hg, rfl⟩ := hg
      clear HR SB SO e1 e2 e3 hx hy
      have dy : decide (65536 < x) = false := by simp; omega
      go_enter Try.func25, Try.ntmps25
      go_wp2_with (first
    | (go_at_call 51; (with_reducible refine (slices_Values A zs.length c _).mono ?_); rintro e w1 ⟨rfl, rfl⟩)
    | (go_at_call 50; (refine (slices_Sorted w.heap.size (.slice A zs.length c) zs hl8 _ (by simp) (by simp [go_sem]) ((HI.out.below ((Below.refl _ w).alloc (Nat.le_refl _) _)).more (by simp))).mono ?_); rintro e w2 ⟨v, rfl, ho2, -, hb2⟩; obtain ⟨A2, c2, rfl⟩ := row_slice ho2; have hB2 : Below w.heap.size w w2 := below_step ((Below.refl _ w).alloc (Nat.le_refl _) _) hb2; have HO2 := Lib.hid ho2; clear ho2 hb2)
    | (go_at_call 53; (refine (clone_of_row _ _ _ (srt zs) (by rw [srt_length]; exact hl8) (by rw [srt_length]; exact HO2.out)).mono ?_); rintro e w3 ⟨v3, rfl, ho3, hb3⟩; have hB3 : Below w.heap.size w w3 := below_step hB2 hb3; have HO3 := Lib.hid ho3; have hs3 := hb3.size; clear ho3 hb3)
    | (go_at_call 52; (refine (compact_of_row _ w2.heap.size _ (srt zs) (by rw [srt_length]; exact hl8) HO3.out hs3).mono ?_); rintro e w4 ⟨A4, c4, rfl, hb4⟩; rw [HM.out]; have hB4 : Below w.heap.size w w4 := hB3.trans (hb4.mono hB2.size); clear hb4)
    | (go_at_call 20; (refine (census_Count (.slice A zs.length c) zs _ (by omega) HZ.out (HS.out.below hB4)).mono ?_); rintro e w5 ⟨v5, rfl, ho5, hb5⟩; have hB5 : Below w.heap.size w w5 := below_step hB4 hb5; have HO5 := Lib.hid ho5; clear ho5 hb5)
    | (go_at_call 23; (refine (Choose_c v5 (Cs.countL zs) _ (by rw [Cs.countL_length]; omega) (IS.of_row (by rw [Cs.countL_length]; exact HO5.out)) a n 0 HAa.out HNn.out HEe.out).mono ?_); rintro e w6 ⟨rfl, rfl⟩)
    | (go_at_call 54; (with_reducible refine (words_Ceil2_c t hti x _ HX.out HY.out _).mono ?_); rintro e w7 ⟨rfl, rfl⟩))
      exact bodyPost_ret (v := .tuple #[.int .i64 a, .int .i64 x, .int .i64 0]) (by simp [results, Try.results25, go_sem, *]) rfl ⟨rfl, hB5⟩
/-- Sizes of any list of at most 2^32 numbers. -/
theorem census_Sizes (sv : Value) (zs : List Int) (o : Int) (w : World) (hl : zs.length ≤ 4294967296) (hz : ∀ x ∈ zs, In64 x) (hoi : In64 o) (h : IS w sv zs) :
    Calls Try.prog 25 #[sv, .int .i64 o] w fun e w' => e = .returned (.tuple #[.int .i64 (Cs.sizesA zs o), .int .i64 (Cs.sizesH zs o), .int .i64 (Cs.sizesE zs o)]) ∧ Below w.heap.size w w' := by
  have h' := h
  obtain ⟨A, c, rfl, -⟩ := h
  by_cases hon : o < 0
  · obtain ⟨e1, e2, e3⟩ := Cs.sizes_neg (l := zs) hon
    rw [e1, e2, e3]
    have d0 : decide (o < 0) = true := by simpa using hon
    go_enter Try.func25, Try.ntmps25
    go_wp2
    exact bodyPost_ret (v := .tuple #[.int .i64 0, .int .i64 0, .int .i64 1]) (by simp [results, Try.results25, go_sem, *]) rfl ⟨rfl, Below.refl _ _⟩
  · cases hd : Cs.dup zs with
    | true =>
      obtain ⟨e1, e2, e3⟩ := Cs.sizes_dup (l := zs) hon hd
      rw [e1, e2, e3]
      exact census_Sizes_dup A c zs o w hl hz hon hoi h' hd
    | false => exact census_Sizes_one A c zs o w hl hz hon hoi h' hd _ _ _ rfl
end Go.Proofs.Ytfhigeefclchiaa
