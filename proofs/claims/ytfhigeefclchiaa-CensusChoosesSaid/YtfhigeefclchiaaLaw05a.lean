/- The statements of layer 5, walked: counts, choices. -/
import Derived.Test.YtfhigeefclchiaaOpenI
import Derived.Laws.AppendOwnNone
namespace Go.Proofs.Ytfhigeefclchiaa
open Go.RowKit
set_option linter.unusedVariables false
set_option linter.unusedSimpArgs false

theorem at_map {ys : List Int} {j : Nat} {u : Value} (h : (ys.map (Value.int .i64))[j]? = some u) : ∃ hj : j < ys.length, Value.int .i64 (ys.getD j 0) = u := by
  rw [List.getElem?_map] at h
  cases e : ys[j]? with
  | none => rw [e] at h; simp at h
  | some x =>
    obtain ⟨hj, hx⟩ := List.getElem?_eq_some_iff.1 e
    rw [e] at h
    refine ⟨hj, ?_⟩
    rw [List.getD_eq_getElem?_getD, e]
    simpa using h
theorem add_block (a : Addr) (j : Nat) : (a.add j).block = a.block := by unfold Addr.add; split <;> rfl
/-- append of what is read, onto a row of the call's own, behind a guard that says yes. -/
theorem append_own_w {P : Program} {w : World} {ops : Array Oper} {rest : List Oper} {o : Oper} {a : Act} {Q : Exit → Act → World → Prop} (hw : Region.wanted o (yielded ops a.tmps) = true) (s x : Operand) (t : TypeId)
    (ho : o.op = .call { callee := .builtin .append, args := #[s, x], argTypes := #[t, t] })
    (base : Nat) (e : TypeId) (i : TypeInfo) (z : Value) (size bytes : Nat) (ht : P.underlying t = some (.slice e)) (hi : P.info? e = some i) (hz : i.zero = some z)
    (hsize : i.size = size) (hby : i.bytes = bytes) (hzs : z.cells.size = size) (hsz : 0 < size)
    (v : Value) (n : Nat) (xs : List Value) (hs : a.eval s = v) (hown : w.ownsRow base e size v n xs)
    (ad : Addr) (m c : Nat) (news : List Value) (hx : a.eval x = .slice (some ad) m c) (hl : news.length = m * size) (hnews : ∀ j u, news[j]? = some u → w.cell? (ad.add j) = some u) (h1 : ∀ u ∈ news, u.oneCell' = true)
    (h63 : n + m ≤ maxLen) (hbytes : (n + m) * bytes ≤ 140737488355328) (hbase : base ≤ w.heap.size)
    (h : ∀ v' w', w'.ownsRow base e size v' (n + m) (xs ++ news) → w.grownBy w' v.ownBlock → wpList P ops Q rest (a.put o.dst v') w') : wpList P ops Q (o :: rest) a w := by
  show (if Region.wanted o (yielded ops a.tmps) then o.wp P a w (wpList P ops Q rest) Q ∨ (o.asks P a w ∧ LetsOut Q) else wpList P ops Q rest (a.put o.dst undef) w)
  rw [if_pos hw]
  exact .inl (wp_append_own w s x t ho base e i z size bytes ht hi hz hsize hby hzs hsz v n xs hs hown ad m c news hx hl hnews h1 h63 hbytes hbase fun v' w' a b _ => h v' w' a b)
set_option maxRecDepth 100000 in
set_option maxHeartbeats 1600000 in
theorem walk_CensusCounts_some (w : World) (ad : Addr) (N c M : Nat) (zs ys : List Int) (hzl : zs.length = N) (hyl : ys.length = M) (hyz : zs.take 3000 = ys) (hNc : N ≤ c) (hcl : N ≤ 17592186043904) (hbl : 0 < M → ad.block < w.heap.size) (hys : ∀ j, j < ys.length → w.cell? (ad.add j) = some (.int .i64 (ys.getD j 0))) (hin : ∀ x ∈ ys, In64 x) (n : Int) (hn : In64 n) :
    Calls Try.prog 3 #[.slice (some ad) N c, .int .i64 n] w fun e w' => e = .returned (.bool true) ∧ Below w.heap.size w w' := by
  obtain ⟨i0, hi, hz0, hz1, hz2⟩ := info_parts Try.infoInt
  obtain ⟨k, hk⟩ : ∃ k, Ws.log2 n = k := ⟨_, rfl⟩
  have HK := Lib.hid hk
  have FEW_c : ∀ W, Calls Try.prog 21 #[.slice (some ad) N c] W fun e w' => e = .returned (.slice (some ad) M c) ∧ W = w' := by
    intro W
    subst hzl; exact few_s (some ad) c zs M (by rw [hyz]; exact hyl) W (by omega) hNc (by simp)
  have hM : M ≤ 3000 := by rw [← hyl, ← hyz, List.length_take]; omega
  have HYL := Lib.hid hbl; have HYY := Lib.hid hyl; have HIN := Lib.hid hin
  have hMc : M ≤ c := by rw [← hyl, ← hyz, List.length_take]; omega
  have HIS : Hid (IS w (.slice (some ad) M c) ys) := Lib.hid (by subst hyl; exact ⟨_, _, rfl, hMc, fun h => by simp at h, fun _ => ⟨ad, rfl, hys⟩⟩)
  have HYS : Hid (∀ j u, (ys.map (Value.int .i64))[j]? = some u → ∀ W, Below w.heap.size w W → W.cell? (ad.add j) = some u) := Lib.hid (by
    intro j u h W hb
    obtain ⟨hj, rfl⟩ := at_map h
    rw [hb.cell (by rw [add_block]; exact hbl (by omega))]
    exact hys j hj)
  clear hys hbl hyl hin
  clear hk
  go_enter Try.func3, Try.ntmps3
  go_wp2_with (first | (go_at_call 16; (with_reducible refine (law05_fixed _).mono ?_); rintro e w1 ⟨rfl, hb1⟩; have hB1 : Below w.heap.size w w1 := below_step (by first | assumption | exact Below.refl _ _ | (repeat (first | exact Below.refl _ _ | assumption | refine below_drewN ?_ _ | refine Below.drew ?_ | refine Below.alloc ?_ (by first | exact Nat.le_refl _ | exact Below.size (by assumption) | (simp; done) | (simp; omega) | omega) _))) hb1; clear hb1) | (go_at_call 17; (with_reducible refine (census_Slice_c n k hn HK.out _).mono ?_); rintro e w' ⟨rfl, rfl⟩) | (go_at_call 18; (with_reducible refine (ref_Slice_c n k hn HK.out _).mono ?_); rintro e w' ⟨rfl, rfl⟩) | (go_at_call 21; (with_reducible refine (FEW_c _).mono ?_); rintro e w' ⟨rfl, rfl⟩) | (at_builtin; refine append_own_w ?hw (Operand.tmp 14) (Operand.tmp 16) 22 rfl w.heap.size 3 i0 (.int .i64 0) 1 8 Try.underlying22 hi hz0 hz1 hz2 rfl (by decide) (.slice (some ⟨w1.heap.size, 0, none⟩) 0 0) 0 [] rfl (World.ownsRow_lit w1 #[] 0 hB1.size (by decide) rfl) ad M c (ys.map (Value.int .i64)) rfl (by rw [List.length_map, HYY.out]; omega) (fun j u h => HYS.out j u h _ (hB1.alloc hB1.size _)) (fun u hu => by obtain ⟨x, -, rfl⟩ := List.mem_map.1 hu; rfl) (by unfold maxLen; omega) (by omega) (by simp; have := hB1.size; omega) ?_; rotate_left; (intro v2 w2 hown2 hg2; have hI2 : Hid (IS w2 v2 ys) := Lib.hid (IS.of_row (by rw [HYY.out]; simpa using hown2)); have hB2 : Below w.heap.size w w2 := Below.grown (hB1.alloc hB1.size _) hg2 (by simp; have := hB1.size; omega) (fun q hq => by simp [Value.ownBlock] at hq; have := hB1.size; omega); clear hown2 hg2)) | (go_at_call 20; (refine (census_Count _ ys _ (by rw [HYY.out]; omega) HIN.out hI2.out).mono ?_); rintro e w5 ⟨v5, rfl, ho5, hb5⟩; have hB5 : Below w.heap.size w w5 := below_step hB2 hb5; have HO5 := Lib.hid ho5; clear ho5 hb5) | (go_at_call 22; (refine (ref_Count _ ys _ (by rw [HYY.out]; omega) HIN.out (HIS.out.below hB5)).mono ?_); rintro e w6 ⟨v6, rfl, ho6, hb6⟩; have hB6 : Below w.heap.size w w6 := below_step hB5 hb6; have HO6 := Lib.hid ho6; have HO5b := Lib.hid (ownsRow_below HO5.out hb6); clear ho6 hb6) | (go_at_call 19; (refine (SameInts _ _ (Cs.countL ys) (Cs.countL ys) true (by simp) _ (by rw [Cs.countL_length]; omega) (by rw [Cs.countL_length]; omega) (IS.of_row (by rw [Cs.countL_length]; exact HO5b.out)) (IS.of_row (by rw [Cs.countL_length]; exact HO6.out))).mono ?_); rintro e w7 ⟨rfl, hb7⟩; have hB7 : Below w.heap.size w w7 := below_step hB6 hb7; clear hb7))
  go_ret
  exact ⟨rfl, hB7⟩
set_option maxRecDepth 100000 in
set_option maxHeartbeats 1600000 in
theorem walk_CensusCounts_none (w : World) (n : Int) (hn : In64 n) :
    Calls Try.prog 3 #[.slice none 0 0, .int .i64 n] w fun e w' => e = .returned (.bool true) ∧ Below w.heap.size w w' := by
  obtain ⟨i0, hi, hz0, hz1, hz2⟩ := info_parts Try.infoInt
  obtain ⟨k, hk⟩ : ∃ k, Ws.log2 n = k := ⟨_, rfl⟩
  have HK := Lib.hid hk
  have FEW_c : ∀ W, Calls Try.prog 21 #[.slice none 0 0] W fun e w' => e = .returned (.slice none 0 0) ∧ W = w' := by
    intro W
    exact few_s none 0 [] 0 rfl W (by simp) (by simp) (fun _ => rfl)
  clear hk
  go_enter Try.func3, Try.ntmps3
  go_wp2_with (first | (go_at_call 16; (with_reducible refine (law05_fixed _).mono ?_); rintro e w1 ⟨rfl, hb1⟩; have hB1 : Below w.heap.size w w1 := below_step (by first | assumption | exact Below.refl _ _ | (repeat (first | exact Below.refl _ _ | assumption | refine below_drewN ?_ _ | refine Below.drew ?_ | refine Below.alloc ?_ (by first | exact Nat.le_refl _ | exact Below.size (by assumption) | (simp; done) | (simp; omega) | omega) _))) hb1; clear hb1) | (go_at_call 17; (with_reducible refine (census_Slice_c n k hn HK.out _).mono ?_); rintro e w' ⟨rfl, rfl⟩) | (go_at_call 18; (with_reducible refine (ref_Slice_c n k hn HK.out _).mono ?_); rintro e w' ⟨rfl, rfl⟩) | (go_at_call 21; (with_reducible refine (FEW_c _).mono ?_); rintro e w' ⟨rfl, rfl⟩) | (fail) | (go_at_call 20; (refine (census_Count _ [] _ (by simp) (fun x hx => by simp at hx) ⟨_, 0, rfl, Nat.le_refl _, fun h => by simp at h, fun h => by simp at h⟩).mono ?_); rintro e w5 ⟨v5, rfl, ho5, hb5⟩; have hB5 : Below w.heap.size w w5 := below_step (hB1.alloc hB1.size _) hb5; have HO5 := Lib.hid ho5; clear ho5 hb5) | (go_at_call 22; (refine (ref_Count _ [] _ (by simp) (fun x hx => by simp at hx) ⟨none, 0, rfl, Nat.le_refl _, fun _ => rfl, fun h => absurd h (by simp)⟩).mono ?_); rintro e w6 ⟨v6, rfl, ho6, hb6⟩; have hB6 : Below w.heap.size w w6 := below_step hB5 hb6; have HO6 := Lib.hid ho6; have HO5b := Lib.hid (ownsRow_below HO5.out hb6); clear ho6 hb6) | (go_at_call 19; (refine (SameInts _ _ (Cs.countL []) (Cs.countL []) true (by simp) _ (by rw [Cs.countL_length]; omega) (by rw [Cs.countL_length]; omega) (IS.of_row (by rw [Cs.countL_length]; exact HO5b.out)) (IS.of_row (by rw [Cs.countL_length]; exact HO6.out))).mono ?_); rintro e w7 ⟨rfl, hb7⟩; have hB7 : Below w.heap.size w w7 := below_step hB6 hb7; clear hb7))
  go_ret
  exact ⟨rfl, hB7⟩
theorem rowCensusCounts {v : Value} {W : World} (zs : List Int) (n : Int) (f : ISA W v zs) (hn : In64 n) (w : World) : Calls Try.prog 3 #[v, .int .i64 n] W fun e w' => e = .returned (.bool true) ∧ Below W.heap.size W w' := by
  obtain ⟨⟨A, c, rfl, hc, hA, hz⟩, hi, hl⟩ := f
  cases A with
  | none =>
    obtain rfl := hA rfl
    have : zs = [] := List.eq_nil_of_length_eq_zero (by omega)
    subst this
    exact walk_CensusCounts_none W n hn
  | some ad =>
    refine walk_CensusCounts_some W ad zs.length c _ zs (zs.take 3000) rfl rfl rfl hc (by omega) (fun h0 => ?_) (fun j hj => ?_) (fun x hx => hi x (List.mem_of_mem_take hx)) n hn
    · rw [List.length_take] at h0
      obtain ⟨ad', e, hj⟩ := hz (by omega)
      cases e
      have := hj 0 (by omega)
      obtain ⟨b, o, e, hb⟩ := spot_of_cell this
      have e2 := congrArg Addr.block e
      rw [add_block] at e2
      rw [e2]; exact hb
    · rw [List.length_take] at hj
      obtain ⟨ad', e, hj'⟩ := hz (by omega)
      cases e
      rw [hj' j (by omega), List.getD_eq_getElem?_getD, List.getD_eq_getElem?_getD, List.getElem?_take_of_lt (by omega)]
theorem RChoose_c (sv : Value) (zs : List Int) (w : World) (hl : zs.length ≤ 17592186044416) (hz : ∀ x ∈ zs, In64 x) (h : IS w sv zs) (a n z : Int) (ha : Cs.chooseA zs = a) (hn : Cs.chooseN zs = n) (hz2 : Cs.chooseE zs = z) :
    Calls Try.prog 24 #[sv] w fun e w' => e = .returned (.tuple #[.int .i64 a, .int .i64 n, .int .i64 z]) ∧ w = w' := by
  rw [← ha, ← hn, ← hz2]; exact ref_Choose sv zs w hl hz h
set_option maxRecDepth 100000 in
set_option maxHeartbeats 1600000 in
theorem walk_CensusChooses_some (w : World) (ad : Addr) (N c : Nat) (zs : List Int) (hyl : zs.length = N) (hNc : N ≤ c) (hl8 : N * 8 ≤ 140737488351232) (hbl : 0 < N → ad.block < w.heap.size) (hys : ∀ j, j < zs.length → w.cell? (ad.add j) = some (.int .i64 (zs.getD j 0))) (hin : ∀ x ∈ zs, In64 x) :
    Calls Try.prog 4 #[.slice (some ad) N c] w fun e w' => e = .returned (.bool true) ∧ Below w.heap.size w w' := by
  obtain ⟨i0, hi, hz0, hz1, hz2⟩ := info_parts Try.infoInt
  obtain ⟨a, ha⟩ : ∃ a, Cs.chooseA zs = a := ⟨_, rfl⟩
  obtain ⟨n, hn⟩ : ∃ a, Cs.chooseN zs = a := ⟨_, rfl⟩
  obtain ⟨z, hz⟩ : ∃ a, Cs.chooseE zs = a := ⟨_, rfl⟩
  have HA := Lib.hid ha; have HN := Lib.hid hn; have HE := Lib.hid hz
  clear ha hn hz
  have HYY := Lib.hid hyl; have HIN := Lib.hid hin
  have HIS : Hid (IS w (.slice (some ad) N c) zs) := Lib.hid (by subst hyl; exact ⟨_, _, rfl, hNc, fun h => by simp at h, fun _ => ⟨ad, rfl, hys⟩⟩)
  have HYS : Hid (∀ j u, (zs.map (Value.int .i64))[j]? = some u → ∀ W, Below w.heap.size w W → W.cell? (ad.add j) = some u) := Lib.hid (by
    intro j u h W hb
    obtain ⟨hj, rfl⟩ := at_map h
    rw [hb.cell (by rw [add_block]; exact hbl (by omega))]
    exact hys j hj)
  clear hys hbl hyl hin
  go_enter Try.func4, Try.ntmps4
  go_wp2_with (first | (at_builtin; refine wpList_append_own _ rfl (Operand.tmp 10) (Operand.tmp 11) 22 rfl w.heap.size 3 i0 (.int .i64 0) 1 8 Try.underlying22 hi hz0 hz1 hz2 rfl (by decide) (.slice (some ⟨w.heap.size, 0, none⟩) 0 0) 0 [] rfl (World.ownsRow_lit w #[] 0 (Nat.le_refl _) (by decide) rfl) ad N c (zs.map (Value.int .i64)) rfl (by rw [List.length_map, HYY.out]; omega) (fun j u h => HYS.out j u h _ ((Below.refl _ _).alloc (Nat.le_refl _) _)) (fun u hu => by obtain ⟨x, -, rfl⟩ := List.mem_map.1 hu; rfl) (by unfold maxLen; omega) (by omega) (by simp) ?_; intro v2 w2 hown2 hg2 hn2; have hI2 : Hid (IS w2 v2 zs) := Lib.hid (IS.of_row (by rw [HYY.out]; simpa using hown2)); have hB2 : Below w.heap.size w w2 := Below.grown ((Below.refl _ _).alloc (Nat.le_refl _) _) hg2 (by simp) (fun q hq => by simp [Value.ownBlock] at hq; omega); clear hown2 hg2 hn2) | (go_at_call 23; (refine (Choose_c _ zs _ (by rw [HYY.out]; omega) hI2.out a n z HA.out HN.out HE.out).mono ?_); rintro e w' ⟨rfl, rfl⟩) | (go_at_call 24; (refine (RChoose_c _ zs _ (by rw [HYY.out]; omega) HIN.out (HIS.out.below hB2) a n z HA.out HN.out HE.out).mono ?_); rintro e w' ⟨rfl, rfl⟩) | (go_at_call 16; (with_reducible refine (law05_fixed _).mono ?_); rintro e w3 ⟨rfl, hb3⟩; have hB3 : Below w.heap.size w w3 := below_step (by first | assumption | exact Below.refl _ _ | (repeat (first | exact Below.refl _ _ | assumption | refine below_drewN ?_ _ | refine Below.drew ?_ | refine Below.alloc ?_ (by first | exact Nat.le_refl _ | exact Below.size (by assumption) | (simp; done) | (simp; omega) | omega) _))) hb3; clear hb3))
  go_ret
  exact ⟨rfl, hB3⟩
set_option maxRecDepth 100000 in
set_option maxHeartbeats 1600000 in
theorem walk_CensusChooses_none (w : World) :
    Calls Try.prog 4 #[.slice none 0 0] w fun e w' => e = .returned (.bool true) ∧ Below w.heap.size w w' := by
  obtain ⟨i0, hi, hz0, hz1, hz2⟩ := info_parts Try.infoInt
  obtain ⟨a, ha⟩ : ∃ a, Cs.chooseA [] = a := ⟨_, rfl⟩
  obtain ⟨n, hn⟩ : ∃ a, Cs.chooseN [] = a := ⟨_, rfl⟩
  obtain ⟨z, hz⟩ : ∃ a, Cs.chooseE [] = a := ⟨_, rfl⟩
  have HA := Lib.hid ha; have HN := Lib.hid hn; have HE := Lib.hid hz
  clear ha hn hz
  go_enter Try.func4, Try.ntmps4
  go_wp2_with (first | (go_at_call 23; (refine (Choose_c _ [] _ (by simp) ⟨_, 0, rfl, Nat.le_refl _, fun h => by simp at h, fun h => by simp at h⟩ a n z HA.out HN.out HE.out).mono ?_); rintro e w' ⟨rfl, rfl⟩) | (go_at_call 24; (refine (RChoose_c _ [] _ (by simp) (fun x hx => by simp at hx) ⟨none, 0, rfl, Nat.le_refl _, fun _ => rfl, fun h => absurd h (by simp)⟩ a n z HA.out HN.out HE.out).mono ?_); rintro e w' ⟨rfl, rfl⟩) | (go_at_call 16; (with_reducible refine (law05_fixed _).mono ?_); rintro e w3 ⟨rfl, hb3⟩; have hB3 : Below w.heap.size w w3 := below_step (by first | assumption | exact Below.refl _ _ | (repeat (first | exact Below.refl _ _ | assumption | refine below_drewN ?_ _ | refine Below.drew ?_ | refine Below.alloc ?_ (by first | exact Nat.le_refl _ | exact Below.size (by assumption) | (simp; done) | (simp; omega) | omega) _))) hb3; clear hb3))
  go_ret
  exact ⟨rfl, hB3⟩
theorem IS.block {w : World} {v : Value} {zs : List Int} {ad : Addr} {c : Nat} (hz : 0 < zs.length → ∃ a, some ad = some a ∧ ∀ j, j < zs.length → w.cell? (a.add j) = some (.int .i64 (zs.getD j 0))) : (0 < zs.length → ad.block < w.heap.size) ∧ ∀ j, j < zs.length → w.cell? (ad.add j) = some (.int .i64 (zs.getD j 0)) := by
  have h : ∀ j, j < zs.length → w.cell? (ad.add j) = some (.int .i64 (zs.getD j 0)) := fun j hj => by
    obtain ⟨a, e, h⟩ := hz (by omega)
    cases e
    exact h j hj
  refine ⟨fun h0 => ?_, h⟩
  obtain ⟨b, o, e, hb⟩ := spot_of_cell (h 0 h0)
  have e2 := congrArg Addr.block e
  rw [add_block] at e2
  rw [e2]; exact hb
theorem rowCensusChooses {v : Value} {W : World} (zs : List Int) (f : ISA W v zs) (w : World) : Calls Try.prog 4 #[v] W fun e w' => e = .returned (.bool true) ∧ Below W.heap.size W w' := by
  obtain ⟨⟨A, c, rfl, hc, hA, hz⟩, hi, hl⟩ := f
  cases A with
  | none =>
    obtain rfl := hA rfl
    have : zs = [] := List.eq_nil_of_length_eq_zero (by omega)
    subst this
    exact walk_CensusChooses_none W
  | some ad =>
    obtain ⟨h1, h2⟩ := IS.block (v := .nilIface) (c := 0) hz
    exact walk_CensusChooses_some W ad zs.length c zs rfl hc hl h1 h2 hi
end Go.Proofs.Ytfhigeefclchiaa
