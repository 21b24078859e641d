/- SameInts; few; the fixed answers of layer 5. -/
import Derived.Test.YtfhigeefclchiaaCensus6
import Derived.Deep.RegionHeld3
namespace Go.Proofs.Ytfhigeefclchiaa
open Go.RowKit
set_option linter.unusedVariables false
set_option linter.unusedSimpArgs false

theorem min2 (ats : Array TypeId) (ty : TypeId) (x y : Int) : Builtin.min_ ats ty #[.int .i64 x, .int .i64 y] = pure (.int .i64 (if y < x then y else x)) := by
  simp only [Builtin.min_, List.foldlM_cons, List.foldlM_nil, Builtin.min2]
  rfl
theorem few_s (A : Option Addr) (c : Nat) (zs : List Int) (m : Nat) (hm' : (zs.take 3000).length = m) (w : World) (hl : zs.length ≤ 17592186044416) (hc : zs.length ≤ c) (hn : A = none → c = 0) :
    Calls Try.prog 21 #[.slice A zs.length c] w fun e w' => e = .returned (.slice A m c) ∧ w = w' := by
  have hm := min2
  have hl63 : (zs.length : Int) ≤ 9223372036854775807 := by omega
  rw [List.length_take] at hm'
  by_cases h : zs.length ≤ 3000
  · have e : m = zs.length := by omega
    subst e
    have d : ¬ ((3000 : Int) < (zs.length : Int)) := by omega
    clear hm'
    go_enter Try.func21, Try.ntmps21
    go_wp2
    go_ret
    exact ⟨rfl, rfl⟩
  · have e : m = 3000 := by omega
    subst e
    have d : (3000 : Int) < (zs.length : Int) := by omega
    have hA : A ≠ none := fun h => by have := hn h; omega
    obtain ⟨a, rfl⟩ : ∃ a, A = some a := by cases A with | none => exact absurd rfl hA | some a => exact ⟨a, rfl⟩
    clear hm' hA
    go_enter Try.func21, Try.ntmps21
    go_wp2
    go_ret
    exact ⟨rfl, rfl⟩
theorem few (sv : Value) (zs : List Int) (w : World) (hl : zs.length ≤ 17592186044416) (h : IS w sv zs) :
    Calls Try.prog 21 #[sv] w fun e w' => ∃ v, e = .returned v ∧ IS w v (zs.take 3000) ∧ w = w' := by
  obtain ⟨A, c, rfl, hc, hn, hz⟩ := h
  refine (few_s A c zs _ rfl w hl hc hn).mono ?_
  rintro e w' ⟨rfl, rfl⟩
  refine ⟨_, rfl, ⟨A, c, rfl, by rw [List.length_take]; omega, hn, fun h0 => ?_⟩, rfl⟩
  rw [List.length_take] at h0
  obtain ⟨ad, e, hj⟩ := hz (by omega)
  refine ⟨ad, e, fun j hjl => ?_⟩
  rw [List.length_take] at hjl
  rw [hj j (by omega), List.getD_eq_getElem?_getD, List.getD_eq_getElem?_getD, List.getElem?_take_of_lt (by omega)]
/-- Two cells that are read. -/
def TC (w0 : World) (p q : Addr) (x y : Int) (wr : World) : Prop := wr.cell? p = some (.int .i64 x) ∧ wr.cell? q = some (.int .i64 y) ∧ Below w0.heap.size w0 wr
theorem TC_drew {w0 : World} {p q : Addr} {x y : Int} {wr : World} (h : TC w0 p q x y wr) : TC w0 p q x y wr.drew := ⟨h.1, h.2.1, h.2.2.drew⟩
set_option maxRecDepth 100000 in
set_option maxHeartbeats 1600000 in
theorem SameInts_s (A : Option Addr) (b o c : Nat) (A' : Option Addr) (b' o' c' : Nat) (zs ys : List Int) (w : World) (hl : zs.length ≤ 17592186044416) (hl' : ys.length ≤ 17592186044416) (q : Bool) (hq : decide (zs = ys) = q)
    (hA : 0 < zs.length → A = some ⟨b, o, none⟩ ∧ b < w.heap.size ∧ ∀ j, j < zs.length → w.cell? ⟨b, o + j, none⟩ = some (.int .i64 (zs.getD j 0)))
    (hA' : 0 < ys.length → A' = some ⟨b', o', none⟩ ∧ b' < w.heap.size ∧ ∀ j, j < ys.length → w.cell? ⟨b', o' + j, none⟩ = some (.int .i64 (ys.getD j 0))) :
    Calls Try.prog 19 #[.slice A zs.length c, .slice A' ys.length c'] w fun e w' => e = .returned (.bool q) ∧ Below w.heap.size w w' := by
  have HA := Lib.hid hA
  have HA' := Lib.hid hA'
  have HQ := Lib.hid hq
  have hl63 : (zs.length : Int) ≤ 9223372036854775807 := by omega
  have hl63' : (ys.length : Int) ≤ 9223372036854775807 := by omega
  clear hA hA' hq
  by_cases hne : zs.length = ys.length
  · have hd : ((zs.length : Int) != (ys.length : Int)) = false := by rw [hne]; simp
    have HN := Lib.hid hne
    clear hne
    go_enter Try.func19, Try.ntmps19
    go_wp2
    go_loopw [5] (fun i wr => ∃ j : Nat, j ≤ zs.length ∧ i = .int .i64 j ∧ Hid (∀ k, k < j → zs.getD k 0 = ys.getD k 0) ∧ Below w.heap.size w wr) (fun i _ => zs.length - (intOf i).toNat)
    case atStart => exact ⟨0, Nat.zero_le _, rfl, Lib.hid (fun k hk => by omega), Below.refl _ _⟩
    case round =>
      obtain ⟨j, hj, rfl, HE, hB⟩ := hrel
      have hlen := HN.out
      by_cases hjl : j < zs.length
      · obtain ⟨rfl, hbl, hcell⟩ := HA.out (by omega)
        obtain ⟨rfl, hbl', hcell'⟩ := HA'.out (by omega)
        have cx := (hB.cell (p := ⟨b, o + j, none⟩) hbl).trans (hcell j hjl)
        have cy := (hB.cell (p := ⟨b', o' + j, none⟩) hbl').trans (hcell' j (by omega))
        clear hcell hcell'
        obtain ⟨x, hx⟩ : ∃ x, zs.getD j 0 = x := ⟨_, rfl⟩
        obtain ⟨y, hy⟩ : ∃ y, ys.getD j 0 = y := ⟨_, rfl⟩
        rw [hx] at cx; rw [hy] at cy
        have HX := Lib.hid hx; have HY := Lib.hid hy
        clear hx hy
        have hjy : j < ys.length := by omega
        have j0 : (0 : Int) ≤ (j : Int) := by omega
        have jz : (j : Int) < (zs.length : Int) := by omega
        have jy : (j : Int) < (ys.length : Int) := by omega
        have dj : decide ((j : Int) < (zs.length : Int)) = true := by simp; omega
        clear hlen
        have S0 : TC w ⟨b, o + j, none⟩ ⟨b', o' + j, none⟩ x y wr := ⟨cx, cy, hB⟩
        by_cases hxy : x = y
        · have dxy : (x != y) = false := by rw [hxy]; simp
          have hxy' := Lib.hid hxy
          clear hxy
          go_wp2
          go_region_held3 (fun wr => wr.cell? ⟨b, o + j, none⟩ = some (.int .i64 x) ∧ wr.cell? ⟨b', o' + j, none⟩ = some (.int .i64 y) ∧ Below w.heap.size w wr) (first | exact TC_drew S0 | assumption) (first | fail)
          rename_i hH
          go_wp2
          go_roundw
          case rel => exact ⟨j + 1, by omega, by go_num, Lib.hid (fun k hk => by
            by_cases e : k = j
            · subst e; rw [HX.out, HY.out]; exact hxy'.out
            · exact HE.out k (by omega)), hH.2.2⟩
          case measure => simp [intOf]; omega
        · have dxy : (x != y) = true := by simpa using hxy
          have e : decide (zs = ys) = false := by
            simp only [decide_eq_false_iff_not]
            intro h
            rw [h, HY.out] at HX
            exact hxy HX.out.symm
          rw [e] at HQ
          obtain rfl := HQ.out
          clear hxy e HQ
          go_wp2
          go_region_held3 (fun wr => wr.cell? ⟨b, o + j, none⟩ = some (.int .i64 x) ∧ wr.cell? ⟨b', o' + j, none⟩ = some (.int .i64 y) ∧ Below w.heap.size w wr) (first | exact TC_drew S0 | assumption) (first | fail)
          rename_i hH
          go_wp2
          go_ret
          exact ⟨rfl, hH.2.2⟩
      · obtain rfl : j = zs.length := by omega
        have e : decide (zs = ys) = true := by
          simp only [decide_eq_true_eq]
          apply List.ext_getElem hlen
          intro i h1 h2
          have := HE.out i h1
          rw [List.getD_eq_getElem?_getD, List.getD_eq_getElem?_getD, List.getElem?_eq_getElem h1, List.getElem?_eq_getElem h2] at this
          exact this
        rw [e] at HQ
        obtain rfl := HQ.out
        clear e HQ hlen
        go_wp2
        go_ret
        exact ⟨rfl, hB⟩
  · have hd : ((zs.length : Int) != (ys.length : Int)) = true := by simp; omega
    have e : decide (zs = ys) = false := by
      simp only [decide_eq_false_iff_not]
      intro h; rw [h] at hne; exact hne rfl
    rw [e] at HQ
    obtain rfl := HQ.out
    clear hne e HQ
    go_enter Try.func19, Try.ntmps19
    go_wp2
    go_ret
    exact ⟨rfl, Below.refl _ _⟩
theorem SameInts (u v : Value) (zs ys : List Int) (q : Bool) (hq : decide (zs = ys) = q) (w : World) (hl : zs.length ≤ 17592186044416) (hl' : ys.length ≤ 17592186044416) (hu : IS w u zs) (hv : IS w v ys) :
    Calls Try.prog 19 #[u, v] w fun e w' => e = .returned (.bool q) ∧ Below w.heap.size w w' := by
  obtain ⟨A, b, o, c, rfl, hc, hn, hf⟩ := hu.form
  obtain ⟨A', b', o', c', rfl, hc', hn', hf'⟩ := hv.form
  exact SameInts_s A b o c A' b' o' c' zs ys w hl hl' q hq hf hf'
theorem Sizes_c (sv : Value) (zs : List Int) (o : Int) (w : World) (hl : zs.length ≤ 4294967296) (hz : ∀ x ∈ zs, In64 x) (hoi : In64 o) (h : IS w sv zs) (a b e : Int) (ha : Cs.sizesA zs o = a) (hb : Cs.sizesH zs o = b) (he : Cs.sizesE zs o = e) :
    Calls Try.prog 25 #[sv, .int .i64 o] w fun x w' => x = .returned (.tuple #[.int .i64 a, .int .i64 b, .int .i64 e]) ∧ Below w.heap.size w w' := by
  rw [← ha, ← hb, ← he]; exact census_Sizes sv zs o w hl hz hoi h
/-- A literal slice. -/
theorem IS_lit {w : World} (e : TypeId) (zs : List Int) : IS (w.alloc (.cells (zs.map (Value.int .i64)).toArray e)) (.slice (some ⟨w.heap.size, 0, none⟩) zs.length zs.length) zs := by
  refine ⟨_, _, rfl, Nat.le_refl _, fun h => by simp at h, fun h0 => ⟨_, rfl, fun j hj => ?_⟩⟩
  rw [addr_add]
  simp [go_sem, hj]
theorem fixed_a (w : World) : Calls Try.prog 25 #[.slice (some ⟨w.heap.size, 0, none⟩) 4 4, .int .i64 3] (w.alloc (.cells #[.int .i64 1, .int .i64 2, .int .i64 4, .int .i64 100] 3)) fun x w' => x = .returned (.tuple #[.int .i64 4, .int .i64 4, .int .i64 0]) ∧ Below (w.heap.size + 1) (w.alloc (.cells #[.int .i64 1, .int .i64 2, .int .i64 4, .int .i64 100] 3)) w' := by
  have h : IS (w.alloc (.cells #[.int .i64 1, .int .i64 2, .int .i64 4, .int .i64 100] 3)) (.slice (some ⟨w.heap.size, 0, none⟩) 4 4) [1, 2, 4, 100] := IS_lit (w := w) 3 [1, 2, 4, 100]
  have := Sizes_c _ [1, 2, 4, 100] 3 _ (by decide) (by intro x hx; simp at hx; unfold In64; omega) (by unfold In64; omega) h 4 4 0 (by kernel_rfl) (by kernel_rfl) (by kernel_rfl)
  rw [World.size_alloc] at this
  exact this
theorem fixed_b (w : World) : Calls Try.prog 25 #[.slice (some ⟨w.heap.size, 0, none⟩) 1 1, .int .i64 0] (w.alloc (.cells #[.int .i64 5] 3)) fun x w' => x = .returned (.tuple #[.int .i64 0, .int .i64 1, .int .i64 0]) ∧ Below (w.heap.size + 1) (w.alloc (.cells #[.int .i64 5] 3)) w' := by
  have h : IS (w.alloc (.cells #[.int .i64 5] 3)) (.slice (some ⟨w.heap.size, 0, none⟩) 1 1) [5] := IS_lit (w := w) 3 [5]
  have := Sizes_c _ [5] 0 _ (by decide) (by intro x hx; simp at hx; unfold In64; omega) (by unfold In64; omega) h 0 1 0 (by kernel_rfl) (by kernel_rfl) (by kernel_rfl)
  rw [World.size_alloc] at this
  exact this
set_option maxRecDepth 100000 in
theorem law05_fixed (w : World) : Calls Try.prog 16 #[] w fun e w' => e = .returned (.bool true) ∧ Below w.heap.size w w' := by
  have i3 : In64 3 := by unfold In64; omega
  have h3 : Ws.log2 3 = 2 := by kernel_rfl
  have H3 := Lib.hid h3
  clear h3
  go_enter Try.func16, Try.ntmps16
  go_wp2_with (first
    | (go_at_call 25; (with_reducible refine (fixed_a _).mono ?_); rintro e w1 ⟨rfl, hb1⟩; have hB1 : Below w.heap.size w w1 := ((Below.refl _ w).alloc (Nat.le_refl _) _).trans (hb1.mono (by omega)); clear hb1)
    | (go_at_call 25; (with_reducible refine (fixed_b _).mono ?_); rintro e w2 ⟨rfl, hb2⟩; have hB2 : Below w.heap.size w w2 := (hB1.alloc hB1.size _).trans (hb2.mono (by have := hB1.size; omega)); clear hb2)
    | (go_at_call 17; (with_reducible refine (census_Slice_c 3 2 i3 H3.out _).mono ?_); rintro e w3 ⟨rfl, rfl⟩))
  go_ret
  exact ⟨rfl, hB2⟩
end Go.Proofs.Ytfhigeefclchiaa
