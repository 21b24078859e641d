/- The reference's question whether a number stands twice, walked. -/
import Derived.Test.YtfhigeefclchiaaTwice
namespace Go.Proofs.Ytfhigeefclchiaa
open Go.RowKit
set_option linter.unusedVariables false
set_option linter.unusedSimpArgs false

theorem Try.infoInts : (Try.prog.info? 22).map (fun i => (i.zero, i.size, i.bytes)) = some (some (.slice none 0 0), 1, 24) := by kernel_rfl
theorem TB.made {w w1 : World} (hown : w1.ownsRow w.heap.size 22 1 (.slice (some ⟨w.heap.size, 0, none⟩) 256 256) 256 (madeCells (Value.slice none 0 0).cells (256 * 1)).toList) (hg : w.grownBy w1 none) : TB w (fun _ => []) (fun _ => .slice none 0 0) w1 := by
  have e : (madeCells (Value.slice none 0 0).cells (256 * 1)).toList = List.replicate 256 (Value.slice none 0 0) := by kernel_rfl
  rw [e] at hown
  refine ⟨Below.grown (Below.refl _ _) hg (Nat.le_refl _) (fun q hq => by simp at hq), ((hown.lt w.heap.size rfl).2), fun i hi => ?_, fun i => hown.frozenAt i, fun i hi => World.ownsRow_nil _ _ _ _, fun i j _ _ _ => .inl rfl⟩
  rw [hown.cellAt i (by omega), List.getElem?_replicate, if_pos hi]
/-- The value of a row, written out. -/
theorem TB.form {w0 W : World} {rs : Nat → List Int} {vs : Nat → Value} (h : TB w0 rs vs W) (i : Nat) (hi : i < 256) : ∃ A g c, vs i = .slice A (rs i).length c ∧ (0 < (rs i).length → A = some ⟨g, 0, none⟩ ∧ w0.heap.size < g ∧ g < W.heap.size ∧ ∀ k, k < (rs i).length → W.cell? ⟨g, k, none⟩ = some (.int .i64 ((rs i).getD k 0))) := by
  have hr := h.row i hi
  rcases hr.2 with ⟨e, h0⟩ | ⟨g, cap, cur, e, hb, hg, hn, hc, hs, ht⟩
  · exact ⟨none, 0, 0, by rw [e, h0], fun h => by omega⟩
  · refine ⟨some ⟨g, 0, none⟩, g, cap, e, fun h0 => ⟨rfl, hb, (Array.getElem?_eq_some_iff.1 hg).1, fun k hk => ?_⟩⟩
    rw [e] at hr
    rw [hr.cellAt k (by omega)]
    simp [hk]
set_option maxRecDepth 100000 in
set_option maxHeartbeats 3200000 in
theorem ref_twice_s (A : Option Addr) (b o c : Nat) (zs : List Int) (w : World) (hl : zs.length ≤ 17592186044416) (q : Bool) (hq : Cs.dup zs = q)
    (hA : 0 < zs.length → A = some ⟨b, o, none⟩ ∧ b < w.heap.size ∧ ∀ j, j < zs.length → w.cell? ⟨b, o + j, none⟩ = some (.int .i64 (zs.getD j 0))) :
    Calls Try.prog 55 #[.slice A zs.length c] w fun e w' => e = .returned (.bool q) ∧ Below w.heap.size w w' := by
  obtain ⟨i0, hi, hz0, hz1, hz2⟩ := info_parts Try.infoInts
  have HA := Lib.hid hA
  have HQ := Lib.hid hq
  have hl63 : (zs.length : Int) ≤ 9223372036854775807 := by omega
  clear hA hq
  go_enter Try.func55, Try.ntmps55
  go_wp2_with (first | (refine wpList_make_full _ rfl _ _ 87 rfl w.heap.size 22 i0 (.slice none 0 0) 1 Try.underlying87 hi hz0 hz1 .i64 .i64 256 256 256 rfl rfl rfl rfl (by omega) (by unfold maxLen; omega) (Nat.le_refl _) ?_; intro w1 hown1 hg1))
  have hT1 := TB.made hown1 hg1
  clear hown1 hg1
  go_loopw [4, 5, 6] (fun i _ _ wr => ∃ (j : Nat) (rs : Nat → List Int) (vs : Nat → Value), j ≤ zs.length ∧ i = .int .i64 j ∧ Hid (rs = Cs.row (zs.take j)) ∧ Hid ((zs.take j).Nodup) ∧ TB w rs vs wr) (fun i _ _ _ => zs.length - (intOf i).toNat)
  case atStart => exact ⟨0, _, _, Nat.zero_le _, rfl, Lib.hid (by funext i; simp [Cs.row]), Lib.hid (by simp), hT1⟩
  case round =>
    clear hT1
    obtain ⟨j, rs, vs, hj, rfl, HR, HD, hT⟩ := hrel
    by_cases hjl : j < zs.length
    · obtain ⟨rfl, hbl, hcell⟩ := HA.out (by omega)
      have cx := (hT.below.cell (p := ⟨b, o + j, none⟩) hbl).trans (hcell j hjl)
      obtain ⟨x, hx⟩ : ∃ x, zs.getD j 0 = x := ⟨_, rfl⟩
      rw [hx] at cx
      have HCW : Hid (w.cell? ⟨b, o + j, none⟩ = some (.int .i64 x)) := Lib.hid (by rw [← hx]; exact hcell j hjl)
      clear hcell
      have HX := Lib.hid hx
      clear hx
      obtain ⟨hN, hm, hw1, hw2⟩ := Cs.bkt_spec x
      generalize hNb : Cs.bkt x = N at hN hm hw1 hw2
      have HN := Lib.hid hNb
      clear hNb
      obtain ⟨Ar, g, cr, hv, hrow⟩ := hT.form N (by omega)
      have HROW := Lib.hid hrow
      have hle : (rs N).length ≤ j := by rw [HR.out]; exact Nat.le_trans (Cs.row_le _ _) (by rw [List.length_take]; omega)
      obtain ⟨n, hn⟩ : ∃ n, (rs N).length = n := ⟨_, rfl⟩
      rw [hn] at hv hle
      have HNN := Lib.hid hn
      clear hrow hn
      have cb := hT.cell N (by omega)
      rw [hv] at cb
      have dj : decide ((j : Int) < (zs.length : Int)) = true := by simp; omega
      have N256 : (N : Int) < 256 := by omega
      have hlt := hT.lt
      have HV := Lib.hid hv
      clear hv
      go_wp2
      go_loopw [6] (fun i wr => ∃ k : Nat, k ≤ n ∧ i = .int .i64 k ∧ Hid (∀ t, t < k → (rs N).getD t 0 ≠ x) ∧ TB w rs vs wr) (fun i _ => n - (intOf i).toNat)
      case atStart => exact ⟨0, Nat.zero_le _, rfl, Lib.hid (fun t ht => by omega), hT⟩
      case round =>
        clear cb hlt
        obtain ⟨k, hk, rfl, HK, hT2⟩ := hrel
        have cb := hT2.cell N (by omega)
        rw [HV.out] at cb
        have cx2 := (hT2.below.cell (p := ⟨b, o + j, none⟩) hbl).trans HCW.out
        have hlt := hT2.lt
        clear hT
        by_cases hkn : k < n
        · obtain ⟨A', g', c', hv', hrow'⟩ := hT2.form N (by omega)
          rw [HV.out] at hv'
          obtain ⟨rfl, -, -⟩ : Ar = A' ∧ n = (rs N).length ∧ cr = c' := by simpa using hv'
          obtain ⟨rfl, hg1, hg2, hrc⟩ := hrow' (by rw [HNN.out]; omega)
          have cy := hrc k (by rw [HNN.out]; omega)
          clear hv' hrow' hrc
          obtain ⟨y, hy⟩ : ∃ y, (rs N).getD k 0 = y := ⟨_, rfl⟩
          rw [hy] at cy
          have HY := Lib.hid hy
          clear hy
          have dk : decide ((k : Int) < (n : Int)) = true := by simp; omega
          have kn : (k : Int) < (n : Int) := by omega
          have jz : (j : Int) < (zs.length : Int) := by omega
          by_cases hxy : y = x
          · have dxy : (y == x) = true := by simpa using hxy
            have hd : Cs.dup zs = true := Cs.dup_of hjl (by
              rw [HX.out, ← hxy, ← HY.out]
              have h1 : (rs N).getD k 0 ∈ rs N := getD_mem _ (by rw [HNN.out]; omega)
              have h2 : ∀ z ∈ rs N, z ∈ zs.take j := by rw [HR.out]; intro z hz; exact (List.mem_filter.1 hz).1
              exact h2 _ h1)
            rw [hd] at HQ
            obtain rfl := HQ.out
            clear hxy hd HQ
            go_wp2
            go_quiet (fail)
            go_wp2
            go_ret
            exact ⟨rfl, (hT2.drewN _).below⟩
          · have dxy : (y == x) = false := by simpa using hxy
            have hxy' := Lib.hid hxy
            clear hxy
            go_wp2
            go_quiet (fail)
            go_wp2
            go_roundw
            case rel => exact ⟨k + 1, by omega, by go_num, Lib.hid (fun t ht => by
              by_cases e : t = k
              · subst e; rw [HY.out]; exact hxy'.out
              · exact HK.out t (by omega)), hT2.drewN _⟩
            case measure => simp [intOf]; omega
        · obtain rfl : k = n := by omega
          have dk : decide ((k : Int) < (k : Int)) = false := by simp
          have jz : (j : Int) < (zs.length : Int) := by omega
          have kk : ¬ ((k : Int) < (k : Int)) := by omega
          have hNr : N < 256 := by omega
          have hb8 : ((rs N).length + 1) * 8 ≤ 140737488355328 := by rw [HNN.out]; omega
          have nd : (zs.take (j + 1)).Nodup := Cs.nodup_step hjl HD.out (by
            rw [HX.out, Cs.row_mem, HN.out, ← HR.out]
            intro hm2
            obtain ⟨t, ht, he⟩ := List.getElem_of_mem hm2
            refine HK.out t (by rw [← HNN.out]; exact ht) ?_
            rw [List.getD_eq_getElem?_getD, List.getElem?_eq_getElem ht]; exact he)
          have rr : upd rs N (rs N ++ [x]) = Cs.row (zs.take (j + 1)) := by
            funext i
            rw [take_succ_getD zs j hjl, HX.out, Cs.row_append, HN.out, ← HR.out]
            unfold upd
            by_cases e : i = N
            · subst e; simp
            · rw [if_neg e, if_neg e]
          have ND := Lib.hid nd; have RR := Lib.hid rr
          clear nd rr
          go_wp2
          go_region_law (refine step_twice rfl (.tmp 47) (.tmp 52) rfl ((hT2.alloc _).drew) N hNr x _ HV.out (by simp [Act.eval, Act.put]) ⟨wr.heap.size, 0, none⟩ 1 1 (by simp [Act.eval, Act.put]) rfl (by simp [Addr.add, go_sem]) hb8 ?_; intro g1 n1 c1 w1 cb1 cf1 hT3)
          all_goals go_wp2
          all_goals go_roundw
          all_goals first | exact ⟨j + 1, _, _, by omega, by go_num, RR, ND, hT3⟩ | (simp [intOf]; omega)
    · obtain rfl : j = zs.length := by omega
      have e : Cs.dup zs = false := Cs.dup_no (by have := HD.out; rwa [List.take_length] at this)
      rw [e] at HQ
      obtain rfl := HQ.out
      clear e HQ
      go_wp2
      go_ret
      exact ⟨rfl, hT.below⟩
theorem ref_twice (sv : Value) (zs : List Int) (w : World) (hl : zs.length ≤ 17592186044416) (q : Bool) (hq : Cs.dup zs = q) (h : IS w sv zs) :
    Calls Try.prog 55 #[sv] w fun e w' => e = .returned (.bool q) ∧ Below w.heap.size w w' := by
  obtain ⟨A, b, o, c, rfl, hc, hn, hf⟩ := h.form
  exact ref_twice_s A b o c zs w hl q hq hf
end Go.Proofs.Ytfhigeefclchiaa
