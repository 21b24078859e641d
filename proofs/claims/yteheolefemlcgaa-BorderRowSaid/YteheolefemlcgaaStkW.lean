/- BorderStacks: the walk. -/
import Derived.Test.YteheolefemlcgaaStkP
namespace Go.Proofs.Yteheolefemlcgaa
open Go.RowKit Go.Maps
set_option linter.unusedVariables false
set_option linter.unusedSimpArgs false

theorem okV2 (n : Int) : okV ⟨2, n, ⟨#[]⟩⟩ = true := okV_iV n
theorem okV0 : okV ⟨0, 0, ⟨#[]⟩⟩ = true := okV_nil
/-- The table with cells enough. -/
structure BQ (w0 : World) (S : Nat → Prop) (hp a : Nat) (t : Tbl) (hs : HS) (n : Nat) (w : World) : Prop where
  bs : BS w0 S hp a t hs n w
  lim : hs.lim = 400000
  cl : t.p.cells ≤ 10000
section
variable {w0 w w' : World} {S : Nat → Prop} {hp a n : Nat} {t : Tbl} {hs : HS}
theorem BQ.below (H : BQ w0 S hp a t hs n w) (hb : Below w.heap.size w w') : BQ w0 S hp a t hs n w' := ⟨H.bs.below hb, H.lim, H.cl⟩
theorem BQ.mono {m : Nat} (H : BQ w0 S hp a t hs n w) (h : n ≤ m) : BQ w0 S hp a t hs m w := ⟨H.bs.mono h, H.lim, H.cl⟩
theorem BQ.turned {t' : Tbl} (H : BQ w0 S hp a t hs n w) (hp' : t'.p = t.p) (h : BS w0 S hp a t' hs n w') : BQ w0 S hp a t' hs n w' := ⟨h, H.lim, by rw [hp']; exact H.cl⟩
theorem BQ.set (H : BQ w0 S hp a t hs n w) (hn : n ≤ 800000) {L : List V} (hL : ∀ k, (t.get k).k ≠ 0 → k ∈ L) (hl : L.length ≤ 1000) (kn : Int) (vk vn : Int) (vs : ByteArray) (hv : okV ⟨vk, vn, vs⟩ = true) (h64 : In64 kn) :
    Calls Try.prog 23 #[.pointer (some ⟨a, 0, none⟩), .agg #[.int .i64 2, .int .i64 kn, .string ⟨#[]⟩], .agg #[.int .i64 vk, .int .i64 vn, .string vs]] w fun e w' => ∃ t' hs', e = .returned (.int .i64 0) ∧ BQ w0 S hp a t' hs' (n + 2) w' ∧ (∀ k', t'.get k' = if k' = iV kn then ⟨vk, vn, vs⟩ else t.get k') ∧ ∀ q, S q → w'.heap[q]? = w.heap[q]? := by
  have hlive : hs.live = 4 + t.p.cells := by have := H.bs.k.live; rw [this]; exact Int.add_zero _
  obtain ⟨t1, t2, t3⟩ := H.bs.k.a _ rfl
  obtain ⟨f1, f2⟩ := set_fit (hs := hs) t1 H.bs.k.hok H.lim hlive H.cl hL hl (k := iV kn) (v := ⟨vk, vn, vs⟩) (okV_iV kn) hv (by show (2 : Int) ≠ 0; decide) h64
  obtain ⟨-, -, d3, -⟩ := set_held (k := iV kn) (v := ⟨vk, vn, vs⟩) ⟨t1, t2, H.bs.k.hok, H.bs.k.sz⟩ t3 h64
  have hget := (@Tbl.set_is t hs t1 (iV kn) ⟨vk, vn, vs⟩ h64).2.1 f1
  refine (BS.set H.bs hn 2 kn ⟨#[]⟩ vk vn vs h64).mono ?_
  rintro e w' ⟨he, hx, hk⟩
  exact ⟨_, _, by rw [he]; exact congrArg (fun x => Ending.returned (.int .i64 x)) f1, ⟨hx, d3.trans H.lim, f2⟩, hget, hk⟩
end
theorem newT_get (hs : HS) (m n : Int) (hg : (newT hs m n).p.ok) (k : V) : (newT hs m n).get k = nilV := by
  show (newT hs m n).p.get k = nilV
  by_cases hb : (newT hs m n).p.inB k
  · rw [PT.get_in hb]; rfl
  · rw [PT.get_out hb]
    exact PH.get_no hg.hg k (fun i hi => absurd rfl hi)
theorem newT_cells (hs : HS) (N M : Nat) (hN : N < 200) (hM : M < 200) : (newT hs N M).p.cells ≤ 10000 ∧ (newH (HS.new 400000) N M).lim = 400000 := by
  constructor
  · show (((N : Int).toNat : Nat) : Int) + 3 * (((Ws.ceil2 (M : Int)).toNat : Nat) : Int) ≤ 10000
    by_cases e : M = 0
    · subst e
      have : Ws.ceil2 ((0 : Nat) : Int) = 0 := by decide
      rw [this]; simp; omega
    · obtain ⟨k, -, -, h2, -, -, h6, -⟩ := Ws.ceil2_k (M : Int) (by omega) (by omega)
      rw [h2]
      have h3 : ((2 : Int) ^ k) = ((2 ^ k : Nat) : Int) := by simp
      rw [h3] at h6 ⊢
      generalize (2 : Nat) ^ k = q at h6 ⊢
      rw [show ((q : Int)).tdiv 2 = ((q / 2 : Nat) : Int) by rw [Int.tdiv_eq_ediv_of_nonneg (by omega)]; omega] at h6
      omega
  · have he := new_small N M hN hM
    unfold newE at he
    unfold newH
    by_cases hb : ¬ (0 ≤ (N : Int) ∧ (N : Int) ≤ 65536) ∨ ¬ (0 ≤ (M : Int) ∧ (M : Int) ≤ 65536)
    · rw [if_pos hb]; rfl
    · rw [if_neg hb] at he ⊢
      by_cases h4 : (HS.new 400000).roomE 4 ≠ 0
      · rw [if_pos h4]; rfl
      · rw [if_neg h4] at he ⊢
        rw [if_neg (by rw [he]; simp)]
        obtain ⟨-, -, b3, b4, -⟩ := HS.take_bears (HS.ok_new 400000 (by decide) (by decide)) (by simpa using h4 : (HS.new 400000).roomE 4 = 0)
        exact (layH_yes b3 he).2.2.1.trans b4
theorem law09_ref0 (w : World) : Calls Try.prog 49 #[] w fun e w' => e = .returned (.agg #[.int .i64 0, .int .i64 0, .string ⟨#[]⟩]) ∧ Below w.heap.size w w' := by
  go_enter Try.func49, Try.ntmps49
  go_wp2
  exact bodyPost_ret (v := .agg #[.int .i64 0, .int .i64 0, .string ⟨#[]⟩]) (by simp [results, Try.results49, go_sem, cell_set_self, *]) rfl ⟨rfl, (Below.refl _ w).alloc (Nat.le_refl _) _⟩
set_option maxRecDepth 100000 in
set_option maxHeartbeats 1600000 in
theorem walk_BorderStacks {vx vy : Value} {W : World} (x : CY) (bs : List Bool) (f : CSB W vx x) (g : BSL W vy bs) (w : World) : Calls Try.prog 15 #[vx, vy] W fun e w' => e = .returned (.bool true) ∧ Below W.heap.size W w' := by
  obtain ⟨pA, pc, rfl, hpc, hpm, hpo⟩ := g.ex
  have HPO := Lib.hid hpo
  have hpl : (bs.length : Int) ≤ 9223372036854775807 := by omega
  obtain rfl := f.e
  have HBX := Lib.hid (CBY.new W x)
  have HB0 := Lib.hid ((Below.refl W.heap.size W).alloc (Nat.le_refl _) (.cells #[.int .i64 x.arr, .int .i64 x.hsh, .slice x.A x.l.length x.c] 88))
  clear f g hpo hpc hpm
  unfold CY.val
  go_enter Try.func15, Try.ntmps15
  go_wp2_with fail
  (with_reducible refine (law09_fixed _).mono ?_)
  rintro e w1 ⟨rfl, hb⟩
  have HX1 := Lib.hid (HBX.out.below hb)
  have HB1 := Lib.hid (below_step HB0.out hb)
  clear hb
  obtain ⟨p0, p1, p2, -⟩ := HX1.out
  go_wp2_with fail
  (with_reducible refine (law09_begin x.arr x.hsh none 0 0 W _ (fun _ => False) (fun _ h => h.elim) HB1.out).mono ?_)
  rintro e w2 ⟨N, M, hp, a, Q, hNM, rfl, hm, -⟩
  have hok0 := hm.ok
  have HQ0 : Hid (BQ W (fun _ => False) hp a (newT (HS.new 400000) N M) (newH (HS.new 400000) N M) 3 w2) := Lib.hid ⟨hm, (newT_cells (HS.new 400000) N M hNM.1 hNM.2.1).2, (newT_cells (HS.new 400000) N M hNM.1 hNM.2.1).1⟩
  have HK0 : Hid (Stk (newT (HS.new 400000) N M) 0) := Lib.hid ⟨fun i i1 i2 => by omega, fun k hk => by rw [newT_get _ _ _ hok0] at hk; exact absurd rfl hk⟩
  clear hm hNM hok0 p0 p1 p2
  generalize newT (HS.new 400000) N M = t0 at HQ0 HK0
  generalize newH (HS.new 400000) N M = hs0 at HQ0
  go_wp2_with fail
  go_loopw [8, 9] (fun nv i wr => ∃ (j m : Nat) (t : Tbl) (hs : HS), j ≤ bs.length ∧ j ≤ 300 ∧ nv = .int .i64 m ∧ i = .int .i64 j ∧ m ≤ j ∧ Hid (BQ W (fun _ => False) hp a t hs (3 + 2 * j) wr) ∧ Hid (Stk t m)) (fun _ i _ => bs.length - (intOf i).toNat)
  case atStart => exact ⟨0, 0, t0, hs0, Nat.zero_le _, Nat.zero_le _, rfl, rfl, Nat.le_refl _, HQ0, HK0⟩
  case round =>
    clear HQ0 HK0 HX1 HBX HB0 HB1
    obtain ⟨j, m, t, hs, hj, hj3, rfl, rfl, hmj, HQ0, HK0⟩ := hrel
    by_cases h1 : j < bs.length
    · have d1 : decide ((j : Int) < (bs.length : Int)) = true := by simp; omega
      have j1 : (j : Int) < (bs.length : Int) := by omega
      by_cases h2 : j < 300
      · have d2 : decide ((j : Int) < 300) = true := by simp; omega
        have j3 : (j : Int) < 300 := by omega
        have m3 : (m : Int) < 300 := by omega
        have HJ : Hid (j < 300 ∧ m ≤ j) := Lib.hid ⟨h2, hmj⟩
        obtain ⟨bx, ox, eA, hbx, hcx⟩ := HPO.out (by omega)
        subst eA
        have c0 := (HQ0.out.bs.bel.cell (p := ⟨bx, ox + j, none⟩) hbx).trans (hcx j h1)
        generalize bs.getD j false = pu at c0
        clear hcx
        have HL0 := Lib.hid (HK0.out.border (by have := HJ.out; omega) (len_is HQ0.out.bs.ok HQ0.out.bs.h0 HQ0.out.bs.h1))
        cases pu with
        | true =>
          have m4 : wrap64 ((m : Int) + 1) = (m : Int) + 1 := wrap64_id (by unfold In64; omega)
          go_wp2_with fail
          (with_reducible refine (BS.len HQ0.out.bs).mono ?_)
          rintro e w1 ⟨t1, ⟨rfl, -⟩, hpe, hx, -⟩
          have HQ1 := Lib.hid (HQ0.out.turned hpe hx)
          have HK1 := Lib.hid (HK0.out.same hpe)
          rw [HL0.out]
          clear hpe hx
          go_wp2_with fail
          (with_reducible refine (ref3_I _ _).mono ?_)
          rintro e w2 ⟨rfl, hb⟩
          have HQ2 := Lib.hid (HQ1.out.below hb)
          clear hb
          go_wp2_with fail
          (with_reducible refine (ref3_I _ _).mono ?_)
          rintro e w3 ⟨rfl, hb⟩
          have HQ3 := Lib.hid (HQ2.out.below hb)
          clear hb
          go_wp2_with fail
          (with_reducible refine (BQ.set HQ3.out (by have := HJ.out; omega) HK1.out.list (by rw [List.length_map, List.length_range]; have := HJ.out; omega) ((m : Int) + 1) 2 (j : Int) ⟨#[]⟩ (okV2 _) (by unfold In64; omega)).mono ?_)
          rintro e w4 ⟨t4, hs4, rfl, hx, hget, -⟩
          have HQ4 := Lib.hid hx
          have HK4 : Hid (Stk t4 (m + 1)) := Lib.hid (HK1.out.push (v := ⟨2, (j : Int), ⟨#[]⟩⟩) (by show (2 : Int) ≠ 0; decide) (fun k => by rw [hget]; rfl))
          have HG4 : Hid (t4.get ⟨2, (m : Int) + 1, ⟨#[]⟩⟩ = ⟨2, (j : Int), ⟨#[]⟩⟩) := Lib.hid ((hget _).trans (if_pos rfl))
          clear hx hget
          go_wp2_with fail
          (with_reducible refine (ref3_I _ _).mono ?_)
          rintro e w5 ⟨rfl, hb⟩
          have HQ5 := Lib.hid (HQ4.out.below hb)
          clear hb
          go_wp2_with fail
          (with_reducible refine (BS.get HQ5.out.bs 2 ((m : Int) + 1) ⟨#[]⟩ ⟨2, (j : Int), ⟨#[]⟩⟩ HG4.out).mono ?_)
          rintro e w6 ⟨t6, ⟨rfl, -⟩, hpe, hx, -⟩
          have HQ6 := Lib.hid (HQ5.out.turned hpe hx)
          have HK6 := Lib.hid (HK4.out.same hpe)
          clear hpe hx
          go_wp2_with fail
          (with_reducible refine (ref3_I _ _).mono ?_)
          rintro e w7 ⟨rfl, hb⟩
          have HQ7 := Lib.hid (HQ6.out.below hb)
          clear hb
          have HK7 := HK6
          have HL7 := Lib.hid (HK7.out.border (by have := HJ.out; omega) (len_is HQ7.out.bs.ok HQ7.out.bs.h0 HQ7.out.bs.h1))
          go_wp2_with fail
          (with_reducible refine (BS.len HQ7.out.bs).mono ?_)
          rintro e w8 ⟨t8, ⟨rfl, -⟩, hpe, hx, -⟩
          have HQ8 := Lib.hid (HQ7.out.turned hpe hx)
          have HK8 := Lib.hid (HK7.out.same hpe)
          rw [HL7.out]
          clear hpe hx
          go_wp2_with fail
          go_roundw
          case rel => exact ⟨j + 1, m + 1, t8, hs4, by omega, by omega, by go_num, by go_num, by omega, Lib.hid (HQ8.out.mono (by omega)), HK8⟩
          case measure => simp [intOf]; omega
        | false =>
          by_cases hm0 : m = 0
          · subst hm0
            go_wp2_with fail
            (with_reducible refine (BS.len HQ0.out.bs).mono ?_)
            rintro e w8 ⟨t8, ⟨rfl, -⟩, hpe, hx, -⟩
            have HQ8 := Lib.hid (HQ0.out.turned hpe hx)
            have HK8 := Lib.hid (HK0.out.same hpe)
            rw [HL0.out]
            clear hpe hx
            go_wp2_with fail
            go_roundw
            case rel => exact ⟨j + 1, 0, t8, hs, by omega, by omega, by go_num, by go_num, by omega, Lib.hid (HQ8.out.mono (by omega)), HK8⟩
            case measure => simp [intOf]; omega
          · obtain ⟨m', rfl⟩ : ∃ m', m = m' + 1 := ⟨m - 1, by omega⟩
            have d4 : decide (0 < ((m' + 1 : Nat) : Int)) = true := decide_eq_true (by omega)
            go_wp2_with fail
            (with_reducible refine (BS.len HQ0.out.bs).mono ?_)
            rintro e w1 ⟨t1, ⟨rfl, -⟩, hpe, hx, -⟩
            have HQ1 := Lib.hid (HQ0.out.turned hpe hx)
            have HK1 := Lib.hid (HK0.out.same hpe)
            rw [HL0.out]
            clear hpe hx
            go_wp2_with fail
            (with_reducible refine (ref3_I _ _).mono ?_)
            rintro e w2 ⟨rfl, hb⟩
            have HQ2 := Lib.hid (HQ1.out.below hb)
            clear hb
            go_wp2_with fail
            (with_reducible refine (law09_ref0 _).mono ?_)
            rintro e w3 ⟨rfl, hb⟩
            have HQ3 := Lib.hid (HQ2.out.below hb)
            clear hb
            go_wp2_with fail
            (with_reducible refine (BQ.set HQ3.out (by have := HJ.out; omega) HK1.out.list (by rw [List.length_map, List.length_range]; have := HJ.out; omega) ((m' : Int) + 1) 0 0 ⟨#[]⟩ okV0 (by unfold In64; omega)).mono ?_)
            rintro e w4 ⟨t4, hs4, rfl, hx, hget, -⟩
            have HQ7 := Lib.hid hx
            have HK7 : Hid (Stk t4 m') := Lib.hid (HK1.out.pop (fun k => by rw [hget]; rfl))
            clear hx hget
            have HL7 := Lib.hid (HK7.out.border (by have := HJ.out; omega) (len_is HQ7.out.bs.ok HQ7.out.bs.h0 HQ7.out.bs.h1))
            have m5 : wrap64 ((m' : Int) + 1 - 1) = (m' : Int) := by rw [wrap64_id (by unfold In64; omega)]; omega
            go_wp2_with fail
            (with_reducible refine (BS.len HQ7.out.bs).mono ?_)
            rintro e w8 ⟨t8, ⟨rfl, -⟩, hpe, hx, -⟩
            have HQ8 := Lib.hid (HQ7.out.turned hpe hx)
            have HK8 := Lib.hid (HK7.out.same hpe)
            rw [HL7.out]
            clear hpe hx
            go_wp2_with fail
            go_roundw
            case rel => exact ⟨j + 1, m', t8, hs4, by omega, by omega, by go_num, by go_num, by omega, Lib.hid (HQ8.out.mono (by omega)), HK8⟩
            case measure => simp [intOf]; omega
      · have d2 : decide ((j : Int) < 300) = false := by simp; omega
        have d9 : decide ((m : Int) < 9223372036854775807) = true := decide_eq_true (by omega)
        go_wp2
        go_ret
        exact ⟨by simp [d9], HQ0.out.bs.bel⟩
    · have d1 : decide ((j : Int) < (bs.length : Int)) = false := by simp; omega
      have d9 : decide ((m : Int) < 9223372036854775807) = true := decide_eq_true (by omega)
      go_wp2
      go_ret
      exact ⟨by simp [d9], HQ0.out.bs.bel⟩
theorem rowBorderStacks {vx vy : Value} {W : World} (x : CY) (bs : List Bool) (f : CSB W vx x) (g : BSL W vy bs) (w : World) : Calls Try.prog 15 #[vx, vy] W fun e w' => e = .returned (.bool true) ∧ Below W.heap.size W w' :=
  walk_BorderStacks x bs f g w
end Go.Proofs.Yteheolefemlcgaa
