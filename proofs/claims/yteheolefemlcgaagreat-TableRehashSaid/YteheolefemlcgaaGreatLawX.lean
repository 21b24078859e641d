/- The walk's laws: begin. -/
import Derived.Test.YteheolefemlcgaaGreatBordF
import Derived.Test.YteheolefemlcgaaGreatOpenX
import Derived.Test.YteheolefemlcgaaGreatBeg2
namespace Go.Proofs.YteheolefemlcgaaGreat
open Go.RowKit Go.Maps
set_option linter.unusedVariables false
set_option linter.unusedSimpArgs false

theorem new_small (N M : Nat) (hN : N < 200) (hM : M < 200) : newE (HS.new 400000) N M = 0 := by
  have h4 : (HS.new 400000).roomE 4 = 0 := by decide
  obtain ⟨-, b2, b3, b4, -⟩ := HS.take_bears (HS.ok_new 400000 (by decide) (by decide)) h4
  have hl : (HS.new 400000).live = 0 := rfl
  have hm : (HS.new 400000).lim = 400000 := rfl
  rw [hl] at b2; rw [hm] at b4
  obtain ⟨c, hc, hc6, -, -, -⟩ := ceil_is M (by omega)
  have hr1 : ((HS.new 400000).take 4).roomE N = 0 := by unfold HS.roomE; rw [if_neg (by omega), if_neg (by rw [b2, b4]; omega)]
  obtain ⟨-, d2, d3, d4, -⟩ := HS.take_bears b3 hr1
  unfold newE
  rw [if_neg (by omega), if_neg (by rw [h4]; simp), hc]
  unfold layE
  rw [if_neg (by rw [hr1]; simp)]
  unfold HS.roomE
  rw [if_neg (by omega), if_neg (by rw [d2, d4, b2, b4]; omega)]
set_option maxRecDepth 100000 in
set_option maxHeartbeats 1600000 in
theorem law10_begin (arr hsh : Int) (A : Option Addr) (n c : Nat) (w0 w : World) (S : Nat → Prop) (hS : ∀ q, S q → q < w.heap.size) (hB : Below w0.heap.size w0 w) : Calls Tryz.prog 23 #[.agg #[.int .i64 arr, .int .i64 hsh, .slice A n c]] w fun e w' => ∃ (N M hp a : Nat) (Q : Option Addr), (N < 200 ∧ M < 200 ∧ (IntKind.u64.wrap arr).tmod 200 = N ∧ (IntKind.u64.wrap hsh).tmod 200 = M) ∧ e = .returned (.tuple #[.pointer (some ⟨a, 0, none⟩), .pointer Q, .bool true]) ∧ BS w0 S hp a (newT (HS.new 400000) N M) (newH (HS.new 400000) N M) 3 w' ∧ ∀ q, S q → w'.heap[q]? = w.heap[q]? := by
  obtain ⟨N, hN, n1, n2, n3⟩ := umod arr 200 (by decide) (by decide)
  obtain ⟨M, hM, m1, m2, m3⟩ := umod hsh 200 (by decide) (by decide)
  have hNM : N < 200 ∧ M < 200 ∧ (IntKind.u64.wrap arr).tmod 200 = N ∧ (IntKind.u64.wrap hsh).tmod 200 = M := ⟨by omega, by omega, n1, m1⟩
  have HNM := Lib.hid hNM
  have HE := Lib.hid (new_small N M hNM.1 hNM.2.1)
  have HSS := Lib.hid hS; have HB0 := Lib.hid hB
  have hf0 : ∀ (a b : Int) (W : World), (Instr.field 63 (.agg #[.int .i64 a, .int .i64 b, .slice A n c]) 0).run Tryz.prog W = .ok (.int .i64 a) W := fun a b W => by rfl
  have hf1 : ∀ (a b : Int) (W : World), (Instr.field 63 (.agg #[.int .i64 a, .int .i64 b, .slice A n c]) 1).run Tryz.prog W = .ok (.int .i64 b) W := fun a b W => by rfl
  clear hS hB hN hM hNM
  go_enter Tryz.func23, Tryz.ntmps23
  go_wp2_with fail
  go_quiet (fail)
  go_wp2_with fail
  rw [n2, m2]
  have HBQ := Lib.hid (below_drewN ((Below.refl w.heap.size w).alloc (Nat.le_refl _) (.cells #[.int .i64 arr, .int .i64 hsh, .slice A n c] 63)) nq)
  generalize (w.alloc (.cells #[.int .i64 arr, .int .i64 hsh, .slice A n c] 63)).drewN nq = w1 at HBQ ⊢
  (with_reducible refine (New_h w0 400000 (by decide) (by decide) _ S (fun q hq => Nat.lt_of_lt_of_le (HSS.out q hq) HBQ.out.size) (below_step HB0.out HBQ.out)).mono ?_)
  rintro e w2 ⟨hp, rfl, hT, hb⟩
  have HT2 := Lib.hid hT
  have HB2 := Lib.hid (below_step HBQ.out hb)
  clear hT hb
  go_wp2_with fail
  (with_reducible refine (New_t HT2.out (by simp [HS.new]) N M 0 HE.out).mono ?_)
  rintro e w3 ⟨A', rfl, hA, hT, hk⟩
  obtain ⟨a, rfl⟩ : ∃ a, A' = some (a, newT (HS.new 400000) N M) := by
    rcases hA with ⟨-, h⟩ | ⟨a, h, -⟩
    · exact absurd HE.out h
    · exact ⟨a, h⟩
  rw [show OT.ptr (some (a, newT (HS.new 400000) N M)) = .pointer (some ⟨a, 0, none⟩) from rfl]
  have HAC := Lib.hid ((Acc.new 400000 (by decide) (by decide)).made (by decide) _ _ hA)
  have HT3 := Lib.hid hT
  have HK3 := Lib.hid hk
  clear hA hT hk
  have HR := Lib.hid (ref_fresh w3 400000)
  have HB4 := Lib.hid ((Below.refl w3.heap.size w3).alloc (Nat.le_refl _) (.cells #[.int .i64 400000, .int .i64 0, .int .i64 0, .slice none 0 0] 101))
  have HT4 : Hid (TT w0 (fun q => S q ∨ q = w3.heap.size) hp (some (a, newT (HS.new 400000) N M)) none (newH (HS.new 400000) N M) (w3.alloc (.cells #[.int .i64 400000, .int .i64 0, .int .i64 0, .slice none 0 0] 101))) := Lib.hid (HT3.out.reserve HB4.out (fun q hq => by
    rcases hq with h | h
    · exact ⟨Nat.lt_of_lt_of_le (HT3.out.res q h) HB4.out.size, .inl h⟩
    · rw [World.size_alloc]; omega))
  have HX3 : Hid (w0.heap.size ≤ w3.heap.size) := Lib.hid HT3.out.bel.size
  go_wp2_with fail
  (with_reducible refine (ref8_New (fun k => k = w3.heap.size) w3.heap.size (HS.new 400000) (RS.new 400000) 0 (SR.new 400000 (by decide) (by decide)) (by decide) (HS.ok_new 400000 (by decide) (by decide)) (by simp [HS.new]) N M 0 HE.out _ HR.out).mono ?_)
  rintro e w5 ⟨Q, r', rfl, hQ, hs5, G', hr5, hk5, -⟩
  have HT5 := Lib.hid (HT4.out.kpS hk5 (fun q hq => ⟨.inr hq, by rw [hq]; exact HX3.out⟩))
  have HK5 : Hid (∀ q, S q → w5.heap[q]? = w.heap[q]?) := Lib.hid (fun q hq => by
    have hlt : q < w3.heap.size := HT3.out.res q hq
    have e1 := hk5.block q (by rw [World.size_alloc]; omega) (by show ¬ q = w3.heap.size; omega)
    exact e1.trans ((HB4.out.block q hlt).trans ((HK3.out q hq).trans (HB2.out.block q (HSS.out q hq)))))
  clear hQ hs5 hr5 hk5
  go_wp2
  exact bodyPost_ret (v := .tuple #[.pointer (some ⟨a, 0, none⟩), .pointer Q, .bool true]) (by simp [results, Tryz.results23, go_sem]) rfl ⟨N, M, hp, a, Q, HNM.out, rfl, ⟨HT5.out.weaken (fun q hq => .inl hq), HAC.out, Int.le_refl _, by show (0 : Int) ≤ _; omega⟩, HK5.out⟩
theorem BS.stats {w0 w : World} {S : Nat → Prop} {hp a n : Nat} {t : Tbl} {hs : HS} (H : BS w0 S hp a t hs n w) (q1 q2 q3 q4 : Int) (e1 : (t.p.sn : Int) = q1) (e2 : (t.p.h.n : Int) = q2) (e3 : (t.p.h.free : Int) = q3) (e4 : t.hint = q4) : Calls Tryz.prog 20 #[.pointer (some ⟨a, 0, none⟩)] w fun e w' => e = .returned (.agg #[.int .i64 q1, .int .i64 q2, .int .i64 q3, .int .i64 q4]) ∧ Below w.heap.size w w' := by
  obtain ⟨⟨F, D, E, h1, ⟨s, b, g, hT, hD⟩, -⟩, -, -⟩ := H.tt
  exact tab_Stats a s b g hp t q1 q2 q3 q4 e1 e2 e3 e4 w hT
end Go.Proofs.YteheolefemlcgaaGreat
