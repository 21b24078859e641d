/- begin: the program's table and the document's. -/
import Derived.Test.YteheolefemlcgaaGreatRefN
import Derived.Test.YteheolefemlcgaaGreatTabM
import Derived.BigQuiet
namespace Go.Proofs.YteheolefemlcgaaGreat
open Go.RowKit Go.Maps
set_option linter.unusedVariables false
set_option linter.unusedSimpArgs false

theorem Laid_t {w0 w : World} {S : Nat → Prop} {hp : Nat} {A B : OT} {hs : HS} (x : Int) (hx : hs.laid = x) (H : TT w0 S hp A B hs w) : Calls Tryz.prog 50 #[.pointer (some ⟨hp, 0, none⟩)] w fun e w' => e = .returned (.int .i64 x) ∧ w = w' := by
  obtain ⟨⟨F, D, E, h1, -⟩, -, -⟩ := H; exact Laid_c F hp hs x hx w h1
theorem ref_fresh (w : World) (lim : Int) : RefAt (fun k => k = w.heap.size) (w.alloc (.cells #[.int .i64 lim, .int .i64 0, .int .i64 0, .slice none 0 0] 101)) w.heap.size (RS.new lim) := by
  refine ⟨.slice none 0 0, ⟨?_, ?_, ?_, ?_, fun i => ?_, ?_, ?_⟩, ?_⟩
  · simp [go_sem, RS.new]
  · simp [go_sem, RS.new]
  · simp [go_sem, RS.new]
  · simp [go_sem, RS.new]
  · simp [go_sem]
  · exact World.ownsRow_nil _ _ _ _
  · simp [Value.ownBlock]
  · funext k; simp [Value.ownBlock]
/-- Fewer blocks are reserved. -/
theorem TT.weaken {w0 w : World} {S S' : Nat → Prop} {hp : Nat} {A B : OT} {hs : HS} (H : TT w0 S' hp A B hs w) (h : ∀ q, S q → S' q) : TT w0 S hp A B hs w := H.reserve (Below.refl _ _) (fun q hq => ⟨H.res q (h q hq), .inl (h q hq)⟩)
set_option maxRecDepth 100000 in
theorem law08_begin_no {W : World} {vx : Value} {x : CX} (f : CSA W vx x) (hl : x.lim < 0 ∨ 400000 < x.lim) (w : World) : Calls Tryz.prog 11 #[.agg #[.int .i64 x.lim, .int .i64 x.arr, .int .i64 x.hsh, .slice x.A x.l.length x.c]] w fun e w' => e = .returned (.tuple #[.pointer none, .pointer none, .pointer none, .bool true]) ∧ Below w.heap.size w w' := by
  obtain ⟨lim, arr, hsh, A, c, l⟩ := x
  dsimp only at hl ⊢
  have HL := Lib.hid hl
  have HC := Lib.hid (C4.new w (.int .i64 lim) (.int .i64 arr) (.int .i64 hsh) (.slice A l.length c) 24)
  obtain ⟨c0, -⟩ := HC.out
  by_cases h1 : lim < 0
  · have d1 : decide (lim < 0) = true := by simpa using h1
    clear hl f
    go_enter Tryz.func11, Tryz.ntmps11
    go_wp2_with fail
    (with_reducible refine (heap_New_bad lim HL.out _).mono ?_)
    rintro e w1 ⟨rfl, rfl⟩
    go_wp2_with fail
    (with_reducible refine (New_nil 0 0 _).mono ?_)
    rintro e w1 ⟨rfl, rfl⟩
    go_wp2_with fail
    go_quiet (fail)
    go_wp2
    exact bodyPost_ret (v := .tuple #[.pointer none, .pointer none, .pointer none, .bool true]) (by simp [results, Tryz.results11, go_sem]) rfl ⟨rfl, below_drewN ((Below.refl _ w).alloc (Nat.le_refl _) _) _⟩
  · have d1 : decide (lim < 0) = false := by simpa using h1
    have d2 : decide (400000 < lim) = true := by simp; omega
    clear hl f
    go_enter Tryz.func11, Tryz.ntmps11
    go_wp2_with fail
    (with_reducible refine (heap_New_bad lim HL.out _).mono ?_)
    rintro e w1 ⟨rfl, rfl⟩
    go_wp2_with fail
    (with_reducible refine (New_nil 0 0 _).mono ?_)
    rintro e w1 ⟨rfl, rfl⟩
    go_wp2_with fail
    go_quiet (fail)
    go_wp2
    exact bodyPost_ret (v := .tuple #[.pointer none, .pointer none, .pointer none, .bool true]) (by simp [results, Tryz.results11, go_sem]) rfl ⟨rfl, below_drewN ((Below.refl _ w).alloc (Nat.le_refl _) _) _⟩
def plus (S : Nat → Prop) (b : Nat) (q : Nat) : Prop := S q ∨ q = b
set_option maxRecDepth 100000 in
set_option maxHeartbeats 1600000 in
theorem law08_begin_is {W : World} {vx : Value} {x : CX} (f : CSA W vx x) (h0 : 0 ≤ x.lim) (h1 : x.lim ≤ 400000) (w0 w : World) (S : Nat → Prop) (hS : ∀ q, S q → q < w.heap.size) (hB : Below w0.heap.size w0 w) : Calls Tryz.prog 11 #[.agg #[.int .i64 x.lim, .int .i64 x.arr, .int .i64 x.hsh, .slice x.A x.l.length x.c]] w fun e w' => ∃ (A : OT) (hs : HS) (hp : Nat) (P Q : Option Addr), e = .returned (.tuple #[.pointer P, .pointer (some ⟨hp, 0, none⟩), .pointer Q, .bool true]) ∧ A.ptr = .pointer P ∧ NewO (HS.new x.lim) x.arr x.hsh A ∧ hs = newH (HS.new x.lim) x.arr x.hsh ∧ TT w0 S hp A none hs w' ∧ Acc A none hs 3 ∧ ∀ q, S q → w'.heap[q]? = w.heap[q]? := by
  obtain ⟨lim, arr, hsh, RA, c, l⟩ := x
  dsimp only at h0 h1 ⊢
  have H0 := Lib.hid h0; have H1 := Lib.hid h1
  have HC := Lib.hid (C4.new w (.int .i64 lim) (.int .i64 arr) (.int .i64 hsh) (.slice RA l.length c) 24)
  have HBw := Lib.hid ((Below.refl w.heap.size w).alloc (Nat.le_refl _) (.cells #[.int .i64 lim, .int .i64 arr, .int .i64 hsh, .slice RA l.length c] 24))
  have HSS := Lib.hid hS; have HB0 := Lib.hid hB
  have HPS : Hid (∀ q, plus S w.heap.size q → q < (w.alloc (.cells #[.int .i64 lim, .int .i64 arr, .int .i64 hsh, .slice RA l.length c] 24)).heap.size) := Lib.hid (fun q hq => by
    rw [World.size_alloc]
    rcases hq with h | h
    · have := hS q h; omega
    · omega)
  obtain ⟨c0, c1, c2, -⟩ := HC.out
  clear f h0 h1 hS hB
  go_enter Tryz.func11, Tryz.ntmps11
  go_wp2_with fail
  (with_reducible refine (New_h w0 lim H0.out H1.out _ (plus S w.heap.size) HPS.out (below_step HB0.out HBw.out)).mono ?_)
  rintro e w2 ⟨hp, rfl, hT, hb⟩
  have HT2 := Lib.hid hT
  have HBw2 := Lib.hid (below_step HBw.out hb)
  have HC2 := Lib.hid (HC.out.below hb HC.out.lt)
  clear hT hb c0 c1 c2
  obtain ⟨c0, c1, c2, -⟩ := HC2.out
  obtain ⟨er, he⟩ : ∃ er, newE (HS.new lim) arr hsh = er := ⟨_, rfl⟩
  have HE := Lib.hid he
  have HAC0 := Lib.hid (Acc.new lim H0.out H1.out)
  clear he
  go_wp2_with fail
  (with_reducible refine (New_t HT2.out (by simp [HS.new]) arr hsh er HE.out).mono ?_)
  rintro e w3 ⟨A, rfl, hA, hT, hk⟩
  have HAC := Lib.hid (HAC0.out.made (by decide) _ _ hA)
  obtain ⟨P, qa, hP, qa1, qa1', qa2⟩ := cases_ptr (hA.cases HE.out)
  have HT3 := Lib.hid hT
  have HNO := Lib.hid hA
  have HK3 := Lib.hid hk
  have HC3 := Lib.hid (HC2.out.keep (hk _ (.inr rfl)))
  have HP := Lib.hid hP
  rw [hP]
  clear hA hT hP c0 c1 c2
  obtain ⟨c0, c1, c2, -⟩ := HC3.out
  have HR := Lib.hid (ref_fresh w3 lim)
  have HB4 := Lib.hid ((Below.refl w3.heap.size w3).alloc (Nat.le_refl _) (.cells #[.int .i64 lim, .int .i64 0, .int .i64 0, .slice none 0 0] 101))
  have HC4 := Lib.hid (HC3.out.below HB4.out HC3.out.lt)
  have HT4 : Hid (TT w0 (plus (plus S w.heap.size) w3.heap.size) hp A none (newH (HS.new lim) arr hsh) (w3.alloc (.cells #[.int .i64 lim, .int .i64 0, .int .i64 0, .slice none 0 0] 101))) := Lib.hid (HT3.out.reserve HB4.out (fun q hq => by
    rcases hq with h | h
    · exact ⟨Nat.lt_of_lt_of_le (HT3.out.res q h) HB4.out.size, .inl h⟩
    · rw [World.size_alloc]; omega))
  have HX3 : Hid (w.heap.size < w3.heap.size ∧ w0.heap.size ≤ w3.heap.size) := Lib.hid ⟨HC3.out.lt, HT3.out.bel.size⟩
  obtain ⟨d0, d1, d2, -⟩ := HC4.out
  go_wp2_with fail
  (with_reducible refine (ref8_New (fun k => k = w3.heap.size) w3.heap.size (HS.new lim) (RS.new lim) 0 (SR.new lim H0.out H1.out) (by decide) HAC0.out.hok (by simp [HS.new]) arr hsh er HE.out _ HR.out).mono ?_)
  rintro e w5 ⟨Q, r', rfl, hQ, hs5, G', hr5, hk5, -⟩
  have qb1 : Q.isNone = qa := hQ.trans qa2
  have HT5 := Lib.hid (HT4.out.kpS hk5 (fun q hq => ⟨.inr hq, by have := HX3.out.2; omega⟩))
  have HR5 := Lib.hid hr5
  have HS5 := Lib.hid hs5
  have HK5 : Hid (∀ q, S q → w5.heap[q]? = w.heap[q]?) := Lib.hid (fun q hq => by
    have hlt : q < w.heap.size := HSS.out q hq
    have e1 := hk5.block q (by have := HX3.out.1; rw [World.size_alloc]; omega) (by show ¬ q = w3.heap.size; have := HX3.out.1; omega)
    have e2 := HB4.out.block q (by have := HX3.out.1; omega)
    exact e1.trans (e2.trans ((HK3.out q (.inl hq)).trans (HBw2.out.block q hlt))))
  clear hQ hs5 hr5 hk5 c0 c1 c2 d0 d1 d2
  have HEQ : Hid (∃ h, h = newH (HS.new lim) arr hsh) := Lib.hid ⟨_, rfl⟩
  obtain ⟨hs1, heq⟩ := HEQ.out
  rw [← heq] at HAC HT5 HS5 HT4 HT3
  have HH := Lib.hid heq
  clear heq HEQ
  obtain ⟨lv, hlv⟩ : ∃ x, hs1.live = x := ⟨_, rfl⟩
  obtain ⟨ld, hld⟩ : ∃ x, hs1.laid = x := ⟨_, rfl⟩
  have HLV := Lib.hid hlv; have HLD := Lib.hid hld
  have z1 : (lv != lv) = false := by simp
  have z2 : (ld != ld) = false := by simp
  have z3 : (er != er) = false := by simp
  clear hlv hld
  go_wp2_with fail
  (with_reducible refine (Live_t lv HLV.out HT5.out).mono ?_)
  rintro e w6 ⟨rfl, rfl⟩
  go_wp2_with fail
  (with_reducible refine (RLive_c G' w3.heap.size hs1 r' (0 + 5) HS5.out (by decide) lv HLV.out _ HR5.out).mono ?_)
  rintro e w6 ⟨rfl, rfl⟩
  go_wp2_with fail
  (with_reducible refine (Laid_t ld HLD.out HT5.out).mono ?_)
  rintro e w6 ⟨rfl, rfl⟩
  go_wp2_with fail
  (with_reducible refine (RLaid_c G' w3.heap.size hs1 r' (0 + 5) HS5.out (by decide) ld HLD.out _ HR5.out).mono ?_)
  rintro e w6 ⟨rfl, rfl⟩
  go_wp2
  exact bodyPost_ret (v := .tuple #[.pointer P, .pointer (some ⟨hp, 0, none⟩), .pointer Q, .bool true]) (by simp [results, Tryz.results11, go_sem]) rfl ⟨A, hs1, hp, P, Q, rfl, HP.out, HNO.out, HH.out, HT5.out.weaken (fun q hq => .inl (.inl hq)), HAC.out, HK5.out⟩
end Go.Proofs.YteheolefemlcgaaGreat
