/- TableCells: two tables on one heap. -/
import Derived.Test.YteheolefemlcgaaTabV
import Derived.Deep.DeepCutAuto
import Derived.StillTailTactics
import Derived.Deep.RegionHeld3
namespace Go.Proofs.Yteheolefemlcgaa
open Go.RowKit Go.Maps
set_option linter.unusedVariables false
set_option linter.unusedSimpArgs false

theorem OT.cells_le {A : OT} (h : A.fit) : 0 ≤ A.cells ∧ A.cells ≤ 300000 := by
  cases A with
  | none => exact ⟨Int.le_refl _, by show (0 : Int) ≤ _; omega⟩
  | some x =>
    have h1 : x.2.p.sn ≤ 65536 := h.1.sz
    have h2 : x.2.p.h.n ≤ 65536 := h.1.hg.sz
    show 0 ≤ 4 + ((x.2.p.sn : Int) + 3 * (x.2.p.h.n : Int)) ∧ 4 + ((x.2.p.sn : Int) + 3 * (x.2.p.h.n : Int)) ≤ 300000
    omega
/-- A case in a block of its own. -/
def CB (w : World) (b : Nat) (x : CX) : Prop := C4 w b (.int .i64 x.lim) (.int .i64 x.arr) (.int .i64 x.hsh) (.slice x.A x.l.length x.c)
theorem CB.lt {w : World} {b : Nat} {x : CX} (H : CB w b x) : b < w.heap.size := C4.lt H
theorem CB.keep {w w' : World} {b : Nat} {x : CX} (H : CB w b x) (hb : w'.heap[b]? = w.heap[b]?) : CB w' b x := C4.keep H hb
theorem CB.below {w w' : World} {b : Nat} {x : CX} (H : CB w b x) (hb : Below w.heap.size w w') : CB w' b x := C4.below H hb (C4.lt H)
theorem C4.over {w : World} {a : Nat} {v0 v1 v2 v3 : Value} (H : C4 w a v0 v1 v2 v3) (u0 u1 u2 u3 : Value) : C4 ((((w.setCell ⟨a, 0, none⟩ u0).setCell ⟨a, 1, none⟩ u1).setCell ⟨a, 2, none⟩ u2).setCell ⟨a, 3, none⟩ u3) a u0 u1 u2 u3 := by
  have c0 := H.c0; have c1 := H.c1; have c2 := H.c2; have c3 := H.c3
  refine ⟨?_, ?_, ?_, ?_, fun i => ?_, ?_⟩
  · rw [cell_other _ _ _ _ _ (by omega), cell_other _ _ _ _ _ (by omega), cell_other _ _ _ _ _ (by omega), cell_set_self, c0]; rfl
  · rw [cell_other _ _ _ _ _ (by omega), cell_other _ _ _ _ _ (by omega), cell_set_self, cell_other _ _ _ _ _ (by omega), c1]; rfl
  · rw [cell_other _ _ _ _ _ (by omega), cell_set_self, cell_other _ _ _ _ _ (by omega), cell_other _ _ _ _ _ (by omega), c2]; rfl
  · rw [cell_set_self, cell_other _ _ _ _ _ (by omega), cell_other _ _ _ _ _ (by omega), cell_other _ _ _ _ _ (by omega), c3]; rfl
  · simp only [World.frozen?_setCell]; exact H.fz i
  · have := H.lt; simpa [go_sem] using this
theorem over_keep (w : World) (a b : Nat) (u0 u1 u2 u3 : Value) (h : b ≠ a) : ((((w.setCell ⟨a, 0, none⟩ u0).setCell ⟨a, 1, none⟩ u1).setCell ⟨a, 2, none⟩ u2).setCell ⟨a, 3, none⟩ u3).heap[b]? = w.heap[b]? := by
  rw [Below.heap_setCell _ _ _ _ h, Below.heap_setCell _ _ _ _ h, Below.heap_setCell _ _ _ _ h, Below.heap_setCell _ _ _ _ h]
theorem over_kp {F : Nat → Prop} (w : World) (a : Nat) (u0 u1 u2 u3 : Value) (h : F a) : Kp F w ((((w.setCell ⟨a, 0, none⟩ u0).setCell ⟨a, 1, none⟩ u1).setCell ⟨a, 2, none⟩ u2).setCell ⟨a, 3, none⟩ u3) :=
  ((((Kp.refl F w).set ⟨a, 0, none⟩ (.inl h) _).set ⟨a, 1, none⟩ (.inl h) _).set ⟨a, 2, none⟩ (.inl h) _).set ⟨a, 3, none⟩ (.inl h) _
/-- Reserved blocks are written. -/
theorem TT.kpS {w0 w w' : World} {S G : Nat → Prop} {hp : Nat} {A B : OT} {hs : HS} (H : TT w0 S hp A B hs w) (hk : Kp G w w') (hG : ∀ q, G q → S q ∧ w0.heap.size ≤ q) : TT w0 S hp A B hs w' := by
  obtain ⟨⟨F, D, E, h1, h2, h3, h4, h5, h6, h7, h8, h9⟩, h10, h11⟩ := H
  exact ⟨⟨F, D, E, h1.kp hk (fun q hq hg => (h4.o q hq).2 (hG q hg).1), h2.kp hk (fun q hq hg => (h5.o q hq).2 (hG q hg).1), h3.kp hk (fun q hq hg => (h6.o q hq).2 (hG q hg).1), h4.grow hk.size, h5.grow hk.size, h6.grow hk.size, h7, h8, h9⟩, fun q hq => Nat.lt_of_lt_of_le (h10 q hq) hk.size, h11.trans (hk.toBelow (fun q hq => (hG q hq).2) h11.size)⟩
theorem NewO.cases {hs : HS} {m n er : Int} {A : OT} (h : NewO hs m n A) (he : newE hs m n = er) : (A = none ∧ er ≠ 0) ∨ ∃ x, A = some x ∧ er = 0 := by
  subst he
  exact h.imp id (fun ⟨a, h1, h2⟩ => ⟨_, h1, h2⟩)
theorem cases_ptr {A : OT} {er : Int} (h : (A = none ∧ er ≠ 0) ∨ ∃ x, A = some x ∧ er = 0) : ∃ (P : Option Addr) (q : Bool), A.ptr = .pointer P ∧ P.isNone = q ∧ (P == none) = q ∧ (er != 0) = q := by
  rcases h with ⟨rfl, h⟩ | ⟨x, rfl, rfl⟩
  · exact ⟨none, true, rfl, rfl, rfl, by simpa using h⟩
  · exact ⟨some ⟨x.1, 0, none⟩, false, rfl, rfl, rfl, rfl⟩
theorem COp.bel {W w : World} {b o : Nat} {x : V × V} (H : COp W b o x) (hb : Below W.heap.size W w) (h : b < W.heap.size) : COp w b o x :=
  ⟨(hb.cell (p := ⟨b, _, none⟩) h).trans H.k0, (hb.cell (p := ⟨b, _, none⟩) h).trans H.k1, (hb.cell (p := ⟨b, _, none⟩) h).trans H.k2, (hb.cell (p := ⟨b, _, none⟩) h).trans H.v0, (hb.cell (p := ⟨b, _, none⟩) h).trans H.v1, (hb.cell (p := ⟨b, _, none⟩) h).trans H.v2⟩
theorem CSA.in64 {W : World} {v : Value} {x : CX} (f : CSA W v x) (j : Nat) : In64 (opAt x.l j).1.n := by
  unfold opAt
  rw [List.getD_eq_getElem?_getD]
  cases e : x.l[j]? with
  | none => show In64 0; unfold In64; omega
  | some y => exact (f.in_ y (List.mem_of_getElem? e)).1.2
theorem OT.set_ptr (A : OT) (hs : HS) (k v : V) : (A.set hs k v).1.ptr = A.ptr := by
  cases A <;> rfl
theorem Set_p {w0 w : World} {S : Nat → Prop} {hp : Nat} {A B : OT} {hs : HS} {p : Value} (hp' : A.ptr = p) (H : TT w0 S hp A B hs w) (hA : A.fit) (hsz : hs.sizes.length ≤ 800000) (kk kn : Int) (ks : ByteArray) (vk vn : Int) (vs : ByteArray) (h64 : In64 kn) :
    Calls Try.prog 23 #[p, .agg #[.int .i64 kk, .int .i64 kn, .string ks], .agg #[.int .i64 vk, .int .i64 vn, .string vs]] w fun e w' => e = .returned (.int .i64 (A.set hs ⟨kk, kn, ks⟩ ⟨vk, vn, vs⟩).2.2) ∧ TT w0 S hp (A.set hs ⟨kk, kn, ks⟩ ⟨vk, vn, vs⟩).1 B (A.set hs ⟨kk, kn, ks⟩ ⟨vk, vn, vs⟩).2.1 w' ∧ ∀ q, S q → w'.heap[q]? = w.heap[q]? := by
  subst hp'
  exact Set_t H hA hsz kk kn ks vk vn vs h64 _ rfl
theorem cells_p {w0 w : World} {S : Nat → Prop} {hp : Nat} {A B : OT} {hs : HS} {p : Value} (hp' : A.ptr = p) (x : Int) (hx : A.cells = x) (hA : A.fit) (H : TT w0 S hp A B hs w) : Calls Try.prog 21 #[p] w fun e w' => e = .returned (.int .i64 x) ∧ TT w0 S hp A B hs w' ∧ Below w.heap.size w w' := by
  subst hp'
  exact cells_t x hx hA H
def two (a b : Nat) (q : Nat) : Prop := q = a ∨ q = b
set_option maxRecDepth 100000 in
set_option maxHeartbeats 1600000 in
theorem walk_TableCells {vx vy : Value} {W : World} (x y : CX) (n : Int) (fx : CSA W vx x) (fy : CSA W vy y) (w : World) : Calls Try.prog 3 #[vx, vy, .int .i64 n] W fun e w' => e = .returned (.bool true) ∧ Below W.heap.size W w' := by
  have hcx := fun w => law08_cut fx w
  have hcy := fun w => law08_cut fy w
  have fxc := fx.cut; have fyc := fy.cut
  have hx3 : x.cut.l.length ≤ 300 := by show (x.l.take 300).length ≤ 300; rw [List.length_take]; omega
  obtain rfl := fx.e; obtain rfl := fy.e
  generalize x.cut = x2 at hcx fxc hx3
  generalize y.cut = y2 at hcy fyc
  unfold CX.val at hcx hcy
  have FXC := Lib.hid fxc; have FYC := Lib.hid fyc; have HCX := Lib.hid hcx; have HCY := Lib.hid hcy; have HL3 := Lib.hid hx3
  obtain ⟨N, hN, N1, N2, N3⟩ := umod n 3000 (by decide) (by decide)
  have HN := Lib.hid hN
  have HBX := Lib.hid (show CB ((W.alloc (.cells #[.int .i64 x.lim, .int .i64 x.arr, .int .i64 x.hsh, .slice x.A x.l.length x.c] 24)).alloc (.cells #[.int .i64 y.lim, .int .i64 y.arr, .int .i64 y.hsh, .slice y.A y.l.length y.c] 24)) W.heap.size x from (C4.new W _ _ _ _ _).below ((Below.refl _ _).alloc (Nat.le_refl _) _) (by simp))
  have HBY := Lib.hid (show CB ((W.alloc (.cells #[.int .i64 x.lim, .int .i64 x.arr, .int .i64 x.hsh, .slice x.A x.l.length x.c] 24)).alloc (.cells #[.int .i64 y.lim, .int .i64 y.arr, .int .i64 y.hsh, .slice y.A y.l.length y.c] 24)) (W.heap.size + 1) y from (by have h := C4.new (W.alloc (.cells #[.int .i64 x.lim, .int .i64 x.arr, .int .i64 x.hsh, .slice x.A x.l.length x.c] 24)) (.int .i64 y.lim) (.int .i64 y.arr) (.int .i64 y.hsh) (.slice y.A y.l.length y.c) 24; rw [World.size_alloc] at h; exact h))
  have HB0 := Lib.hid ((((Below.refl _ W).alloc (Nat.le_refl _) (.cells #[.int .i64 x.lim, .int .i64 x.arr, .int .i64 x.hsh, .slice x.A x.l.length x.c] 24))).alloc (by simp) (.cells #[.int .i64 y.lim, .int .i64 y.arr, .int .i64 y.hsh, .slice y.A y.l.length y.c] 24))
  clear fx fy hN fxc fyc hcx hcy hx3
  unfold CX.val
  go_enter Try.func3, Try.ntmps3
  go_wp2_with fail
  (with_reducible refine (law08_fixed _).mono ?_)
  rintro e w1 ⟨rfl, hb⟩
  have HBX1 := Lib.hid (show CB w1 W.heap.size x from HBX.out.below hb)
  have HBY1 := Lib.hid (show CB w1 (W.heap.size + 1) y from HBY.out.below hb)
  have HB1 := Lib.hid (below_step HB0.out hb)
  clear hb
  go_wp2_with fail
  (with_reducible refine (New_h W N (by omega) (by have := HN.out; omega) _ (two W.heap.size (W.heap.size + 1)) (fun q hq => by have h1 := HBX1.out.lt; have h2 := HBY1.out.lt; unfold two at hq; omega) HB1.out).mono ?_)
  rintro e w2 ⟨hp, rfl, hT, hb⟩
  have HT := Lib.hid hT
  have HBX2 := Lib.hid (show CB w2 W.heap.size x from HBX1.out.below hb)
  have HBY2 := Lib.hid (show CB w2 (W.heap.size + 1) y from HBY1.out.below hb)
  clear hT hb
  go_upto_region 6 with fail
  go_cut [29] (fun _ wx => Hid (TT W (two W.heap.size (W.heap.size + 1)) hp none none (HS.new N) wx) ∧ Hid (CB wx W.heap.size x2) ∧ Hid (CB wx (W.heap.size + 1) y2))
  case first =>
    have hs0 : ∀ w' : World, Below w2.heap.size w2 w' → CB w' W.heap.size x ∧ CB w' (W.heap.size + 1) y := fun w' hb => ⟨HBX2.out.below hb, HBY2.out.below hb⟩
    have HS0 := Lib.hid hs0
    have HD := Lib.hid ((Below.refl w2.heap.size w2).drew)
    obtain ⟨⟨p0, p1, p2, p3, pf, -⟩, ⟨q0, q1, q2, q3, qf, -⟩⟩ := hs0 _ HD.out
    clear hs0
    go_region_with (first
        | (go_at_call 19; (with_reducible refine (HCX.out _).mono ?_); rintro e w3 ⟨rfl, hb3⟩; have HB3 := Lib.hid (below_step HD.out hb3); clear hb3; obtain ⟨⟨r0, r1, r2, r3, rf, -⟩, ⟨s0, s1, s2, s3, sf, -⟩⟩ := HS0.out _ HB3.out)
        | (go_at_call 19; (with_reducible refine (HCY.out _).mono ?_); rintro e w4 ⟨rfl, hb4⟩; have HB4 := Lib.hid (below_step HB3.out hb4); clear hb4; obtain ⟨⟨t0, t1, t2, t3, tf, -⟩, ⟨u0, u1, u2, u3, uf, -⟩⟩ := HS0.out _ HB4.out; have tf0 := tf 0; have tf1 := tf 1; have tf2 := tf 2; have tf3 := tf 3; have uf0 := uf 0; have uf1 := uf 1; have uf2 := uf 2; have uf3 := uf 3))
    all_goals
      go_wp2_with fail
      go_meet
      refine ⟨Lib.hid ?_, Lib.hid ?_, Lib.hid ?_⟩
      · exact ((HT.out.below HB4.out).kpS (over_kp (F := two W.heap.size (W.heap.size + 1)) w4 W.heap.size _ _ _ _ (.inl rfl)) (fun q hq => ⟨hq, by unfold two at hq; omega⟩)).kpS (over_kp (F := two W.heap.size (W.heap.size + 1)) _ (W.heap.size + 1) _ _ _ _ (.inr rfl)) (fun q hq => ⟨hq, by unfold two at hq; omega⟩)
      · exact ((HS0.out _ HB4.out).1.over _ _ _ _).keep (over_keep _ _ _ _ _ _ _ (by omega))
      · exact ((HS0.out _ HB4.out).2.keep (over_keep _ _ _ _ _ _ _ (by omega))).over _ _ _ _
  case rest =>
    obtain ⟨HT3, HX3, HY3⟩ := hcut
    clear HT HBX HBY HBX1 HBY1 HBX2 HBY2 HB0 HB1 HCX HCY
    obtain ⟨-, a1, a2, -, -, -⟩ := HX3.out
    have HA0 := Lib.hid (Acc.new N (by omega) (by have := HN.out; omega))
    obtain ⟨ea, hea⟩ : ∃ e, newE (HS.new N) x2.arr x2.hsh = e := ⟨_, rfl⟩
    have HEA := Lib.hid hea
    clear hea
    go_wp2_with fail
    (with_reducible refine (New_t HT3.out (by simp [HS.new]) x2.arr x2.hsh ea HEA.out).mono ?_)
    rintro e w5 ⟨A, rfl, hA, hT, hk⟩
    have HAC := Lib.hid ((HA0.out.made (by decide) _ _ hA).swap)
    obtain ⟨P, qa, hP, qa1, qa1', qa2⟩ := cases_ptr (hA.cases HEA.out)
    have HT5 := Lib.hid hT.swap
    have HX5 := Lib.hid (HX3.out.keep (hk _ (.inl rfl)))
    have HY5 := Lib.hid (HY3.out.keep (hk _ (.inr rfl)))
    have HP := Lib.hid hP
    rw [hP]
    clear hA hT hk hP a1 a2
    generalize newH (HS.new N) x2.arr x2.hsh = hs1 at HAC HT5
    obtain ⟨-, b1, b2, -, -, -⟩ := HY5.out
    obtain ⟨eb, heb⟩ : ∃ e, newE hs1 y2.arr y2.hsh = e := ⟨_, rfl⟩
    have HEB := Lib.hid heb
    clear heb
    go_wp2_with fail
    (with_reducible refine (New_t HT5.out (by have := HAC.out.sz; omega) y2.arr y2.hsh eb HEB.out).mono ?_)
    rintro e w6 ⟨B, rfl, hB, hT, hk⟩
    have HAB := Lib.hid ((HAC.out.made (by decide) _ _ hB).swap)
    obtain ⟨Q, qb, hQ, qb1, qb1', qb2⟩ := cases_ptr (hB.cases HEB.out)
    have HT6 := Lib.hid hT.swap
    have HX6 := Lib.hid (HX5.out.keep (hk _ (.inl rfl)))
    have HY6 := Lib.hid (HY5.out.keep (hk _ (.inr rfl)))
    have HQ := Lib.hid hQ
    rw [hQ]
    clear hB hT hk hQ b1 b2
    generalize newH hs1 y2.arr y2.hsh = hs2 at HAB HT6
    obtain ⟨ca, hca⟩ : ∃ c, OT.cells A = c := ⟨_, rfl⟩
    obtain ⟨cb, hcb⟩ : ∃ c, OT.cells B = c := ⟨_, rfl⟩
    have m1 : wrap64 (ca + cb) = ca + cb := by
      have h1 := OT.cells_le HAB.out.fit
      have h2 := OT.cells_le HAB.out.swap.fit
      apply wrap64_id; unfold In64; omega
    have m2 : (wrap64 (ca + cb) != ca + cb) = false := by rw [m1]; simp
    have HLV := Lib.hid (show hs2.live = ca + cb by rw [← hca, ← hcb]; exact HAB.out.live)
    have HCA := Lib.hid (fun w' (h : TT W (two W.heap.size (W.heap.size + 1)) hp A B hs2 w') => cells_p HP.out ca hca HAB.out.fit h)
    have HCB := Lib.hid (fun w' (h : TT W (two W.heap.size (W.heap.size + 1)) hp A B hs2 w') => cells_p HQ.out cb hcb HAB.out.swap.fit h.swap)
    clear hca hcb
    go_wp2_with fail
    (with_reducible refine (HCA.out _ HT6.out).mono ?_)
    rintro e w7 ⟨rfl, hT, hb⟩
    have HT7 := Lib.hid hT
    have HB7 := Lib.hid hb
    clear hT hb
    go_wp2_with fail
    (with_reducible refine (HCB.out _ HT7.out).mono ?_)
    rintro e w8 ⟨rfl, hT, hb⟩
    have HT8 := Lib.hid hT.swap
    have HB8 := Lib.hid (HB7.out.trans (hb.mono HB7.out.size))
    clear hT hb
    go_wp2_with fail
    (with_reducible refine (Live_t _ HLV.out HT8.out).mono ?_)
    rintro e w9 ⟨rfl, rfl⟩
    have HX8 := Lib.hid (HX6.out.below HB8.out)
    have HY8 := Lib.hid (HY6.out.below HB8.out)
    clear HX5 HY5 HX6 HY6 HT5 HT6 HT7 HAC HB7 HB8 HCA HCB HLV m1 HA0
    go_wp2_with fail
    go_loopw [12] (fun i wr => ∃ (j : Nat) (A' B' : OT) (hs : HS), j ≤ x2.l.length ∧ i = .int .i64 j ∧ Hid (A'.ptr = .pointer P) ∧ Hid (B'.ptr = .pointer Q) ∧ Hid (TT W (two W.heap.size (W.heap.size + 1)) hp A' B' hs wr) ∧ Hid (Acc A' B' hs (6 + 4 * j)) ∧ Hid (CB wr W.heap.size x2) ∧ Hid (CB wr (W.heap.size + 1) y2)) (fun i _ => x2.l.length - (intOf i).toNat)
    case atStart => exact ⟨0, A, B, hs2, Nat.zero_le _, rfl, HP, HQ, HT8, HAB, HX8, HY8⟩
    case round =>
      clear HP HQ HT8 HAB HX8 HY8 m2 qa1 qa1' qa2 qb1 qb1' qb2
      obtain ⟨j, A', B', hs, hj, rfl, HP, HQ, HT, HA, HX, HY⟩ := hrel
      obtain ⟨-, -, -, a3, -, -⟩ := HX.out
      obtain ⟨-, -, -, b3, -, -⟩ := HY.out
      by_cases h1 : j < x2.l.length
      · have d1 : decide ((j : Int) < (x2.l.length : Int)) = true := by simp; omega
        have j1 : (j : Int) < (x2.l.length : Int) := by omega
        have lx : (x2.l.length : Int) ≤ 300 := by have := HL3.out; omega
        by_cases h2 : j < y2.l.length
        · have d2 : decide ((j : Int) < (y2.l.length : Int)) = true := by simp; omega
          have j2 : (j : Int) < (y2.l.length : Int) := by omega
          obtain ⟨bx, ox, eA, hbx, hcx⟩ := FXC.out.ops (by omega)
          obtain ⟨by_, oy, eB, hby, hcy⟩ := FYC.out.ops (by omega)
          rw [eA] at a3
          rw [eB] at b3
          have HCX := Lib.hid (hcx j h1)
          have HCY := Lib.hid (hcy j h2)
          have HIX := Lib.hid (FXC.out.in64 j)
          have HIY := Lib.hid (FYC.out.in64 j)
          clear hcx hcy
          generalize opAt x2.l j = zx at HCX HIX
          generalize opAt y2.l j = zy at HCY HIY
          obtain ⟨⟨kk, kn, ks⟩, vk, vn, vs⟩ := zx
          obtain ⟨⟨lk, ln, ls⟩, uk, un, us⟩ := zy
          have HJ := Lib.hid (show j < 300 by have := HL3.out; omega)
          have HB := Lib.hid (And.intro hbx hby)
          obtain ⟨c0, c1, c2, c3, c4, c5⟩ := HCX.out.bel HT.out.bel hbx
          have HSZ : Hid (hs.sizes.length ≤ 800000) := Lib.hid (by have := HA.out.sz; have := HJ.out; omega)
          have HSA := Lib.hid (fun w' (h : TT W (two W.heap.size (W.heap.size + 1)) hp A' B' hs w') => Set_p HP.out h HA.out.fit HSZ.out kk kn ks vk vn vs HIX.out)
          go_wp2_with fail
          go_still_tail 13, (by kernel_rfl)
          change wpList _ _ _ _ _ wr.drew
          go_wp2_with fail
          (with_reducible refine (HSA.out _ (HT.out.below ((Below.refl _ wr).drew))).mono ?_)
          rintro e w3 ⟨rfl, hT, hk⟩
          have HA3 := Lib.hid (HA.out.set (by have := HJ.out; omega) ⟨kk, kn, ks⟩ ⟨vk, vn, vs⟩ HIX.out)
          have HP3 := Lib.hid ((OT.set_ptr A' hs ⟨kk, kn, ks⟩ ⟨vk, vn, vs⟩).trans HP.out)
          have HX3 := Lib.hid ((HX.out.below ((Below.refl _ wr).drew)).keep (hk _ (.inl rfl)))
          have HY3 := Lib.hid ((HY.out.below ((Below.refl _ wr).drew)).keep (hk _ (.inr rfl)))
          have HT3 := Lib.hid hT
          clear hT hk HT HA HX HY HSA c0 c1 c2 c3 c4 c5 a3 b3 HP
          generalize A'.set hs ⟨kk, kn, ks⟩ ⟨vk, vn, vs⟩ = r3 at HA3 HP3 HT3
          obtain ⟨A3, hs3, e3⟩ := r3
          have HA3b : Hid (Acc A3 B' hs3 (6 + 4 * j + 2)) := HA3
          clear HA3
          have HA3 := HA3b
          clear HA3b
          have HSZ3 : Hid (hs3.sizes.length ≤ 800000) := Lib.hid (by have := HA3.out.sz; have := HJ.out; omega)
          have HSB := Lib.hid (fun w' (h : TT W (two W.heap.size (W.heap.size + 1)) hp A3 B' hs3 w') => Set_p HQ.out h.swap HA3.out.swap.fit HSZ3.out lk ln ls uk un us HIY.out)
          obtain ⟨-, -, -, b3, -, -⟩ := HY3.out
          rw [eB] at b3
          obtain ⟨c0, c1, c2, c3, c4, c5⟩ := HCY.out.bel HT3.out.bel HB.out.2
          go_wp2_with fail
          go_still_tail 13, (by kernel_rfl)
          change wpList _ _ _ _ _ w3.drew
          go_wp2_with fail
          (with_reducible refine (HSB.out _ (HT3.out.below ((Below.refl _ w3).drew))).mono ?_)
          rintro e w4 ⟨rfl, hT, hk⟩
          have HA4 := Lib.hid ((HA3.out.swap.set (by have := HJ.out; omega) ⟨lk, ln, ls⟩ ⟨uk, un, us⟩ HIY.out).swap)
          have HQ4 := Lib.hid ((OT.set_ptr B' hs3 ⟨lk, ln, ls⟩ ⟨uk, un, us⟩).trans HQ.out)
          have HX4 := Lib.hid ((HX3.out.below ((Below.refl _ w3).drew)).keep (hk _ (.inl rfl)))
          have HY4 := Lib.hid ((HY3.out.below ((Below.refl _ w3).drew)).keep (hk _ (.inr rfl)))
          have HT4 := Lib.hid hT.swap
          clear hT hk HT3 HA3 HX3 HY3 HSB c0 c1 c2 c3 c4 c5 b3 HQ
          generalize B'.set hs3 ⟨lk, ln, ls⟩ ⟨uk, un, us⟩ = r4 at HA4 HQ4 HT4
          obtain ⟨B4, hs4, e4⟩ := r4
          have HA4b : Hid (Acc A3 B4 hs4 (6 + 4 * j + 2 + 2)) := HA4
          clear HA4
          have HA4 := HA4b
          clear HA4b
          obtain ⟨ca, hca⟩ : ∃ c, OT.cells A3 = c := ⟨_, rfl⟩
          obtain ⟨cb, hcb⟩ : ∃ c, OT.cells B4 = c := ⟨_, rfl⟩
          have m1 : wrap64 (ca + cb) = ca + cb := by
            have h1 := OT.cells_le HA4.out.fit
            have h2 := OT.cells_le HA4.out.swap.fit
            apply wrap64_id; unfold In64; omega
          have m2 : (wrap64 (ca + cb) != ca + cb) = false := by rw [m1]; simp
          have HLV := Lib.hid (show hs4.live = ca + cb by rw [← hca, ← hcb]; exact HA4.out.live)
          have HCA := Lib.hid (fun w' (h : TT W (two W.heap.size (W.heap.size + 1)) hp A3 B4 hs4 w') => cells_p HP3.out ca hca HA4.out.fit h)
          have HCB := Lib.hid (fun w' (h : TT W (two W.heap.size (W.heap.size + 1)) hp A3 B4 hs4 w') => cells_p HQ4.out cb hcb HA4.out.swap.fit h.swap)
          clear hca hcb m1
          go_wp2_with fail
          (with_reducible refine (HCA.out _ HT4.out).mono ?_)
          rintro e w7 ⟨rfl, hT, hb⟩
          have HT7 := Lib.hid hT
          have HB7 := Lib.hid hb
          clear hT hb
          go_wp2_with fail
          (with_reducible refine (HCB.out _ HT7.out).mono ?_)
          rintro e w8 ⟨rfl, hT, hb⟩
          have HT8 := Lib.hid hT.swap
          have HB8 := Lib.hid (HB7.out.trans (hb.mono HB7.out.size))
          clear hT hb
          go_wp2_with fail
          (with_reducible refine (Live_t _ HLV.out HT8.out).mono ?_)
          rintro e w9 ⟨rfl, rfl⟩
          have HX8 := Lib.hid (HX4.out.below HB8.out)
          have HY8 := Lib.hid (HY4.out.below HB8.out)
          go_wp2_with fail
          go_roundw
          case rel => exact ⟨j + 1, A3, B4, hs4, by omega, by go_num, HP3, HQ4, HT8, Lib.hid (HA4.out.mono (by omega)), HX8, HY8⟩
          case measure => simp [intOf]; omega
        · have d2 : decide ((j : Int) < (y2.l.length : Int)) = false := by simp; omega
          go_wp2
          go_ret
          exact ⟨rfl, HT.out.bel⟩
      · have d1 : decide ((j : Int) < (x2.l.length : Int)) = false := by simp; omega
        go_wp2
        go_ret
        exact ⟨rfl, HT.out.bel⟩
end Go.Proofs.Yteheolefemlcgaa
