/- The walk's laws: the fixed answers. -/
import Derived.Test.YteheolefemlcgaaGreatWkB
namespace Go.Proofs.YteheolefemlcgaaGreat
open Go.RowKit Go.Maps
set_option linter.unusedVariables false
set_option linter.unusedSimpArgs false

abbrev bCc : ByteArray := { data := #[99] }
def n0 : Tbl × HS := (newT (HS.new 400000) 3 1, newH (HS.new 400000) 3 1)
def n1 := stp n0 (iV 1) (sV bA)
def n2 := stp n1 (iV 3) (sV bCc)
def n3 := stp n2 (sV bX) (iV 1)
theorem n3_1 : n3.1.p.nextP ⟨2, 1, ⟨#[]⟩⟩ = (⟨2, 3, ⟨#[]⟩⟩, ⟨3, 0, bCc⟩) ∧ n3.1.p.nextE ⟨2, 1, ⟨#[]⟩⟩ = 0 := by decide +kernel
theorem n3_3 : n3.1.p.nextP ⟨2, 3, ⟨#[]⟩⟩ = (⟨3, 0, bX⟩, ⟨2, 1, ⟨#[]⟩⟩) ∧ n3.1.p.nextE ⟨2, 3, ⟨#[]⟩⟩ = 0 := by decide +kernel
theorem n3_y : n3.1.p.nextP ⟨3, 0, bY⟩ = (⟨0, 0, ⟨#[]⟩⟩, ⟨0, 0, ⟨#[]⟩⟩) ∧ n3.1.p.nextE ⟨3, 0, bY⟩ = 9 := by decide +kernel
theorem n3_l : n3.1.p.prs.length = 3 := by decide +kernel
abbrev GY (w : World) (hp a : Nat) (t : Tbl) (hs : HS) (n : Nat) (W : World) : Prop := BS w (fun _ => False) hp a t hs n W
/-- The table beside boxes of values. -/
structure GZ (w0 : World) (hp a : Nat) (t : Tbl) (hs : HS) (n : Nat) (L : List (Nat × V)) (W : World) : Prop where
  b : BS w0 (fun q => ∃ x ∈ L, x.1 = q) hp a t hs n W
  c : ∀ x ∈ L, C3 W x.1 0 x.2
section
variable {w0 w w' : World} {hp a n : Nat} {t : Tbl} {hs : HS} {L : List (Nat × V)}
theorem GZ.below (H : GZ w0 hp a t hs n L w) (hb : Below w.heap.size w w') : GZ w0 hp a t hs n L w' := ⟨H.b.below hb, fun x hx => (H.c x hx).below hb (H.c x hx).lt⟩
theorem GZ.start (H : GY w0 hp a t hs n w) : GZ w0 hp a t hs n [] w := ⟨H.reserve (Below.refl _ _) (fun q ⟨x, hx, _⟩ => by simp at hx), fun x hx => by simp at hx⟩
theorem GZ.two (H : GZ w0 hp a t hs n L w) (kk kn : Int) (ks : ByteArray) (vk vn : Int) (vs : ByteArray) : GZ w0 hp a t hs n ((w.heap.size, ⟨kk, kn, ks⟩) :: (w.heap.size + 1, ⟨vk, vn, vs⟩) :: L) ((w.alloc (.cells #[.int .i64 kk, .int .i64 kn, .string ks] 35)).alloc (.cells #[.int .i64 vk, .int .i64 vn, .string vs] 35)) := by
  have hb : Below w.heap.size w ((w.alloc (.cells #[.int .i64 kk, .int .i64 kn, .string ks] 35)).alloc (.cells #[.int .i64 vk, .int .i64 vn, .string vs] 35)) := ((Below.refl _ w).alloc (Nat.le_refl _) _).alloc (by rw [World.size_alloc]; omega) _
  have h1 := (C3.new w kk kn ks).alloc (.cells #[.int .i64 vk, .int .i64 vn, .string vs] 35)
  have h2 := C3.new (w.alloc (.cells #[.int .i64 kk, .int .i64 kn, .string ks] 35)) vk vn vs
  rw [World.size_alloc] at h2
  refine ⟨H.b.reserve hb ?_, ?_⟩
  · rintro q ⟨x, hx, rfl⟩
    rcases List.mem_cons.1 hx with rfl | hx
    · exact ⟨h1.lt, .inr (Nat.le_refl _)⟩
    · rcases List.mem_cons.1 hx with rfl | hx
      · exact ⟨h2.lt, .inr (by show w.heap.size ≤ w.heap.size + 1; omega)⟩
      · exact ⟨Nat.lt_of_lt_of_le (H.c x hx).lt hb.size, .inl ⟨x, hx, rfl⟩⟩
  · intro x hx
    rcases List.mem_cons.1 hx with rfl | hx
    · exact h1
    · rcases List.mem_cons.1 hx with rfl | hx
      · exact h2
      · exact (H.c x hx).below hb (H.c x hx).lt
theorem GZ.next (H : GZ w0 hp a t hs n L w) (kk kn : Int) (ks : ByteArray) (x : V × V) (er : Int) (hx : t.p.nextP ⟨kk, kn, ks⟩ = x) (he : t.p.nextE ⟨kk, kn, ks⟩ = er) :
    Calls Tryz.prog 24 #[.pointer (some ⟨a, 0, none⟩), .agg #[.int .i64 kk, .int .i64 kn, .string ks]] w fun e w' => ∃ t', e = .returned (.tuple #[.agg #[.int .i64 x.1.k, .int .i64 x.1.n, .string x.1.s], .agg #[.int .i64 x.2.k, .int .i64 x.2.n, .string x.2.s], .int .i64 er]) ∧ t'.p = t.p ∧ GZ w0 hp a t' hs n L w' := by
  refine (BS.next H.b kk kn ks x er hx he).mono ?_
  rintro e w' ⟨t', ⟨rfl, -⟩, hp1, hb, hk⟩
  exact ⟨t', rfl, hp1, hb, fun y hy => (H.c y hy).keep (hk _ ⟨y, hy, rfl⟩)⟩
theorem BS.listN {S : Nat → Prop} (H : BS w0 S hp a t hs n w) (m : Nat) (hm : t.p.prs.length = m) :
    Calls Tryz.prog 27 #[.pointer (some ⟨a, 0, none⟩)] w fun e w' => ∃ A c, e = .returned (.slice A m c) ∧ Below w.heap.size w w' := by
  refine (BS.list H _ rfl).mono ?_
  rintro e w' ⟨v, rfl, hr, hb⟩
  obtain ⟨A, c, rfl⟩ := hr.slice
  exact ⟨A, c, by rw [hm], hb⟩
theorem nil_List (w : World) : Calls Tryz.prog 27 #[.pointer none] w fun e w' => ∃ A c, e = .returned (.slice A 0 c) ∧ Below w.heap.size w w' := by
  refine (walk_List none pt0 w (.inl ⟨rfl, rfl⟩)).mono ?_
  rintro e w' ⟨v, rfl, hr, hb⟩
  obtain ⟨A, c, rfl⟩ := hr.slice
  exact ⟨A, c, rfl, hb⟩
end
set_option maxRecDepth 100000 in
set_option maxHeartbeats 1600000 in
theorem law10_fixed (w : World) : Calls Tryz.prog 22 #[] w fun e w' => e = .returned (.bool true) ∧ Below w.heap.size w w' := by
  have H1 := Lib.hid n3_1
  have H3 := Lib.hid n3_3
  have HY := Lib.hid n3_y
  have HLL := Lib.hid n3_l
  have HBEG : Hid (∀ W, Below w.heap.size w W → Calls Tryz.prog 23 #[.agg #[.int .i64 3, .int .i64 1, .slice none 0 0]] W fun e w' => ∃ (hp a : Nat) (Q : Option Addr), e = .returned (.tuple #[.pointer (some ⟨a, 0, none⟩), .pointer Q, .bool true]) ∧ GY w hp a n0.1 n0.2 3 w') := Lib.hid (fun W hb => by
    refine (law10_begin 3 1 none 0 0 w W (fun _ => False) (fun _ h => h.elim) hb).mono ?_
    rintro e w' ⟨N, M, hp, a, Q, ⟨-, -, h1, h2⟩, he, hx, -⟩
    have e0 : (IntKind.u64.wrap 3).tmod 200 = 3 := by decide
    have e1 : (IntKind.u64.wrap 1).tmod 200 = 1 := by decide
    obtain rfl : N = 3 := by rw [e0] at h1; omega
    obtain rfl : M = 1 := by rw [e1] at h2; omega
    exact ⟨hp, a, Q, he, hx⟩)
  go_enter Tryz.func22, Tryz.ntmps22
  go_wp2_with fail
  (with_reducible refine (HBEG.out _ (Below.refl _ _)).mono ?_)
  rintro e w1 ⟨hp, a, Q, rfl, hx⟩
  have HX1 := Lib.hid hx
  clear hx HBEG
  go_wp2_with fail
  (with_reducible refine (ref3_I _ _).mono ?_)
  rintro e w2 ⟨rfl, hb⟩
  have HX2 := Lib.hid (HX1.out.below hb)
  clear hb
  go_wp2_with fail
  (with_reducible refine (ref3_S _ _).mono ?_)
  rintro e w3 ⟨rfl, hb⟩
  have HX3 := Lib.hid (HX2.out.below hb)
  clear hb
  go_wp2_with fail
  (with_reducible refine (HX3.out.set (by omega) 2 1 ⟨#[]⟩ 3 0 bA (by unfold In64; omega)).mono ?_)
  rintro e w4 ⟨rfl, hx, -⟩
  have HX4 : Hid (GY w hp a n1.1 n1.2 5 w4) := Lib.hid hx
  clear hx
  go_wp2_with fail
  (with_reducible refine (ref3_I _ _).mono ?_)
  rintro e w5 ⟨rfl, hb⟩
  have HX5 := Lib.hid (HX4.out.below hb)
  clear hb
  go_wp2_with fail
  (with_reducible refine (ref3_S _ _).mono ?_)
  rintro e w6 ⟨rfl, hb⟩
  have HX6 := Lib.hid (HX5.out.below hb)
  clear hb
  go_wp2_with fail
  (with_reducible refine (HX6.out.set (by omega) 2 3 ⟨#[]⟩ 3 0 bCc (by unfold In64; omega)).mono ?_)
  rintro e w7 ⟨rfl, hx, -⟩
  have HX7 : Hid (GY w hp a n2.1 n2.2 7 w7) := Lib.hid hx
  clear hx
  go_wp2_with fail
  (with_reducible refine (ref3_S _ _).mono ?_)
  rintro e w8 ⟨rfl, hb⟩
  have HX8 := Lib.hid (HX7.out.below hb)
  clear hb
  go_wp2_with fail
  (with_reducible refine (ref3_I _ _).mono ?_)
  rintro e w9 ⟨rfl, hb⟩
  have HX9 := Lib.hid (HX8.out.below hb)
  clear hb
  go_wp2_with fail
  (with_reducible refine (HX9.out.set (by omega) 3 0 bX 2 1 ⟨#[]⟩ (by unfold In64; omega)).mono ?_)
  rintro e wA ⟨rfl, hx, -⟩
  have HXA : Hid (GY w hp a n3.1 n3.2 9 wA) := Lib.hid hx
  clear hx
  go_wp2_with fail
  (with_reducible refine (ref3_I _ _).mono ?_)
  rintro e wB ⟨rfl, hb⟩
  have HXB := Lib.hid (HXA.out.below hb)
  clear hb
  have HZB := Lib.hid (GZ.start HXB.out)
  go_wp2_with fail
  (with_reducible refine (GZ.next HZB.out 2 1 ⟨#[]⟩ (⟨2, 3, ⟨#[]⟩⟩, ⟨3, 0, bCc⟩) 0 H1.out.1 H1.out.2).mono ?_)
  rintro e wC ⟨tC, rfl, hp1, hx⟩
  have HZC := Lib.hid (hx.two 2 3 ⟨#[]⟩ 3 0 bCc)
  have HPC := Lib.hid hp1
  clear hx hp1
  dsimp only
  go_wp2_with fail
  (with_reducible refine (ref3_I _ _).mono ?_)
  rintro e wD ⟨rfl, hb⟩
  have HZD := Lib.hid (HZC.out.below hb)
  clear hb
  go_wp2_with fail
  (with_reducible refine (GZ.next HZD.out 2 3 ⟨#[]⟩ (⟨3, 0, bX⟩, ⟨2, 1, ⟨#[]⟩⟩) 0 (by rw [HPC.out]; exact H3.out.1) (by rw [HPC.out]; exact H3.out.2)).mono ?_)
  rintro e wE ⟨tE, rfl, hp1, hx⟩
  have HZE := Lib.hid (hx.two 3 0 bX 2 1 ⟨#[]⟩)
  have HPE := Lib.hid (hp1.trans HPC.out)
  clear hx hp1
  dsimp only
  go_wp2_with fail
  (with_reducible refine (ref3_S _ _).mono ?_)
  rintro e wF ⟨rfl, hb⟩
  have HZF := Lib.hid (HZE.out.below hb)
  clear hb
  go_wp2_with fail
  (with_reducible refine (GZ.next HZF.out 3 0 bY (⟨0, 0, ⟨#[]⟩⟩, ⟨0, 0, ⟨#[]⟩⟩) 9 (by rw [HPE.out]; exact HY.out.1) (by rw [HPE.out]; exact HY.out.2)).mono ?_)
  rintro e wG ⟨tG, rfl, hp1, hx⟩
  have HZG := Lib.hid (hx.two 0 0 ⟨#[]⟩ 0 0 ⟨#[]⟩)
  have HPG := Lib.hid (hp1.trans HPE.out)
  clear hx hp1
  dsimp only
  go_wp2_with fail
  (with_reducible refine (nil_Next _).mono ?_)
  rintro e wH ⟨rfl, hb⟩
  have HZH := Lib.hid ((HZG.out.below hb).two 0 0 ⟨#[]⟩ 0 0 ⟨#[]⟩)
  clear hb
  have HLN : Hid (tG.p.prs.length = 3) := Lib.hid (by rw [HPG.out]; exact HLL.out)
  go_wp2_with fail
  generalize ((wH.alloc (.cells #[.int .i64 0, .int .i64 0, .string ⟨#[]⟩] 35)).alloc (.cells #[.int .i64 0, .int .i64 0, .string ⟨#[]⟩] 35)) = WW at HZH ⊢
  generalize wH.heap.size = bz at HZH ⊢
  have HKK := Lib.hid (HZH.out.c (wC.heap.size, ⟨2, 3, ⟨#[]⟩⟩) (by simp))
  have HVV := Lib.hid (HZH.out.c (wC.heap.size + 1, ⟨3, 0, bCc⟩) (by simp))
  have HXX := Lib.hid (HZH.out.c (wE.heap.size, ⟨3, 0, bX⟩) (by simp))
  have HYY := Lib.hid (HZH.out.c (wE.heap.size + 1, ⟨2, 1, ⟨#[]⟩⟩) (by simp))
  have HNN := Lib.hid (HZH.out.c (bz, ⟨0, 0, ⟨#[]⟩⟩) (by simp))
  generalize wC.heap.size + 1 = vb at HVV ⊢
  generalize wC.heap.size = kb at HKK ⊢
  generalize wE.heap.size + 1 = yb at HYY ⊢
  generalize wE.heap.size = xb at HXX ⊢
  have HSS : Hid (∀ w', Below WW.heap.size WW w' → (w'.cell? ⟨kb, 0, none⟩ = some (.int .i64 2) ∧ w'.cell? ⟨kb, 1, none⟩ = some (.int .i64 3) ∧ w'.cell? ⟨kb, 2, none⟩ = some (.string ⟨#[]⟩)) ∧ (w'.cell? ⟨vb, 0, none⟩ = some (.int .i64 3) ∧ w'.cell? ⟨vb, 1, none⟩ = some (.int .i64 0) ∧ w'.cell? ⟨vb, 2, none⟩ = some (.string bCc)) ∧ (w'.cell? ⟨xb, 0, none⟩ = some (.int .i64 3) ∧ w'.cell? ⟨xb, 1, none⟩ = some (.int .i64 0) ∧ w'.cell? ⟨xb, 2, none⟩ = some (.string bX)) ∧ (w'.cell? ⟨yb, 0, none⟩ = some (.int .i64 2) ∧ w'.cell? ⟨yb, 1, none⟩ = some (.int .i64 1) ∧ w'.cell? ⟨yb, 2, none⟩ = some (.string ⟨#[]⟩)) ∧ (w'.cell? ⟨bz, 0, none⟩ = some (.int .i64 0) ∧ w'.cell? ⟨bz, 1, none⟩ = some (.int .i64 0) ∧ w'.cell? ⟨bz, 2, none⟩ = some (.string ⟨#[]⟩))) := Lib.hid (fun w' hb => by
    have g : ∀ (q : Nat) (v : V), C3 WW q 0 v → w'.cell? ⟨q, 0, none⟩ = some (.int .i64 v.k) ∧ w'.cell? ⟨q, 1, none⟩ = some (.int .i64 v.n) ∧ w'.cell? ⟨q, 2, none⟩ = some (.string v.s) := fun q v h => by
      obtain ⟨c0, c1, c2, -, -⟩ := h.below hb h.lt
      exact ⟨c0, c1, c2⟩
    exact ⟨g _ _ HKK.out, g _ _ HVV.out, g _ _ HXX.out, g _ _ HYY.out, g _ _ HNN.out⟩)
  have HBS := Lib.hid HZH.out.b
  clear HZH HKK HVV HXX HYY HNN HZG HZF HZE HZD HZC HZB
  go_region_held3 (fun w' => (w'.cell? ⟨kb, 0, none⟩ = some (.int .i64 2) ∧ w'.cell? ⟨kb, 1, none⟩ = some (.int .i64 3) ∧ w'.cell? ⟨kb, 2, none⟩ = some (.string ⟨#[]⟩)) ∧ (w'.cell? ⟨vb, 0, none⟩ = some (.int .i64 3) ∧ w'.cell? ⟨vb, 1, none⟩ = some (.int .i64 0) ∧ w'.cell? ⟨vb, 2, none⟩ = some (.string bCc)) ∧ (w'.cell? ⟨xb, 0, none⟩ = some (.int .i64 3) ∧ w'.cell? ⟨xb, 1, none⟩ = some (.int .i64 0) ∧ w'.cell? ⟨xb, 2, none⟩ = some (.string bX)) ∧ (w'.cell? ⟨yb, 0, none⟩ = some (.int .i64 2) ∧ w'.cell? ⟨yb, 1, none⟩ = some (.int .i64 1) ∧ w'.cell? ⟨yb, 2, none⟩ = some (.string ⟨#[]⟩)) ∧ (w'.cell? ⟨bz, 0, none⟩ = some (.int .i64 0) ∧ w'.cell? ⟨bz, 1, none⟩ = some (.int .i64 0) ∧ w'.cell? ⟨bz, 2, none⟩ = some (.string ⟨#[]⟩)))
    (first | with_reducible exact HSS.out _ (Below.refl _ WW).drew | with_reducible exact HSS.out _ HB1.out | with_reducible exact HSS.out _ HB2.out | with_reducible exact HSS.out _ HB3.out | with_reducible exact HSS.out _ HB4.out | with_reducible exact HSS.out _ HB5.out | with_reducible exact HSS.out _ HB6.out | with_reducible assumption)
    (first
      | (go_at_call 47; (with_reducible refine (ref3_I _ WW.drew).mono ?_); rintro e w1' ⟨rfl, hb⟩; have HB1 := Lib.hid (below_step (Below.refl WW.heap.size WW).drew hb); clear hb)
      | (go_at_call 15; (with_reducible refine (ref3_S _ w1').mono ?_); rintro e w2' ⟨rfl, hb⟩; have HB2 := Lib.hid (below_step HB1.out hb); clear hb)
      | (go_at_call 15; (with_reducible refine (ref3_S _ w2').mono ?_); rintro e w3' ⟨rfl, hb⟩; have HB3 := Lib.hid (below_step HB2.out hb); clear hb)
      | (go_at_call 47; (with_reducible refine (ref3_I _ w3').mono ?_); rintro e w4' ⟨rfl, hb⟩; have HB4 := Lib.hid (below_step HB3.out hb); clear hb)
      | (go_at_call 27; (with_reducible refine (BS.listN (HBS.out.below HB4.out) 3 HLN.out).mono ?_); rintro e w5' ⟨A, cap, rfl, hb⟩; have HB5 := Lib.hid (below_step HB4.out hb); clear hb)
      | (go_at_call 27; (with_reducible refine (nil_List w5').mono ?_); rintro e w6' ⟨A2, cap2, rfl, hb⟩; have HB6 := Lib.hid (below_step HB5.out hb); clear hb))
  go_wp2
  go_ret
  exact ⟨rfl, (HBS.out.below HB6.out).bel⟩
end Go.Proofs.YteheolefemlcgaaGreat
