/- walk.Next: errors; all. -/
import Derived.Test.YteheolefemlcgaaGreatWkK
namespace Go.Proofs.YteheolefemlcgaaGreat
open Go.RowKit Go.Maps
set_option linter.unusedVariables false
set_option linter.unusedSimpArgs false

theorem next_end0 (W : World) (r1 r2 r3 : Nat) (tmps : Array Value) (R : Ending → World → Prop) (x : V × V) (e : Int) (h4 : tmps[4]? = some (.pointer (some ⟨r1, 0, none⟩))) (h5 : tmps[5]? = some (.pointer (some ⟨r2, 0, none⟩))) (h6 : tmps[6]? = some (.pointer (some ⟨r3, 0, none⟩)))
    (h7 : R7 W r1 r2 r3 x e) (hR : R (.returned (.tuple #[vagg x.1, vagg x.2, .int .i64 e])) W) :
    bodyPost Tryz.prog Tryz.f24 R .ret { tmps := tmps, defers := [] } W := by
  obtain ⟨a0, a1, a2, b0, b1, b2, e0⟩ := h7
  refine bodyPost_ret (v := .tuple #[vagg x.1, vagg x.2, .int .i64 e]) ?_ rfl hR
  unfold vagg
  simp [results, Tryz.results24, go_sem, *]
set_option maxRecDepth 100000 in
/-- Next of a key out of form. -/
theorem walk_Next_form (P : Option Addr) (kk kn : Int) (ks : ByteArray) (hkf : okV ⟨kk, kn, ks⟩ = false) (w : World) :
    Calls Tryz.prog 24 #[.pointer P, .agg #[.int .i64 kk, .int .i64 kn, .string ks]] w fun e w' => e = .returned (.tuple #[vagg nilV, vagg nilV, .int .i64 2]) ∧ Below w.heap.size w w' := by
  have hB0 : Below w.heap.size w ((((w.alloc (.cells #[.int .i64 kk, .int .i64 kn, .string ks] 35)).alloc (.cells #[.int .i64 0, .int .i64 0, .string ⟨#[]⟩] 35)).alloc (.cells #[.int .i64 0, .int .i64 0, .string ⟨#[]⟩] 35)).alloc (.cells #[.int .i64 0] 32)) := ((((Below.refl _ w).alloc (Nat.le_refl _) _).alloc (by simp) _).alloc (by simp; omega) _).alloc (by simp; omega) _
  have hR0 : R3e ((((w.alloc (.cells #[.int .i64 kk, .int .i64 kn, .string ks] 35)).alloc (.cells #[.int .i64 0, .int .i64 0, .string ⟨#[]⟩] 35)).alloc (.cells #[.int .i64 0, .int .i64 0, .string ⟨#[]⟩] 35)).alloc (.cells #[.int .i64 0] 32)) (w.heap.size + 1) (w.heap.size + 1 + 1) (w.heap.size + 1 + 1 + 1) := fresh3 w _
  have hS0 : ((((w.alloc (.cells #[.int .i64 kk, .int .i64 kn, .string ks] 35)).alloc (.cells #[.int .i64 0, .int .i64 0, .string ⟨#[]⟩] 35)).alloc (.cells #[.int .i64 0, .int .i64 0, .string ⟨#[]⟩] 35)).alloc (.cells #[.int .i64 0] 32)).heap.size = w.heap.size + 4 := by simp
  have HCK := Lib.hid (show errForm (okV ⟨kk, kn, ks⟩) = 2 by rw [hkf]; rfl)
  have HB0 := Lib.hid hB0; have HR0 := Lib.hid hR0; have HS0 := Lib.hid hS0
  clear hB0 hR0 hS0 hkf
  go_enter Tryz.func24, Tryz.ntmps24
  go_wp2_with fail
  (with_reducible refine (box_Check_c kk kn ks 2 HCK.out _).mono ?_)
  rintro e w2 ⟨rfl, hb⟩
  have HB2 := Lib.hid (HB0.out.trans (hb.mono HB0.out.size))
  have HR2 := Lib.hid (HR0.out.keep (hb.block _ (by rw [HS0.out]; omega)) (hb.block _ (by rw [HS0.out]; omega)) (hb.block _ (by rw [HS0.out]; omega)))
  clear hb HB0 HR0 HS0
  obtain ⟨a0, a1, a2, b0, b1, b2, e0, fa, fb, fe⟩ := HR2.out.cells
  have fa0 := fa 0; have fa1 := fa 1; have fa2 := fa 2; have fb0 := fb 0; have fb1 := fb 1; have fb2 := fb 2; have fe0 := fe 0
  have n12 : ¬ w.heap.size + 1 = w.heap.size + 1 + 1 := by omega
  have n13 : ¬ w.heap.size + 1 = w.heap.size + 1 + 1 + 1 := by omega
  have n23 : ¬ w.heap.size + 1 + 1 = w.heap.size + 1 + 1 + 1 := by omega
  have hr7 := R7.set HR2.out.cells n12 n13 n23 0 0 ⟨#[]⟩ 0 0 ⟨#[]⟩ 2
  have hkp := kp7 w2 (w.heap.size + 1) (w.heap.size + 1 + 1) (w.heap.size + 1 + 1 + 1) (.int .i64 0) (.int .i64 0) (.string ⟨#[]⟩) (.int .i64 0) (.int .i64 0) (.string ⟨#[]⟩) (.int .i64 2)
  have hbb := below_kpHi HB2.out hkp (fun z hz => by omega) HB2.out.size
  have HR7 := Lib.hid hr7; have HBB := Lib.hid hbb
  clear fa fb fe n12 n13 n23 hr7 hkp hbb
  go_wp2
  exact next_end0 _ (w.heap.size + 1) (w.heap.size + 1 + 1) (w.heap.size + 1 + 1 + 1) _ _ (⟨0, 0, ⟨#[]⟩⟩, ⟨0, 0, ⟨#[]⟩⟩) 2 rfl rfl rfl HR7.out ⟨rfl, HBB.out⟩
set_option maxRecDepth 100000 in
set_option maxHeartbeats 800000 in
/-- Next of a key that has no place. -/
theorem walk_Next_none (a s b g hp : Nat) (t : Tbl) (kk kn : Int) (ks : ByteArray) (hok : t.p.ok) (hkf : okV ⟨kk, kn, ks⟩ = true) (hk0 : kk ≠ 0) (hlo : t.p.place ⟨kk, kn, ks⟩ = 0) (w : World) (H : TabIn w a s b g hp t) :
    Calls Tryz.prog 24 #[.pointer (some ⟨a, 0, none⟩), .agg #[.int .i64 kk, .int .i64 kn, .string ks]] w fun e w' => e = .returned (.tuple #[vagg nilV, vagg nilV, .int .i64 9]) ∧ TabIn w' a s b g hp (t.read ⟨kk, kn, ks⟩) ∧ Kp (fun q => q = a) w w' := by
  have hB0 : Below w.heap.size w ((((w.alloc (.cells #[.int .i64 kk, .int .i64 kn, .string ks] 35)).alloc (.cells #[.int .i64 0, .int .i64 0, .string ⟨#[]⟩] 35)).alloc (.cells #[.int .i64 0, .int .i64 0, .string ⟨#[]⟩] 35)).alloc (.cells #[.int .i64 0] 32)) := ((((Below.refl _ w).alloc (Nat.le_refl _) _).alloc (by simp) _).alloc (by simp; omega) _).alloc (by simp; omega) _
  have hR0 : R3e ((((w.alloc (.cells #[.int .i64 kk, .int .i64 kn, .string ks] 35)).alloc (.cells #[.int .i64 0, .int .i64 0, .string ⟨#[]⟩] 35)).alloc (.cells #[.int .i64 0, .int .i64 0, .string ⟨#[]⟩] 35)).alloc (.cells #[.int .i64 0] 32)) (w.heap.size + 1) (w.heap.size + 1 + 1) (w.heap.size + 1 + 1 + 1) := fresh3 w _
  have hS0 : ((((w.alloc (.cells #[.int .i64 kk, .int .i64 kn, .string ks] 35)).alloc (.cells #[.int .i64 0, .int .i64 0, .string ⟨#[]⟩] 35)).alloc (.cells #[.int .i64 0, .int .i64 0, .string ⟨#[]⟩] 35)).alloc (.cells #[.int .i64 0] 32)).heap.size = w.heap.size + 4 := by simp
  have HK0 := Lib.hid ((((C3.new w kk kn ks).alloc (.cells #[.int .i64 0, .int .i64 0, .string ⟨#[]⟩] 35)).alloc (.cells #[.int .i64 0, .int .i64 0, .string ⟨#[]⟩] 35)).alloc (.cells #[.int .i64 0] 32))
  have HT0 := Lib.hid H; have HOK := Lib.hid hok; have HLO := Lib.hid hlo
  have HCK := Lib.hid (show errForm (okV ⟨kk, kn, ks⟩) = 0 by rw [hkf]; rfl)
  have q0 : (kk != 0) = true := by simpa using hk0
  have HB0 := Lib.hid hB0; have HR0 := Lib.hid hR0; have HS0 := Lib.hid hS0
  clear hB0 hR0 hS0 hkf hok hlo hk0 H
  go_enter Tryz.func24, Tryz.ntmps24
  go_wp2_with fail
  (with_reducible refine (box_Check_c kk kn ks 0 HCK.out _).mono ?_)
  rintro e w2 ⟨rfl, hb⟩
  have HB2 := Lib.hid (HB0.out.trans (hb.mono HB0.out.size))
  have HR2 := Lib.hid (HR0.out.keep (hb.block _ (by rw [HS0.out]; omega)) (hb.block _ (by rw [HS0.out]; omega)) (hb.block _ (by rw [HS0.out]; omega)))
  have HS2 : Hid (w.heap.size + 4 ≤ w2.heap.size) := Lib.hid (by have := hb.size; rw [HS0.out] at this; exact this)
  have HK2 := Lib.hid (HK0.out.below hb (by rw [HS0.out]; omega))
  obtain ⟨k0, k1, k2, -, -⟩ := HK2.out
  dsimp only at k0 k1 k2
  simp only [Nat.zero_add] at k1 k2
  clear hb HB0 HR0 HS0 HK0
  go_wp2_with fail
  (with_reducible refine (tab_Place a s b g hp t kk kn ks HOK.out w2 (HT0.out.below HB2.out)).mono ?_)
  rintro e w3 ⟨rfl, hT3, hk3⟩
  rw [HLO.out]
  have HA : Hid (a < w.heap.size) := Lib.hid HT0.out.pt.la
  have HT3 := Lib.hid hT3
  have HFIN : Hid (∀ w', Below w.heap.size w3 w' → TabIn w' a s b g hp (t.read ⟨kk, kn, ks⟩) ∧ Kp (fun q => q = a) w w') := Lib.hid (fun w' hb => by
    refine ⟨HT3.out.keep (fun q hq => hb.block q (HT0.out.pt.lt hq)), ?_⟩
    exact ⟨hb.os.trans (hk3.os.trans HB2.out.os), hb.tape.trans (hk3.tape.trans HB2.out.tape), hb.output.trans (hk3.output.trans HB2.out.output), Nat.le_trans HB2.out.size (Nat.le_trans hk3.size hb.size), fun z hz hn => (hb.block z hz).trans ((hk3.block z (Nat.lt_of_lt_of_le hz HB2.out.size) hn).trans (HB2.out.block z hz))⟩)
  have HS3 : Hid (w.heap.size + 4 ≤ w3.heap.size) := Lib.hid (Nat.le_trans HS2.out hk3.size)
  have HR3 := Lib.hid (HR2.out.keep (hk3.block _ (by have := HS2.out; omega) (by have := HA.out; omega)) (hk3.block _ (by have := HS2.out; omega) (by have := HA.out; omega)) (hk3.block _ (by have := HS2.out; omega) (by have := HA.out; omega)))
  clear hT3 hk3 HR2 HK2 k0 k1 k2
  obtain ⟨a0, a1, a2, b0, b1, b2, e0, fa, fb, fe⟩ := HR3.out.cells
  have fa0 := fa 0; have fa1 := fa 1; have fa2 := fa 2; have fb0 := fb 0; have fb1 := fb 1; have fb2 := fb 2; have fe0 := fe 0
  have n12 : ¬ w.heap.size + 1 = w.heap.size + 1 + 1 := by omega
  have n13 : ¬ w.heap.size + 1 = w.heap.size + 1 + 1 + 1 := by omega
  have n23 : ¬ w.heap.size + 1 + 1 = w.heap.size + 1 + 1 + 1 := by omega
  have hr7 := R7.set HR3.out.cells n12 n13 n23 0 0 ⟨#[]⟩ 0 0 ⟨#[]⟩ 9
  have hkp := kp7 w3 (w.heap.size + 1) (w.heap.size + 1 + 1) (w.heap.size + 1 + 1 + 1) (.int .i64 0) (.int .i64 0) (.string ⟨#[]⟩) (.int .i64 0) (.int .i64 0) (.string ⟨#[]⟩) (.int .i64 9)
  have hbb := below_kpHi (B := w.heap.size) (Below.refl _ w3) hkp (fun z hz => by omega) (by have := HS3.out; omega)
  have HR7 := Lib.hid hr7; have HBB := Lib.hid (HFIN.out _ hbb)
  clear fa fb fe n12 n13 n23 hr7 hkp hbb
  go_wp2
  exact next_end0 _ (w.heap.size + 1) (w.heap.size + 1 + 1) (w.heap.size + 1 + 1 + 1) _ _ (⟨0, 0, ⟨#[]⟩⟩, ⟨0, 0, ⟨#[]⟩⟩) 9 rfl rfl rfl HR7.out ⟨rfl, HBB.out⟩
/-- Next. -/
theorem walk_Next (a s b g hp : Nat) (t : Tbl) (kk kn : Int) (ks : ByteArray) (hok : t.p.ok) (w : World) (H : TabIn w a s b g hp t) :
    Calls Tryz.prog 24 #[.pointer (some ⟨a, 0, none⟩), .agg #[.int .i64 kk, .int .i64 kn, .string ks]] w fun e w' => e = .returned (.tuple #[vagg (t.p.nextP ⟨kk, kn, ks⟩).1, vagg (t.p.nextP ⟨kk, kn, ks⟩).2, .int .i64 (t.p.nextE ⟨kk, kn, ks⟩)]) ∧ TabIn w' a s b g hp (t.nread ⟨kk, kn, ks⟩) ∧ Kp (fun q => q = a) w w' := by
  by_cases hf : okV ⟨kk, kn, ks⟩ = true
  · by_cases h0 : kk = 0
    · subst h0
      have e : (⟨0, kn, ks⟩ : V) = nilV := PH.nil_of hf rfl
      have e2 : kn = 0 := congrArg V.n e
      have e3 : ks = ⟨#[]⟩ := congrArg V.s e
      subst e2 e3
      have h1 : t.p.nextE ⟨0, 0, ⟨#[]⟩⟩ = 0 := by unfold PT.nextE; rw [if_neg (by rw [hf]; simp), if_neg (fun h => h.1 rfl)]
      have h2 : t.p.nextP ⟨0, 0, ⟨#[]⟩⟩ = t.p.pair ((t.p.nx 0 : Nat) : Int) := by unfold PT.nextP; rw [if_neg (by rw [h1]; simp), if_pos rfl]
      have h3 : t.nread ⟨0, 0, ⟨#[]⟩⟩ = t := by unfold Tbl.nread; rw [if_neg (fun h => h.2 rfl)]
      rw [h1, h2, h3]
      refine (walk_Next_nil (some ⟨a, 0, none⟩) t.p w (.inr ⟨a, s, b, g, hp, t, rfl, rfl, hok, H⟩)).mono ?_
      rintro e w' ⟨he, hb⟩
      exact ⟨he, H.below hb, below_kp hb⟩
    · have h3 : t.nread ⟨kk, kn, ks⟩ = t.read ⟨kk, kn, ks⟩ := by unfold Tbl.nread; rw [if_pos ⟨hf, h0⟩]
      rcases place_is hok ⟨kk, kn, ks⟩ with ⟨hp0, -⟩ | ⟨j, hj1, hj2, hpj, -⟩
      · have h1 : t.p.nextE ⟨kk, kn, ks⟩ = 9 := by unfold PT.nextE; rw [if_neg (by rw [hf]; simp), if_pos ⟨h0, hp0⟩]
        have h2 : t.p.nextP ⟨kk, kn, ks⟩ = (nilV, nilV) := by unfold PT.nextP; rw [if_pos (by rw [h1]; simp)]
        rw [h1, h2, h3]
        exact walk_Next_none a s b g hp t kk kn ks hok hf h0 hp0 w H
      · have h1 : t.p.nextE ⟨kk, kn, ks⟩ = 0 := by unfold PT.nextE; rw [if_neg (by rw [hf]; simp), if_neg (fun h => by rw [hpj] at h; omega)]
        have h2 : t.p.nextP ⟨kk, kn, ks⟩ = t.p.pair ((t.p.nx j : Nat) : Int) := by unfold PT.nextP; rw [if_neg (by rw [h1]; simp), if_neg h0, hpj, Int.toNat_natCast]
        rw [h1, h2, h3]
        exact walk_Next_key a s b g hp t kk kn ks hok hf h0 j hpj (by omega) hj2 w H
  · have hf' : okV ⟨kk, kn, ks⟩ = false := by simpa using hf
    have h1 : t.p.nextE ⟨kk, kn, ks⟩ = 2 := by unfold PT.nextE; rw [if_pos hf']
    have h2 : t.p.nextP ⟨kk, kn, ks⟩ = (nilV, nilV) := by unfold PT.nextP; rw [if_pos (by rw [h1]; simp)]
    have h3 : t.nread ⟨kk, kn, ks⟩ = t := by unfold Tbl.nread; rw [if_neg (fun h => hf h.1)]
    rw [h1, h2, h3]
    refine (walk_Next_form (some ⟨a, 0, none⟩) kk kn ks hf' w).mono ?_
    rintro e w' ⟨he, hb⟩
    exact ⟨he, H.below hb, below_kp hb⟩
theorem pt0_nx : pt0.pair ((pt0.nx 0 : Nat) : Int) = (nilV, nilV) := by
  have : pt0.nx 0 = 0 := rfl
  rw [this]; exact pair_zero
/-- Next of no table, of Nil. -/
theorem nil_Next (w : World) : Calls Tryz.prog 24 #[.pointer none, .agg #[.int .i64 0, .int .i64 0, .string ⟨#[]⟩]] w fun e w' => e = .returned (.tuple #[.agg #[.int .i64 0, .int .i64 0, .string ⟨#[]⟩], .agg #[.int .i64 0, .int .i64 0, .string ⟨#[]⟩], .int .i64 0]) ∧ Below w.heap.size w w' := by
  have h := walk_Next_nil none pt0 w (.inl ⟨rfl, rfl⟩)
  rw [pt0_nx] at h
  exact h
end Go.Proofs.YteheolefemlcgaaGreat
