/- A table: rehash, Set. -/
import Derived.Test.YteheolefemlcgaaGreatTabA
namespace Go.Proofs.YteheolefemlcgaaGreat
open Go.RowKit
set_option linter.unusedVariables false
set_option linter.unusedSimpArgs false

/-- A put into a table's parts leaves its other cells as they were. -/
theorem TabIn.put {w w' : World} {a s b g hp : Nat} {t : Tbl} {p : PT} (H : TabIn w a s b g hp t) (P : PartIn w' a s b g p) (hk : Kp (PS s b g) w w') : TabIn w' a s b g hp { t with p := p } := by
  obtain ⟨n1, n2, n3, -, -⟩ := H.pt.ne
  have hc : ∀ o, w'.cell? ⟨a, o, none⟩ = w.cell? ⟨a, o, none⟩ := fun o => hk.cell_far H.pt.la (fun h => h.elim n1 (fun h => h.elim n2 n3))
  exact ⟨P, (hc _).trans H.c4, (hc _).trans H.c5, (hc _).trans H.c6⟩
theorem PS_PB {a s b g q : Nat} (h : PS s b g q) : PB a s b g q := .inr h
/-- The numbers of a table's blocks are numbers. -/
def PT.ids (p : PT) : Prop := In64 p.sAt ∧ In64 p.nAt
section
variable (F : Nat → Prop) (a s b g hp : Nat) (t : Tbl) (hs : HS) (kk kn : Int) (ks : ByteArray) (vk vn : Int) (vs : ByteArray)
theorem tab_rehash (hok : t.p.ok) (hk : okV ⟨kk, kn, ks⟩ = true) (h64 : In64 kn) (hb : ¬ t.p.inB ⟨kk, kn, ks⟩) (hnew : ∀ i, t.p.h.occ i → t.p.h.key i ≠ ⟨kk, kn, ks⟩) (hsz : hs.sizes.length ≤ 800000) (hid : t.p.ids) (hF : ∀ q, PB a s b g q → ¬ F q) (er : Int) (he : (t.reh hs ⟨kk, kn, ks⟩).2.2 = er) (w : World) (H : TabIn w a s b g hp t) (HH : HeapAt F w hp hs) :
    Calls Tryz.prog 54 #[.pointer (some ⟨a, 0, none⟩), .agg #[.int .i64 kk, .int .i64 kn, .string ks]] w fun e w' => e = .returned (.int .i64 er) ∧ TG F a s b g w hp (t.reh hs ⟨kk, kn, ks⟩).1 (t.reh hs ⟨kk, kn, ks⟩).2.1 w' := by
  obtain ⟨-, hre⟩ := PT.re_is hok hk hb hnew
  unfold Tbl.reh at he ⊢
  by_cases h1 : t.p.reE ⟨kk, kn, ks⟩ ≠ 0
  · rw [if_pos h1] at he ⊢
    simp only at he ⊢
    refine (rehash_no1 a s b g hp t kk kn ks hok h64 er he (by rw [← he]; exact h1) w H).mono fun e w' ⟨h2, h3⟩ => ⟨h2, s, b, g, F, H.below h3, HH.below h3, below_kp h3, fun q hq => .inl hq, fun q hq => .inl hq, hF⟩
  · rw [if_neg h1] at he ⊢
    have h0 : t.p.reE ⟨kk, kn, ks⟩ = 0 := by simpa using h1
    obtain ⟨ea, en, -, hm6, hn6, hpw, -, -⟩ := hre h0
    by_cases h2 : layE hs (t.p.reA ⟨kk, kn, ks⟩) (t.p.reN ⟨kk, kn, ks⟩) ≠ 0
    · rw [if_pos h2] at he ⊢
      simp only at he ⊢
      refine (rehash_no2 F a s b g hp t hs kk kn ks hok h64 h0 _ _ ea en hn6 hsz er he (by rw [← he]; exact h2) w H HH).mono fun e w' ⟨h3, F', h4, h5, h6⟩ => ⟨h3, s, b, g, F', H.kp h5 hF, h4, h5.mono (fun q hq => .inl (.inr hq)), fun q hq => .inl hq, h6, fun q hq h => (h6 q h).elim (hF q hq) (fun h => by have := H.pt.lt hq; omega)⟩
    · rw [if_neg h2] at he ⊢
      have h2' : layE hs (t.p.reA ⟨kk, kn, ks⟩) (t.p.reN ⟨kk, kn, ks⟩) = 0 := by simpa using h2
      have hl1 : hs.roomE (t.p.reA ⟨kk, kn, ks⟩) = 0 := by
        unfold layE at h2'
        by_cases h3 : hs.roomE (t.p.reA ⟨kk, kn, ks⟩) ≠ 0
        · rw [if_pos h3] at h2'; exact absurd h2' h3
        · simpa using h3
      have hl2 : (hs.take (t.p.reA ⟨kk, kn, ks⟩)).roomE (3 * (t.p.reN ⟨kk, kn, ks⟩ : Nat)) = 0 := by
        unfold layE at h2'
        rw [if_neg (by simp [hl1])] at h2'
        exact h2'
      have hlay : layH hs (t.p.reA ⟨kk, kn, ks⟩) (t.p.reN ⟨kk, kn, ks⟩) = (hs.take (t.p.reA ⟨kk, kn, ks⟩)).take (3 * (t.p.reN ⟨kk, kn, ks⟩ : Nat)) := by
        unfold layH; rw [if_neg (by simp [hl1]), if_neg (by simp [hl2])]
      simp only at he ⊢
      rw [hlay]
      subst he
      exact rehash_yes F a s b g hp t hs kk kn ks hok h64 h0 _ _ ea en hm6 hn6 hpw hsz hl1 hl2 hid.1 hid.2 hF w H HH
set_option maxRecDepth 100000 in
set_option maxHeartbeats 800000 in
theorem tab_Set_bad (hc : okV ⟨kk, kn, ks⟩ = false ∨ okV ⟨kk, kn, ks⟩ = true ∧ okV ⟨vk, vn, vs⟩ = false) (w : World) (H : TabIn w a s b g hp t) :
    Calls Tryz.prog 12 #[.pointer (some ⟨a, 0, none⟩), .agg #[.int .i64 kk, .int .i64 kn, .string ks], .agg #[.int .i64 vk, .int .i64 vn, .string vs]] w fun e w' => e = .returned (.int .i64 2) ∧ Below w.heap.size w w' := by
  have HI := Lib.hid H
  have HBa : Hid (Below w.heap.size w ((w.alloc (.cells #[.int .i64 kk, .int .i64 kn, .string ks] 35)).alloc (.cells #[.int .i64 vk, .int .i64 vn, .string vs] 35))) := Lib.hid (((Below.refl _ w).alloc (Nat.le_refl _) _).alloc (by simp [go_sem]) _)
  have HK := Lib.hid ((C3.new w kk kn ks).alloc (.cells #[.int .i64 vk, .int .i64 vn, .string vs] 35))
  have HV : Hid (C3 ((w.alloc (.cells #[.int .i64 kk, .int .i64 kn, .string ks] 35)).alloc (.cells #[.int .i64 vk, .int .i64 vn, .string vs] 35)) (w.heap.size + 1) 0 ⟨vk, vn, vs⟩) := Lib.hid (by have := C3.new (w.alloc (.cells #[.int .i64 kk, .int .i64 kn, .string ks] 35)) vk vn vs; rw [World.size_alloc] at this; exact this)
  clear H
  rcases hc with h1 | ⟨h1, h2⟩
  · have H1 : Hid (errForm (okV ⟨kk, kn, ks⟩) = 2) := Lib.hid (by rw [h1]; rfl)
    clear h1
    go_enter Tryz.func12, Tryz.ntmps12
    go_wp2_with fail
    (with_reducible refine (box_Check_c kk kn ks 2 H1.out _).mono ?_)
    rintro e w1 ⟨rfl, hb1⟩
    go_wp2
    go_ret
    exact ⟨rfl, HBa.out.trans (hb1.mono HBa.out.size)⟩
  · have H1 : Hid (errForm (okV ⟨kk, kn, ks⟩) = 0) := Lib.hid (by rw [h1]; rfl)
    have H2 : Hid (errForm (okV ⟨vk, vn, vs⟩) = 2) := Lib.hid (by rw [h2]; rfl)
    clear h1 h2
    go_enter Tryz.func12, Tryz.ntmps12
    go_wp2_with fail
    (with_reducible refine (box_Check_c kk kn ks 0 H1.out _).mono ?_)
    rintro e w1 ⟨rfl, hb1⟩
    have HV1 := Lib.hid (HV.out.below hb1 HV.out.lt)
    have HB1 := Lib.hid (HBa.out.trans (hb1.mono (HBa.out.size)))
    obtain ⟨y0, y1, y2, -, -⟩ := HV1.out
    simp only [Nat.zero_add] at y0 y1 y2
    clear hb1
    go_wp2_with fail
    (with_reducible refine (box_Check_c vk vn vs 2 H2.out _).mono ?_)
    rintro e w2 ⟨rfl, hb2⟩
    go_wp2
    go_ret
    exact ⟨rfl, HB1.out.trans (hb2.mono HB1.out.size)⟩
set_option maxRecDepth 100000 in
set_option maxHeartbeats 800000 in
theorem tab_Set_first (hk : okV ⟨kk, kn, ks⟩ = true) (hv : okV ⟨vk, vn, vs⟩ = true) (hok : t.p.ok) (er : Int) (he : (t.p.put ⟨kk, kn, ks⟩ ⟨vk, vn, vs⟩).2.2 = er) (h12 : er ≠ 12) (w : World) (H : TabIn w a s b g hp t) :
    Calls Tryz.prog 12 #[.pointer (some ⟨a, 0, none⟩), .agg #[.int .i64 kk, .int .i64 kn, .string ks], .agg #[.int .i64 vk, .int .i64 vn, .string vs]] w fun e w' => e = .returned (.int .i64 er) ∧ TabIn w' a s b g hp (t.tried ⟨kk, kn, ks⟩ ⟨vk, vn, vs⟩) ∧ Kp (PB a s b g) w w' := by
  have HI := Lib.hid H
  have HBa : Hid (Below w.heap.size w ((w.alloc (.cells #[.int .i64 kk, .int .i64 kn, .string ks] 35)).alloc (.cells #[.int .i64 vk, .int .i64 vn, .string vs] 35))) := Lib.hid (((Below.refl _ w).alloc (Nat.le_refl _) _).alloc (by simp [go_sem]) _)
  have HK := Lib.hid ((C3.new w kk kn ks).alloc (.cells #[.int .i64 vk, .int .i64 vn, .string vs] 35))
  have HV : Hid (C3 ((w.alloc (.cells #[.int .i64 kk, .int .i64 kn, .string ks] 35)).alloc (.cells #[.int .i64 vk, .int .i64 vn, .string vs] 35)) (w.heap.size + 1) 0 ⟨vk, vn, vs⟩) := Lib.hid (by have := C3.new (w.alloc (.cells #[.int .i64 kk, .int .i64 kn, .string ks] 35)) vk vn vs; rw [World.size_alloc] at this; exact this)
  have H1 : Hid (errForm (okV ⟨kk, kn, ks⟩) = 0) := Lib.hid (by rw [hk]; rfl)
  have H2 : Hid (errForm (okV ⟨vk, vn, vs⟩) = 0) := Lib.hid (by rw [hv]; rfl)
  have HOK := Lib.hid hok
  have NK : Hid (¬ PS s b g w.heap.size) := Lib.hid (fun h => by have := H.pt.lt (PS_PB h); omega)
  have NV : Hid (¬ PS s b g (w.heap.size + 1)) := Lib.hid (fun h => by have := H.pt.lt (PS_PB h); omega)
  obtain ⟨rd, hrd⟩ : ∃ rd, (t.p.put ⟨kk, kn, ks⟩ ⟨vk, vn, vs⟩).2.1 = rd := ⟨_, rfl⟩
  have HRD := Lib.hid hrd
  have HER := Lib.hid he
  have d12 : (er == 12) = false := by simpa using h12
  have d12' : (er != 12) = true := by simpa using h12
  unfold Tbl.tried
  rw [hrd]
  clear H hk hv hok hrd he h12
  go_enter Tryz.func12, Tryz.ntmps12
  go_wp2_with fail
  (with_reducible refine (box_Check_c kk kn ks 0 H1.out _).mono ?_)
  rintro e w1 ⟨rfl, hb1⟩
  have HV1 := Lib.hid (HV.out.below hb1 HV.out.lt)
  have HK1 := Lib.hid (HK.out.below hb1 HK.out.lt)
  have HB1 := Lib.hid (HBa.out.trans (hb1.mono (HBa.out.size)))
  obtain ⟨y0, y1, y2, -, -⟩ := HV1.out
  simp only [Nat.zero_add] at y0 y1 y2
  clear hb1
  go_wp2_with fail
  (with_reducible refine (box_Check_c vk vn vs 0 H2.out _).mono ?_)
  rintro e w2 ⟨rfl, hb2⟩
  have HV2 := Lib.hid (HV1.out.below hb2 HV1.out.lt)
  have HK2 := Lib.hid (HK1.out.below hb2 HK1.out.lt)
  have HB2 := Lib.hid (HB1.out.trans (hb2.mono (HB1.out.size)))
  have HI2 := Lib.hid (HI.out.below HB2.out)
  have HD2 := Lib.hid ((Below.refl w2.heap.size w2).drew)
  clear hb2 y0 y1 y2
  go_wp2
  have HS2 := Lib.hid (show w2.drew.cell? ⟨w.heap.size, 0, none⟩ = some (.int .i64 kk) ∧ w2.drew.cell? ⟨w.heap.size, 1, none⟩ = some (.int .i64 kn) ∧ w2.drew.cell? ⟨w.heap.size, 2, none⟩ = some (.string ks) ∧ w2.drew.cell? ⟨w.heap.size + 1, 0, none⟩ = some (.int .i64 vk) ∧ w2.drew.cell? ⟨w.heap.size + 1, 1, none⟩ = some (.int .i64 vn) ∧ w2.drew.cell? ⟨w.heap.size + 1, 2, none⟩ = some (.string vs) from ⟨HK2.out.c0, HK2.out.c1, HK2.out.c2, HV2.out.c0, HV2.out.c1, HV2.out.c2⟩)
  go_region_held3 (fun wq => wq.cell? ⟨w.heap.size, 0, none⟩ = some (.int .i64 kk) ∧ wq.cell? ⟨w.heap.size, 1, none⟩ = some (.int .i64 kn) ∧ wq.cell? ⟨w.heap.size, 2, none⟩ = some (.string ks) ∧ wq.cell? ⟨w.heap.size + 1, 0, none⟩ = some (.int .i64 vk) ∧ wq.cell? ⟨w.heap.size + 1, 1, none⟩ = some (.int .i64 vn) ∧ wq.cell? ⟨w.heap.size + 1, 2, none⟩ = some (.string vs))
    (first | exact HS2.out | assumption | exact ⟨(HK3.out.cell_far HK2.out.lt NK.out).trans HS2.out.1, (HK3.out.cell_far HK2.out.lt NK.out).trans HS2.out.2.1, (HK3.out.cell_far HK2.out.lt NK.out).trans HS2.out.2.2.1, (HK3.out.cell_far HV2.out.lt NV.out).trans HS2.out.2.2.2.1, (HK3.out.cell_far HV2.out.lt NV.out).trans HS2.out.2.2.2.2.1, (HK3.out.cell_far HV2.out.lt NV.out).trans HS2.out.2.2.2.2.2⟩)
    (first | (go_at_call 53; (with_reducible refine (part_putS a s b g t.p kk kn ks vk vn vs HOK.out rd er HRD.out HER.out w2.drew (HI2.out.pt.below HD2.out)).mono ?_); rintro e w3 ⟨rfl, h3, hk3⟩; have HP3 := Lib.hid h3; have HK3 := Lib.hid hk3; clear h3 hk3))
  have HKS := Lib.hid (((Kp.refl (PS s b g) w2).below HD2.out).trans HK3.out (fun q hq => .inl hq))
  have HT3 := Lib.hid (HI2.out.put HP3.out HKS.out)
  have c6 := HT3.out.c6
  have f6 := HT3.out.pt.fa 6
  have HKK3 := Lib.hid ((below_kp HB2.out : Kp (PB a s b g) w w2).trans HKS.out (fun q hq => .inl (PS_PB hq)))
  change w3.cell? ⟨a, 6, none⟩ = some (.int .i64 t.pr) at c6
  go_wp2
  go_ret
  exact ⟨rfl, HT3.out.probed _, HKK3.out.set _ (.inl (.inl rfl)) _⟩
theorem TG.ahead {F : Nat → Prop} {a s b g hp : Nat} {w W w' : World} {t' : Tbl} {hs' : HS} (hk : Kp (fun q => PB a s b g q ∨ F q) w W) (h : TG F a s b g W hp t' hs' w') : TG F a s b g w hp t' hs' w' := by
  obtain ⟨s', b', g', F', h1, h2, h3, h4, h5, h6⟩ := h
  exact ⟨s', b', g', F', h1, h2, hk.trans h3 (fun q hq => .inl hq), fun q hq => (h4 q hq).imp id (fun h => Nat.le_trans hk.size h), fun q hq => (h5 q hq).imp id (fun h => Nat.le_trans hk.size h), h6⟩
set_option maxRecDepth 100000 in
set_option maxHeartbeats 800000 in
theorem tab_Set_reh_no (hk : okV ⟨kk, kn, ks⟩ = true) (hv : okV ⟨vk, vn, vs⟩ = true) (hk0 : kk ≠ 0) (hok : t.p.ok) (h64 : In64 kn) (he : (t.p.put ⟨kk, kn, ks⟩ ⟨vk, vn, vs⟩).2.2 = 12) (hsz : hs.sizes.length ≤ 800000) (hid : t.p.ids) (hF : ∀ q, PB a s b g q → ¬ F q) (er : Int) (hr : ((t.tried ⟨kk, kn, ks⟩ ⟨vk, vn, vs⟩).reh hs ⟨kk, kn, ks⟩).2.2 = er) (h0 : er ≠ 0) (w : World) (H : TabIn w a s b g hp t) (HH : HeapAt F w hp hs) :
    Calls Tryz.prog 12 #[.pointer (some ⟨a, 0, none⟩), .agg #[.int .i64 kk, .int .i64 kn, .string ks], .agg #[.int .i64 vk, .int .i64 vn, .string vs]] w fun e w' => e = .returned (.int .i64 er) ∧ TG F a s b g w hp ((t.tried ⟨kk, kn, ks⟩ ⟨vk, vn, vs⟩).reh hs ⟨kk, kn, ks⟩).1 ((t.tried ⟨kk, kn, ks⟩ ⟨vk, vn, vs⟩).reh hs ⟨kk, kn, ks⟩).2.1 w' := by
  obtain ⟨o1, o2, o3, o4, o5, -, o6⟩ := PT.put_is hok hk hv hk0 h64
  have hfull : ¬ (t.p.put ⟨kk, kn, ks⟩ ⟨vk, vn, vs⟩).1.inB ⟨kk, kn, ks⟩ ∧ ∀ i, (t.p.put ⟨kk, kn, ks⟩ ⟨vk, vn, vs⟩).1.h.occ i → (t.p.put ⟨kk, kn, ks⟩ ⟨vk, vn, vs⟩).1.h.key i ≠ ⟨kk, kn, ks⟩ := by
    rcases o6 with ⟨-, q1, -, q2, -, -, q3, -⟩ | ⟨q1, -⟩
    · refine ⟨fun h => q1 ((PT.inB_sn o2 _).1 h), fun i hi => ?_⟩
      unfold PH.occ at hi
      rw [q3] at hi ⊢
      exact q2 i hi
    · rw [he] at q1; simp at q1
  have HFU : Hid (¬ (t.tried ⟨kk, kn, ks⟩ ⟨vk, vn, vs⟩).p.inB ⟨kk, kn, ks⟩ ∧ ∀ i, (t.tried ⟨kk, kn, ks⟩ ⟨vk, vn, vs⟩).p.h.occ i → (t.tried ⟨kk, kn, ks⟩ ⟨vk, vn, vs⟩).p.h.key i ≠ ⟨kk, kn, ks⟩) := Lib.hid hfull
  have HO1 : Hid ((t.tried ⟨kk, kn, ks⟩ ⟨vk, vn, vs⟩).p.ok) := Lib.hid o1
  have HPA : Hid (PB a s b g a) := Lib.hid (.inl rfl)
  have HIDS : Hid ((t.tried ⟨kk, kn, ks⟩ ⟨vk, vn, vs⟩).p.ids) := Lib.hid (by show In64 _ ∧ In64 _; rw [show (t.tried ⟨kk, kn, ks⟩ ⟨vk, vn, vs⟩).p.sAt = t.p.sAt from o3, show (t.tried ⟨kk, kn, ks⟩ ⟨vk, vn, vs⟩).p.nAt = t.p.nAt from o4]; exact hid)
  have HFF := Lib.hid hF; have HHH := Lib.hid HH; have HSZ := Lib.hid hsz; have H64 := Lib.hid h64; have HKV := Lib.hid hk; have HVV := Lib.hid hv; have HK0 := Lib.hid hk0
  have HRR := Lib.hid hr
  have HER := Lib.hid he
  have HFK : Hid (¬ F w.heap.size ∧ ¬ F (w.heap.size + 1)) := Lib.hid ⟨fun h => by have := HH.lt _ h; omega, fun h => by have := HH.lt _ h; omega⟩
  have HI := Lib.hid H
  have HBa : Hid (Below w.heap.size w ((w.alloc (.cells #[.int .i64 kk, .int .i64 kn, .string ks] 35)).alloc (.cells #[.int .i64 vk, .int .i64 vn, .string vs] 35))) := Lib.hid (((Below.refl _ w).alloc (Nat.le_refl _) _).alloc (by simp [go_sem]) _)
  have HK := Lib.hid ((C3.new w kk kn ks).alloc (.cells #[.int .i64 vk, .int .i64 vn, .string vs] 35))
  have HV : Hid (C3 ((w.alloc (.cells #[.int .i64 kk, .int .i64 kn, .string ks] 35)).alloc (.cells #[.int .i64 vk, .int .i64 vn, .string vs] 35)) (w.heap.size + 1) 0 ⟨vk, vn, vs⟩) := Lib.hid (by have := C3.new (w.alloc (.cells #[.int .i64 kk, .int .i64 kn, .string ks] 35)) vk vn vs; rw [World.size_alloc] at this; exact this)
  have H1 : Hid (errForm (okV ⟨kk, kn, ks⟩) = 0) := Lib.hid (by rw [hk]; rfl)
  have H2 : Hid (errForm (okV ⟨vk, vn, vs⟩) = 0) := Lib.hid (by rw [hv]; rfl)
  have HOK := Lib.hid hok
  have NK : Hid (¬ PS s b g w.heap.size) := Lib.hid (fun h => by have := H.pt.lt (PS_PB h); omega)
  have NV : Hid (¬ PS s b g (w.heap.size + 1)) := Lib.hid (fun h => by have := H.pt.lt (PS_PB h); omega)
  obtain ⟨rd, hrd⟩ : ∃ rd, (t.p.put ⟨kk, kn, ks⟩ ⟨vk, vn, vs⟩).2.1 = rd := ⟨_, rfl⟩
  have HRD := Lib.hid hrd
  have e0 : (er == 0) = false := by simpa using h0
  have e0' : (er != 0) = true := by simpa using h0
  clear H hk hv hok hrd he o1 o2 o3 o4 o5 o6 hfull hid hF HH hsz h64 hr h0 hk0
  go_enter Tryz.func12, Tryz.ntmps12
  go_wp2_with fail
  (with_reducible refine (box_Check_c kk kn ks 0 H1.out _).mono ?_)
  rintro e w1 ⟨rfl, hb1⟩
  have HV1 := Lib.hid (HV.out.below hb1 HV.out.lt)
  have HK1 := Lib.hid (HK.out.below hb1 HK.out.lt)
  have HB1 := Lib.hid (HBa.out.trans (hb1.mono (HBa.out.size)))
  obtain ⟨y0, y1, y2, -, -⟩ := HV1.out
  simp only [Nat.zero_add] at y0 y1 y2
  clear hb1
  go_wp2_with fail
  (with_reducible refine (box_Check_c vk vn vs 0 H2.out _).mono ?_)
  rintro e w2 ⟨rfl, hb2⟩
  have HV2 := Lib.hid (HV1.out.below hb2 HV1.out.lt)
  have HK2 := Lib.hid (HK1.out.below hb2 HK1.out.lt)
  have HB2 := Lib.hid (HB1.out.trans (hb2.mono (HB1.out.size)))
  have HI2 := Lib.hid (HI.out.below HB2.out)
  have HD2 := Lib.hid ((Below.refl w2.heap.size w2).drew)
  clear hb2 y0 y1 y2
  go_wp2
  have HS2 := Lib.hid (show w2.drew.cell? ⟨w.heap.size, 0, none⟩ = some (.int .i64 kk) ∧ w2.drew.cell? ⟨w.heap.size, 1, none⟩ = some (.int .i64 kn) ∧ w2.drew.cell? ⟨w.heap.size, 2, none⟩ = some (.string ks) ∧ w2.drew.cell? ⟨w.heap.size + 1, 0, none⟩ = some (.int .i64 vk) ∧ w2.drew.cell? ⟨w.heap.size + 1, 1, none⟩ = some (.int .i64 vn) ∧ w2.drew.cell? ⟨w.heap.size + 1, 2, none⟩ = some (.string vs) from ⟨HK2.out.c0, HK2.out.c1, HK2.out.c2, HV2.out.c0, HV2.out.c1, HV2.out.c2⟩)
  go_region_held3 (fun wq => wq.cell? ⟨w.heap.size, 0, none⟩ = some (.int .i64 kk) ∧ wq.cell? ⟨w.heap.size, 1, none⟩ = some (.int .i64 kn) ∧ wq.cell? ⟨w.heap.size, 2, none⟩ = some (.string ks) ∧ wq.cell? ⟨w.heap.size + 1, 0, none⟩ = some (.int .i64 vk) ∧ wq.cell? ⟨w.heap.size + 1, 1, none⟩ = some (.int .i64 vn) ∧ wq.cell? ⟨w.heap.size + 1, 2, none⟩ = some (.string vs))
    (first | exact HS2.out | assumption | exact ⟨(HK3.out.cell_far HK2.out.lt NK.out).trans HS2.out.1, (HK3.out.cell_far HK2.out.lt NK.out).trans HS2.out.2.1, (HK3.out.cell_far HK2.out.lt NK.out).trans HS2.out.2.2.1, (HK3.out.cell_far HV2.out.lt NV.out).trans HS2.out.2.2.2.1, (HK3.out.cell_far HV2.out.lt NV.out).trans HS2.out.2.2.2.2.1, (HK3.out.cell_far HV2.out.lt NV.out).trans HS2.out.2.2.2.2.2⟩)
    (first | (go_at_call 53; (with_reducible refine (part_putS a s b g t.p kk kn ks vk vn vs HOK.out rd 12 HRD.out HER.out w2.drew (HI2.out.pt.below HD2.out)).mono ?_); rintro e w3 ⟨rfl, h3, hk3⟩; have HP3 := Lib.hid h3; have HK3 := Lib.hid hk3; clear h3 hk3))
  have HKS := Lib.hid (((Kp.refl (PS s b g) w2).below HD2.out).trans HK3.out (fun q hq => .inl hq))
  have HT3 := Lib.hid (HI2.out.put HP3.out HKS.out)
  have c6 := HT3.out.c6
  have f6 := HT3.out.pt.fa 6
  have HKK3 := Lib.hid ((below_kp HB2.out : Kp (PB a s b g) w w2).trans HKS.out (fun q hq => .inl (PS_PB hq)))
  change w3.cell? ⟨a, 6, none⟩ = some (.int .i64 t.pr) at c6
  have HH2 := Lib.hid (HHH.out.below HB2.out)
  have HH3 := Lib.hid (HH2.out.kp HKS.out (fun q hq h => HFF.out q (PS_PB h) hq))
  have HK3' := Lib.hid (HK2.out.kp HKS.out NK.out)
  have HV3' := Lib.hid (HV2.out.kp HKS.out NV.out)
  have ra : ¬ (w.heap.size = a) := fun e => absurd HI.out.pt.la (by omega)
  have ra' : ¬ (a = w.heap.size) := fun e => ra e.symm
  have HRA := Lib.hid ra
  obtain ⟨x0, x1, x2, -, -⟩ := HK3'.out
  simp only [Nat.zero_add] at x0 x1 x2
  go_wp2_with fail
  have HSET := Lib.hid ((Kp.refl (fun q => q = a) w3).set ⟨a, 6, none⟩ (.inl rfl) (.int .i64 (wrap64 (t.pr + rd))))
  have HT5 : Hid (TabIn (w3.setCell ⟨a, 6, none⟩ (.int .i64 (wrap64 (t.pr + rd)))) a s b g hp (t.tried ⟨kk, kn, ks⟩ ⟨vk, vn, vs⟩)) := Lib.hid (by have := HT3.out.probed (wrap64 (t.pr + rd)); unfold Tbl.tried; rw [HRD.out]; exact this)
  have HH5 := Lib.hid (HH3.out.kp HSET.out (fun q hq e => HFF.out a HPA.out (e ▸ hq)))
  (with_reducible refine (tab_rehash F a s b g hp (t.tried ⟨kk, kn, ks⟩ ⟨vk, vn, vs⟩) hs kk kn ks HO1.out HKV.out H64.out HFU.out.1 HFU.out.2 HSZ.out HIDS.out HFF.out er HRR.out _ HT5.out HH5.out).mono ?_)
  rintro e w6 ⟨rfl, hg6⟩
  have HG6 := Lib.hid (TG.ahead ((HKK3.out.set ⟨a, 6, none⟩ (.inl (.inl rfl)) (.int .i64 (wrap64 (t.pr + rd)))).mono (fun q hq => .inl (.inl hq)) : Kp (fun q => PB a s b g q ∨ F q) w _) hg6)
  have HGK := Lib.hid hg6
  clear hg6 x0 x1 x2 c6 f6
  go_wp2
  go_ret
  exact ⟨rfl, HG6.out⟩
set_option maxRecDepth 100000 in
set_option maxHeartbeats 800000 in
theorem tab_Set_reh_yes (hk : okV ⟨kk, kn, ks⟩ = true) (hv : okV ⟨vk, vn, vs⟩ = true) (hk0 : kk ≠ 0) (hok : t.p.ok) (h64 : In64 kn) (he : (t.p.put ⟨kk, kn, ks⟩ ⟨vk, vn, vs⟩).2.2 = 12) (hsz : hs.sizes.length ≤ 800000) (hid : t.p.ids) (hF : ∀ q, PB a s b g q → ¬ F q) (hr : ((t.tried ⟨kk, kn, ks⟩ ⟨vk, vn, vs⟩).reh hs ⟨kk, kn, ks⟩).2.2 = 0) (er : Int) (hp2 : (((t.tried ⟨kk, kn, ks⟩ ⟨vk, vn, vs⟩).reh hs ⟨kk, kn, ks⟩).1.p.put ⟨kk, kn, ks⟩ ⟨vk, vn, vs⟩).2.2 = er) (hok2 : ((t.tried ⟨kk, kn, ks⟩ ⟨vk, vn, vs⟩).reh hs ⟨kk, kn, ks⟩).1.p.ok) (w : World) (H : TabIn w a s b g hp t) (HH : HeapAt F w hp hs) :
    Calls Tryz.prog 12 #[.pointer (some ⟨a, 0, none⟩), .agg #[.int .i64 kk, .int .i64 kn, .string ks], .agg #[.int .i64 vk, .int .i64 vn, .string vs]] w fun e w' => e = .returned (.int .i64 er) ∧ TG F a s b g w hp { ((t.tried ⟨kk, kn, ks⟩ ⟨vk, vn, vs⟩).reh hs ⟨kk, kn, ks⟩).1 with p := (((t.tried ⟨kk, kn, ks⟩ ⟨vk, vn, vs⟩).reh hs ⟨kk, kn, ks⟩).1.p.put ⟨kk, kn, ks⟩ ⟨vk, vn, vs⟩).1 } ((t.tried ⟨kk, kn, ks⟩ ⟨vk, vn, vs⟩).reh hs ⟨kk, kn, ks⟩).2.1 w' := by
  obtain ⟨o1, o2, o3, o4, o5, -, o6⟩ := PT.put_is hok hk hv hk0 h64
  have hfull : ¬ (t.p.put ⟨kk, kn, ks⟩ ⟨vk, vn, vs⟩).1.inB ⟨kk, kn, ks⟩ ∧ ∀ i, (t.p.put ⟨kk, kn, ks⟩ ⟨vk, vn, vs⟩).1.h.occ i → (t.p.put ⟨kk, kn, ks⟩ ⟨vk, vn, vs⟩).1.h.key i ≠ ⟨kk, kn, ks⟩ := by
    rcases o6 with ⟨-, q1, -, q2, -, -, q3, -⟩ | ⟨q1, -⟩
    · refine ⟨fun h => q1 ((PT.inB_sn o2 _).1 h), fun i hi => ?_⟩
      unfold PH.occ at hi
      rw [q3] at hi ⊢
      exact q2 i hi
    · rw [he] at q1; simp at q1
  have HFU : Hid (¬ (t.tried ⟨kk, kn, ks⟩ ⟨vk, vn, vs⟩).p.inB ⟨kk, kn, ks⟩ ∧ ∀ i, (t.tried ⟨kk, kn, ks⟩ ⟨vk, vn, vs⟩).p.h.occ i → (t.tried ⟨kk, kn, ks⟩ ⟨vk, vn, vs⟩).p.h.key i ≠ ⟨kk, kn, ks⟩) := Lib.hid hfull
  have HO1 : Hid ((t.tried ⟨kk, kn, ks⟩ ⟨vk, vn, vs⟩).p.ok) := Lib.hid o1
  have HPA : Hid (PB a s b g a) := Lib.hid (.inl rfl)
  have HIDS : Hid ((t.tried ⟨kk, kn, ks⟩ ⟨vk, vn, vs⟩).p.ids) := Lib.hid (by show In64 _ ∧ In64 _; rw [show (t.tried ⟨kk, kn, ks⟩ ⟨vk, vn, vs⟩).p.sAt = t.p.sAt from o3, show (t.tried ⟨kk, kn, ks⟩ ⟨vk, vn, vs⟩).p.nAt = t.p.nAt from o4]; exact hid)
  have HFF := Lib.hid hF; have HHH := Lib.hid HH; have HSZ := Lib.hid hsz; have H64 := Lib.hid h64; have HKV := Lib.hid hk; have HVV := Lib.hid hv; have HK0 := Lib.hid hk0
  have HRR := Lib.hid hr
  have HER := Lib.hid he
  have HFK : Hid (¬ F w.heap.size ∧ ¬ F (w.heap.size + 1)) := Lib.hid ⟨fun h => by have := HH.lt _ h; omega, fun h => by have := HH.lt _ h; omega⟩
  have HI := Lib.hid H
  have HBa : Hid (Below w.heap.size w ((w.alloc (.cells #[.int .i64 kk, .int .i64 kn, .string ks] 35)).alloc (.cells #[.int .i64 vk, .int .i64 vn, .string vs] 35))) := Lib.hid (((Below.refl _ w).alloc (Nat.le_refl _) _).alloc (by simp [go_sem]) _)
  have HK := Lib.hid ((C3.new w kk kn ks).alloc (.cells #[.int .i64 vk, .int .i64 vn, .string vs] 35))
  have HV : Hid (C3 ((w.alloc (.cells #[.int .i64 kk, .int .i64 kn, .string ks] 35)).alloc (.cells #[.int .i64 vk, .int .i64 vn, .string vs] 35)) (w.heap.size + 1) 0 ⟨vk, vn, vs⟩) := Lib.hid (by have := C3.new (w.alloc (.cells #[.int .i64 kk, .int .i64 kn, .string ks] 35)) vk vn vs; rw [World.size_alloc] at this; exact this)
  have H1 : Hid (errForm (okV ⟨kk, kn, ks⟩) = 0) := Lib.hid (by rw [hk]; rfl)
  have H2 : Hid (errForm (okV ⟨vk, vn, vs⟩) = 0) := Lib.hid (by rw [hv]; rfl)
  have HOK := Lib.hid hok
  have NK : Hid (¬ PS s b g w.heap.size) := Lib.hid (fun h => by have := H.pt.lt (PS_PB h); omega)
  have NV : Hid (¬ PS s b g (w.heap.size + 1)) := Lib.hid (fun h => by have := H.pt.lt (PS_PB h); omega)
  obtain ⟨rd, hrd⟩ : ∃ rd, (t.p.put ⟨kk, kn, ks⟩ ⟨vk, vn, vs⟩).2.1 = rd := ⟨_, rfl⟩
  have HRD := Lib.hid hrd
  have HP2 := Lib.hid hp2; have HOK2 := Lib.hid hok2
  obtain ⟨t6, ht6⟩ : ∃ t6, ((t.tried ⟨kk, kn, ks⟩ ⟨vk, vn, vs⟩).reh hs ⟨kk, kn, ks⟩).1 = t6 := ⟨_, rfl⟩
  obtain ⟨hs6, hhs6⟩ : ∃ hs6, ((t.tried ⟨kk, kn, ks⟩ ⟨vk, vn, vs⟩).reh hs ⟨kk, kn, ks⟩).2.1 = hs6 := ⟨_, rfl⟩
  have HT6E := Lib.hid ht6; have HS6E := Lib.hid hhs6
  rw [ht6] at HP2 HOK2
  rw [ht6, hhs6]
  obtain ⟨rd2, hrd2⟩ : ∃ rd2, (t6.p.put ⟨kk, kn, ks⟩ ⟨vk, vn, vs⟩).2.1 = rd2 := ⟨_, rfl⟩
  have HRD2 := Lib.hid hrd2
  clear H hk hv hok hrd he o1 o2 o3 o4 o5 o6 hfull hid hF HH hsz h64 hr hk0 hp2 hok2 ht6 hhs6 hrd2
  go_enter Tryz.func12, Tryz.ntmps12
  go_wp2_with fail
  (with_reducible refine (box_Check_c kk kn ks 0 H1.out _).mono ?_)
  rintro e w1 ⟨rfl, hb1⟩
  have HV1 := Lib.hid (HV.out.below hb1 HV.out.lt)
  have HK1 := Lib.hid (HK.out.below hb1 HK.out.lt)
  have HB1 := Lib.hid (HBa.out.trans (hb1.mono (HBa.out.size)))
  obtain ⟨y0, y1, y2, -, -⟩ := HV1.out
  simp only [Nat.zero_add] at y0 y1 y2
  clear hb1
  go_wp2_with fail
  (with_reducible refine (box_Check_c vk vn vs 0 H2.out _).mono ?_)
  rintro e w2 ⟨rfl, hb2⟩
  have HV2 := Lib.hid (HV1.out.below hb2 HV1.out.lt)
  have HK2 := Lib.hid (HK1.out.below hb2 HK1.out.lt)
  have HB2 := Lib.hid (HB1.out.trans (hb2.mono (HB1.out.size)))
  have HI2 := Lib.hid (HI.out.below HB2.out)
  have HD2 := Lib.hid ((Below.refl w2.heap.size w2).drew)
  clear hb2 y0 y1 y2
  go_wp2
  have HS2 := Lib.hid (show w2.drew.cell? ⟨w.heap.size, 0, none⟩ = some (.int .i64 kk) ∧ w2.drew.cell? ⟨w.heap.size, 1, none⟩ = some (.int .i64 kn) ∧ w2.drew.cell? ⟨w.heap.size, 2, none⟩ = some (.string ks) ∧ w2.drew.cell? ⟨w.heap.size + 1, 0, none⟩ = some (.int .i64 vk) ∧ w2.drew.cell? ⟨w.heap.size + 1, 1, none⟩ = some (.int .i64 vn) ∧ w2.drew.cell? ⟨w.heap.size + 1, 2, none⟩ = some (.string vs) from ⟨HK2.out.c0, HK2.out.c1, HK2.out.c2, HV2.out.c0, HV2.out.c1, HV2.out.c2⟩)
  go_region_held3 (fun wq => wq.cell? ⟨w.heap.size, 0, none⟩ = some (.int .i64 kk) ∧ wq.cell? ⟨w.heap.size, 1, none⟩ = some (.int .i64 kn) ∧ wq.cell? ⟨w.heap.size, 2, none⟩ = some (.string ks) ∧ wq.cell? ⟨w.heap.size + 1, 0, none⟩ = some (.int .i64 vk) ∧ wq.cell? ⟨w.heap.size + 1, 1, none⟩ = some (.int .i64 vn) ∧ wq.cell? ⟨w.heap.size + 1, 2, none⟩ = some (.string vs))
    (first | exact HS2.out | assumption | exact ⟨(HK3.out.cell_far HK2.out.lt NK.out).trans HS2.out.1, (HK3.out.cell_far HK2.out.lt NK.out).trans HS2.out.2.1, (HK3.out.cell_far HK2.out.lt NK.out).trans HS2.out.2.2.1, (HK3.out.cell_far HV2.out.lt NV.out).trans HS2.out.2.2.2.1, (HK3.out.cell_far HV2.out.lt NV.out).trans HS2.out.2.2.2.2.1, (HK3.out.cell_far HV2.out.lt NV.out).trans HS2.out.2.2.2.2.2⟩)
    (first | (go_at_call 53; (with_reducible refine (part_putS a s b g t.p kk kn ks vk vn vs HOK.out rd 12 HRD.out HER.out w2.drew (HI2.out.pt.below HD2.out)).mono ?_); rintro e w3 ⟨rfl, h3, hk3⟩; have HP3 := Lib.hid h3; have HK3 := Lib.hid hk3; clear h3 hk3))
  have HKS := Lib.hid (((Kp.refl (PS s b g) w2).below HD2.out).trans HK3.out (fun q hq => .inl hq))
  have HT3 := Lib.hid (HI2.out.put HP3.out HKS.out)
  have c6 := HT3.out.c6
  have f6 := HT3.out.pt.fa 6
  have HKK3 := Lib.hid ((below_kp HB2.out : Kp (PB a s b g) w w2).trans HKS.out (fun q hq => .inl (PS_PB hq)))
  change w3.cell? ⟨a, 6, none⟩ = some (.int .i64 t.pr) at c6
  have HH2 := Lib.hid (HHH.out.below HB2.out)
  have HH3 := Lib.hid (HH2.out.kp HKS.out (fun q hq h => HFF.out q (PS_PB h) hq))
  have HK3' := Lib.hid (HK2.out.kp HKS.out NK.out)
  have HV3' := Lib.hid (HV2.out.kp HKS.out NV.out)
  have ra : ¬ (w.heap.size = a) := fun e => absurd HI.out.pt.la (by omega)
  have ra' : ¬ (a = w.heap.size) := fun e => ra e.symm
  have HRA := Lib.hid ra
  obtain ⟨x0, x1, x2, -, -⟩ := HK3'.out
  simp only [Nat.zero_add] at x0 x1 x2
  go_wp2_with fail
  have HSET := Lib.hid ((Kp.refl (fun q => q = a) w3).set ⟨a, 6, none⟩ (.inl rfl) (.int .i64 (wrap64 (t.pr + rd))))
  have HT5 : Hid (TabIn (w3.setCell ⟨a, 6, none⟩ (.int .i64 (wrap64 (t.pr + rd)))) a s b g hp (t.tried ⟨kk, kn, ks⟩ ⟨vk, vn, vs⟩)) := Lib.hid (by have := HT3.out.probed (wrap64 (t.pr + rd)); unfold Tbl.tried; rw [HRD.out]; exact this)
  have HH5 := Lib.hid (HH3.out.kp HSET.out (fun q hq e => HFF.out a HPA.out (e ▸ hq)))
  (with_reducible refine (tab_rehash F a s b g hp (t.tried ⟨kk, kn, ks⟩ ⟨vk, vn, vs⟩) hs kk kn ks HO1.out HKV.out H64.out HFU.out.1 HFU.out.2 HSZ.out HIDS.out HFF.out 0 HRR.out _ HT5.out HH5.out).mono ?_)
  rintro e w6 ⟨rfl, hg6⟩
  have HG6 := Lib.hid (TG.ahead ((HKK3.out.set ⟨a, 6, none⟩ (.inl (.inl rfl)) (.int .i64 (wrap64 (t.pr + rd)))).mono (fun q hq => .inl (.inl hq)) : Kp (fun q => PB a s b g q ∨ F q) w _) hg6)
  have HGK := Lib.hid hg6
  clear hg6 x0 x1 x2 c6 f6
  have hG := HGK.out
  rw [HT6E.out, HS6E.out] at hG
  obtain ⟨s', b', g', F', h1, h2, h3, h4, h5, h6⟩ := hG
  have HT6 := Lib.hid h1; have HHP6 := Lib.hid h2; have HKP6 := Lib.hid h3; have HA6 := Lib.hid h4; have HB6 := Lib.hid h5; have HC6 := Lib.hid h6
  have HKW : Hid (Kp (fun q => PB a s b g q ∨ F q) w w6) := Lib.hid (((HKK3.out.set ⟨a, 6, none⟩ (.inl (.inl rfl)) (.int .i64 (wrap64 (t.pr + rd)))).mono (fun q hq => .inl (.inl hq)) : Kp (fun q => PB a s b g q ∨ F q) w _).trans h3 (fun q hq => .inl hq))
  have HSZ5 : Hid (w.heap.size + 1 < (w3.setCell ⟨a, 6, none⟩ (.int .i64 (wrap64 (t.pr + rd)))).heap.size) := Lib.hid (by rw [sz_set]; exact HV3'.out.lt)
  have HSW5 := Lib.hid HKK3.out.size
  have HPBN : Hid (∀ q, w.heap.size ≤ q → ¬ PB a s b g q) := Lib.hid (fun q hq h => by have := HI.out.pt.lt h; omega)
  have NK7 : Hid (¬ PS s' b' g' w.heap.size) := Lib.hid (fun h => (h4 _ (PS_PB h)).elim (HPBN.out _ (Nat.le_refl _)) (fun h => by have := HSZ5.out; omega))
  have NV7 : Hid (¬ PS s' b' g' (w.heap.size + 1)) := Lib.hid (fun h => (h4 _ (PS_PB h)).elim (HPBN.out _ (by omega)) (fun h => by have := HSZ5.out; omega))
  have HK7 := Lib.hid ((HK3'.out.kp HSET.out HRA.out).kp h3 (fun h => h.elim (HPBN.out _ (Nat.le_refl _)) HFK.out.1))
  have HV7 := Lib.hid ((HV3'.out.kp HSET.out (fun e => absurd HI.out.pt.la (by omega))).kp h3 (fun h => h.elim (HPBN.out _ (by omega)) HFK.out.2))
  have HD6 := Lib.hid ((Below.refl w6.heap.size w6).drew)
  clear h1 h2 h3 h4 h5 h6 ra ra'
  go_wp2
  have HS7 := Lib.hid (show w6.drew.cell? ⟨w.heap.size, 0, none⟩ = some (.int .i64 kk) ∧ w6.drew.cell? ⟨w.heap.size, 1, none⟩ = some (.int .i64 kn) ∧ w6.drew.cell? ⟨w.heap.size, 2, none⟩ = some (.string ks) ∧ w6.drew.cell? ⟨w.heap.size + 1, 0, none⟩ = some (.int .i64 vk) ∧ w6.drew.cell? ⟨w.heap.size + 1, 1, none⟩ = some (.int .i64 vn) ∧ w6.drew.cell? ⟨w.heap.size + 1, 2, none⟩ = some (.string vs) from ⟨HK7.out.c0, HK7.out.c1, HK7.out.c2, HV7.out.c0, HV7.out.c1, HV7.out.c2⟩)
  go_region_held3 (fun wq => wq.cell? ⟨w.heap.size, 0, none⟩ = some (.int .i64 kk) ∧ wq.cell? ⟨w.heap.size, 1, none⟩ = some (.int .i64 kn) ∧ wq.cell? ⟨w.heap.size, 2, none⟩ = some (.string ks) ∧ wq.cell? ⟨w.heap.size + 1, 0, none⟩ = some (.int .i64 vk) ∧ wq.cell? ⟨w.heap.size + 1, 1, none⟩ = some (.int .i64 vn) ∧ wq.cell? ⟨w.heap.size + 1, 2, none⟩ = some (.string vs))
    (first | exact HS7.out | assumption | exact ⟨(HK8.out.cell_far HK7.out.lt NK7.out).trans HS7.out.1, (HK8.out.cell_far HK7.out.lt NK7.out).trans HS7.out.2.1, (HK8.out.cell_far HK7.out.lt NK7.out).trans HS7.out.2.2.1, (HK8.out.cell_far HV7.out.lt NV7.out).trans HS7.out.2.2.2.1, (HK8.out.cell_far HV7.out.lt NV7.out).trans HS7.out.2.2.2.2.1, (HK8.out.cell_far HV7.out.lt NV7.out).trans HS7.out.2.2.2.2.2⟩)
    (first | (go_at_call 53; (with_reducible refine (part_putS a s' b' g' t6.p kk kn ks vk vn vs HOK2.out rd2 er HRD2.out HP2.out w6.drew (HT6.out.pt.below HD6.out)).mono ?_); rintro e w7 ⟨rfl, h7, hk7⟩; have HP7 := Lib.hid h7; have HK8 := Lib.hid hk7; clear h7 hk7))
  have HKS7 := Lib.hid (((Kp.refl (PS s' b' g') w6).below HD6.out).trans HK8.out (fun q hq => .inl hq))
  have HT7 := Lib.hid (HT6.out.put HP7.out HKS7.out)
  go_wp2
  go_ret
  have hsub : ∀ q, PB a s' b' g' q → PB a s b g q ∨ w.heap.size ≤ q := fun q hq => (HA6.out q hq).imp id (fun h => by have := HSZ5.out; omega)
  refine ⟨rfl, s', b', g', F', HT7.out, HHP6.out.kp HKS7.out (fun q hq h => HC6.out q (PS_PB h) hq), HKW.out.trans HKS7.out (fun q hq => ?_), hsub, fun q hq => (HB6.out q hq).imp id (fun h => by have := HSZ5.out; omega), HC6.out⟩
  rcases hsub q (PS_PB hq) with h | h
  · exact .inl (.inl h)
  · exact .inr h
/-- Set, on a table. -/
theorem tab_Set (hok : t.p.ok) (h64 : In64 kn) (hsz : hs.sizes.length ≤ 800000) (hid : t.p.ids) (hF : ∀ q, PB a s b g q → ¬ F q) (er : Int) (he : (t.set hs ⟨kk, kn, ks⟩ ⟨vk, vn, vs⟩).2.2 = er) (w : World) (H : TabIn w a s b g hp t) (HH : HeapAt F w hp hs) :
    Calls Tryz.prog 12 #[.pointer (some ⟨a, 0, none⟩), .agg #[.int .i64 kk, .int .i64 kn, .string ks], .agg #[.int .i64 vk, .int .i64 vn, .string vs]] w fun e w' => e = .returned (.int .i64 er) ∧ TG F a s b g w hp (t.set hs ⟨kk, kn, ks⟩ ⟨vk, vn, vs⟩).1 (t.set hs ⟨kk, kn, ks⟩ ⟨vk, vn, vs⟩).2.1 w' := by
  have hsame : ∀ {w' : World} {t' : Tbl}, TabIn w' a s b g hp t' → Kp (PB a s b g) w w' → TG F a s b g w hp t' hs w' := fun h1 h2 =>
    ⟨s, b, g, F, h1, HH.kp h2 (fun q hq h => hF q h hq), h2.mono (fun q hq => .inl (.inl hq)), fun q hq => .inl hq, fun q hq => .inl hq, hF⟩
  have hset := @Tbl.set_is t hs hok ⟨kk, kn, ks⟩ ⟨vk, vn, vs⟩ h64
  unfold Tbl.set at he ⊢
  by_cases h1 : okV ⟨kk, kn, ks⟩ = false ∨ okV ⟨vk, vn, vs⟩ = false
  · rw [if_pos h1] at he ⊢
    simp only at he ⊢
    subst he
    refine (tab_Set_bad a s b g hp t kk kn ks vk vn vs ?_ w H).mono fun e w' ⟨h2, h3⟩ => ⟨h2, hsame (H.below h3) (below_kp h3)⟩
    rcases h1 with h1 | h1
    · exact .inl h1
    · cases e : okV ⟨kk, kn, ks⟩
      · exact .inl rfl
      · exact .inr ⟨rfl, h1⟩
  · rw [if_neg h1] at he ⊢
    have hk : okV ⟨kk, kn, ks⟩ = true := by cases e : okV ⟨kk, kn, ks⟩; exact absurd (.inl e) h1; rfl
    have hv : okV ⟨vk, vn, vs⟩ = true := by cases e : okV ⟨vk, vn, vs⟩; exact absurd (.inr e) h1; rfl
    by_cases h2 : (t.p.put ⟨kk, kn, ks⟩ ⟨vk, vn, vs⟩).2.2 ≠ 12
    · rw [if_pos h2] at he ⊢
      simp only at he ⊢
      exact (tab_Set_first a s b g hp t kk kn ks vk vn vs hk hv hok er he (by rw [← he]; exact h2) w H).mono fun e w' ⟨h3, h4, h5⟩ => ⟨h3, hsame h4 h5⟩
    · rw [if_neg h2] at he ⊢
      have h2' : (t.p.put ⟨kk, kn, ks⟩ ⟨vk, vn, vs⟩).2.2 = 12 := by simpa using h2
      have hk0 : kk ≠ 0 := fun e => by rw [PT.put_nil hk hv e] at h2'; simp at h2'
      by_cases h3 : ((t.tried ⟨kk, kn, ks⟩ ⟨vk, vn, vs⟩).reh hs ⟨kk, kn, ks⟩).2.2 ≠ 0
      · rw [if_pos h3] at he ⊢
        exact tab_Set_reh_no F a s b g hp t hs kk kn ks vk vn vs hk hv hk0 hok h64 h2' hsz hid hF er he (by rw [← he]; exact h3) w H HH
      · rw [if_neg h3] at he ⊢
        simp only at he ⊢
        exact tab_Set_reh_yes F a s b g hp t hs kk kn ks vk vn vs hk hv hk0 hok h64 h2' hsz hid hF (by simpa using h3) er he (Tbl.reh_ok hok hk hv hk0 h64 h2' (by simpa using h3)) w H HH
end
end Go.Proofs.YteheolefemlcgaaGreat
