/- The reference's New: its heap as the program's. -/
import Derived.Test.YteheolefemlcgaaGreatRefH4
import Derived.Test.YteheolefemlcgaaGreatTabV
namespace Go.Proofs.YteheolefemlcgaaGreat
open Go.RowKit Go.Maps
set_option linter.unusedVariables false
set_option linter.unusedSimpArgs false

theorem make_rows (n : Nat) (hn : n ≤ 65536) (W : World) : (Instr.makeSlice 125 (.int .i64 n) (.int .i64 n)).run Tryz.prog W = .ok (.slice (some ⟨W.heap.size, 0, none⟩) n n) (W.alloc (.cells (madeCells #[.slice none 0 0] (n * 1)) 128)) := by
  obtain ⟨i, hi, hz, hs, hb⟩ := info_parts Tryz.infoInts
  have h := run_make (P := Tryz.prog) W 125 128 i _ Tryz.underlying125 hi hz .i64 .i64 n n (by omega) (Int.le_refl _) (by rw [hb]; omega) (by omega)
  rw [hs] at h
  simp only [Int.toNat_natCast] at h
  exact h
theorem ref7_New (n : Nat) (hn : n ≤ 65536) (w : World) : Calls Tryz.prog 94 #[.int .i64 n] w fun e w' => ∃ b, e = .returned (.pointer (some ⟨b, 0, none⟩)) ∧ Below w.heap.size w w' := by
  have hmk := make_vals n hn
  have hmr := make_rows n hn
  clear hn
  go_enter Tryz.func94, Tryz.ntmps94
  go_wp2
  go_region
  all_goals go_wp2
  all_goals go_ret
  all_goals exact ⟨_, rfl, (((((Below.refl _ w).alloc (Nat.le_refl _) _).alloc (by simp [go_sem]) _).alloc (by simp [go_sem]; omega) _).alloc (by simp [go_sem]; omega) _).drew⟩
/-- The reference's heap behind q has turned on its own blocks and new ones. -/
structure Rp (G0 : Nat → Prop) (w0 : World) (q : Nat) (G : Nat → Prop) (r : RS) (w : World) : Prop where
  at_ : RefAt G w q r
  kp : Kp G0 w0 w
  sub : ∀ k, G k → G0 k ∨ w0.heap.size ≤ k
section
variable {G0 G : Nat → Prop} {w0 w w' : World} {q : Nat} {r r' : RS}
theorem Rp.start (H : RefAt G w q r) : Rp G w q G r w := ⟨H, Kp.refl _ _, fun _ h => .inl h⟩
theorem Rp.goes (H : Rp G0 w0 q G r w) : GoesR G0 w0 q r w := ⟨G, H.at_, H.kp, H.sub⟩
theorem Rp.call (H : Rp G0 w0 q G r w) (hg : GoesR G w q r' w') : ∃ G', Rp G0 w0 q G' r' w' := by
  obtain ⟨G', h1, h2, h3⟩ := hg
  exact ⟨G', h1, H.kp.trans h2 H.sub, fun k hk => (h3 k hk).elim (H.sub k) (fun h => .inr (Nat.le_trans H.kp.size h))⟩
theorem Rp.below (H : Rp G0 w0 q G r w) (hb : Below w.heap.size w w') : Rp G0 w0 q G r w' := ⟨H.at_.below hb, H.kp.below hb, H.sub⟩
end
theorem ref2_Ceil2 (n : Int) (hn : In64 n) (c : Int) (hc : Ws.ceil2 n = c) (z : Int) (hz : Ws.ceil2E n = z) (w : World) : Calls Tryz.prog 91 #[.int .i64 n] w fun e w' => e = .returned (.tuple #[.int .i64 c, .int .i64 z]) ∧ w = w' := by
  subst hc hz
  exact ref_Ceil2 n hn w
section
variable (G : Nat → Prop) (q : Nat) (h : HS) (r : RS) (j : Nat) (s : SR h r j) (hj : j ≤ 1000)
theorem ref8_New_arg (m n : Int) (hb : ¬ (0 ≤ m ∧ m ≤ 65536) ∨ ¬ (0 ≤ n ∧ n ≤ 65536)) (w : World) : Calls Tryz.prog 48 #[.pointer (some ⟨q, 0, none⟩), .int .i64 m, .int .i64 n] w fun e w' => e = .returned (.tuple #[.pointer none, .int .i64 1]) ∧ w = w' := by
  by_cases h1 : m < 0
  · have d1 : decide (m < 0) = true := by simpa using h1
    clear hb
    go_enter Tryz.func48, Tryz.ntmps48
    go_wp2
    go_ret2
    exact ⟨rfl, rfl⟩
  · have d1 : decide (m < 0) = false := by simpa using h1
    by_cases h2 : 65536 < m
    · have d2 : decide (65536 < m) = true := by simpa using h2
      clear hb
      go_enter Tryz.func48, Tryz.ntmps48
      go_wp2
      go_ret2
      exact ⟨rfl, rfl⟩
    · have d2 : decide (65536 < m) = false := by simpa using h2
      by_cases h3 : n < 0
      · have d3 : decide (n < 0) = true := by simpa using h3
        clear hb
        go_enter Tryz.func48, Tryz.ntmps48
        go_wp2
        go_ret2
        exact ⟨rfl, rfl⟩
      · have d3 : decide (n < 0) = false := by simpa using h3
        have d4 : decide (65536 < n) = true := by simp; omega
        clear hb
        go_enter Tryz.func48, Tryz.ntmps48
        go_wp2
        go_ret2
        exact ⟨rfl, rfl⟩
include s hj
theorem ref8_New_no1 (m n : Nat) (hm : m ≤ 65536) (hn : n ≤ 65536) (er : Int) (he : h.roomE 4 = er) (h0 : er ≠ 0) (w : World) (H : RefAt G w q r) : Calls Tryz.prog 48 #[.pointer (some ⟨q, 0, none⟩), .int .i64 m, .int .i64 n] w fun e w' => e = .returned (.tuple #[.pointer none, .int .i64 er]) ∧ GoesR G w q (r.take 4) w' := by
  have HH := Lib.hid H; have HE := Lib.hid he; have HSR := Lib.hid s; have HJ := Lib.hid (show j ≤ 2000 by omega)
  have e0 : (er == 0) = false := by simpa using h0
  have e0' : (er != 0) = true := by simpa using h0
  have d1 : decide ((m : Int) < 0) = false := by simp
  have d2 : decide (65536 < (m : Int)) = false := by simp; omega
  have d3 : decide ((n : Int) < 0) = false := by simp
  have d4 : decide (65536 < (n : Int)) = false := by simp; omega
  have HNI : Hid (In64 (n : Int)) := Lib.hid (by unfold In64; omega)
  have HI4 : Hid (In64 4) := Lib.hid (by unfold In64; omega)
  clear H he h0 s hj hm hn
  go_enter Tryz.func48, Tryz.ntmps48
  go_wp2_with fail
  (with_reducible refine (ref2_Ceil2 n HNI.out _ rfl _ rfl _).mono ?_)
  rintro e w1 ⟨rfl, rfl⟩
  go_wp2_with fail
  (with_reducible refine (RTake_c G q h r j HSR.out HJ.out 4 _ er HI4.out rfl HE.out _ HH.out).mono ?_)
  rintro e w1 ⟨rfl, hg⟩
  have HG := Lib.hid hg
  clear hg
  go_wp2
  go_ret2
  exact ⟨rfl, HG.out⟩
theorem ref8_New_no2 (K : h.ok) (hsz : h.sizes.length ≤ 800000) (m n : Nat) (hm : m ≤ 65536) (hn : n ≤ 65536) (er : Int) (he0 : h.roomE 4 = 0) (hl1 : (h.take 4).roomE m = er) (h0 : er ≠ 0) (w : World) (H : RefAt G w q r) : Calls Tryz.prog 48 #[.pointer (some ⟨q, 0, none⟩), .int .i64 m, .int .i64 n] w fun e w' => e = .returned (.tuple #[.pointer none, .int .i64 er]) ∧ GoesR G w q (((r.take 4).take m).give (h.takeId 4)) w' := by
  have HH := Lib.hid H; have HE := Lib.hid he0; have HSR := Lib.hid s; have HJ := Lib.hid (show j ≤ 1000 from hj)
  have d1 : decide ((m : Int) < 0) = false := by simp
  have d2 : decide (65536 < (m : Int)) = false := by simp; omega
  have d3 : decide ((n : Int) < 0) = false := by simp
  have d4 : decide (65536 < (n : Int)) = false := by simp; omega
  have HNI : Hid (In64 (n : Int)) := Lib.hid (by unfold In64; omega)
  have HMI : Hid (In64 (m : Int)) := Lib.hid (by unfold In64; omega)
  have HI4 : Hid (In64 4) := Lib.hid (by unfold In64; omega)
  have HL1 := Lib.hid hl1
  obtain ⟨id, hid⟩ : ∃ id, h.takeId 4 = id := ⟨_, rfl⟩
  have HID := Lib.hid hid
  have HIN : Hid (In64 id) := Lib.hid (by rw [← hid]; exact takeId_in K 4 (by omega))
  have e0 : (er == 0) = false := by simpa using h0
  have e0' : (er != 0) = true := by simpa using h0
  rw [hid]
  clear H he0 h0 s hj hm hn hl1 K hsz hid
  go_enter Tryz.func48, Tryz.ntmps48
  go_wp2_with fail
  (with_reducible refine (ref2_Ceil2 n HNI.out _ rfl _ rfl _).mono ?_)
  rintro e w1 ⟨rfl, rfl⟩
  go_wp2_with fail
  (with_reducible refine (RTake_c G q h r j HSR.out (Nat.le_trans HJ.out (by decide)) 4 id 0 HI4.out HID.out HE.out _ HH.out).mono ?_)
  rintro e w1 ⟨rfl, hg⟩
  obtain ⟨G1, hP1⟩ := (Rp.start HH.out).call hg
  have HP1 := Lib.hid hP1
  have HS1 := Lib.hid (HSR.out.take 4)
  clear hg hP1
  go_wp2_with fail
  (with_reducible refine (RTake_c G1 q (h.take 4) (r.take 4) (j + 1) HS1.out (by have := HJ.out; omega) m _ er HMI.out rfl HL1.out _ HP1.out.at_).mono ?_)
  rintro e w2 ⟨rfl, hg⟩
  obtain ⟨G2, hP2⟩ := HP1.out.call hg
  have HP2 := Lib.hid hP2
  have HS2 := Lib.hid (HS1.out.take m)
  clear hg hP2
  go_wp2_with fail
  (with_reducible refine (RGive_c G2 q ((h.take 4).take m) ((r.take 4).take m) (j + 1 + 1) HS2.out (by have := HJ.out; omega) id _ HIN.out rfl _ HP2.out.at_).mono ?_)
  rintro e w3 ⟨rfl, hg⟩
  obtain ⟨G3, hP3⟩ := HP2.out.call hg
  have HP3 := Lib.hid hP3
  clear hg hP3
  go_wp2
  go_ret2
  exact ⟨rfl, HP3.out.goes⟩
theorem ref8_New_no3 (K : h.ok) (hsz : h.sizes.length ≤ 800000) (m n : Nat) (hm : m ≤ 65536) (hn : n ≤ 65536) (c : Nat) (hc : Ws.ceil2 n = (c : Nat)) (hc6 : c ≤ 65536) (er : Int) (he0 : h.roomE 4 = 0) (hl1 : (h.take 4).roomE m = 0) (hl2 : ((h.take 4).take m).roomE (3 * c) = er) (h0 : er ≠ 0) (w : World) (H : RefAt G w q r) : Calls Tryz.prog 48 #[.pointer (some ⟨q, 0, none⟩), .int .i64 m, .int .i64 n] w fun e w' => e = .returned (.tuple #[.pointer none, .int .i64 er]) ∧ GoesR G w q (((((r.take 4).take m).take (3 * c)).give ((h.take 4).takeId m)).give (h.takeId 4)) w' := by
  have HH := Lib.hid H; have HE := Lib.hid he0; have HSR := Lib.hid s; have HJ := Lib.hid (show j ≤ 1000 from hj)
  have d1 : decide ((m : Int) < 0) = false := by simp
  have d2 : decide (65536 < (m : Int)) = false := by simp; omega
  have d3 : decide ((n : Int) < 0) = false := by simp
  have d4 : decide (65536 < (n : Int)) = false := by simp; omega
  have HNI : Hid (In64 (n : Int)) := Lib.hid (by unfold In64; omega)
  have HMI : Hid (In64 (m : Int)) := Lib.hid (by unfold In64; omega)
  have HI4 : Hid (In64 4) := Lib.hid (by unfold In64; omega)
  have HL1 := Lib.hid hl1; have HL2 := Lib.hid hl2; have HC := Lib.hid hc
  obtain ⟨id, hid⟩ : ∃ id, h.takeId 4 = id := ⟨_, rfl⟩
  obtain ⟨ib, hib⟩ : ∃ id, (h.take 4).takeId m = id := ⟨_, rfl⟩
  have HID := Lib.hid hid; have HIB := Lib.hid hib
  have HIN : Hid (In64 id) := Lib.hid (by rw [← hid]; exact takeId_in K 4 (by omega))
  have HINB : Hid (In64 ib) := Lib.hid (by rw [← hib]; exact takeId_in (HS.ok_take K 4) m (by have := HS.take_sizes h 4; omega))
  have e0 : (er == 0) = false := by simpa using h0
  have e0' : (er != 0) = true := by simpa using h0
  have m3 : wrap64 (3 * (c : Int)) = 3 * (c : Int) := wrap64_id (by unfold In64; omega)
  have HCI : Hid (In64 (3 * (c : Int))) := Lib.hid (by unfold In64; omega)
  rw [hid, hib]
  clear H he0 h0 s hj hm hn hl1 hl2 hc hc6 K hsz hid hib
  go_enter Tryz.func48, Tryz.ntmps48
  go_wp2_with fail
  (with_reducible refine (ref2_Ceil2 n HNI.out (c : Int) HC.out _ rfl _).mono ?_)
  rintro e w1 ⟨rfl, rfl⟩
  go_wp2_with fail
  (with_reducible refine (RTake_c G q h r j HSR.out (Nat.le_trans HJ.out (by decide)) 4 id 0 HI4.out HID.out HE.out _ HH.out).mono ?_)
  rintro e w1 ⟨rfl, hg⟩
  obtain ⟨G1, hP1⟩ := (Rp.start HH.out).call hg
  have HP1 := Lib.hid hP1
  have HS1 := Lib.hid (HSR.out.take 4)
  clear hg hP1
  go_wp2_with fail
  (with_reducible refine (RTake_c G1 q (h.take 4) (r.take 4) (j + 1) HS1.out (by have := HJ.out; omega) m ib 0 HMI.out HIB.out HL1.out _ HP1.out.at_).mono ?_)
  rintro e w2 ⟨rfl, hg⟩
  obtain ⟨G2, hP2⟩ := HP1.out.call hg
  have HP2 := Lib.hid hP2
  have HS2 := Lib.hid (HS1.out.take m)
  clear hg hP2
  go_wp2_with fail
  (with_reducible refine (RTake_c G2 q ((h.take 4).take m) ((r.take 4).take m) (j + 1 + 1) HS2.out (by have := HJ.out; omega) (3 * (c : Int)) _ er HCI.out rfl HL2.out _ HP2.out.at_).mono ?_)
  rintro e w3 ⟨rfl, hg⟩
  obtain ⟨G3, hP3⟩ := HP2.out.call hg
  have HP3 := Lib.hid hP3
  have HS3 := Lib.hid (HS2.out.take (3 * (c : Int)))
  clear hg hP3
  go_wp2_with fail
  (with_reducible refine (RGive_c G3 q _ _ (j + 1 + 1 + 1) HS3.out (by have := HJ.out; omega) ib _ HINB.out rfl _ HP3.out.at_).mono ?_)
  rintro e w4 ⟨rfl, hg⟩
  obtain ⟨G4, hP4⟩ := HP3.out.call hg
  have HP4 := Lib.hid hP4
  have HS4 := Lib.hid (HS3.out.give ib)
  clear hg hP4
  go_wp2_with fail
  (with_reducible refine (RGive_c G4 q _ _ (j + 1 + 1 + 1 + 1) HS4.out (by have := HJ.out; omega) id _ HIN.out rfl _ HP4.out.at_).mono ?_)
  rintro e w5 ⟨rfl, hg⟩
  obtain ⟨G5, hP5⟩ := HP4.out.call hg
  have HP5 := Lib.hid hP5
  clear hg hP5
  go_wp2
  go_ret2
  exact ⟨rfl, HP5.out.goes⟩
theorem ref8_New_yes (m n : Nat) (hm : m ≤ 65536) (hn : n ≤ 65536) (c : Nat) (hc : Ws.ceil2 n = (c : Nat)) (hc6 : c ≤ 65536) (he0 : h.roomE 4 = 0) (hl1 : (h.take 4).roomE m = 0) (hl2 : ((h.take 4).take m).roomE (3 * c) = 0) (w : World) (H : RefAt G w q r) : Calls Tryz.prog 48 #[.pointer (some ⟨q, 0, none⟩), .int .i64 m, .int .i64 n] w fun e w' => ∃ a, e = .returned (.tuple #[.pointer (some ⟨a, 0, none⟩), .int .i64 0]) ∧ GoesR G w q (((r.take 4).take m).take (3 * c)) w' := by
  have HH := Lib.hid H; have HE := Lib.hid he0; have HSR := Lib.hid s; have HJ := Lib.hid (show j ≤ 1000 from hj)
  have d1 : decide ((m : Int) < 0) = false := by simp
  have d2 : decide (65536 < (m : Int)) = false := by simp; omega
  have d3 : decide ((n : Int) < 0) = false := by simp
  have d4 : decide (65536 < (n : Int)) = false := by simp; omega
  have HNI : Hid (In64 (n : Int)) := Lib.hid (by unfold In64; omega)
  have HMI : Hid (In64 (m : Int)) := Lib.hid (by unfold In64; omega)
  have HI4 : Hid (In64 4) := Lib.hid (by unfold In64; omega)
  have HL1 := Lib.hid hl1; have HL2 := Lib.hid hl2; have HC := Lib.hid hc; have HC6 := Lib.hid hc6
  obtain ⟨id, hid⟩ : ∃ id, h.takeId 4 = id := ⟨_, rfl⟩
  have HID := Lib.hid hid
  have m3 : wrap64 (3 * (c : Int)) = 3 * (c : Int) := wrap64_id (by unfold In64; omega)
  have HCI : Hid (In64 (3 * (c : Int))) := Lib.hid (by unfold In64; omega)
  have hmk := make_vals m hm
  clear H he0 s hj hm hn hl1 hl2 hc hc6 hid
  go_enter Tryz.func48, Tryz.ntmps48
  go_wp2_with fail
  (with_reducible refine (ref2_Ceil2 n HNI.out (c : Int) HC.out _ rfl _).mono ?_)
  rintro e w1 ⟨rfl, rfl⟩
  go_wp2_with fail
  (with_reducible refine (RTake_c G q h r j HSR.out (Nat.le_trans HJ.out (by decide)) 4 id 0 HI4.out HID.out HE.out _ HH.out).mono ?_)
  rintro e w1 ⟨rfl, hg⟩
  obtain ⟨G1, hP1⟩ := (Rp.start HH.out).call hg
  have HP1 := Lib.hid hP1
  have HS1 := Lib.hid (HSR.out.take 4)
  clear hg hP1
  go_wp2_with fail
  (with_reducible refine (RTake_c G1 q (h.take 4) (r.take 4) (j + 1) HS1.out (by have := HJ.out; omega) m _ 0 HMI.out rfl HL1.out _ HP1.out.at_).mono ?_)
  rintro e w2 ⟨rfl, hg⟩
  obtain ⟨G2, hP2⟩ := HP1.out.call hg
  have HP2 := Lib.hid hP2
  have HS2 := Lib.hid (HS1.out.take m)
  clear hg hP2
  go_wp2_with fail
  (with_reducible refine (RTake_c G2 q ((h.take 4).take m) ((r.take 4).take m) (j + 1 + 1) HS2.out (by have := HJ.out; omega) (3 * (c : Int)) _ 0 HCI.out rfl HL2.out _ HP2.out.at_).mono ?_)
  rintro e w3 ⟨rfl, hg⟩
  obtain ⟨G3, hP3⟩ := HP2.out.call hg
  have HP3 := Lib.hid hP3
  clear hg hP3 m3
  go_wp2_with fail
  go_region_with (first | (go_at_call 94; (with_reducible refine (ref7_New c HC6.out _).mono ?_); rintro e w5 ⟨b, rfl, hb⟩))
  all_goals go_wp2
  all_goals go_ret2
  all_goals refine ⟨_, rfl, (HP3.out.below ?_).goes⟩
  all_goals first
    | (have h1 := below_step (((Below.refl w3.heap.size w3).drew).alloc (by simp [go_sem]) _) hb
       exact h1.alloc h1.size _)
    | (have h1 := below_step ((Below.refl w3.heap.size w3).drew) hb
       exact (h1.alloc h1.size _).alloc (by have := h1.size; simp [go_sem]; omega) _)
theorem ref8_New (K : h.ok) (hsz : h.sizes.length ≤ 800000) (m n : Int) (er : Int) (he : newE h m n = er) (w : World) (H : RefAt G w q r) : Calls Tryz.prog 48 #[.pointer (some ⟨q, 0, none⟩), .int .i64 m, .int .i64 n] w fun e w' => ∃ P r', e = .returned (.tuple #[.pointer P, .int .i64 er]) ∧ P.isNone = (er != 0) ∧ SR (newH h m n) r' (j + 5) ∧ GoesR G w q r' w' := by
  subst he
  unfold newE newH
  by_cases hb : ¬ (0 ≤ m ∧ m ≤ 65536) ∨ ¬ (0 ≤ n ∧ n ≤ 65536)
  · simp only [if_pos hb]
    refine (ref8_New_arg q m n hb w).mono ?_
    rintro e w' ⟨he, rfl⟩
    exact ⟨none, r, he, rfl, s.mono.mono.mono.mono.mono, G, H, Kp.refl _ _, fun _ h => .inl h⟩
  · simp only [if_neg hb]
    obtain ⟨hm, hn⟩ : (0 ≤ m ∧ m ≤ 65536) ∧ (0 ≤ n ∧ n ≤ 65536) := by omega
    obtain ⟨m', rfl⟩ : ∃ k : Nat, m = k := ⟨m.toNat, by omega⟩
    obtain ⟨n', rfl⟩ : ∃ k : Nat, n = k := ⟨n.toNat, by omega⟩
    obtain ⟨c, hc, hc6, hpw, hcE, -⟩ := ceil_is n' (by omega)
    have s4 := s.take 4
    have s5 := s4.take m'
    by_cases h4 : h.roomE 4 ≠ 0
    · simp only [if_pos h4]
      refine (ref8_New_no1 G q h r j s hj m' n' (by omega) (by omega) _ rfl h4 w H).mono ?_
      rintro e w' ⟨he, hg⟩
      rw [(HS.take_no h4).1] at s4
      exact ⟨none, _, he, by simpa using h4, s4.mono.mono.mono.mono, hg⟩
    · simp only [if_neg h4, hc]
      have h4' : h.roomE 4 = 0 := by simpa using h4
      by_cases l1 : (h.take 4).roomE m' ≠ 0
      · have hl : layE (h.take 4) m' c = (h.take 4).roomE m' := by unfold layE; rw [if_pos l1]
        have hl2 : layH (h.take 4) m' c = (h.take 4).take m' := by unfold layH; rw [if_pos l1]
        rw [hl, if_pos l1, hl2]
        refine (ref8_New_no2 G q h r j s hj K hsz m' n' (by omega) (by omega) _ h4' rfl l1 w H).mono ?_
        rintro e w' ⟨he, hg⟩
        exact ⟨none, _, he, by simpa using l1, (s5.give _).mono.mono, hg⟩
      · have l1' : (h.take 4).roomE m' = 0 := by simpa using l1
        have hl : layE (h.take 4) m' c = ((h.take 4).take m').roomE (3 * c) := by unfold layE; rw [if_neg l1]
        rw [hl]
        have s6 := s5.take (3 * c)
        by_cases l2 : ((h.take 4).take m').roomE (3 * c) ≠ 0
        · have hl2 : layH (h.take 4) m' c = ((h.take 4).take m').give ((h.take 4).takeId m') := by unfold layH; rw [if_neg l1, if_pos l2]
          rw [if_pos l2, hl2]
          refine (ref8_New_no3 G q h r j s hj K hsz m' n' (by omega) (by omega) c hc hc6 _ h4' l1' rfl l2 w H).mono ?_
          rintro e w' ⟨he, hg⟩
          rw [(HS.take_no l2).1] at s6
          exact ⟨none, _, he, by simpa using l2, (s6.give _).give _, hg⟩
        · have hl2 : layH (h.take 4) m' c = ((h.take 4).take m').take (3 * c) := by unfold layH; rw [if_neg l1, if_neg l2]
          have l2' : ((h.take 4).take m').roomE (3 * c) = 0 := by simpa using l2
          rw [if_neg l2, hl2]
          refine (ref8_New_yes G q h r j s hj m' n' (by omega) (by omega) c hc hc6 h4' l1' l2' w H).mono ?_
          rintro e w' ⟨a, he, hg⟩
          exact ⟨some ⟨a, 0, none⟩, _, by rw [l2']; exact he, by rw [l2']; rfl, s6.mono.mono, hg⟩
end
end Go.Proofs.YteheolefemlcgaaGreat
