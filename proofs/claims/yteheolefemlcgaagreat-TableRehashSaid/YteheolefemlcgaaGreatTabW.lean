/- Folded of TabC, TabD, TabE, TabF. -/
import Derived.Test.YteheolefemlcgaaGreatTabB
/- A table: New. -/
namespace Go.Proofs.YteheolefemlcgaaGreat
open Go.RowKit
set_option linter.unusedVariables false
set_option linter.unusedSimpArgs false

theorem new_right (n : Int) (q : Bool) (hq : decide (0 ≤ n ∧ n ≤ 65536) = q) (w : World) : Calls Tryz.prog 86 #[.int .i64 n] w fun e w' => e = .returned (.bool q) ∧ w = w' := by
  by_cases h1 : 0 ≤ n
  · by_cases h2 : n ≤ 65536
    · obtain rfl : true = q := by rw [← hq]; simp [h1, h2]
      have d1 : decide (0 ≤ n) = true := by simpa using h1
      have d2 : decide (n ≤ 65536) = true := by simpa using h2
      clear hq
      go_enter Tryz.func86, Tryz.ntmps86
      go_wp2
      go_ret
      exact ⟨rfl, rfl⟩
    · obtain rfl : false = q := by rw [← hq]; simp [h2]
      have d1 : decide (0 ≤ n) = true := by simpa using h1
      have d2 : decide (n ≤ 65536) = false := by simpa using h2
      clear hq
      go_enter Tryz.func86, Tryz.ntmps86
      go_wp2
      go_ret
      exact ⟨rfl, rfl⟩
  · obtain rfl : false = q := by rw [← hq]; simp [h1]
    have d1 : decide (0 ≤ n) = false := by simpa using h1
    clear hq
    go_enter Tryz.func86, Tryz.ntmps86
    go_wp2
    go_ret
    exact ⟨rfl, rfl⟩
theorem New_nil (m n : Int) (w : World) : Calls Tryz.prog 46 #[.pointer none, .int .i64 m, .int .i64 n] w fun e w' => e = .returned (.tuple #[.pointer none, .int .i64 1]) ∧ w = w' := by
  go_enter Tryz.func46, Tryz.ntmps46
  go_wp2
  go_ret2
  exact ⟨rfl, rfl⟩
theorem New_arg (hp : Nat) (m n : Int) (h : ¬ (0 ≤ m ∧ m ≤ 65536) ∨ (0 ≤ m ∧ m ≤ 65536) ∧ ¬ (0 ≤ n ∧ n ≤ 65536)) (w : World) : Calls Tryz.prog 46 #[.pointer (some ⟨hp, 0, none⟩), .int .i64 m, .int .i64 n] w fun e w' => e = .returned (.tuple #[.pointer none, .int .i64 1]) ∧ w = w' := by
  rcases h with h1 | ⟨h1, h2⟩
  · have H1 : Hid (decide (0 ≤ m ∧ m ≤ 65536) = false) := Lib.hid (decide_eq_false h1)
    clear h1
    go_enter Tryz.func46, Tryz.ntmps46
    go_wp2_with (first | (go_at_call 86; (with_reducible refine (new_right m false H1.out _).mono ?_); rintro e w1 ⟨rfl, rfl⟩))
    go_ret2
    exact ⟨rfl, rfl⟩
  · have H1 : Hid (decide (0 ≤ m ∧ m ≤ 65536) = true) := Lib.hid (decide_eq_true h1)
    have H2 : Hid (decide (0 ≤ n ∧ n ≤ 65536) = false) := Lib.hid (decide_eq_false h2)
    clear h1 h2
    go_enter Tryz.func46, Tryz.ntmps46
    go_wp2_with fail
    (with_reducible refine (new_right m true H1.out _).mono ?_)
    rintro e w1 ⟨rfl, rfl⟩
    go_wp2_with fail
    (with_reducible refine (new_right n false H2.out _).mono ?_)
    rintro e w1 ⟨rfl, rfl⟩
    go_wp2
    go_ret2
    exact ⟨rfl, rfl⟩
/-- A new table, and its heap. -/
def NG (F : Nat → Prop) (w : World) (hp a : Nat) (t : Tbl) (hs' : HS) (w' : World) : Prop :=
  ∃ s b g F', TabIn w' a s b g hp t ∧ HeapAt F' w' hp hs' ∧ Kp F w w' ∧ (∀ q, PB a s b g q → w.heap.size ≤ q ∧ ¬ F' q) ∧ ∀ q, F' q → F q ∨ w.heap.size ≤ q
section
variable (F : Nat → Prop) (hp : Nat) (hs : HS) (m n : Nat)
set_option maxHeartbeats 800000 in
theorem New_no1 (hm : m ≤ 65536) (hn : n ≤ 65536) (hsz : hs.sizes.length ≤ 900000) (er : Int) (he : hs.roomE 4 = er) (h0 : er ≠ 0) (w : World) (H : HeapAt F w hp hs) :
    Calls Tryz.prog 46 #[.pointer (some ⟨hp, 0, none⟩), .int .i64 m, .int .i64 n] w fun e w' => e = .returned (.tuple #[.pointer none, .int .i64 er]) ∧ Goes F w hp hs w' := by
  have HH := Lib.hid H; have HE := Lib.hid he; have HSZ := Lib.hid (show hs.sizes.length ≤ 1000000 by omega)
  have e0 : (er == 0) = false := by simpa using h0
  have e0' : (er != 0) = true := by simpa using h0
  have hno := HS.take_no (h := hs) (n := 4) (by rw [he]; exact h0)
  have HT := Lib.hid hno.1; have HID := Lib.hid hno.2
  have H1 : Hid (decide (0 ≤ (m : Int) ∧ (m : Int) ≤ 65536) = true) := Lib.hid (decide_eq_true (by omega))
  have H2 : Hid (decide (0 ≤ (n : Int) ∧ (n : Int) ≤ 65536) = true) := Lib.hid (decide_eq_true (by omega))
  clear H he h0 hsz hno hm hn
  go_enter Tryz.func46, Tryz.ntmps46
  go_wp2_with fail
  (with_reducible refine (new_right m true H1.out _).mono ?_)
  rintro e w1 ⟨rfl, rfl⟩
  go_wp2_with fail
  (with_reducible refine (new_right n true H2.out _).mono ?_)
  rintro e w1 ⟨rfl, rfl⟩
  go_wp2_with fail
  (with_reducible refine (Take_c F hp hs 4 0 er HID.out HE.out HSZ.out _ HH.out).mono ?_)
  rintro e w1 ⟨rfl, hg⟩
  rw [HT.out] at hg
  have HG := Lib.hid hg
  clear hg
  go_wp2
  go_ret2
  exact ⟨rfl, HG.out⟩
theorem ceil_is (n : Nat) (hn : n ≤ 65536) : ∃ c : Nat, Ws.ceil2 n = (c : Nat) ∧ c ≤ 65536 ∧ (c = 0 ∨ ∃ e, e ≤ 16 ∧ c = 2 ^ e) ∧ Ws.ceil2E n = 0 ∧ n ≤ c := by
  have h := Cs.ceil2_le (n : Int) (by omega) (by omega)
  by_cases e : n = 0
  · subst e; exact ⟨0, by decide, by omega, .inl rfl, h.2, by omega⟩
  · obtain ⟨k, -, -, h2, -, h5, -, -⟩ := Ws.ceil2_k (n : Int) (by omega) (by omega)
    have h3 : ((2 : Int) ^ k) = ((2 ^ k : Nat) : Int) := by simp
    rw [h3] at h2 h5
    refine ⟨2 ^ k, h2, by have := h.1; rw [h2] at this; omega, .inr ⟨k, ?_, rfl⟩, h.2, by omega⟩
    apply Decidable.byContradiction
    intro hj
    have h4 : 131072 ≤ (2 : Nat) ^ k := Nat.le_trans (by decide) (Nat.pow_le_pow_right (by omega) (by omega : 17 ≤ k))
    have := h.1
    rw [h2] at this
    generalize (2 : Nat) ^ k = q at this h4
    omega
set_option maxHeartbeats 800000 in
theorem New_no2 (hm : m ≤ 65536) (hn : n ≤ 65536) (hsz : hs.sizes.length ≤ 800000) (c : Nat) (hc : Ws.ceil2 n = (c : Nat)) (hc6 : c ≤ 65536) (hcE : Ws.ceil2E n = 0) (er : Int) (he0 : hs.roomE 4 = 0) (he : layE (hs.take 4) m c = er) (h0 : er ≠ 0) (w : World) (H : HeapAt F w hp hs) :
    Calls Tryz.prog 46 #[.pointer (some ⟨hp, 0, none⟩), .int .i64 m, .int .i64 n] w fun e w' => e = .returned (.tuple #[.pointer none, .int .i64 er]) ∧ Goes F w hp ((layH (hs.take 4) m c).give (hs.takeId 4)) w' := by
  have HH := Lib.hid H; have HE := Lib.hid he0; have HSZ := Lib.hid (show hs.sizes.length ≤ 1000000 by omega)
  have e0 : (er == 0) = false := by simpa using h0
  have e0' : (er != 0) = true := by simpa using h0
  obtain ⟨id, hid⟩ : ∃ id, hs.takeId 4 = id := ⟨_, rfl⟩
  have hin : In64 id := by
    have k : hs.ok := by obtain ⟨k, -⟩ := H; exact k
    obtain ⟨-, h2, -, -, -, -, h7⟩ := HS.take_is k he0 (by decide : (4 : Int) ≠ 0)
    rw [← hid]; unfold In64; omega
  have HIN := Lib.hid hin; have HID := Lib.hid hid
  have hs1 := HS.take_sizes hs 4
  have hs2 := layH_sizes (hs.take 4) m c
  have HSZ2 : Hid ((layH (hs.take 4) m c).sizes.length ≤ 1000000) := Lib.hid (by omega)
  have HLAY : Hid (∀ F W, HeapAt F W hp (hs.take 4) → Calls Tryz.prog 89 #[.pointer (some ⟨hp, 0, none⟩), .int .i64 m, .int .i64 c] W fun e w' => e = .returned (.tuple #[noPart, .int .i64 er]) ∧ Goes F W hp (layH (hs.take 4) m c) w') := Lib.hid (fun F W hW => by
    unfold layE at he
    unfold layH
    by_cases h1 : (hs.take 4).roomE m ≠ 0
    · rw [if_pos h1] at he ⊢
      rw [(HS.take_no h1).1]
      exact lay_no1 F hp _ m c (by omega) er he h0 W hW
    · rw [if_neg h1] at he ⊢
      rw [if_pos (by rw [he]; exact h0)]
      exact lay_no2 F hp _ m c (by omega) hc6 er (by simpa using h1) he h0 W hW)
  have H1 : Hid (decide (0 ≤ (m : Int) ∧ (m : Int) ≤ 65536) = true) := Lib.hid (decide_eq_true (by omega))
  have H2 : Hid (decide (0 ≤ (n : Int) ∧ (n : Int) ≤ 65536) = true) := Lib.hid (decide_eq_true (by omega))
  have HC := Lib.hid hc; have HCE := Lib.hid hcE
  have HNI : Hid (In64 (n : Int)) := Lib.hid (by unfold In64; omega)
  rw [hid]
  clear H he h0 hsz hm hn he0 hid hin hs1 hs2 hc hcE hc6
  go_enter Tryz.func46, Tryz.ntmps46
  go_wp2_with fail
  (with_reducible refine (new_right m true H1.out _).mono ?_)
  rintro e w1 ⟨rfl, rfl⟩
  go_wp2_with fail
  (with_reducible refine (new_right n true H2.out _).mono ?_)
  rintro e w1 ⟨rfl, rfl⟩
  go_wp2_with fail
  (with_reducible refine (Take_c F hp hs 4 id 0 HID.out HE.out HSZ.out _ HH.out).mono ?_)
  rintro e w1 ⟨rfl, hg⟩
  obtain ⟨F1, hP1, -, -⟩ := (Hp.start HH.out).call hg
  have HP1 := Lib.hid hP1
  clear hg hP1
  go_wp2_with fail
  (with_reducible refine (words_Ceil2_c n HNI.out c 0 HC.out HCE.out _).mono ?_)
  rintro e w2 ⟨rfl, rfl⟩
  go_wp2_with fail
  (with_reducible refine (HLAY.out F1 _ HP1.out.at_).mono ?_)
  rintro e w2 ⟨rfl, hg⟩
  obtain ⟨F2, hP2, -, -⟩ := HP1.out.call hg
  have HP2 := Lib.hid hP2
  have HP3 := Lib.hid (hP2.below ((Below.refl _ w2).alloc (Nat.le_refl _) (.cells #[.slice none 0 0, .pointer none, .int .i64 0, .int .i64 0] 108)))
  clear hg hP2
  unfold noPart
  go_wp2_with fail
  (with_reducible refine (Give_c F2 hp _ id _ HIN.out rfl HSZ2.out _ HP3.out.at_).mono ?_)
  rintro e w4 ⟨rfl, hg⟩
  obtain ⟨F4, hP4, -, -⟩ := HP3.out.call hg
  have HP4 := Lib.hid hP4
  clear hg hP4
  go_wp2
  go_ret2
  exact ⟨rfl, HP4.out.goes⟩
set_option maxHeartbeats 800000 in
theorem New_yes (hm : m ≤ 65536) (hn : n ≤ 65536) (hsz : hs.sizes.length ≤ 800000) (c : Nat) (hc : Ws.ceil2 n = (c : Nat)) (hc6 : c ≤ 65536) (hpw : c = 0 ∨ ∃ e, e ≤ 16 ∧ c = 2 ^ e) (hcE : Ws.ceil2E n = 0) (he0 : hs.roomE 4 = 0) (hl1 : (hs.take 4).roomE m = 0) (hl2 : ((hs.take 4).take m).roomE (3 * c) = 0) (w : World) (H : HeapAt F w hp hs) :
    Calls Tryz.prog 46 #[.pointer (some ⟨hp, 0, none⟩), .int .i64 m, .int .i64 n] w fun e w' => ∃ a, e = .returned (.tuple #[.pointer (some ⟨a, 0, none⟩), .int .i64 0]) ∧ NG F w hp a { p := PT.bare m c ((hs.take 4).takeId m) (((hs.take 4).take m).takeId (3 * c)), hint := 0, pr := 0 } (((hs.take 4).take m).take (3 * c)) w' := by
  have HH := Lib.hid H; have HE := Lib.hid he0; have HSZ := Lib.hid (show hs.sizes.length ≤ 1000000 by omega)
  obtain ⟨id, hid⟩ : ∃ id, hs.takeId 4 = id := ⟨_, rfl⟩
  have HID := Lib.hid hid
  obtain ⟨x, hx⟩ : ∃ x, (hs.take 4).takeId m = x := ⟨_, rfl⟩
  obtain ⟨y, hy⟩ : ∃ y, ((hs.take 4).take m).takeId (3 * c) = y := ⟨_, rfl⟩
  obtain ⟨hs2, hh2⟩ : ∃ h2, ((hs.take 4).take m).take (3 * c) = h2 := ⟨_, rfl⟩
  have hs1 := HS.take_sizes hs 4
  have HLAY : Hid (∀ F W, HeapAt F W hp (hs.take 4) → Calls Tryz.prog 89 #[.pointer (some ⟨hp, 0, none⟩), .int .i64 m, .int .i64 c] W fun e w' => ∃ s b g F', e = .returned (.tuple #[.agg #[.slice (some ⟨s, 0, none⟩) m m, .pointer (some ⟨b, 0, none⟩), .int .i64 x, .int .i64 y], .int .i64 0]) ∧ Hp F W hp F' hs2 w' ∧ W.heap.size ≤ s ∧ W.heap.size ≤ b ∧ W.heap.size ≤ g ∧ ¬ F' s ∧ ¬ F' b ∧ ¬ F' g ∧ s ≠ b ∧ s ≠ g ∧ NdIn w' b g (PH.new c) ∧ (∀ i, i < m → C3 w' s (i * 3) nilV) ∧ (∀ i, w'.frozen? ⟨s, i, none⟩ = false) ∧ s < w'.heap.size) := Lib.hid (fun F W hW => by
    rw [← hh2]
    exact lay_yes F hp _ m c (by omega) hm hc6 hpw hl1 hl2 x y hx hy W hW)
  have H1 : Hid (decide (0 ≤ (m : Int) ∧ (m : Int) ≤ 65536) = true) := Lib.hid (decide_eq_true (by omega))
  have H2 : Hid (decide (0 ≤ (n : Int) ∧ (n : Int) ≤ 65536) = true) := Lib.hid (decide_eq_true (by omega))
  have HC := Lib.hid hc; have HCE := Lib.hid hcE
  have HNI : Hid (In64 (n : Int)) := Lib.hid (by unfold In64; omega)
  rw [hx, hy, hh2]
  clear H hsz hm hn he0 hid hs1 hc hcE hc6 hpw hl1 hl2 hx hy hh2
  go_enter Tryz.func46, Tryz.ntmps46
  go_wp2_with fail
  (with_reducible refine (new_right m true H1.out _).mono ?_)
  rintro e w1 ⟨rfl, rfl⟩
  go_wp2_with fail
  (with_reducible refine (new_right n true H2.out _).mono ?_)
  rintro e w1 ⟨rfl, rfl⟩
  go_wp2_with fail
  (with_reducible refine (Take_c F hp hs 4 id 0 HID.out HE.out HSZ.out _ HH.out).mono ?_)
  rintro e w1 ⟨rfl, hg⟩
  obtain ⟨F1, hP1, -, -⟩ := (Hp.start HH.out).call hg
  have HP1 := Lib.hid hP1
  clear hg hP1
  go_wp2_with fail
  (with_reducible refine (words_Ceil2_c n HNI.out c 0 HC.out HCE.out _).mono ?_)
  rintro e w2 ⟨rfl, rfl⟩
  go_wp2_with fail
  (with_reducible refine (HLAY.out F1 _ HP1.out.at_).mono ?_)
  rintro e w2 ⟨s', b', g', F', rfl, hP, h1, h2, h3, h4, h5, h6, h7, h8, h9, h10, h11, h12⟩
  have HP2 : Hid (Hp F w hp F' hs2 w2) := Lib.hid ⟨hP.at_, HP1.out.kp.trans hP.kp HP1.out.sub, fun q hq => (hP.sub q hq).elim (HP1.out.sub q) (fun h => .inr (Nat.le_trans HP1.out.kp.size h))⟩
  have HALL := Lib.hid (show _ from And.intro h1 (And.intro h2 (And.intro h3 (And.intro h4 (And.intro h5 (And.intro h6 (And.intro h7 (And.intro h8 (And.intro h9 (And.intro h10 (And.intro h11 h12)))))))))))
  clear hP h1 h2 h3 h4 h5 h6 h7 h8 h9 h10 h11 h12
  go_wp2
  go_ret2
  obtain ⟨h1, h2, h3, h4, h5, h6, h7, h8, h9, h10, h11, h12⟩ := HALL.out
  have hw := HP1.out.kp.size
  have hl := HP2.out.at_.lt
  have hB3 := (Below.refl w2.heap.size w2).alloc (Nat.le_refl _) (.cells #[.slice (some ⟨s', 0, none⟩) m m, .pointer (some ⟨b', 0, none⟩), .int .i64 x, .int .i64 y] 108)
  have hB4 := hB3.alloc hB3.size (.cells #[.slice (some ⟨s', 0, none⟩) m m, .pointer (some ⟨b', 0, none⟩), .int .i64 x, .int .i64 y, .pointer (some ⟨hp, 0, none⟩), .int .i64 0, .int .i64 0] 110)
  refine ⟨_, rfl, s', b', g', F', ⟨PartIn.bare ⟨?_, ?_, ?_, ?_, fun i => ?_, ?_⟩ hB4 h7 h8 h9 h10 h11 h12 (by omega), ?_, ?_, ?_⟩, HP2.out.at_.below hB4, HP2.out.kp.below hB4, fun q hq => ?_, HP2.out.sub⟩
  · simp [go_sem]
  · simp [go_sem]
  · simp [go_sem]
  · simp [go_sem]
  · simp [go_sem]
  · simp [go_sem]
  · simp [go_sem]
  · simp [go_sem]
  · simp [go_sem]
  · have hw2 := HP2.out.kp.size
    rcases hq with rfl | rfl | rfl | rfl
    · exact ⟨by omega, fun h => by have := hl _ h; omega⟩
    · exact ⟨by omega, h4⟩
    · exact ⟨by omega, h5⟩
    · exact ⟨by omega, h6⟩
end
end Go.Proofs.YteheolefemlcgaaGreat
/- A table: Stats, Probes, Places, Hint; a table that is nil. -/
namespace Go.Proofs.YteheolefemlcgaaGreat
open Go.RowKit
set_option linter.unusedVariables false
set_option linter.unusedSimpArgs false

section
variable (a s b g hp : Nat) (t : Tbl)
theorem tab_Probes (w : World) (H : TabIn w a s b g hp t) : Calls Tryz.prog 17 #[.pointer (some ⟨a, 0, none⟩)] w fun e w' => e = .returned (.int .i64 t.pr) ∧ w = w' := by
  have c6 := H.c6
  clear H
  go_enter Tryz.func17, Tryz.ntmps17
  go_wp2
  go_ret
  exact ⟨rfl, rfl⟩
theorem tab_Probes_nil (w : World) : Calls Tryz.prog 17 #[.pointer none] w fun e w' => e = .returned (.int .i64 0) ∧ w = w' := by
  go_enter Tryz.func17, Tryz.ntmps17
  go_wp2
  go_ret
  exact ⟨rfl, rfl⟩
theorem tab_Set_nil (kk kn : Int) (ks : ByteArray) (vk vn : Int) (vs : ByteArray) (w : World) : Calls Tryz.prog 12 #[.pointer none, .agg #[.int .i64 kk, .int .i64 kn, .string ks], .agg #[.int .i64 vk, .int .i64 vn, .string vs]] w fun e w' => e = .returned (.int .i64 1) ∧ Below w.heap.size w w' := by
  go_enter Tryz.func12, Tryz.ntmps12
  go_wp2
  go_ret
  exact ⟨rfl, ((Below.refl _ w).alloc (Nat.le_refl _) _).alloc (by simp [go_sem]) _⟩
set_option maxRecDepth 100000 in
set_option maxHeartbeats 800000 in
theorem tab_Stats (n m f x : Int) (hn : (t.p.sn : Int) = n) (hm : (t.p.h.n : Int) = m) (hf : (t.p.h.free : Int) = f) (hx : t.hint = x) (w : World) (H : TabIn w a s b g hp t) : Calls Tryz.prog 20 #[.pointer (some ⟨a, 0, none⟩)] w fun e w' => e = .returned (.agg #[.int .i64 n, .int .i64 m, .int .i64 f, .int .i64 x]) ∧ Below w.heap.size w w' := by
  have HBa := Lib.hid ((Below.refl _ w).alloc (Nat.le_refl _) (.cells #[.int .i64 0, .int .i64 0, .int .i64 0, .int .i64 0] 56))
  have HI := Lib.hid (H.below (HBa.out.drew))
  have HC := Lib.hid (C4.new w (.int .i64 0) (.int .i64 0) (.int .i64 0) (.int .i64 0) 56)
  obtain ⟨N, hN⟩ : ∃ N, t.p.sn = N := ⟨_, rfl⟩
  have HNE : Hid ((N : Int) = n) := Lib.hid (by rw [← hN]; exact hn)
  have HM := Lib.hid hm; have HF := Lib.hid hf; have HX := Lib.hid hx
  have HS0 : Hid (∀ o : Obj, (w.alloc o).drew.cell? ⟨a, 0, none⟩ = some (.slice (some ⟨s, 0, none⟩) N N) ∧ (w.alloc o).drew.cell? ⟨a, 1, none⟩ = some (.pointer (some ⟨b, 0, none⟩)) ∧ (w.alloc o).drew.cell? ⟨a, 5, none⟩ = some (.int .i64 x)) := Lib.hid (fun o => by
    have h := H.below (((Below.refl _ w).alloc (Nat.le_refl _) o).drew)
    exact ⟨by rw [← hN]; exact h.pt.c0, h.pt.c1, by rw [← hx]; exact h.c5⟩)
  clear H hN hn hm hf hx
  go_enter Tryz.func20, Tryz.ntmps20
  go_wp2
  go_region_held3 (fun wq => wq.cell? ⟨a, 0, none⟩ = some (.slice (some ⟨s, 0, none⟩) N N) ∧ wq.cell? ⟨a, 1, none⟩ = some (.pointer (some ⟨b, 0, none⟩)) ∧ wq.cell? ⟨a, 5, none⟩ = some (.int .i64 x))
    (first | exact HS0.out _ | assumption)
    (first
      | (go_at_call 68; (with_reducible refine (Nd_SizeI b g t.p.h _ HI.out.pt.nd).mono ?_); rintro e w1 ⟨rfl, rfl⟩; rw [HM.out])
      | (go_at_call 69; (with_reducible refine (Nd_FreeI b g t.p.h _ HI.out.pt.nd).mono ?_); rintro e w1 ⟨rfl, rfl⟩; rw [HF.out]))
  go_wp2
  exact bodyPost_ret (v := .agg #[.int .i64 n, .int .i64 m, .int .i64 f, .int .i64 x]) (by have := HNE.out; simp [results, Tryz.results20, go_sem, cell_set_self, *]) rfl ⟨rfl, ((Below.refl _ w).alloc (Nat.le_refl _) _).drew⟩
end
end Go.Proofs.YteheolefemlcgaaGreat
/- A table in plain terms: what a Set keeps of the heap. -/
namespace Go.Proofs.YteheolefemlcgaaGreat
open Go.RowKit
set_option linter.unusedVariables false
set_option linter.unusedSimpArgs false

/-- A table and its heap are in order; at most n blocks have been made. -/
structure TOK (t : Tbl) (hs : HS) (n : Nat) : Prop where
  ok : t.p.ok
  ids : t.p.ids
  hok : hs.ok
  sz : hs.sizes.length ≤ n
theorem takeId_in {hs : HS} (K : hs.ok) (n : Int) (hsz : hs.sizes.length ≤ 900000) : In64 (hs.takeId n) := by
  by_cases hr : hs.roomE n = 0
  · by_cases h0 : n = 0
    · subst h0; rw [HS.take_zero.2]; unfold In64; omega
    · obtain ⟨-, h2, -, -, -, -, h7⟩ := HS.take_is K hr h0
      unfold In64; omega
  · rw [(HS.take_no hr).2]; unfold In64; omega
theorem layH_ok {hs : HS} (K : hs.ok) (a n : Int) : (layH hs a n).ok := by
  by_cases e : layE hs a n = 0
  · exact (layH_yes K e).1
  · exact (layH_no K e).1
theorem put_ids {p : PT} {k v : V} (hi : p.ids) : (p.put k v).1.ids := by
  unfold PT.put
  split <;> exact hi
theorem put_sn {p : PT} {k v : V} : (p.put k v).1.sn = p.sn ∧ (p.put k v).1.sAt = p.sAt ∧ (p.put k v).1.nAt = p.nAt := by
  unfold PT.put
  split <;> exact ⟨rfl, rfl, rfl⟩
theorem putL_at : ∀ (L : List (V × V)) (p : PT), (p.putL L).sn = p.sn ∧ (p.putL L).sAt = p.sAt ∧ (p.putL L).nAt = p.nAt
  | [], p => ⟨rfl, rfl, rfl⟩
  | kv :: L, p => by
    rw [PT.putL_cons]
    obtain ⟨a, b, c⟩ := putL_at L (p.put kv.1 kv.2).1
    obtain ⟨d, e, f⟩ := @put_sn p kv.1 kv.2
    exact ⟨a.trans d, b.trans e, c.trans f⟩
/-- What a rehash keeps. -/
theorem reh_keeps {t : Tbl} {hs : HS} {n : Nat} {k : V} (H : TOK t hs n) (hn : n ≤ 800000) (hok : (t.reh hs k).1.p.ok) : TOK (t.reh hs k).1 (t.reh hs k).2.1 (n + 2) := by
  have hl := layH_sizes hs (t.p.reA k) (t.p.reN k)
  have hsz := H.sz
  refine ⟨hok, ?_, ?_, ?_⟩
  all_goals unfold Tbl.reh
  all_goals by_cases he : t.p.reE k ≠ 0
  · rw [if_pos he]; exact H.ids
  · rw [if_neg he]
    by_cases hl : layE hs (t.p.reA k) (t.p.reN k) ≠ 0
    · rw [if_pos hl]; exact H.ids
    · rw [if_neg hl]
      have h2 : ((t.p.laid k (layA hs (t.p.reA k)) (layN hs (t.p.reA k) (t.p.reN k))).sAt = layA hs (t.p.reA k)) ∧ ((t.p.laid k (layA hs (t.p.reA k)) (layN hs (t.p.reA k) (t.p.reN k))).nAt = layN hs (t.p.reA k) (t.p.reN k)) := ⟨(putL_at _ _).2.1, (putL_at _ _).2.2⟩
      show In64 (PT.sAt _) ∧ In64 (PT.nAt _)
      rw [h2.1, h2.2]
      have h3 := HS.take_sizes hs (t.p.reA k)
      exact ⟨takeId_in H.hok _ (by omega), takeId_in (HS.ok_take H.hok _) _ (by omega)⟩
  · rw [if_pos he]; exact H.hok
  · rw [if_neg he]
    by_cases hl : layE hs (t.p.reA k) (t.p.reN k) ≠ 0
    · rw [if_pos hl]; exact layH_ok H.hok _ _
    · rw [if_neg hl]; exact HS.ok_give (HS.ok_give (layH_ok H.hok _ _) _) _
  · rw [if_pos he]; show hs.sizes.length ≤ n + 2; omega
  · rw [if_neg he]
    by_cases hl2 : layE hs (t.p.reA k) (t.p.reN k) ≠ 0
    · rw [if_pos hl2]; show (layH hs _ _).sizes.length ≤ n + 2; omega
    · rw [if_neg hl2]; show (HS.sizes (HS.give (HS.give _ _) _)).length ≤ n + 2; rw [HS.give_sizes, HS.give_sizes]; omega
theorem reh_ok_any {t : Tbl} {hs : HS} (H : t.p.ok) {k v : V} (hk : okV k = true) (hv : okV v = true) (hk0 : k.k ≠ 0) (h64 : In64 k.n) (h12 : (t.p.put k v).2.2 = 12) : ((t.tried k v).reh hs k).1.p.ok := by
  by_cases h0 : ((t.tried k v).reh hs k).2.2 = 0
  · exact Tbl.reh_ok H hk hv hk0 h64 h12 h0
  · have h1 := (PT.put_is H (v := v) hk hv hk0 h64).1
    unfold Tbl.reh at h0 ⊢
    by_cases he : (t.tried k v).p.reE k ≠ 0
    · rw [if_pos he]; exact h1
    · rw [if_neg he] at h0 ⊢
      by_cases hl : layE hs ((t.tried k v).p.reA k) ((t.tried k v).p.reN k) ≠ 0
      · rw [if_pos hl]; exact h1
      · rw [if_neg hl] at h0; exact absurd rfl h0
theorem set_keeps {t : Tbl} {hs : HS} {n : Nat} {k v : V} (H : TOK t hs n) (hn : n ≤ 800000) (h64 : In64 k.n) : TOK (t.set hs k v).1 (t.set hs k v).2.1 (n + 2) := by
  have hok := (@Tbl.set_is t hs H.ok k v h64).1
  have hsz := H.sz
  by_cases h1 : okV k = false ∨ okV v = false
  · have e : t.set hs k v = (t, hs, 2) := by unfold Tbl.set; rw [if_pos h1]
    rw [e]; exact ⟨H.ok, H.ids, H.hok, by show hs.sizes.length ≤ n + 2; omega⟩
  · have hk : okV k = true := by cases e : okV k; exact absurd (.inl e) h1; rfl
    have hv : okV v = true := by cases e : okV v; exact absurd (.inr e) h1; rfl
    by_cases h2 : (t.p.put k v).2.2 ≠ 12
    · have e : t.set hs k v = (t.tried k v, hs, (t.p.put k v).2.2) := by unfold Tbl.set; rw [if_neg h1, if_pos h2]
      rw [e] at hok ⊢
      exact ⟨hok, put_ids H.ids, H.hok, by show hs.sizes.length ≤ n + 2; omega⟩
    · have h12 : (t.p.put k v).2.2 = 12 := by simpa using h2
      have hk0 : k.k ≠ 0 := fun e => by rw [PT.put_nil hk hv e] at h12; simp at h12
      have hT : TOK (t.tried k v) hs n := ⟨(PT.put_is H.ok hk hv hk0 h64).1, put_ids H.ids, H.hok, H.sz⟩
      have hR := reh_keeps (k := k) hT hn (reh_ok_any H.ok hk hv hk0 h64 h12)
      by_cases h3 : ((t.tried k v).reh hs k).2.2 ≠ 0
      · have e : t.set hs k v = (t.tried k v).reh hs k := by unfold Tbl.set; rw [if_neg h1, if_neg h2, if_pos h3]
        rw [e]; exact hR
      · have e : t.set hs k v = ({ ((t.tried k v).reh hs k).1 with p := (((t.tried k v).reh hs k).1.p.put k v).1 }, ((t.tried k v).reh hs k).2.1, (((t.tried k v).reh hs k).1.p.put k v).2.2) := by unfold Tbl.set; rw [if_neg h1, if_neg h2, if_neg h3]
        rw [e] at hok ⊢
        exact ⟨hok, put_ids hR.ids, hR.hok, hR.sz⟩
/-- A put keeps what the parts bear. -/
theorem put_n {p : PT} (H : p.ok) {k v : V} (hk : okV k = true) (hv : okV v = true) (hk0 : k.k ≠ 0) (h64 : In64 k.n) : (p.put k v).1.h.n = p.h.n := (PT.put_is H hk hv hk0 h64).2.2.2.2.1
theorem put_held {p : PT} {hs : HS} (H : p.held hs) {q : PT} (h1 : q.sn = p.sn) (h2 : q.sAt = p.sAt) (h3 : q.nAt = p.nAt) (h4 : q.h.n = p.h.n) : q.held hs ∧ q.cells = p.cells ∧ ∀ id, p.apart id → q.apart id := by
  refine ⟨⟨by rw [h1, h2]; exact H.s, by rw [h3, h4]; exact H.n, by rw [h2, h3]; exact H.ne⟩, by unfold PT.cells; rw [h1, h4], fun id h => ⟨by rw [h2]; exact h.1, by rw [h3]; exact h.2⟩⟩
/-- A Set keeps the account of the cells. -/
theorem set_held {t : Tbl} {hs : HS} {n : Nat} {k v : V} (H : TOK t hs n) (hh : t.p.held hs) (h64 : In64 k.n) :
    (t.set hs k v).1.p.held (t.set hs k v).2.1 ∧ (t.set hs k v).2.1.live - (t.set hs k v).1.p.cells = hs.live - t.p.cells ∧ (t.set hs k v).2.1.lim = hs.lim ∧ ∀ id m, hs.bears id m → t.p.apart id → (t.set hs k v).2.1.bears id m ∧ (t.set hs k v).1.p.apart id := by
  by_cases h1 : okV k = false ∨ okV v = false
  · have e : t.set hs k v = (t, hs, 2) := by unfold Tbl.set; rw [if_pos h1]
    rw [e]; exact ⟨hh, rfl, rfl, fun id m a b => ⟨a, b⟩⟩
  · have hk : okV k = true := by cases e : okV k; exact absurd (.inl e) h1; rfl
    have hv : okV v = true := by cases e : okV v; exact absurd (.inr e) h1; rfl
    have hput : ∀ {p : PT} {hs : HS}, p.ok → p.held hs → (p.put k v).1.held hs ∧ (p.put k v).1.cells = p.cells ∧ ∀ id, p.apart id → (p.put k v).1.apart id := fun {p} {hs} hp hd => by
      by_cases hk0 : k.k = 0
      · rw [PT.put_nil hk hv hk0]; exact ⟨hd, rfl, fun _ h => h⟩
      · exact put_held hd put_sn.1 put_sn.2.1 put_sn.2.2 (put_n hp hk hv hk0 h64)
    by_cases h2 : (t.p.put k v).2.2 ≠ 12
    · have e : t.set hs k v = (t.tried k v, hs, (t.p.put k v).2.2) := by unfold Tbl.set; rw [if_neg h1, if_pos h2]
      rw [e]
      obtain ⟨a, b, c⟩ := hput H.ok hh
      exact ⟨a, by show hs.live - (t.p.put k v).1.cells = _; rw [b], rfl, fun id m x y => ⟨x, c id y⟩⟩
    · have h12 : (t.p.put k v).2.2 = 12 := by simpa using h2
      have hk0 : k.k ≠ 0 := fun e => by rw [PT.put_nil hk hv e] at h12; simp at h12
      obtain ⟨a, b, c⟩ := hput H.ok hh
      obtain ⟨o1, o2, o3, o4, o5, -, o6⟩ := PT.put_is H.ok (v := v) hk hv hk0 h64
      have hfull : ¬ (t.tried k v).p.inB k ∧ ∀ i, (t.tried k v).p.h.occ i → (t.tried k v).p.h.key i ≠ k := by
        rcases o6 with ⟨-, q1, -, q2, -, -, q3, -⟩ | ⟨q1, -⟩
        · refine ⟨fun h => q1 ((PT.inB_sn o2 _).1 h), fun i hi => ?_⟩
          have e2 : (t.tried k v).p.h.key = t.p.h.key := q3
          unfold PH.occ at hi
          rw [e2] at hi ⊢
          exact q2 i hi
        · rw [h12] at q1; simp at q1
      obtain ⟨r1, r2, r3, r4, r5⟩ := reh_held (t := t.tried k v) (k := k) H.hok a (fun he => by
        obtain ⟨-, q2, q3, q4, q5, -, -⟩ := PT.laid_is (p := (t.tried k v).p) o1 hk hk0 h64 hfull.1 hfull.2 he (layA hs ((t.tried k v).p.reA k)) (layN hs ((t.tried k v).p.reA k) ((t.tried k v).p.reN k))
        exact ⟨q2, q5, q3, q4⟩)
      have hcell : (t.tried k v).p.cells = t.p.cells := b
      by_cases h3 : ((t.tried k v).reh hs k).2.2 ≠ 0
      · have e : t.set hs k v = (t.tried k v).reh hs k := by unfold Tbl.set; rw [if_neg h1, if_neg h2, if_pos h3]
        rw [e]
        exact ⟨r2, by rw [r3, hcell], r4, fun id m x y => r5 id m x (c id y)⟩
      · have e : t.set hs k v = ({ ((t.tried k v).reh hs k).1 with p := (((t.tried k v).reh hs k).1.p.put k v).1 }, ((t.tried k v).reh hs k).2.1, (((t.tried k v).reh hs k).1.p.put k v).2.2) := by unfold Tbl.set; rw [if_neg h1, if_neg h2, if_neg h3]
        rw [e]
        obtain ⟨a2, b2, c2⟩ := hput (reh_ok_any H.ok hk hv hk0 h64 h12 (hs := hs)) r2
        refine ⟨a2, ?_, r4, fun id m x y => ⟨(r5 id m x (c id y)).1, c2 id (r5 id m x (c id y)).2⟩⟩
        show ((t.tried k v).reh hs k).2.1.live - (((t.tried k v).reh hs k).1.p.put k v).1.cells = _
        rw [b2, r3, hcell]
end Go.Proofs.YteheolefemlcgaaGreat
/- Two tables on one heap, beside what a call holds; the cells' account. -/
namespace Go.Proofs.YteheolefemlcgaaGreat
open Go.RowKit
set_option linter.unusedVariables false
set_option linter.unusedSimpArgs false

/-- A table's address and its state; none: no table. -/
abbrev OT := Option (Nat × Tbl)
def OT.ptr : OT → Value
  | none => .pointer none
  | some x => .pointer (some ⟨x.1, 0, none⟩)
def OT.set : OT → HS → V → V → OT × HS × Int
  | none, hs, _, _ => (none, hs, 1)
  | some x, hs, k, v => (some (x.1, (x.2.set hs k v).1), (x.2.set hs k v).2.1, (x.2.set hs k v).2.2)
def OT.cells : OT → Int
  | none => 0
  | some x => 4 + x.2.p.cells
def OT.fit : OT → Prop
  | none => True
  | some x => x.2.p.ok ∧ x.2.p.ids
def OT.in_ (hp : Nat) (D : Nat → Prop) (w : World) : OT → Prop
  | none => True
  | some x => ∃ s b g, TabIn w x.1 s b g hp x.2 ∧ ∀ q, PB x.1 s b g q → D q
theorem OT.in_.kp {hp : Nat} {D G : Nat → Prop} {w w' : World} : ∀ {A : OT}, OT.in_ hp D w A → Kp G w w' → (∀ q, D q → ¬ G q) → OT.in_ hp D w' A
  | none, _, _, _ => trivial
  | some x, ⟨s, b, g, h, hD⟩, hk, hG => ⟨s, b, g, h.kp hk (fun q hq => hG q (hD q hq)), hD⟩
theorem OT.in_.below {hp : Nat} {D : Nat → Prop} {w w' : World} : ∀ {A : OT}, OT.in_ hp D w A → Below w.heap.size w w' → OT.in_ hp D w' A
  | none, _, _ => trivial
  | some x, ⟨s, b, g, h, hD⟩, hb => ⟨s, b, g, h.below hb, hD⟩
/-- Blocks of the call's own: made since w0, not among S. -/
structure Own (w0 : World) (S : Nat → Prop) (w : World) (D : Nat → Prop) : Prop where
  o : ∀ q, D q → w0.heap.size ≤ q ∧ ¬ S q
  lt : ∀ q, D q → q < w.heap.size
/-- Two tables (or none) on one heap, made by this call, beside blocks S that it leaves alone. -/
structure TT (w0 : World) (S : Nat → Prop) (hp : Nat) (A B : OT) (hs : HS) (w : World) : Prop where
  ex : ∃ F D E : Nat → Prop, HeapAt F w hp hs ∧ OT.in_ hp D w A ∧ OT.in_ hp E w B ∧ Own w0 S w F ∧ Own w0 S w D ∧ Own w0 S w E ∧ (∀ q, D q → ¬ F q) ∧ (∀ q, E q → ¬ F q) ∧ ∀ q, D q → ¬ E q
  res : ∀ q, S q → q < w.heap.size
  bel : Below w0.heap.size w0 w
section
variable {w0 w w' : World} {S : Nat → Prop} {hp : Nat} {A B : OT} {hs : HS}
theorem TT.swap (H : TT w0 S hp A B hs w) : TT w0 S hp B A hs w := by
  obtain ⟨⟨F, D, E, h1, h2, h3, h4, h5, h6, h7, h8, h9⟩, h10, h11⟩ := H
  exact ⟨⟨F, E, D, h1, h3, h2, h4, h6, h5, h8, h7, fun q a b => h9 q b a⟩, h10, h11⟩
theorem Own.grow {D : Nat → Prop} (H : Own w0 S w D) (hz : w.heap.size ≤ w'.heap.size) : Own w0 S w' D := ⟨H.o, fun q hq => Nat.lt_of_lt_of_le (H.lt q hq) hz⟩
theorem TT.below (H : TT w0 S hp A B hs w) (hb : Below w.heap.size w w') : TT w0 S hp A B hs w' := by
  obtain ⟨⟨F, D, E, h1, h2, h3, h4, h5, h6, h7, h8, h9⟩, h10, h11⟩ := H
  exact ⟨⟨F, D, E, h1.below hb, h2.below hb, h3.below hb, h4.grow hb.size, h5.grow hb.size, h6.grow hb.size, h7, h8, h9⟩, fun q hq => Nat.lt_of_lt_of_le (h10 q hq) hb.size, below_step h11 hb⟩
theorem TT.reserve {S' : Nat → Prop} (H : TT w0 S hp A B hs w) (hb : Below w.heap.size w w') (hS' : ∀ q, S' q → q < w'.heap.size ∧ (S q ∨ w.heap.size ≤ q)) : TT w0 S' hp A B hs w' := by
  obtain ⟨⟨F, D, E, h1, h2, h3, h4, h5, h6, h7, h8, h9⟩, h10, h11⟩ := H
  have hh : ∀ {D : Nat → Prop}, Own w0 S w D → Own w0 S' w' D := fun hD => ⟨fun q hq => ⟨(hD.o q hq).1, fun h => (hS' q h).2.elim (hD.o q hq).2 (fun h => by have := hD.lt q hq; omega)⟩, (hD.grow hb.size).lt⟩
  exact ⟨⟨F, D, E, h1.below hb, h2.below hb, h3.below hb, hh h4, hh h5, hh h6, h7, h8, h9⟩, fun q hq => (hS' q hq).1, below_step h11 hb⟩
theorem TT.start {F : Nat → Prop} (H : HeapAt F w' hp hs) (hF : ∀ q, F q → w.heap.size ≤ q) (hB : Below w0.heap.size w0 w) (hb : Below w.heap.size w w') (hS : ∀ q, S q → q < w.heap.size) : TT w0 S hp none none hs w' :=
  ⟨⟨F, fun _ => False, fun _ => False, H, trivial, trivial, ⟨fun q hq => ⟨Nat.le_trans hB.size (hF q hq), fun h => by have := hS q h; have := hF q hq; omega⟩, H.lt⟩, ⟨fun _ h => h.elim, fun _ h => h.elim⟩, ⟨fun _ h => h.elim, fun _ h => h.elim⟩, fun _ h => h.elim, fun _ h => h.elim, fun _ h => h.elim⟩, fun q hq => Nat.lt_of_lt_of_le (hS q hq) hb.size, below_step hB hb⟩
theorem New_h (w0 : World) (lim : Int) (h0 : 0 ≤ lim) (h1 : lim ≤ 400000) (w : World) (S : Nat → Prop) (hS : ∀ q, S q → q < w.heap.size) (hB : Below w0.heap.size w0 w) : Calls Tryz.prog 45 #[.int .i64 lim] w fun e w' => ∃ p, e = .returned (.tuple #[.pointer (some ⟨p, 0, none⟩), .int .i64 0]) ∧ TT w0 S p none none (HS.new lim) w' ∧ Below w.heap.size w w' := by
  refine (heap_New lim h0 h1 w).mono ?_
  rintro e w' ⟨p, F, he, hp, hH, hF, hb⟩
  exact ⟨p, he, TT.start hH hF hB hb hS, hb⟩
theorem Live_t (x : Int) (hx : hs.live = x) (H : TT w0 S hp A B hs w) : Calls Tryz.prog 29 #[.pointer (some ⟨hp, 0, none⟩)] w fun e w' => e = .returned (.int .i64 x) ∧ w = w' := by
  obtain ⟨⟨F, D, E, h1, -⟩, -, -⟩ := H; exact Live_c F hp hs x hx w h1
/-- The heap and the first table have turned. -/
theorem TT.turn {F D E D' F' G : Nat → Prop} {A' : OT} {hs' : HS} (h3 : OT.in_ hp E w B) (h4 : Own w0 S w F) (h5 : Own w0 S w D) (h6 : Own w0 S w E) (h8 : ∀ q, E q → ¬ F q) (h9 : ∀ q, D q → ¬ E q) (h10 : ∀ q, S q → q < w.heap.size) (h11 : Below w0.heap.size w0 w)
    (hk : Kp G w w') (hG : ∀ q, G q → F q ∨ D q) (n1 : OT.in_ hp D' w' A') (n2 : HeapAt F' w' hp hs') (n3 : ∀ q, D' q → D q ∨ w.heap.size ≤ q) (n4 : ∀ q, F' q → F q ∨ w.heap.size ≤ q) (n5 : ∀ q, D' q → ¬ F' q) (n6 : ∀ q, D' q → q < w'.heap.size) : TT w0 S hp A' B hs' w' ∧ ∀ q, S q → w'.heap[q]? = w.heap[q]? := by
  have hnew : ∀ q, w.heap.size ≤ q → w0.heap.size ≤ q ∧ ¬ S q := fun q hq => ⟨Nat.le_trans h11.size hq, fun h => by have := h10 q h; omega⟩
  have hGS : ∀ q, G q → w0.heap.size ≤ q ∧ ¬ S q := fun q hq => (hG q hq).elim (h4.o q) (h5.o q)
  refine ⟨⟨⟨F', D', E, n2, n1, h3.kp hk (fun q hq hg => (hG q hg).elim (h8 q hq) (fun h => h9 q h hq)), ⟨fun q hq => (n4 q hq).elim (h4.o q) (hnew q), n2.lt⟩, ⟨fun q hq => (n3 q hq).elim (h5.o q) (hnew q), n6⟩, h6.grow hk.size, n5, fun q hq hf => (n4 q hf).elim (h8 q hq) (fun h => by have := h6.lt q hq; omega), fun q hq he => (n3 q hq).elim (fun h => h9 q h he) (fun h => by have := h6.lt q he; omega)⟩, fun q hq => Nat.lt_of_lt_of_le (h10 q hq) hk.size, h11.trans (hk.toBelow (fun q hq => (hGS q hq).1) h11.size)⟩, fun q hq => hk.block q (h10 q hq) (fun h => (hGS q h).2 hq)⟩
theorem Set_t (H : TT w0 S hp A B hs w) (hA : A.fit) (hsz : hs.sizes.length ≤ 800000) (kk kn : Int) (ks : ByteArray) (vk vn : Int) (vs : ByteArray) (h64 : In64 kn) (er : Int) (he : (A.set hs ⟨kk, kn, ks⟩ ⟨vk, vn, vs⟩).2.2 = er) :
    Calls Tryz.prog 12 #[A.ptr, .agg #[.int .i64 kk, .int .i64 kn, .string ks], .agg #[.int .i64 vk, .int .i64 vn, .string vs]] w fun e w' => e = .returned (.int .i64 er) ∧ TT w0 S hp (A.set hs ⟨kk, kn, ks⟩ ⟨vk, vn, vs⟩).1 B (A.set hs ⟨kk, kn, ks⟩ ⟨vk, vn, vs⟩).2.1 w' ∧ ∀ q, S q → w'.heap[q]? = w.heap[q]? := by
  subst he
  cases A with
  | none =>
    refine (tab_Set_nil kk kn ks vk vn vs w).mono ?_
    rintro e w' ⟨he, hb⟩
    exact ⟨he, H.below hb, fun q hq => hb.block q (H.res q hq)⟩
  | some x =>
    obtain ⟨a, t⟩ := x
    obtain ⟨⟨F, D, E, h1, ⟨s, b, g, hT, hD⟩, h3, h4, h5, h6, h7, h8, h9⟩, h10, h11⟩ := H
    refine (tab_Set F a s b g hp t hs kk kn ks vk vn vs hA.1 h64 hsz hA.2 (fun q hq => h7 q (hD q hq)) _ rfl w hT h1).mono ?_
    rintro e w' ⟨he, s', b', g', F', n1, n2, n3, n4, n5, n6⟩
    obtain ⟨r1, r2⟩ := TT.turn (A' := some (a, (t.set hs ⟨kk, kn, ks⟩ ⟨vk, vn, vs⟩).1)) (D' := PB a s' b' g') h3 h4 h5 h6 h8 h9 h10 h11 n3 (fun q hq => hq.elim (fun h => .inr (hD q h)) .inl) ⟨s', b', g', n1, fun _ h => h⟩ n2 (fun q hq => (n4 q hq).imp (hD q) id) n5 n6 (fun q hq => n1.pt.lt hq)
    exact ⟨he, r1, r2⟩
end
/-! ### New in plain terms -/
def newE (hs : HS) (m n : Int) : Int := if ¬ (0 ≤ m ∧ m ≤ 65536) ∨ ¬ (0 ≤ n ∧ n ≤ 65536) then 1 else if hs.roomE 4 ≠ 0 then hs.roomE 4 else layE (hs.take 4) m (Ws.ceil2 n)
def newH (hs : HS) (m n : Int) : HS := if ¬ (0 ≤ m ∧ m ≤ 65536) ∨ ¬ (0 ≤ n ∧ n ≤ 65536) then hs else if hs.roomE 4 ≠ 0 then hs else if layE (hs.take 4) m (Ws.ceil2 n) ≠ 0 then (layH (hs.take 4) m (Ws.ceil2 n)).give (hs.takeId 4) else layH (hs.take 4) m (Ws.ceil2 n)
def newT (hs : HS) (m n : Int) : Tbl := { p := PT.bare m.toNat (Ws.ceil2 n).toNat ((hs.take 4).takeId m) (((hs.take 4).take m).takeId (3 * Ws.ceil2 n)), hint := 0, pr := 0 }
def NewO (hs : HS) (m n : Int) (A : OT) : Prop := (A = none ∧ newE hs m n ≠ 0) ∨ ∃ a, A = some (a, newT hs m n) ∧ newE hs m n = 0
theorem New_t {w0 w : World} {S : Nat → Prop} {hp : Nat} {B : OT} {hs : HS} (H : TT w0 S hp none B hs w) (hsz : hs.sizes.length ≤ 800000) (m n : Int) (er : Int) (he : newE hs m n = er) :
    Calls Tryz.prog 46 #[.pointer (some ⟨hp, 0, none⟩), .int .i64 m, .int .i64 n] w fun e w' => ∃ A, e = .returned (.tuple #[OT.ptr A, .int .i64 er]) ∧ NewO hs m n A ∧ TT w0 S hp A B (newH hs m n) w' ∧ ∀ q, S q → w'.heap[q]? = w.heap[q]? := by
  subst he
  obtain ⟨⟨F, D, E, h1, -, h3, h4, h5, h6, h7, h8, h9⟩, h10, h11⟩ := H
  have hno : ∀ {w' : World} {hs' : HS}, Goes F w hp hs' w' → TT w0 S hp none B hs' w' ∧ ∀ q, S q → w'.heap[q]? = w.heap[q]? := fun {w' hs'} hg => by
    obtain ⟨F', g1, g2, g3⟩ := hg
    exact TT.turn (A' := none) (D' := fun _ => False) h3 h4 (D := fun _ => False) ⟨fun _ h => h.elim, fun _ h => h.elim⟩ h6 h8 (fun _ h => h.elim) h10 h11 g2 (fun q h => .inl h) trivial g1 (fun _ h => h.elim) g3 (fun _ h => h.elim) (fun _ h => h.elim)
  unfold NewO newE newH
  by_cases hb : ¬ (0 ≤ m ∧ m ≤ 65536) ∨ ¬ (0 ≤ n ∧ n ≤ 65536)
  · simp only [if_pos hb]
    refine (New_arg hp m n ?_ w).mono ?_
    · by_cases h : 0 ≤ m ∧ m ≤ 65536
      · exact .inr ⟨h, hb.resolve_left (fun q => q h)⟩
      · exact .inl h
    · rintro e w' ⟨he, rfl⟩
      exact ⟨none, he, .inl ⟨rfl, by decide⟩, hno ⟨F, h1, Kp.refl _ _, fun _ h => .inl h⟩⟩
  · simp only [if_neg hb]
    obtain ⟨hm, hn⟩ : (0 ≤ m ∧ m ≤ 65536) ∧ (0 ≤ n ∧ n ≤ 65536) := by omega
    obtain ⟨m', rfl⟩ : ∃ k : Nat, m = k := ⟨m.toNat, by omega⟩
    obtain ⟨n', rfl⟩ : ∃ k : Nat, n = k := ⟨n.toNat, by omega⟩
    obtain ⟨c, hc, hc6, hpw, hcE, -⟩ := ceil_is n' (by omega)
    by_cases h4 : hs.roomE 4 ≠ 0
    · simp only [if_pos h4]
      refine (New_no1 F hp hs m' n' (by omega) (by omega) (by omega) _ rfl h4 w h1).mono ?_
      rintro e w' ⟨he, hg⟩
      exact ⟨none, he, .inl ⟨rfl, h4⟩, hno hg⟩
    · simp only [if_neg h4, hc]
      have h4' : hs.roomE 4 = 0 := by simpa using h4
      by_cases hl : layE (hs.take 4) m' c ≠ 0
      · simp only [if_pos hl]
        refine (New_no2 F hp hs m' n' (by omega) (by omega) hsz c hc hc6 hcE _ h4' rfl hl w h1).mono ?_
        rintro e w' ⟨he, hg⟩
        exact ⟨none, he, .inl ⟨rfl, hl⟩, hno hg⟩
      · simp only [if_neg hl]
        have hl' : layE (hs.take 4) m' c = 0 := by simpa using hl
        unfold layE at hl'
        unfold layH
        by_cases l1 : (hs.take 4).roomE m' ≠ 0
        · rw [if_pos l1] at hl'; exact absurd hl' l1
        · rw [if_neg l1] at hl' ⊢
          rw [if_neg (by rw [hl']; simp)]
          refine (New_yes F hp hs m' n' (by omega) (by omega) hsz c hc hc6 hpw hcE h4' (by simpa using l1) hl' w h1).mono ?_
          rintro e w' ⟨a, he, s, b, g, F', n1, n2, n3, n4, n5⟩
          have hlay : layE (hs.take 4) m' c = 0 := by simpa using hl
          refine ⟨some (a, newT hs m' n'), by rw [hlay]; exact he, .inr ⟨a, rfl, hlay⟩, ?_⟩
          have e1 : newT hs m' n' = { p := PT.bare m' c ((hs.take 4).takeId m') (((hs.take 4).take m').takeId (3 * c)), hint := 0, pr := 0 } := by
            unfold newT; rw [hc]; rfl
          rw [e1]
          exact TT.turn (A' := some (a, _)) (D' := PB a s b g) (D := fun _ => False) h3 (by assumption) ⟨fun _ h => h.elim, fun _ h => h.elim⟩ h6 h8 (fun _ h => h.elim) h10 h11 n3 (fun q h => .inl h) ⟨s, b, g, n1, fun _ h => h⟩ n2 (fun q hq => .inr (n4 q hq).1) n5 (fun q hq => (n4 q hq).2) (fun q hq => n1.pt.lt hq)
/-! ### The account -/
structure Acc (A B : OT) (hs : HS) (n : Nat) : Prop where
  hok : hs.ok
  sz : hs.sizes.length ≤ n
  a : ∀ x, A = some x → x.2.p.ok ∧ x.2.p.ids ∧ x.2.p.held hs
  b : ∀ x, B = some x → x.2.p.ok ∧ x.2.p.ids ∧ x.2.p.held hs
  ab : ∀ x y, A = some x → B = some y → x.2.p.apart y.2.p.sAt ∧ x.2.p.apart y.2.p.nAt
  live : hs.live = A.cells + B.cells
theorem PT.apart_swap {p q : PT} (h : p.apart q.sAt ∧ p.apart q.nAt) : q.apart p.sAt ∧ q.apart p.nAt := by
  obtain ⟨⟨h1, h2⟩, h3, h4⟩ := h
  exact ⟨⟨fun e => by rw [e]; exact h1 e.symm, fun e => by rw [e]; exact h3 e.symm⟩, fun e => by rw [e]; exact h2 e.symm, fun e => by rw [e]; exact h4 e.symm⟩
theorem Acc.swap {A B : OT} {hs : HS} {n : Nat} (H : Acc A B hs n) : Acc B A hs n := ⟨H.hok, H.sz, H.b, H.a, fun x y hx hy => PT.apart_swap (H.ab y x hy hx), by rw [H.live, Int.add_comm]⟩
theorem Acc.mono {A B : OT} {hs : HS} {n m : Nat} (H : Acc A B hs n) (h : n ≤ m) : Acc A B hs m := ⟨H.hok, Nat.le_trans H.sz h, H.a, H.b, H.ab, H.live⟩
theorem Acc.fit {A B : OT} {hs : HS} {n : Nat} (H : Acc A B hs n) : A.fit := by
  cases A with
  | none => trivial
  | some x => exact ⟨(H.a x rfl).1, (H.a x rfl).2.1⟩
theorem Acc.new (lim : Int) (h0 : 0 ≤ lim) (h1 : lim ≤ 400000) : Acc none none (HS.new lim) 0 := ⟨HS.ok_new lim h0 h1, Nat.le_refl _, fun x h => by simp at h, fun x h => by simp at h, fun x y h => by simp at h, rfl⟩
theorem Acc.set {A B : OT} {hs : HS} {n : Nat} (H : Acc A B hs n) (hn : n ≤ 800000) (k v : V) (h64 : In64 k.n) : Acc (A.set hs k v).1 B (A.set hs k v).2.1 (n + 2) := by
  cases A with
  | none => exact H.mono (by omega)
  | some x =>
    obtain ⟨a, t⟩ := x
    obtain ⟨t1, t2, t3⟩ := H.a _ rfl
    have hT : TOK t hs n := ⟨t1, t2, H.hok, H.sz⟩
    obtain ⟨k1, k2, k3, k4⟩ := set_keeps (k := k) (v := v) hT hn h64
    obtain ⟨d1, d2, d3, d4⟩ := set_held (k := k) (v := v) hT t3 h64
    have hlive := H.live
    refine ⟨k3, k4, fun x hx => ?_, fun y hy => ?_, fun x y hx hy => ?_, ?_⟩
    · obtain rfl := Option.some.inj hx; exact ⟨k1, k2, d1⟩
    · obtain ⟨y1, y2, y3⟩ := H.b y hy
      obtain ⟨p1, p2⟩ := H.ab _ y rfl hy
      exact ⟨y1, y2, ⟨(d4 _ _ y3.s p1).1, (d4 _ _ y3.n p2).1, y3.ne⟩⟩
    · obtain rfl := Option.some.inj hx
      obtain ⟨y1, y2, y3⟩ := H.b y hy
      obtain ⟨p1, p2⟩ := H.ab _ y rfl hy
      exact ⟨(d4 _ _ y3.s p1).2, (d4 _ _ y3.n p2).2⟩
    · show (t.set hs k v).2.1.live = 4 + (t.set hs k v).1.p.cells + B.cells
      have hl2 : hs.live = 4 + t.p.cells + B.cells := hlive
      omega
end Go.Proofs.YteheolefemlcgaaGreat
