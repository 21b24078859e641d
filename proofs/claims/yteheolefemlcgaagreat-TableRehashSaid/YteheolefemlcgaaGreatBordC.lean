/- border: present, halve, beyond, Len, Is. -/
import Derived.Test.YteheolefemlcgaaGreatPairs
import Derived.Test.YteheolefemlcgaaGreatBordP
namespace Go.Proofs.YteheolefemlcgaaGreat
open Go.RowKit
set_option linter.unusedVariables false
set_option linter.unusedSimpArgs false

/-- The table in memory, whatever was read for it; nothing else has changed since w0. -/
structure BJ (w0 : World) (a s b g hp : Nat) (t : Tbl) (w : World) : Prop where
  ex : ∃ pr, TabIn w a s b g hp { t with pr := pr }
  kp : Kp (fun q => q = a) w0 w
section
variable {w0 w w' : World} {a s b g hp : Nat} {t : Tbl}
theorem BJ.start (H : TabIn w a s b g hp t) : BJ w a s b g hp t w := ⟨⟨t.pr, H⟩, Kp.refl _ _⟩
theorem BJ.below (H : BJ w0 a s b g hp t w) (hb : Below w.heap.size w w') : BJ w0 a s b g hp t w' := by
  obtain ⟨⟨pr, h⟩, hk⟩ := H
  exact ⟨⟨pr, h.below hb⟩, hk.below hb⟩
theorem BJ.cell (H : BJ w0 a s b g hp t w) {p : Addr} (hp' : p.block < w0.heap.size) (hn : p.block ≠ a) : w.cell? p = w0.cell? p := World.cell?_of_block (H.kp.block _ hp' hn)
end
def hasT (t : Tbl) (i : Int) : Bool := decide ((t.get (iV i)).k ≠ 0)
def slotT (t : Tbl) (i : Int) : Bool := decide ((t.p.sv (i - 1).toNat).k ≠ 0)
section
variable (w0 : World) (a s b g hp : Nat) (t : Tbl)
set_option maxRecDepth 100000 in
set_option maxHeartbeats 800000 in
theorem bord_present (hok : t.p.ok) (n : Int) (w : World) (H : BJ w0 a s b g hp t w) : Calls Tryz.prog 83 #[.pointer (some ⟨a, 0, none⟩), .int .i64 n] w fun e w' => e = .returned (.bool (hasT t n)) ∧ BJ w0 a s b g hp t w' := by
  obtain ⟨⟨pr, hT⟩, hk⟩ := H
  obtain ⟨v, hv⟩ : ∃ v, t.get (iV n) = v := ⟨_, rfl⟩
  have HG : Hid (∀ W, BJ w0 a s b g hp t W → Calls Tryz.prog 18 #[.pointer (some ⟨a, 0, none⟩), .agg #[.int .i64 2, .int .i64 n, .string ⟨#[]⟩]] W fun e W' => e = .returned (.agg #[.int .i64 v.k, .int .i64 v.n, .string v.s]) ∧ BJ w0 a s b g hp t W') := Lib.hid (fun W hW => by
    obtain ⟨⟨pr, hT⟩, hk⟩ := hW
    refine (tab_Get a s b g hp { t with pr := pr } 2 n ⟨#[]⟩ hok v.k v.n v.s hv W hT).mono ?_
    rintro e W' ⟨he, hT', hkp⟩
    refine ⟨he, ?_, hk.trans hkp (fun q hq => .inl hq)⟩
    unfold Tbl.read at hT'
    split at hT'
    · exact ⟨_, hT'⟩
    · exact ⟨_, hT'⟩)
  have HJ : Hid (∀ W, Below w.heap.size w W → BJ w0 a s b g hp t W) := Lib.hid (fun W hb => ⟨⟨pr, hT.below hb⟩, hk.below hb⟩)
  have hh : hasT t n = (v.k != 0) := by unfold hasT; rw [hv]; by_cases e : v.k = 0 <;> simp [e]
  rw [hh]
  clear hT hk hv hh
  go_enter Tryz.func83, Tryz.ntmps83
  go_wp2_with fail
  (with_reducible refine (HG.out _ (HJ.out _ (Below.refl _ _))).mono ?_)
  rintro e w' ⟨rfl, hj⟩
  have HJ2 := Lib.hid hj
  have hf : ∀ (a b : Int) (c : ByteArray) (W : World), (Instr.field 35 (.agg #[.int .i64 a, .int .i64 b, .string c]) 0).run Tryz.prog W = .ok (.int .i64 a) W := fun a b c W => by rfl
  clear hj
  go_wp2
  go_ret
  exact ⟨rfl, HJ2.out⟩
end
set_option maxRecDepth 100000 in
/-- The closure that looks at a slot. -/
theorem bord_slot (a s b g hp tb : Nat) (t : Tbl) (hz : t.p.sn ≤ 65536) (w1 : World) (HT : TabIn w1 a s b g hp t) (hc : w1.cell? ⟨tb, 0, none⟩ = some (.pointer (some ⟨a, 0, none⟩))) (hl : tb < w1.heap.size) (i : Nat) (hi : i < t.p.sn) (w : World) (hb : Below w1.heap.size w1 w) :
    Calls Tryz.prog 78 #[.int .i64 ((i : Int) + 1), .pointer (some ⟨tb, 0, none⟩)] w fun e w' => e = .returned (.bool (slotT t ((i : Int) + 1))) ∧ Below w1.heap.size w1 w' := by
  obtain ⟨v, hv⟩ : ∃ v, t.p.sv i = v := ⟨_, rfl⟩
  have hh : slotT t ((i : Int) + 1) = (v.k != 0) := by
    unfold slotT
    have e : ((i : Int) + 1 - 1).toNat = i := by omega
    rw [e, hv]
    by_cases e : v.k = 0 <;> simp [e]
  have HT := Lib.hid HT; have HB := Lib.hid hb; have HV := Lib.hid hv; have HI := Lib.hid hi; have HZ := Lib.hid hz
  have c0 := (hb.cell (p := ⟨tb, 0, none⟩) hl).trans hc
  have HC : Hid (∀ W, Below w1.heap.size w1 W → W.cell? ⟨tb, 0, none⟩ = some (.pointer (some ⟨a, 0, none⟩))) := Lib.hid (fun W h => (h.cell (p := ⟨tb, 0, none⟩) hl).trans hc)
  have hf : ∀ (a b : Int) (c : ByteArray) (W : World), (Instr.field 35 (.agg #[.int .i64 a, .int .i64 b, .string c]) 0).run Tryz.prog W = .ok (.int .i64 a) W := fun a b c W => by rfl
  rw [hh]
  clear hb hv hi hz hc hl hh
  have HP : Hid (∀ W, Below w1.heap.size w1 W → Calls Tryz.prog 21 #[.pointer (some ⟨a, 0, none⟩), .int .i64 ((i : Int) + 1)] W fun e W' => e = .returned (.tuple #[.agg #[.int .i64 2, .int .i64 ((i : Int) + 1), .string ⟨#[]⟩], .agg #[.int .i64 v.k, .int .i64 v.n, .string v.s]]) ∧ Below w1.heap.size w1 W') := Lib.hid (fun W h => by
    refine (tab_Pair_in a s b g hp t HZ.out i HI.out v HV.out W (HT.out.below h)).mono ?_
    rintro e W' ⟨he, hb⟩
    exact ⟨he, below_step h hb⟩)
  go_enter Tryz.func78, Tryz.ntmps78
  go_wp2_with fail
  (with_reducible refine (HP.out _ HB.out).mono ?_)
  rintro e w' ⟨rfl, hb⟩
  have HB2 := Lib.hid hb
  clear hb
  go_wp2
  go_ret
  exact ⟨rfl, (HB2.out.alloc HB2.out.size _).alloc (by have := HB2.out.size; simp [go_sem]; omega) _⟩

set_option maxRecDepth 100000 in
set_option maxHeartbeats 800000 in
theorem halve_S (tb : Nat) (has : Int → Bool) (J : World → Prop) (low high : Int) (f : Nat) (h0 : 0 ≤ low) (h1 : low < high) (h2 : high ≤ 9223372036854775807) (hf : high - low ≤ f)
    (hJ : ∀ W m, J W → low < m → m < high → Calls Tryz.prog 78 #[.int .i64 m, .pointer (some ⟨tb, 0, none⟩)] W fun e W' => e = .returned (.bool (has m)) ∧ J W') (w : World) (hw : J w) :
    Calls Tryz.prog 80 #[.int .i64 low, .int .i64 high, .func (.func 78) #[] #[.pointer (some ⟨tb, 0, none⟩)]] w fun e w' => e = .returned (.int .i64 (Bd.halve has f low high)) ∧ J w' := by
  have HJ := Lib.hid hJ; have HW := Lib.hid hw; have HB := Lib.hid (show 0 ≤ low ∧ low < high ∧ high ≤ 9223372036854775807 ∧ high - low ≤ f from ⟨h0, h1, h2, hf⟩)
  clear hJ hw h0 h1 h2 hf
  go_enter Tryz.func80, Tryz.ntmps80
  go_wp2_with fail
  go_loopw [0, 1] (fun l h wr => ∃ l' h' : Int, l = .int .i64 l' ∧ h = .int .i64 h' ∧ Hid (low ≤ l' ∧ l' < h' ∧ h' ≤ high) ∧ Hid (Bd.halve has f low high = Bd.halve has f l' h') ∧ Hid (J wr)) (fun l h _ => (intOf h - intOf l).toNat)
  case atStart => exact ⟨low, high, rfl, rfl, Lib.hid ⟨Int.le_refl _, HB.out.2.1, Int.le_refl _⟩, Lib.hid rfl, HW⟩
  case round =>
    clear HW
    obtain ⟨l, h, rfl, rfl, HL, HE, HW⟩ := hrel
    have hd : wrap64 (h - l) = h - l := wrap64_id (by have := HL.out; have := HB.out; unfold In64; omega)
    by_cases h1 : 1 < h - l
    · have d1 : decide (1 < wrap64 (h - l)) = true := by rw [hd]; simpa using h1
      obtain ⟨M, hM⟩ : ∃ M, l + (h - l).tdiv 2 = M := ⟨_, rfl⟩
      have hm := Bd.mid h1
      rw [hM] at hm
      have hw1 : wrap64 ((h - l).tdiv 2) = (h - l).tdiv 2 := wrap64_id (by have := HL.out; have := HB.out; unfold In64; omega)
      have hw2 : wrap64 (l + (h - l).tdiv 2) = M := by rw [hM]; exact wrap64_id (by have := HL.out; have := HB.out; unfold In64; omega)
      have HM : Hid (l < M ∧ M < h) := Lib.hid hm
      have HH : Hid (Bd.halve has f l h = if has M = true then Bd.halve has f M h else Bd.halve has f l M) := Lib.hid (by
        have hL := HL.out; have hB := HB.out
        obtain ⟨g, rfl⟩ : ∃ g, f = g + 1 := ⟨f - 1, by omega⟩
        rw [← Bd.halve_fuel has g (g + 1) M h (by omega) (by omega), ← Bd.halve_fuel has g (g + 1) l M (by omega) (by omega)]
        conv => lhs; unfold Bd.halve
        rw [if_pos h1, hM])
      clear hm hM
      go_wp2_with fail
      (with_reducible refine (HJ.out _ M HW.out (by have := HM.out; have := HL.out; omega) (by have := HM.out; have := HL.out; omega)).mono ?_)
      rintro e w' ⟨rfl, hj⟩
      have HJ2 := Lib.hid hj
      clear hj
      by_cases hb : has M = true
      · rw [if_pos hb] at HH
        rw [hb]
        go_wp2_with fail
        go_roundw
        case rel => exact ⟨M, h, rfl, rfl, Lib.hid (by have := HM.out; have := HL.out; omega), Lib.hid (HE.out.trans HH.out), HJ2⟩
        case measure => simp only [intOf]; have := HM.out; have := HL.out; omega
      · have hb' : has M = false := by simpa using hb
        rw [if_neg hb] at HH
        rw [hb']
        go_wp2_with fail
        go_roundw
        case rel => exact ⟨l, M, rfl, rfl, Lib.hid (by have := HM.out; have := HL.out; omega), Lib.hid (HE.out.trans HH.out), HJ2⟩
        case measure => simp only [intOf]; have := HM.out; have := HL.out; omega
    · have d1 : decide (1 < wrap64 (h - l)) = false := by rw [hd]; simpa using h1
      have HH : Hid (Bd.halve has f l h = l) := Lib.hid (by
        have hL := HL.out; have hB := HB.out
        obtain ⟨g, rfl⟩ : ∃ g, f = g + 1 := ⟨f - 1, by omega⟩
        unfold Bd.halve
        rw [if_neg h1])
      go_wp2
      go_ret
      exact ⟨by rw [HE.out, HH.out]; rfl, HW.out⟩

set_option maxRecDepth 100000 in
set_option maxHeartbeats 800000 in
theorem halve_P (tb : Nat) (has : Int → Bool) (J : World → Prop) (low high : Int) (f : Nat) (h0 : 0 ≤ low) (h1 : low < high) (h2 : high ≤ 9223372036854775807) (hf : high - low ≤ f)
    (hJ : ∀ W m, J W → low < m → m < high → Calls Tryz.prog 106 #[.int .i64 m, .pointer (some ⟨tb, 0, none⟩)] W fun e W' => e = .returned (.bool (has m)) ∧ J W') (w : World) (hw : J w) :
    Calls Tryz.prog 80 #[.int .i64 low, .int .i64 high, .func (.func 106) #[] #[.pointer (some ⟨tb, 0, none⟩)]] w fun e w' => e = .returned (.int .i64 (Bd.halve has f low high)) ∧ J w' := by
  have HJ := Lib.hid hJ; have HW := Lib.hid hw; have HB := Lib.hid (show 0 ≤ low ∧ low < high ∧ high ≤ 9223372036854775807 ∧ high - low ≤ f from ⟨h0, h1, h2, hf⟩)
  clear hJ hw h0 h1 h2 hf
  go_enter Tryz.func80, Tryz.ntmps80
  go_wp2_with fail
  go_loopw [0, 1] (fun l h wr => ∃ l' h' : Int, l = .int .i64 l' ∧ h = .int .i64 h' ∧ Hid (low ≤ l' ∧ l' < h' ∧ h' ≤ high) ∧ Hid (Bd.halve has f low high = Bd.halve has f l' h') ∧ Hid (J wr)) (fun l h _ => (intOf h - intOf l).toNat)
  case atStart => exact ⟨low, high, rfl, rfl, Lib.hid ⟨Int.le_refl _, HB.out.2.1, Int.le_refl _⟩, Lib.hid rfl, HW⟩
  case round =>
    clear HW
    obtain ⟨l, h, rfl, rfl, HL, HE, HW⟩ := hrel
    have hd : wrap64 (h - l) = h - l := wrap64_id (by have := HL.out; have := HB.out; unfold In64; omega)
    by_cases h1 : 1 < h - l
    · have d1 : decide (1 < wrap64 (h - l)) = true := by rw [hd]; simpa using h1
      obtain ⟨M, hM⟩ : ∃ M, l + (h - l).tdiv 2 = M := ⟨_, rfl⟩
      have hm := Bd.mid h1
      rw [hM] at hm
      have hw1 : wrap64 ((h - l).tdiv 2) = (h - l).tdiv 2 := wrap64_id (by have := HL.out; have := HB.out; unfold In64; omega)
      have hw2 : wrap64 (l + (h - l).tdiv 2) = M := by rw [hM]; exact wrap64_id (by have := HL.out; have := HB.out; unfold In64; omega)
      have HM : Hid (l < M ∧ M < h) := Lib.hid hm
      have HH : Hid (Bd.halve has f l h = if has M = true then Bd.halve has f M h else Bd.halve has f l M) := Lib.hid (by
        have hL := HL.out; have hB := HB.out
        obtain ⟨g, rfl⟩ : ∃ g, f = g + 1 := ⟨f - 1, by omega⟩
        rw [← Bd.halve_fuel has g (g + 1) M h (by omega) (by omega), ← Bd.halve_fuel has g (g + 1) l M (by omega) (by omega)]
        conv => lhs; unfold Bd.halve
        rw [if_pos h1, hM])
      clear hm hM
      go_wp2_with fail
      (with_reducible refine (HJ.out _ M HW.out (by have := HM.out; have := HL.out; omega) (by have := HM.out; have := HL.out; omega)).mono ?_)
      rintro e w' ⟨rfl, hj⟩
      have HJ2 := Lib.hid hj
      clear hj
      by_cases hb : has M = true
      · rw [if_pos hb] at HH
        rw [hb]
        go_wp2_with fail
        go_roundw
        case rel => exact ⟨M, h, rfl, rfl, Lib.hid (by have := HM.out; have := HL.out; omega), Lib.hid (HE.out.trans HH.out), HJ2⟩
        case measure => simp only [intOf]; have := HM.out; have := HL.out; omega
      · have hb' : has M = false := by simpa using hb
        rw [if_neg hb] at HH
        rw [hb']
        go_wp2_with fail
        go_roundw
        case rel => exact ⟨l, M, rfl, rfl, Lib.hid (by have := HM.out; have := HL.out; omega), Lib.hid (HE.out.trans HH.out), HJ2⟩
        case measure => simp only [intOf]; have := HM.out; have := HL.out; omega
    · have d1 : decide (1 < wrap64 (h - l)) = false := by rw [hd]; simpa using h1
      have HH : Hid (Bd.halve has f l h = l) := Lib.hid (by
        have hL := HL.out; have hB := HB.out
        obtain ⟨g, rfl⟩ : ∃ g, f = g + 1 := ⟨f - 1, by omega⟩
        unfold Bd.halve
        rw [if_neg h1])
      go_wp2
      go_ret
      exact ⟨by rw [HE.out, HH.out]; rfl, HW.out⟩
end Go.Proofs.YteheolefemlcgaaGreat
