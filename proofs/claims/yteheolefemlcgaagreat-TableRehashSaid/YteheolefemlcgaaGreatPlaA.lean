/- A table: Places, Pair, Place. -/
import Derived.Test.YteheolefemlcgaaGreatPairs
namespace Go.Proofs.YteheolefemlcgaaGreat
open Go.RowKit
set_option linter.unusedVariables false
set_option linter.unusedSimpArgs false

set_option maxHeartbeats 800000 in
theorem tab_Places (a s b g hp : Nat) (t : Tbl) (n m : Nat) (hn : t.p.sn = n) (hm : t.p.h.n = m) (hz : n ≤ 65536) (hy : m ≤ 65536) (w : World) (H : TabIn w a s b g hp t) : Calls Tryz.prog 75 #[.pointer (some ⟨a, 0, none⟩)] w fun e w' => e = .returned (.int .i64 ((n + m : Nat) : Int)) ∧ Below w.heap.size w w' := by
  have HI := Lib.hid (H.below ((Below.refl _ w).drew))
  have HM := Lib.hid hm
  have HS0 := Lib.hid (show w.drew.cell? ⟨a, 0, none⟩ = some (.slice (some ⟨s, 0, none⟩) n n) ∧ w.drew.cell? ⟨a, 1, none⟩ = some (.pointer (some ⟨b, 0, none⟩)) from ⟨by rw [← hn]; exact HI.out.pt.c0, HI.out.pt.c1⟩)
  have m1 : IntKind.i64.wrap ((n : Int) + (m : Int)) = ((n + m : Nat) : Int) := by rw [Go.IntWalk.i64_in _ (by omega)]; omega
  clear H hn hm
  go_enter Tryz.func75, Tryz.ntmps75
  go_wp2
  go_region_held3 (fun wq => wq.cell? ⟨a, 0, none⟩ = some (.slice (some ⟨s, 0, none⟩) n n) ∧ wq.cell? ⟨a, 1, none⟩ = some (.pointer (some ⟨b, 0, none⟩)))
    (first | exact HS0.out | assumption)
    (first | (go_at_call 68; (with_reducible refine (Nd_SizeI b g t.p.h _ HI.out.pt.nd).mono ?_); rintro e w1 ⟨rfl, rfl⟩; rw [HM.out]))
  go_wp2
  go_ret
  exact ⟨congrArg (fun x => Ending.returned (.int .i64 x)) (by omega), (Below.refl _ w).drew⟩
section
variable (a s b g hp : Nat) (t : Tbl) (kk kn : Int) (ks : ByteArray)
set_option maxRecDepth 100000 in
set_option maxHeartbeats 800000 in
theorem tab_Place_in (i : Nat) (hs : ks.toList = []) (hz : t.p.sn ≤ 65536) (hi : i < t.p.sn) (w : World) (H : TabIn w a s b g hp t) :
    Calls Tryz.prog 31 #[.pointer (some ⟨a, 0, none⟩), .agg #[.int .i64 2, .int .i64 ((i : Int) + 1), .string ks]] w fun e w' => e = .returned (.int .i64 ((i : Int) + 1)) ∧ Below w.heap.size w w' := by
  have HI := Lib.hid H; have HS := Lib.hid hs; have HZ := Lib.hid hz; have HIL := Lib.hid hi
  have HBa : Hid (Below w.heap.size w (w.alloc (.cells #[.int .i64 2, .int .i64 ((i : Int) + 1), .string ks] 35))) := Lib.hid ((Below.refl _ w).alloc (Nat.le_refl _) _)
  have HK := Lib.hid (C3.new w 2 ((i : Int) + 1) ks)
  clear H hs hz hi
  go_enter Tryz.func31, Tryz.ntmps31
  go_wp2
  have HS0 := Lib.hid (show ((w.alloc (.cells #[.int .i64 2, .int .i64 ((i : Int) + 1), .string ks] 35)).drew).cell? ⟨w.heap.size, 0, none⟩ = some (.int .i64 2) ∧ ((w.alloc (.cells #[.int .i64 2, .int .i64 ((i : Int) + 1), .string ks] 35)).drew).cell? ⟨w.heap.size, 1, none⟩ = some (.int .i64 ((i : Int) + 1)) ∧ ((w.alloc (.cells #[.int .i64 2, .int .i64 ((i : Int) + 1), .string ks] 35)).drew).cell? ⟨w.heap.size, 2, none⟩ = some (.string ks) from ⟨HK.out.c0, HK.out.c1, HK.out.c2⟩)
  go_region_held3 (fun wq => wq.cell? ⟨w.heap.size, 0, none⟩ = some (.int .i64 2) ∧ wq.cell? ⟨w.heap.size, 1, none⟩ = some (.int .i64 ((i : Int) + 1)) ∧ wq.cell? ⟨w.heap.size, 2, none⟩ = some (.string ks))
    (first | exact HS0.out | assumption | exact ⟨(HB1.out.cell (p := ⟨w.heap.size, 0, none⟩) (by simp [go_sem])).trans HS0.out.1, (HB1.out.cell (p := ⟨w.heap.size, 1, none⟩) (by simp [go_sem])).trans HS0.out.2.1, (HB1.out.cell (p := ⟨w.heap.size, 2, none⟩) (by simp [go_sem])).trans HS0.out.2.2⟩)
    (first | (go_at_call 64; (with_reducible refine (part_slot_yes a s b g t.p i ks HS.out HZ.out HIL.out _ (HI.out.pt.below HBa.out.drew)).mono ?_); rintro e w1 ⟨rfl, hb1⟩; have HB1 := Lib.hid hb1; clear hb1))
  have HBw := Lib.hid (HBa.out.drew.trans (HB1.out.mono (by simp [go_sem])))
  have HK1 := Lib.hid (HK.out.drew.below HB1.out (by simp [go_sem]))
  have k1 := HK1.out.c1
  simp only [Nat.zero_add] at k1
  go_wp2
  go_ret
  exact ⟨rfl, HBw.out⟩
/-- The node that holds a key, as the place says it. -/
def placeI (n : Nat) : Option Nat → Int
  | some i => (n : Int) + 1 + i
  | none => 0
set_option maxRecDepth 100000 in
set_option maxHeartbeats 800000 in
theorem tab_Place_out (hg : t.p.h.good) (hz : t.p.sn ≤ 65536) (hb : ¬ t.p.inB ⟨kk, kn, ks⟩) (fo : Option Nat) (hfo : (t.p.h.findA ⟨kk, kn, ks⟩).1 = fo) (rd : Nat) (hr : (t.p.h.findA ⟨kk, kn, ks⟩).2 = rd) (w : World) (H : TabIn w a s b g hp t) :
    Calls Tryz.prog 31 #[.pointer (some ⟨a, 0, none⟩), .agg #[.int .i64 kk, .int .i64 kn, .string ks]] w fun e w' => e = .returned (.int .i64 (placeI t.p.sn fo)) ∧ TabIn w' a s b g hp { t with pr := wrap64 (t.pr + rd) } ∧ Kp (fun q => q = a) w w' := by
  have HI := Lib.hid H; have HZ := Lib.hid hz; have HG := Lib.hid hg; have HB := Lib.hid hb; have HRD := Lib.hid hr
  have HFO := Lib.hid hfo
  have HLT : Hid (∀ i, fo = some i → i < 65536) := Lib.hid (fun i e => by have := findA_lt hg ⟨kk, kn, ks⟩ i (hfo.trans e); have := hg.sz; omega)
  obtain ⟨at', hat⟩ : ∃ x, atI fo = x := ⟨_, rfl⟩
  have HAT : Hid (atI (t.p.h.findA ⟨kk, kn, ks⟩).1 = at') := Lib.hid (by rw [hfo]; exact hat)
  have HBa : Hid (Below w.heap.size w (w.alloc (.cells #[.int .i64 kk, .int .i64 kn, .string ks] 35))) := Lib.hid ((Below.refl _ w).alloc (Nat.le_refl _) _)
  have HK := Lib.hid (C3.new w kk kn ks)
  obtain ⟨N, hN⟩ : ∃ N, t.p.sn = N := ⟨_, rfl⟩
  have HN := Lib.hid hN
  have HNZ : Hid (N ≤ 65536) := Lib.hid (by omega)
  have HATT := Lib.hid hat
  clear H hz hg hb hr hfo hN hat
  go_enter Tryz.func31, Tryz.ntmps31
  go_wp2
  have HS0 := Lib.hid (show ((w.alloc (.cells #[.int .i64 kk, .int .i64 kn, .string ks] 35)).drew).cell? ⟨w.heap.size, 0, none⟩ = some (.int .i64 kk) ∧ ((w.alloc (.cells #[.int .i64 kk, .int .i64 kn, .string ks] 35)).drew).cell? ⟨w.heap.size, 1, none⟩ = some (.int .i64 kn) ∧ ((w.alloc (.cells #[.int .i64 kk, .int .i64 kn, .string ks] 35)).drew).cell? ⟨w.heap.size, 2, none⟩ = some (.string ks) from ⟨HK.out.c0, HK.out.c1, HK.out.c2⟩)
  go_region_held3 (fun wq => wq.cell? ⟨w.heap.size, 0, none⟩ = some (.int .i64 kk) ∧ wq.cell? ⟨w.heap.size, 1, none⟩ = some (.int .i64 kn) ∧ wq.cell? ⟨w.heap.size, 2, none⟩ = some (.string ks))
    (first | exact HS0.out | assumption | exact ⟨(HB1.out.cell (p := ⟨w.heap.size, 0, none⟩) (by simp [go_sem])).trans HS0.out.1, (HB1.out.cell (p := ⟨w.heap.size, 1, none⟩) (by simp [go_sem])).trans HS0.out.2.1, (HB1.out.cell (p := ⟨w.heap.size, 2, none⟩) (by simp [go_sem])).trans HS0.out.2.2⟩)
    (first | (go_at_call 64; (with_reducible refine (part_slot_no a s b g t.p kk kn ks HZ.out HB.out _ (HI.out.pt.below HBa.out.drew)).mono ?_); rintro e w1 ⟨rfl, hb1⟩; have HB1 := Lib.hid hb1; clear hb1))
  have HBw := Lib.hid (HBa.out.drew.trans (HB1.out.mono (by simp [go_sem])))
  have HI1 := Lib.hid (HI.out.below HBw.out)
  have HK1 := Lib.hid (HK.out.drew.below HB1.out (by simp [go_sem]))
  go_wp2
  have HS1 := Lib.hid (show w1.drew.cell? ⟨a, 1, none⟩ = some (.pointer (some ⟨b, 0, none⟩)) ∧ w1.drew.cell? ⟨w.heap.size, 0, none⟩ = some (.int .i64 kk) ∧ w1.drew.cell? ⟨w.heap.size, 1, none⟩ = some (.int .i64 kn) ∧ w1.drew.cell? ⟨w.heap.size, 2, none⟩ = some (.string ks) from ⟨HI1.out.pt.c1, HK1.out.c0, HK1.out.c1, HK1.out.c2⟩)
  have HLA := Lib.hid HI1.out.pt.la
  have STP : Hid (∀ u : World, Below w1.heap.size w1 u → u.cell? ⟨a, 1, none⟩ = some (.pointer (some ⟨b, 0, none⟩)) ∧ u.cell? ⟨w.heap.size, 0, none⟩ = some (.int .i64 kk) ∧ u.cell? ⟨w.heap.size, 1, none⟩ = some (.int .i64 kn) ∧ u.cell? ⟨w.heap.size, 2, none⟩ = some (.string ks)) := Lib.hid (fun u hu => ⟨(hu.cell (p := ⟨a, 1, none⟩) HLA.out).trans HS1.out.1, (hu.cell (p := ⟨w.heap.size, 0, none⟩) HK1.out.lt).trans HS1.out.2.1, (hu.cell (p := ⟨w.heap.size, 1, none⟩) HK1.out.lt).trans HS1.out.2.2.1, (hu.cell (p := ⟨w.heap.size, 2, none⟩) HK1.out.lt).trans HS1.out.2.2.2⟩)
  have HD : Hid (Below w1.heap.size w1 w1.drew) := Lib.hid ((Below.refl _ w1).drew)
  go_region_held3 (fun wq => wq.cell? ⟨a, 1, none⟩ = some (.pointer (some ⟨b, 0, none⟩)) ∧ wq.cell? ⟨w.heap.size, 0, none⟩ = some (.int .i64 kk) ∧ wq.cell? ⟨w.heap.size, 1, none⟩ = some (.int .i64 kn) ∧ wq.cell? ⟨w.heap.size, 2, none⟩ = some (.string ks))
    (first | exact HS1.out | assumption | exact STP.out _ HB2.out)
    (first
      | (go_at_call 76; (with_reducible refine (Nd_FindA _ b t.p.h kk kn ks w1.drew ((HI1.out.pt.nd.below HD.out).nodes HG.out) at' rd HAT.out HRD.out).mono ?_); rintro e w2 ⟨rfl, hb2⟩; have HB2 := Lib.hid (HD.out.trans hb2); clear hb2))
  have HI2 := Lib.hid (HI1.out.below HB2.out)
  have c6 := HI2.out.c6
  have f6 := HI2.out.pt.fa 6
  have c0 := HI2.out.pt.c0
  rw [HN.out] at c0
  have HK2 := Lib.hid (HI2.out.probed (wrap64 (t.pr + rd)))
  have HKP : Hid (Kp (fun q => q = a) w (w2.setCell ⟨a, 6, none⟩ (.int .i64 (wrap64 (t.pr + rd))))) := Lib.hid ((below_kp (HBw.out.trans (HB2.out.mono HBw.out.size)) : Kp (fun q => q = a) w w2).set ⟨a, 6, none⟩ (.inl rfl) _)
  cases fo with
  | none =>
    have ha : at' = -1 := HATT.out.symm
    subst ha
    go_wp2
    go_ret
    exact ⟨by rw [HN.out]; rfl, HK2.out, HKP.out⟩
  | some i =>
    have ha : at' = (i : Int) := HATT.out.symm
    subst ha
    have hi := HLT.out i rfl
    have hn := HNZ.out
    have d1 : decide ((i : Int) < 0) = false := by simp
    have m1 : wrap64 ((N : Int) + 1) = (N : Int) + 1 := wrap64_id (by unfold In64; omega)
    have m2 : wrap64 ((N : Int) + 1 + (i : Int)) = (N : Int) + 1 + i := wrap64_id (by unfold In64; omega)
    clear hi hn
    go_wp2
    go_ret
    exact ⟨by rw [HN.out]; exact congrArg (fun x => Ending.returned (.int .i64 x)) m2, HK2.out, HKP.out⟩
/-- The place of a key. -/
def PT.place (p : PT) (k : V) : Int := if p.inB k then k.n else placeI p.sn (p.h.findA k).1
theorem tab_Place (hok : t.p.ok) (w : World) (H : TabIn w a s b g hp t) :
    Calls Tryz.prog 31 #[.pointer (some ⟨a, 0, none⟩), .agg #[.int .i64 kk, .int .i64 kn, .string ks]] w fun e w' => e = .returned (.int .i64 (t.p.place ⟨kk, kn, ks⟩)) ∧ TabIn w' a s b g hp (t.read ⟨kk, kn, ks⟩) ∧ Kp (fun q => q = a) w w' := by
  unfold Tbl.read PT.place
  by_cases hb : t.p.inB ⟨kk, kn, ks⟩
  · rw [if_pos hb, if_pos hb]
    obtain ⟨i, hi, rfl, h2, rfl, h3⟩ := inB_form hb
    exact (tab_Place_in a s b g hp t ks i h2 hok.sz hi w H).mono fun e w' ⟨h4, h5⟩ => ⟨h4, H.below h5, below_kp h5⟩
  · rw [if_neg hb, if_neg hb]
    exact tab_Place_out a s b g hp t kk kn ks hok.hg hok.sz hb _ rfl _ rfl w H
end
end Go.Proofs.YteheolefemlcgaaGreat
