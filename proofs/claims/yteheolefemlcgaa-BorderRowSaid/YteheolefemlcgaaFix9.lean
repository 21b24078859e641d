/- The border's laws: the fixed answers. -/
import Derived.Test.YteheolefemlcgaaLaw09
namespace Go.Proofs.Yteheolefemlcgaa
open Go.RowKit Go.Maps
set_option linter.unusedVariables false
set_option linter.unusedSimpArgs false

def z0 : Tbl × HS := (newT (HS.new 400000) 0 0, newH (HS.new 400000) 0 0)
def z1 := stp z0 (iV 1) (iV 1)
def z2 := stp z1 (iV 2) (iV 2)
def z3 := stp z2 (iV 3) (iV 3)
def z4 := stp z3 (iV 4) (iV 4)
def zN : Nat → Tbl × HS
  | 0 => z0
  | 1 => z1
  | 2 => z2
  | 3 => z3
  | _ => z4
theorem zN_succ (i : Nat) (hi : i < 4) : zN (i + 1) = stp (zN i) (iV ((i : Int) + 1)) (iV ((i : Int) + 1)) := by
  match i, hi with
  | 0, _ => rfl
  | 1, _ => rfl
  | 2, _ => rfl
  | 3, _ => rfl
def hntd (x : Tbl × HS) (n : Int) : Tbl × HS := ({ x.1 with hint := n }, x.2)
def z5 := stp z4 (iV 4) nilV
def z6 := hntd z5 3
def z7 := stp z6 (iV 2) nilV
def z8 := hntd z7 3
def z9 := stp z8 (iV 3) nilV
def z10 := hntd z9 1
theorem z5_len : ¬ farT z5.1 ∧ lenP z5.1 = 3 := by decide +kernel
theorem z7_len : ¬ farT z7.1 ∧ lenP z7.1 = 3 := by decide +kernel
theorem z9_len : ¬ farT z9.1 ∧ lenP z9.1 = 1 := by decide +kernel
theorem z10_is : isP z10.1 1 = true ∧ isP z10.1 2 = false ∧ z10.1.hint = 1 := by decide +kernel
theorem isP_p {t t' : Tbl} (h : t'.p = t.p) (n : Int) : isP t' n = isP t n := by unfold isP hasT Tbl.get; rw [h]
section
variable (w : World)
theorem nil_Stats : Calls Try.prog 28 #[.pointer none] w fun e w' => e = .returned (.agg #[.int .i64 0, .int .i64 0, .int .i64 0, .int .i64 0]) ∧ Below w.heap.size w w' := by
  go_enter Try.func28, Try.ntmps28
  go_wp2
  exact bodyPost_ret (v := .agg #[.int .i64 0, .int .i64 0, .int .i64 0, .int .i64 0]) (by simp [results, Try.results28, go_sem, cell_set_self, *]) rfl ⟨rfl, (Below.refl _ w).alloc (Nat.le_refl _) _⟩
set_option maxRecDepth 100000 in
theorem nil_Get (kk kn : Int) (ks : ByteArray) : Calls Try.prog 25 #[.pointer none, .agg #[.int .i64 kk, .int .i64 kn, .string ks]] w fun e w' => e = .returned (.agg #[.int .i64 0, .int .i64 0, .string ⟨#[]⟩]) ∧ Below w.heap.size w w' := by
  go_enter Try.func25, Try.ntmps25
  go_wp2
  exact bodyPost_ret (v := .agg #[.int .i64 0, .int .i64 0, .string ⟨#[]⟩]) (by simp [results, Try.results25, go_sem, cell_set_self, *]) rfl ⟨rfl, ((Below.refl _ w).alloc (Nat.le_refl _) _).alloc (by simp) _⟩
set_option maxRecDepth 100000 in
theorem nil_present (n : Int) : Calls Try.prog 75 #[.pointer none, .int .i64 n] w fun e w' => e = .returned (.bool false) ∧ Below w.heap.size w w' := by
  have hf : ∀ (a b : Int) (c : ByteArray) (W : World), (Instr.field 39 (.agg #[.int .i64 a, .int .i64 b, .string c]) 0).run Try.prog W = .ok (.int .i64 a) W := fun a b c W => by rfl
  go_enter Try.func75, Try.ntmps75
  go_wp2_with fail
  (with_reducible refine (nil_Get _ _ _ _).mono ?_)
  rintro e w' ⟨rfl, hb⟩
  have HB := Lib.hid hb
  clear hb
  go_wp2
  go_ret
  exact ⟨rfl, HB.out⟩
theorem nil_beyond : Calls Try.prog 73 #[.pointer none, .int .i64 0] w fun e w' => e = .returned (.int .i64 0) ∧ Below w.heap.size w w' := by
  have HB0 := Lib.hid ((Below.refl w.heap.size w).alloc (Nat.le_refl _) (.cells #[.pointer none] 32))
  go_enter Try.func73, Try.ntmps73
  go_wp2_with fail
  (with_reducible refine (nil_present _ _).mono ?_)
  rintro e w' ⟨rfl, hb⟩
  have HB := Lib.hid (below_step HB0.out hb)
  clear hb
  go_wp2
  go_ret
  exact ⟨rfl, HB.out⟩
set_option maxRecDepth 100000 in
theorem nil_Len : Calls Try.prog 47 #[.pointer none] w fun e w' => e = .returned (.int .i64 0) ∧ Below w.heap.size w w' := by
  have hb0 := (Below.refl w.heap.size w).alloc (Nat.le_refl _) (.cells #[.pointer none] 32)
  have HB0 := Lib.hid hb0
  have HC0 : Hid (∀ W, Below (w.heap.size + 1) (w.alloc (.cells #[.pointer none] 32)) W → W.cell? ⟨w.heap.size, 0, none⟩ = some (.pointer none)) := Lib.hid (fun W h => (h.cell (p := ⟨w.heap.size, 0, none⟩) (by simp)).trans (by simp [go_sem]))
  clear hb0
  go_enter Try.func47, Try.ntmps47
  go_wp2_with fail
  (with_reducible refine (nil_Stats _).mono ?_)
  rintro e w2 ⟨rfl, hb⟩
  have HB := Lib.hid (below_step HB0.out hb)
  have hb2 : Below (w.heap.size + 1) (w.alloc (.cells #[.pointer none] 32)) w2 := by have h := hb; rw [World.size_alloc] at h; exact h
  have hb3 := hb2.alloc (by have := hb2.size; rw [World.size_alloc] at this; exact this) (.cells #[.int .i64 0, .int .i64 0, .int .i64 0, .int .i64 0] 51)
  have HB3 := Lib.hid (HB.out.alloc HB.out.size (.cells #[.int .i64 0, .int .i64 0, .int .i64 0, .int .i64 0] 51))
  have c0 := HC0.out _ hb3
  clear hb hb2 hb3
  go_wp2_with fail
  (with_reducible refine (nil_beyond _).mono ?_)
  rintro e w3 ⟨rfl, hb⟩
  have HB4 := Lib.hid (below_step HB3.out hb)
  clear hb
  go_wp2
  go_ret
  exact ⟨rfl, HB4.out⟩
end
theorem BS.stats {w0 w : World} {S : Nat → Prop} {hp a n : Nat} {t : Tbl} {hs : HS} (H : BS w0 S hp a t hs n w) (q1 q2 q3 q4 : Int) (e1 : (t.p.sn : Int) = q1) (e2 : (t.p.h.n : Int) = q2) (e3 : (t.p.h.free : Int) = q3) (e4 : t.hint = q4) : Calls Try.prog 28 #[.pointer (some ⟨a, 0, none⟩)] w fun e w' => e = .returned (.agg #[.int .i64 q1, .int .i64 q2, .int .i64 q3, .int .i64 q4]) ∧ Below w.heap.size w w' := by
  obtain ⟨⟨F, D, E, h1, ⟨s, b, g, hT, hD⟩, -⟩, -, -⟩ := H.tt
  exact tab_Stats a s b g hp t q1 q2 q3 q4 e1 e2 e3 e4 w hT
abbrev GX (w : World) (hp a : Nat) (x : Tbl × HS) (n : Nat) (W : World) : Prop := BS w (fun _ => False) hp a x.1 x.2 n W
set_option maxRecDepth 100000 in
set_option maxHeartbeats 1600000 in
theorem law09_fixed (w : World) : Calls Try.prog 44 #[] w fun e w' => e = .returned (.bool true) ∧ Below w.heap.size w w' := by
  have HIS := Lib.hid z10_is
  have hf3 : ∀ (a b c d : Int) (W : World), (Instr.field 51 (.agg #[.int .i64 a, .int .i64 b, .int .i64 c, .int .i64 d]) 3).run Try.prog W = .ok (.int .i64 d) W := fun a b c d W => by rfl
  have HBEG : Hid (∀ W, Below w.heap.size w W → Calls Try.prog 45 #[.agg #[.int .i64 0, .int .i64 0, .slice none 0 0]] W fun e w' => ∃ (hp a : Nat) (Q : Option Addr), e = .returned (.tuple #[.pointer (some ⟨a, 0, none⟩), .pointer Q, .bool true]) ∧ GX w hp a z0 3 w') := Lib.hid (fun W hb => by
    refine (law09_begin 0 0 none 0 0 w W (fun _ => False) (fun _ h => h.elim) hb).mono ?_
    rintro e w' ⟨N, M, hp, a, Q, ⟨-, -, h1, h2⟩, he, hx, -⟩
    have e0 : (IntKind.u64.wrap 0).tmod 200 = 0 := by decide
    obtain rfl : N = 0 := by rw [e0] at h1; omega
    obtain rfl : M = 0 := by rw [e0] at h2; omega
    exact ⟨hp, a, Q, he, hx⟩)
  go_enter Try.func44, Try.ntmps44
  go_wp2_with fail
  (with_reducible refine (HBEG.out _ (Below.refl _ _)).mono ?_)
  rintro e w1 ⟨hp, a, Q, rfl, hx⟩
  have HX := Lib.hid hx
  clear hx HBEG
  go_wp2_with fail
  go_loopw [4] (fun i wr => ∃ j : Nat, j ≤ 4 ∧ i = .int .i64 ((j : Int) + 1) ∧ Hid (GX w hp a (zN j) (3 + 2 * j) wr)) (fun i _ => 5 - (intOf i).toNat)
  case atStart => exact ⟨0, by omega, rfl, HX⟩
  case round =>
    clear HX
    obtain ⟨j, hj, rfl, HX0⟩ := hrel
    by_cases hj4 : j < 4
    · have dj : decide ((j : Int) + 1 ≤ 4) = true := by simp; omega
      go_wp2_with fail
      (with_reducible refine (ref3_I _ _).mono ?_)
      rintro e w1 ⟨rfl, hb⟩
      have HX1 := Lib.hid (HX0.out.below hb)
      clear hb
      go_wp2_with fail
      (with_reducible refine (ref3_I _ _).mono ?_)
      rintro e w2 ⟨rfl, hb⟩
      have HX2 := Lib.hid (HX1.out.below hb)
      clear hb
      go_wp2_with fail
      (with_reducible refine (HX2.out.set (by omega) 2 ((j : Int) + 1) ⟨#[]⟩ 2 ((j : Int) + 1) ⟨#[]⟩ (by unfold In64; omega)).mono ?_)
      rintro e w5 ⟨rfl, hx, -⟩
      have HX5 := Lib.hid (show GX w hp a (zN (j + 1)) (3 + 2 * (j + 1)) w5 by rw [zN_succ j hj4]; exact hx)
      clear hx
      go_wp2
      go_roundw
      case rel => exact ⟨j + 1, by omega, by go_num, HX5⟩
      case measure => simp [intOf]; omega
    · obtain rfl : j = 4 := by omega
      have HX1 : Hid (GX w hp a z4 11 wr) := HX0
      clear HX0
      go_wp2_with fail
      (with_reducible refine (ref3_I _ _).mono ?_)
      rintro e w3 ⟨rfl, hb⟩
      have HX3 := Lib.hid (HX1.out.below hb)
      clear hb
      go_wp2_with fail
      (with_reducible refine (HX3.out.set (by omega) 2 4 ⟨#[]⟩ 0 0 ⟨#[]⟩ (by unfold In64; omega)).mono ?_)
      rintro e w4 ⟨rfl, hx, -⟩
      have HX4 := Lib.hid (show GX w hp a z5 13 w4 from hx)
      clear hx
      go_wp2_with fail
      (with_reducible refine (BS.len HX4.out).mono ?_)
      rintro e w5 ⟨t', ⟨rfl, pr, rfl⟩, -, hx, -⟩
      have HX5 : Hid (GX w hp a z6 13 w5) := Lib.hid (by
        have e1 : Tbl.lenT z5.1 pr = z6.1 := by unfold Tbl.lenT; rw [if_neg z5_len.1, z5_len.2]; rfl
        rw [e1] at hx
        exact hx)
      rw [z5_len.2]
      clear hx
      go_wp2_with fail
      (with_reducible refine (ref3_I _ _).mono ?_)
      rintro e w6 ⟨rfl, hb⟩
      have HX6 := Lib.hid (HX5.out.below hb)
      clear hb
      go_wp2_with fail
      (with_reducible refine (HX6.out.set (by omega) 2 2 ⟨#[]⟩ 0 0 ⟨#[]⟩ (by unfold In64; omega)).mono ?_)
      rintro e w7 ⟨rfl, hx, -⟩
      have HX7 := Lib.hid (show GX w hp a z7 15 w7 from hx)
      clear hx
      go_wp2_with fail
      (with_reducible refine (BS.len HX7.out).mono ?_)
      rintro e w8 ⟨t', ⟨rfl, pr, rfl⟩, -, hx, -⟩
      have HX8 : Hid (GX w hp a z8 15 w8) := Lib.hid (by
        have e1 : Tbl.lenT z7.1 pr = z8.1 := by unfold Tbl.lenT; rw [if_neg z7_len.1, z7_len.2]; rfl
        rw [e1] at hx
        exact hx)
      rw [z7_len.2]
      clear hx
      go_wp2_with fail
      (with_reducible refine (ref3_I _ _).mono ?_)
      rintro e w9 ⟨rfl, hb⟩
      have HX9 := Lib.hid (HX8.out.below hb)
      clear hb
      go_wp2_with fail
      (with_reducible refine (HX9.out.set (by omega) 2 3 ⟨#[]⟩ 0 0 ⟨#[]⟩ (by unfold In64; omega)).mono ?_)
      rintro e wA ⟨rfl, hx, -⟩
      have HXA := Lib.hid (show GX w hp a z9 17 wA from hx)
      clear hx
      go_wp2_with fail
      (with_reducible refine (BS.len HXA.out).mono ?_)
      rintro e wB ⟨t', ⟨rfl, pr, rfl⟩, -, hx, -⟩
      have HXB : Hid (GX w hp a z10 17 wB) := Lib.hid (by
        have e1 : Tbl.lenT z9.1 pr = z10.1 := by unfold Tbl.lenT; rw [if_neg z9_len.1, z9_len.2]; rfl
        rw [e1] at hx
        exact hx)
      rw [z9_len.2]
      clear hx
      go_wp2_with fail
      (with_reducible refine (BS.stats HXB.out _ _ _ 1 rfl rfl rfl HIS.out.2.2).mono ?_)
      rintro e wC ⟨rfl, hb⟩
      have HXC := Lib.hid (HXB.out.below hb)
      clear hb
      go_wp2_with fail
      (with_reducible refine (BS.is HXC.out 1 (by unfold In64; omega)).mono ?_)
      rintro e wD ⟨tD, ⟨rfl, -⟩, hp1, hx, -⟩
      have HXD := Lib.hid hx
      have HPD := Lib.hid hp1
      rw [HIS.out.1]
      clear hx hp1
      go_wp2_with fail
      (with_reducible refine (BS.is HXD.out 2 (by unfold In64; omega)).mono ?_)
      rintro e wE ⟨tE, ⟨rfl, -⟩, -, hx, -⟩
      have HXE := Lib.hid hx
      rw [isP_p HPD.out, HIS.out.2.1]
      clear hx
      go_wp2_with fail
      (with_reducible refine (nil_Len _).mono ?_)
      rintro e wF ⟨rfl, hb⟩
      have HXF := Lib.hid (HXE.out.below hb)
      clear hb
      go_wp2
      go_ret
      exact ⟨rfl, HXF.out.bel⟩
end Go.Proofs.Yteheolefemlcgaa
