/- Merged of Ord, Law03c, Law03d. -/
import Derived.Test.YtpppcoobibmlhaaDoorLaw03A
import Derived.Test.YtpppcoobibmlhaaDoorLaw03W
/- Plain laws: Same is an equality, Order an order. -/
namespace Go.Proofs.YtpppcoobibmlhaaDoor
open Go.RowKit

theorem cmp_range : ∀ a b : List UInt8, -1 ≤ Lib.compareBytes a b ∧ Lib.compareBytes a b ≤ 1
  | [], [] => by simp [Lib.compareBytes]
  | [], _ :: _ => by simp [Lib.compareBytes]
  | _ :: _, [] => by simp [Lib.compareBytes]
  | a :: ar, b :: br => by
    have ih := cmp_range ar br
    simp only [Lib.compareBytes]
    by_cases h : a < b
    · rw [if_pos h]; omega
    · rw [if_neg h]
      by_cases g : b < a
      · rw [if_pos g]; omega
      · rw [if_neg g]; exact ih
theorem cmp_neg : ∀ a b : List UInt8, Lib.compareBytes b a = - Lib.compareBytes a b
  | [], [] => by simp [Lib.compareBytes]
  | [], _ :: _ => by simp [Lib.compareBytes]
  | _ :: _, [] => by simp [Lib.compareBytes]
  | a :: ar, b :: br => by
    have ih := cmp_neg ar br
    simp only [Lib.compareBytes]
    simp only [UInt8.lt_iff_toNat_lt]
    by_cases h : a.toNat < b.toNat
    · rw [if_pos h, if_neg (by omega), if_pos h]; rfl
    · by_cases g : b.toNat < a.toNat
      · rw [if_pos g, if_neg h, if_pos g]
      · rw [if_neg g, if_neg h, if_neg h, if_neg g]; exact ih
theorem cmp_zero : ∀ a b : List UInt8, Lib.compareBytes a b = 0 ↔ a = b
  | [], [] => by simp [Lib.compareBytes]
  | [], _ :: _ => by simp [Lib.compareBytes]
  | _ :: _, [] => by simp [Lib.compareBytes]
  | a :: ar, b :: br => by
    have ih := cmp_zero ar br
    simp only [Lib.compareBytes]
    simp only [UInt8.lt_iff_toNat_lt]
    by_cases h : a.toNat < b.toNat
    · rw [if_pos h]
      constructor
      · intro q; omega
      · intro q
        have := (List.cons.inj q).1
        rw [this] at h; omega
    · by_cases g : b.toNat < a.toNat
      · rw [if_neg h, if_pos g]
        constructor
        · intro q; omega
        · intro q
          have := (List.cons.inj q).1
          rw [this] at g; omega
      · rw [if_neg h, if_neg g, ih]
        have e : a = b := UInt8.toNat_inj.1 (by omega)
        rw [e]
        simp
theorem cmp_trans : ∀ a b c : List UInt8, (0 < Lib.compareBytes a b ∨ 0 < Lib.compareBytes b c ∨ Lib.compareBytes a c ≤ 0) ∧ (0 ≤ Lib.compareBytes a b ∨ 0 < Lib.compareBytes b c ∨ Lib.compareBytes a c < 0)
  | [], [], [] => by simp [Lib.compareBytes]
  | [], [], _ :: _ => by simp [Lib.compareBytes]
  | [], _ :: _, [] => by simp [Lib.compareBytes]
  | [], _ :: _, _ :: _ => by simp [Lib.compareBytes]
  | _ :: _, [], [] => by simp [Lib.compareBytes]
  | _ :: _, [], _ :: _ => by simp [Lib.compareBytes]
  | _ :: _, _ :: _, [] => by simp [Lib.compareBytes]
  | a :: ar, b :: br, c :: cr => by
    have ih := cmp_trans ar br cr
    simp only [Lib.compareBytes, UInt8.lt_iff_toNat_lt]
    generalize Lib.compareBytes ar br = p at ih ⊢
    generalize Lib.compareBytes br cr = q at ih ⊢
    generalize Lib.compareBytes ar cr = r at ih ⊢
    generalize a.toNat = x
    generalize b.toNat = y
    generalize c.toNat = z
    repeat' split
    all_goals omega
theorem order_range (x y : Bx) : -1 ≤ orderN x y ∧ orderN x y ≤ 1 := by
  cases x <;> cases y <;> simp only [orderN] <;> first | (constructor <;> decide) | exact cmp_range _ _ | (repeat' split) <;> omega
theorem order_neg (x y : Bx) : orderN y x = - orderN x y := by
  cases x <;> cases y <;> simp only [orderN] <;> first | rfl | exact cmp_neg _ _ | (repeat' split) <;> omega
theorem order_e (x y : Bx) : orderE y x = orderE x y ∧ (orderE x y = 0 ∨ orderE x y = 8) := by
  cases x <;> cases y <;> simp [orderE]
theorem order_zero (x y : Bx) (h : orderE x y = 0) : orderN x y = 0 ↔ x = y := by
  cases x <;> cases y <;> simp only [orderE] at h <;> first | (exact absurd h (by decide)) | skip
  · simp only [orderN, Bx.i.injEq]; (repeat' split) <;> omega
  · simp only [orderN, Bx.s.injEq]
    rw [cmp_zero]
    constructor
    · intro e; exact toList_inj (by rw [Lib.toList_data, Lib.toList_data]; exact e)
    · intro e; rw [e]
theorem order_trans (x y z : Bx) (h : orderE x y = 0) (g : orderE y z = 0) : orderE x z = 0 ∧ (0 < orderN x y ∨ 0 < orderN y z ∨ orderN x z ≤ 0) ∧ (0 ≤ orderN x y ∨ 0 < orderN y z ∨ orderN x z < 0) := by
  cases x <;> cases y <;> simp only [orderE] at h <;> first | (exact absurd h (by decide)) | skip
  all_goals cases z <;> simp only [orderE] at g <;> first | (exact absurd g (by decide)) | skip
  · refine ⟨rfl, ?_⟩
    simp only [orderN]
    (repeat' split) <;> omega
  · exact ⟨rfl, cmp_trans _ _ _⟩
end Go.Proofs.YtpppcoobibmlhaaDoor
/- The statements of layer 3, walked: Same is an equality, Order an order. -/
namespace Go.Proofs.YtpppcoobibmlhaaDoor
open Go.RowKit
set_option linter.unusedVariables false
set_option linter.unusedSimpArgs false

theorem same_of (a b : V) (ha : okV a = true) (hb : okV b = true) : sameB a b = true ↔ a = b := (sameB_iff a b).1 (bothE_ok ha hb)
theorem ordN_ok {a b : V} (ha : okV a = true) (hb : okV b = true) : ordN a b = orderN (toBx a) (toBx b) := by unfold ordN; rw [if_pos ⟨ha, hb⟩]
theorem ordE_ok {a b : V} (ha : okV a = true) (hb : okV b = true) : ordE a b = orderE (toBx a) (toBx b) := by unfold ordE; rw [if_pos ⟨ha, hb⟩]
theorem toBx_inj {a b : V} (ha : okV a = true) (hb : okV b = true) : toBx a = toBx b ↔ a = b := by
  constructor
  · intro e; rw [← ofBx_toBx a ha, ← ofBx_toBx b hb, e]
  · intro e; rw [e]
/-- The cells of three values in a row of blocks. -/
def K3 (x : Nat) (ak an : Int) (az : ByteArray) (bk bn : Int) (bz : ByteArray) (ck cn : Int) (cz : ByteArray) (W : World) : Prop :=
  W.cell? ⟨x, 0, none⟩ = some (.int .i64 ak) ∧ W.cell? ⟨x, 1, none⟩ = some (.int .i64 an) ∧ W.cell? ⟨x, 2, none⟩ = some (.string az) ∧
  W.cell? ⟨x + 1, 0, none⟩ = some (.int .i64 bk) ∧ W.cell? ⟨x + 1, 1, none⟩ = some (.int .i64 bn) ∧ W.cell? ⟨x + 1, 2, none⟩ = some (.string bz) ∧
  W.cell? ⟨x + 1 + 1, 0, none⟩ = some (.int .i64 ck) ∧ W.cell? ⟨x + 1 + 1, 1, none⟩ = some (.int .i64 cn) ∧ W.cell? ⟨x + 1 + 1, 2, none⟩ = some (.string cz) ∧ x + 1 + 1 < W.heap.size
theorem K3.step {x : Nat} {ak an : Int} {az : ByteArray} {bk bn : Int} {bz : ByteArray} {ck cn : Int} {cz : ByteArray} {W W' : World} (h : K3 x ak an az bk bn bz ck cn cz W) (hb : Below W.heap.size W W') : K3 x ak an az bk bn bz ck cn cz W' := by
  obtain ⟨a, b, c, d, e, f, g, i, j, l⟩ := h
  have k := fun (p : Addr) (hp : p.block < W.heap.size) => hb.cell hp
  exact ⟨(k _ (by simp; omega)).trans a, (k _ (by simp; omega)).trans b, (k _ (by simp; omega)).trans c, (k _ (by simp; omega)).trans d, (k _ (by simp; omega)).trans e, (k _ (by simp; omega)).trans f, (k _ l).trans g, (k _ l).trans i, (k _ l).trans j, Nat.lt_of_lt_of_le l hb.size⟩
theorem K3.new (w : World) (ak an : Int) (az : ByteArray) (bk bn : Int) (bz : ByteArray) (ck cn : Int) (cz : ByteArray) (t : TypeId) : K3 w.heap.size ak an az bk bn bz ck cn cz (((w.alloc (Obj.cells #[.int .i64 ak, .int .i64 an, .string az] t)).alloc (Obj.cells #[.int .i64 bk, .int .i64 bn, .string bz] t)).alloc (Obj.cells #[.int .i64 ck, .int .i64 cn, .string cz] t)) := by
  refine ⟨?_, ?_, ?_, ?_, ?_, ?_, ?_, ?_, ?_, ?_⟩ <;> simp [go_sem]
set_option maxRecDepth 100000 in
theorem walk_BoxOrders_a (ak an : Int) (az : ByteArray) (bk bn : Int) (bz : ByteArray) (ck cn : Int) (cz : ByteArray) (ha : okV ⟨ak, an, az⟩ = false) (w : World) (hE : Env w) :
    Calls Tryd.prog 15 #[.agg #[.int .i64 ak, .int .i64 an, .string az], .agg #[.int .i64 bk, .int .i64 bn, .string bz], .agg #[.int .i64 ck, .int .i64 cn, .string cz]] w fun e w' => e = .returned (.bool true) ∧ Below w.heap.size w w' := by
  have hu := Tryd.underlying33
  have Ha : Hid (errForm (okV ⟨ak, an, az⟩) = 2) := Lib.hid (by rw [ha]; rfl)
  clear ha
  go_enter Tryd.func15, Tryd.ntmps15
  go_wp2_with (first | (go_at_call 26; (with_reducible refine (law03_fixed _ (hE.of_below (Go.Joins.below_alloc3 w _ _ _))).mono ?_); rintro e w1 ⟨rfl, hb1⟩; have hB1 : Below w.heap.size w w1 := below_step (Go.Joins.below_alloc3 w _ _ _) hb1; have kk := K3.step (K3.new w ak an az bk bn bz ck cn cz 33) hb1; have kq := kk; obtain ⟨ca0, ca1, ca2, cb0, cb1, cb2, cc0, cc1, cc2, ccl⟩ := kq; clear hb1) | (go_at_call 54; (with_reducible refine (Check_a ⟨ak, an, az⟩ _ Ha.out _).mono ?_); rintro e w2 ⟨rfl, hb2⟩; have hB2 : Below w.heap.size w w2 := below_step (by assumption) hb2; clear ca0 ca1 ca2 cb0 cb1 cb2 cc0 cc1 cc2 ccl; replace kk := K3.step kk hb2; have kq := kk; obtain ⟨ca0, ca1, ca2, cb0, cb1, cb2, cc0, cc1, cc2, ccl⟩ := kq; clear hb2) | (go_at_call 30; (with_reducible refine (ref_Check_f ak an az _ Ha.out _).mono ?_); rintro e w5 ⟨rfl, hb5⟩; have hB5 : Below w.heap.size w w5 := below_step (by assumption) hb5; clear ca0 ca1 ca2 cb0 cb1 cb2 cc0 cc1 cc2 ccl; replace kk := K3.step kk hb5; have kq := kk; obtain ⟨ca0, ca1, ca2, cb0, cb1, cb2, cc0, cc1, cc2, ccl⟩ := kq; clear hb5))
  go_ret
  exact ⟨rfl, hB5⟩
set_option maxRecDepth 100000 in
theorem walk_BoxOrders_b (ak an : Int) (az : ByteArray) (bk bn : Int) (bz : ByteArray) (ck cn : Int) (cz : ByteArray) (ha : okV ⟨ak, an, az⟩ = true) (hb : okV ⟨bk, bn, bz⟩ = false) (w : World) (hE : Env w) :
    Calls Tryd.prog 15 #[.agg #[.int .i64 ak, .int .i64 an, .string az], .agg #[.int .i64 bk, .int .i64 bn, .string bz], .agg #[.int .i64 ck, .int .i64 cn, .string cz]] w fun e w' => e = .returned (.bool true) ∧ Below w.heap.size w w' := by
  have hu := Tryd.underlying33
  have Ha : Hid (errForm (okV ⟨ak, an, az⟩) = 0) := Lib.hid (by rw [ha]; rfl)
  have Hb : Hid (errForm (okV ⟨bk, bn, bz⟩) = 2) := Lib.hid (by rw [hb]; rfl)
  clear ha hb
  go_enter Tryd.func15, Tryd.ntmps15
  go_wp2_with (first | (go_at_call 26; (with_reducible refine (law03_fixed _ (hE.of_below (Go.Joins.below_alloc3 w _ _ _))).mono ?_); rintro e w1 ⟨rfl, hb1⟩; have hB1 : Below w.heap.size w w1 := below_step (Go.Joins.below_alloc3 w _ _ _) hb1; have kk := K3.step (K3.new w ak an az bk bn bz ck cn cz 33) hb1; have kq := kk; obtain ⟨ca0, ca1, ca2, cb0, cb1, cb2, cc0, cc1, cc2, ccl⟩ := kq; clear hb1) | (go_at_call 54; (with_reducible refine (Check_a ⟨ak, an, az⟩ _ Ha.out _).mono ?_); rintro e w2 ⟨rfl, hb2⟩; have hB2 : Below w.heap.size w w2 := below_step (by assumption) hb2; clear ca0 ca1 ca2 cb0 cb1 cb2 cc0 cc1 cc2 ccl; replace kk := K3.step kk hb2; have kq := kk; obtain ⟨ca0, ca1, ca2, cb0, cb1, cb2, cc0, cc1, cc2, ccl⟩ := kq; clear hb2) | (go_at_call 54; (with_reducible refine (Check_a ⟨bk, bn, bz⟩ _ Hb.out _).mono ?_); rintro e w3 ⟨rfl, hb3⟩; have hB3 : Below w.heap.size w w3 := below_step (by assumption) hb3; clear ca0 ca1 ca2 cb0 cb1 cb2 cc0 cc1 cc2 ccl; replace kk := K3.step kk hb3; have kq := kk; obtain ⟨ca0, ca1, ca2, cb0, cb1, cb2, cc0, cc1, cc2, ccl⟩ := kq; clear hb3) | (go_at_call 30; (with_reducible refine (ref_Check_f ak an az _ Ha.out _).mono ?_); rintro e w5 ⟨rfl, hb5⟩; have hB5 : Below w.heap.size w w5 := below_step (by assumption) hb5; clear ca0 ca1 ca2 cb0 cb1 cb2 cc0 cc1 cc2 ccl; replace kk := K3.step kk hb5; have kq := kk; obtain ⟨ca0, ca1, ca2, cb0, cb1, cb2, cc0, cc1, cc2, ccl⟩ := kq; clear hb5) | (go_at_call 30; (with_reducible refine (ref_Check_f bk bn bz _ Hb.out _).mono ?_); rintro e w6 ⟨rfl, hb6⟩; have hB6 : Below w.heap.size w w6 := below_step (by assumption) hb6; clear ca0 ca1 ca2 cb0 cb1 cb2 cc0 cc1 cc2 ccl; replace kk := K3.step kk hb6; have kq := kk; obtain ⟨ca0, ca1, ca2, cb0, cb1, cb2, cc0, cc1, cc2, ccl⟩ := kq; clear hb6))
  go_ret
  exact ⟨rfl, hB6⟩
set_option maxRecDepth 100000 in
theorem walk_BoxOrders_c (ak an : Int) (az : ByteArray) (bk bn : Int) (bz : ByteArray) (ck cn : Int) (cz : ByteArray) (ha : okV ⟨ak, an, az⟩ = true) (hb : okV ⟨bk, bn, bz⟩ = true) (hc : okV ⟨ck, cn, cz⟩ = false) (w : World) (hE : Env w) :
    Calls Tryd.prog 15 #[.agg #[.int .i64 ak, .int .i64 an, .string az], .agg #[.int .i64 bk, .int .i64 bn, .string bz], .agg #[.int .i64 ck, .int .i64 cn, .string cz]] w fun e w' => e = .returned (.bool true) ∧ Below w.heap.size w w' := by
  have hu := Tryd.underlying33
  have Ha : Hid (errForm (okV ⟨ak, an, az⟩) = 0) := Lib.hid (by rw [ha]; rfl)
  have Hb : Hid (errForm (okV ⟨bk, bn, bz⟩) = 0) := Lib.hid (by rw [hb]; rfl)
  have Hc : Hid (errForm (okV ⟨ck, cn, cz⟩) = 2) := Lib.hid (by rw [hc]; rfl)
  clear ha hb hc
  go_enter Tryd.func15, Tryd.ntmps15
  go_wp2_with (first | (go_at_call 26; (with_reducible refine (law03_fixed _ (hE.of_below (Go.Joins.below_alloc3 w _ _ _))).mono ?_); rintro e w1 ⟨rfl, hb1⟩; have hB1 : Below w.heap.size w w1 := below_step (Go.Joins.below_alloc3 w _ _ _) hb1; have kk := K3.step (K3.new w ak an az bk bn bz ck cn cz 33) hb1; have kq := kk; obtain ⟨ca0, ca1, ca2, cb0, cb1, cb2, cc0, cc1, cc2, ccl⟩ := kq; clear hb1) | (go_at_call 54; (with_reducible refine (Check_a ⟨ak, an, az⟩ _ Ha.out _).mono ?_); rintro e w2 ⟨rfl, hb2⟩; have hB2 : Below w.heap.size w w2 := below_step (by assumption) hb2; clear ca0 ca1 ca2 cb0 cb1 cb2 cc0 cc1 cc2 ccl; replace kk := K3.step kk hb2; have kq := kk; obtain ⟨ca0, ca1, ca2, cb0, cb1, cb2, cc0, cc1, cc2, ccl⟩ := kq; clear hb2) | (go_at_call 54; (with_reducible refine (Check_a ⟨bk, bn, bz⟩ _ Hb.out _).mono ?_); rintro e w3 ⟨rfl, hb3⟩; have hB3 : Below w.heap.size w w3 := below_step (by assumption) hb3; clear ca0 ca1 ca2 cb0 cb1 cb2 cc0 cc1 cc2 ccl; replace kk := K3.step kk hb3; have kq := kk; obtain ⟨ca0, ca1, ca2, cb0, cb1, cb2, cc0, cc1, cc2, ccl⟩ := kq; clear hb3) | (go_at_call 54; (with_reducible refine (Check_a ⟨ck, cn, cz⟩ _ Hc.out _).mono ?_); rintro e w4 ⟨rfl, hb4⟩; have hB4 : Below w.heap.size w w4 := below_step (by assumption) hb4; clear ca0 ca1 ca2 cb0 cb1 cb2 cc0 cc1 cc2 ccl; replace kk := K3.step kk hb4; have kq := kk; obtain ⟨ca0, ca1, ca2, cb0, cb1, cb2, cc0, cc1, cc2, ccl⟩ := kq; clear hb4) | (go_at_call 30; (with_reducible refine (ref_Check_f ak an az _ Ha.out _).mono ?_); rintro e w5 ⟨rfl, hb5⟩; have hB5 : Below w.heap.size w w5 := below_step (by assumption) hb5; clear ca0 ca1 ca2 cb0 cb1 cb2 cc0 cc1 cc2 ccl; replace kk := K3.step kk hb5; have kq := kk; obtain ⟨ca0, ca1, ca2, cb0, cb1, cb2, cc0, cc1, cc2, ccl⟩ := kq; clear hb5) | (go_at_call 30; (with_reducible refine (ref_Check_f bk bn bz _ Hb.out _).mono ?_); rintro e w6 ⟨rfl, hb6⟩; have hB6 : Below w.heap.size w w6 := below_step (by assumption) hb6; clear ca0 ca1 ca2 cb0 cb1 cb2 cc0 cc1 cc2 ccl; replace kk := K3.step kk hb6; have kq := kk; obtain ⟨ca0, ca1, ca2, cb0, cb1, cb2, cc0, cc1, cc2, ccl⟩ := kq; clear hb6) | (go_at_call 30; (with_reducible refine (ref_Check_f ck cn cz _ Hc.out _).mono ?_); rintro e w7 ⟨rfl, hb7⟩; have hB7 : Below w.heap.size w w7 := below_step (by assumption) hb7; clear ca0 ca1 ca2 cb0 cb1 cb2 cc0 cc1 cc2 ccl; replace kk := K3.step kk hb7; have kq := kk; obtain ⟨ca0, ca1, ca2, cb0, cb1, cb2, cc0, cc1, cc2, ccl⟩ := kq; clear hb7))
  go_ret
  exact ⟨rfl, hB7⟩
set_option maxRecDepth 100000 in
set_option maxHeartbeats 1600000 in
theorem walk_BoxOrders_8_true (ak an : Int) (az : ByteArray) (bk bn : Int) (bz : ByteArray) (ck cn : Int) (cz : ByteArray) (ha : errForm (okV ⟨ak, an, az⟩) = 0) (hb : errForm (okV ⟨bk, bn, bz⟩) = 0) (hc : errForm (okV ⟨ck, cn, cz⟩) = 0) (zaa : bothE ⟨ak, an, az⟩ ⟨ak, an, az⟩ = 0) (zab : bothE ⟨ak, an, az⟩ ⟨bk, bn, bz⟩ = 0) (zba : bothE ⟨bk, bn, bz⟩ ⟨ak, an, az⟩ = 0) (zbc : bothE ⟨bk, bn, bz⟩ ⟨ck, cn, cz⟩ = 0) (zac : bothE ⟨ak, an, az⟩ ⟨ck, cn, cz⟩ = 0) (bc ac : Bool) (saa : sameB ⟨ak, an, az⟩ ⟨ak, an, az⟩ = true) (sab : sameB ⟨ak, an, az⟩ ⟨bk, bn, bz⟩ = true) (sba : sameB ⟨bk, bn, bz⟩ ⟨ak, an, az⟩ = true) (sbc : sameB ⟨bk, bn, bz⟩ ⟨ck, cn, cz⟩ = bc) (sac : sameB ⟨ak, an, az⟩ ⟨ck, cn, cz⟩ = bc) (x y z h g : Int) (nab : ordN ⟨ak, an, az⟩ ⟨bk, bn, bz⟩ = x) (eab : ordE ⟨ak, an, az⟩ ⟨bk, bn, bz⟩ = 8) (nba : ordN ⟨bk, bn, bz⟩ ⟨ak, an, az⟩ = (-x)) (eba : ordE ⟨bk, bn, bz⟩ ⟨ak, an, az⟩ = 8) (nbc : ordN ⟨bk, bn, bz⟩ ⟨ck, cn, cz⟩ = z) (ebc : ordE ⟨bk, bn, bz⟩ ⟨ck, cn, cz⟩ = g) (nac : ordN ⟨ak, an, az⟩ ⟨ck, cn, cz⟩ = y) (eac : ordE ⟨ak, an, az⟩ ⟨ck, cn, cz⟩ = h) (lx : -1 ≤ x) (ux : x ≤ 1) (w : World) (hE : Env w) :
    Calls Tryd.prog 15 #[.agg #[.int .i64 ak, .int .i64 an, .string az], .agg #[.int .i64 bk, .int .i64 bn, .string bz], .agg #[.int .i64 ck, .int .i64 cn, .string cz]] w fun e w' => e = .returned (.bool true) ∧ Below w.heap.size w w' := by
  have hu := Tryd.underlying33
  have Ha := Lib.hid ha
  have Hb := Lib.hid hb
  have Hc := Lib.hid hc
  have Zaa := Lib.hid zaa; have Saa := Lib.hid saa
  have Zab := Lib.hid zab; have Sab := Lib.hid sab
  have Zba := Lib.hid zba; have Sba := Lib.hid sba
  have Zbc := Lib.hid zbc; have Sbc := Lib.hid sbc
  have Zac := Lib.hid zac; have Sac := Lib.hid sac
  have Nab := Lib.hid nab; have Eab := Lib.hid eab
  have Nba := Lib.hid nba; have Eba := Lib.hid eba
  have Nbc := Lib.hid nbc; have Ebc := Lib.hid ebc
  have Nac := Lib.hid nac; have Eac := Lib.hid eac
  clear ha hb hc zaa saa zab sab zba sba zbc sbc zac sac nab eab nba eba nbc ebc nac eac
  go_enter Tryd.func15, Tryd.ntmps15
  go_wp2_with (first | (go_at_call 26; (with_reducible refine (law03_fixed _ (hE.of_below (Go.Joins.below_alloc3 w _ _ _))).mono ?_); rintro e w1 ⟨rfl, hb1⟩; have hB1 : Below w.heap.size w w1 := below_step (Go.Joins.below_alloc3 w _ _ _) hb1; have kk := K3.step (K3.new w ak an az bk bn bz ck cn cz 33) hb1; have kq := kk; obtain ⟨ca0, ca1, ca2, cb0, cb1, cb2, cc0, cc1, cc2, ccl⟩ := kq; clear hb1) | (go_at_call 54; (with_reducible refine (Check_a ⟨ak, an, az⟩ _ Ha.out _).mono ?_); rintro e w2 ⟨rfl, hb2⟩; have hB2 : Below w.heap.size w w2 := below_step (by assumption) hb2; clear ca0 ca1 ca2 cb0 cb1 cb2 cc0 cc1 cc2 ccl; replace kk := K3.step kk hb2; have kq := kk; obtain ⟨ca0, ca1, ca2, cb0, cb1, cb2, cc0, cc1, cc2, ccl⟩ := kq; clear hb2) | (go_at_call 54; (with_reducible refine (Check_a ⟨bk, bn, bz⟩ _ Hb.out _).mono ?_); rintro e w3 ⟨rfl, hb3⟩; have hB3 : Below w.heap.size w w3 := below_step (by assumption) hb3; clear ca0 ca1 ca2 cb0 cb1 cb2 cc0 cc1 cc2 ccl; replace kk := K3.step kk hb3; have kq := kk; obtain ⟨ca0, ca1, ca2, cb0, cb1, cb2, cc0, cc1, cc2, ccl⟩ := kq; clear hb3) | (go_at_call 54; (with_reducible refine (Check_a ⟨ck, cn, cz⟩ _ Hc.out _).mono ?_); rintro e w4 ⟨rfl, hb4⟩; have hB4 : Below w.heap.size w w4 := below_step (by assumption) hb4; clear ca0 ca1 ca2 cb0 cb1 cb2 cc0 cc1 cc2 ccl; replace kk := K3.step kk hb4; have kq := kk; obtain ⟨ca0, ca1, ca2, cb0, cb1, cb2, cc0, cc1, cc2, ccl⟩ := kq; clear hb4) | (go_at_call 50; (with_reducible refine (box_Same_c ⟨ak, an, az⟩ ⟨ak, an, az⟩ true 0 Saa.out Zaa.out _).mono ?_); rintro e w5 ⟨rfl, hb5⟩; have hB5 : Below w.heap.size w w5 := below_step (by assumption) hb5; clear ca0 ca1 ca2 cb0 cb1 cb2 cc0 cc1 cc2 ccl; replace kk := K3.step kk hb5; have kq := kk; obtain ⟨ca0, ca1, ca2, cb0, cb1, cb2, cc0, cc1, cc2, ccl⟩ := kq; clear hb5) | (go_at_call 50; (with_reducible refine (box_Same_c ⟨ak, an, az⟩ ⟨bk, bn, bz⟩ true 0 Sab.out Zab.out _).mono ?_); rintro e w6 ⟨rfl, hb6⟩; have hB6 : Below w.heap.size w w6 := below_step (by assumption) hb6; clear ca0 ca1 ca2 cb0 cb1 cb2 cc0 cc1 cc2 ccl; replace kk := K3.step kk hb6; have kq := kk; obtain ⟨ca0, ca1, ca2, cb0, cb1, cb2, cc0, cc1, cc2, ccl⟩ := kq; clear hb6) | (go_at_call 50; (with_reducible refine (box_Same_c ⟨bk, bn, bz⟩ ⟨ak, an, az⟩ true 0 Sba.out Zba.out _).mono ?_); rintro e w7 ⟨rfl, hb7⟩; have hB7 : Below w.heap.size w w7 := below_step (by assumption) hb7; clear ca0 ca1 ca2 cb0 cb1 cb2 cc0 cc1 cc2 ccl; replace kk := K3.step kk hb7; have kq := kk; obtain ⟨ca0, ca1, ca2, cb0, cb1, cb2, cc0, cc1, cc2, ccl⟩ := kq; clear hb7) | (go_at_call 50; (with_reducible refine (box_Same_c ⟨bk, bn, bz⟩ ⟨ck, cn, cz⟩ bc 0 Sbc.out Zbc.out _).mono ?_); rintro e w8 ⟨rfl, hb8⟩; have hB8 : Below w.heap.size w w8 := below_step (by assumption) hb8; clear ca0 ca1 ca2 cb0 cb1 cb2 cc0 cc1 cc2 ccl; replace kk := K3.step kk hb8; have kq := kk; obtain ⟨ca0, ca1, ca2, cb0, cb1, cb2, cc0, cc1, cc2, ccl⟩ := kq; clear hb8) | (go_at_call 50; (with_reducible refine (box_Same_c ⟨ak, an, az⟩ ⟨ck, cn, cz⟩ bc 0 Sac.out Zac.out _).mono ?_); rintro e w9 ⟨rfl, hb9⟩; have hB9 : Below w.heap.size w w9 := below_step (by assumption) hb9; clear ca0 ca1 ca2 cb0 cb1 cb2 cc0 cc1 cc2 ccl; replace kk := K3.step kk hb9; have kq := kk; obtain ⟨ca0, ca1, ca2, cb0, cb1, cb2, cc0, cc1, cc2, ccl⟩ := kq; clear hb9) | (go_at_call 51; (with_reducible refine (box_Order_c ⟨ak, an, az⟩ ⟨bk, bn, bz⟩ x 8 Nab.out Eab.out _).mono ?_); rintro e w10 ⟨rfl, hb10⟩; have hB10 : Below w.heap.size w w10 := below_step (by assumption) hb10; clear ca0 ca1 ca2 cb0 cb1 cb2 cc0 cc1 cc2 ccl; replace kk := K3.step kk hb10; have kq := kk; obtain ⟨ca0, ca1, ca2, cb0, cb1, cb2, cc0, cc1, cc2, ccl⟩ := kq; clear hb10) | (go_at_call 51; (with_reducible refine (box_Order_c ⟨bk, bn, bz⟩ ⟨ak, an, az⟩ (-x) 8 Nba.out Eba.out _).mono ?_); rintro e w11 ⟨rfl, hb11⟩; have hB11 : Below w.heap.size w w11 := below_step (by assumption) hb11; clear ca0 ca1 ca2 cb0 cb1 cb2 cc0 cc1 cc2 ccl; replace kk := K3.step kk hb11; have kq := kk; obtain ⟨ca0, ca1, ca2, cb0, cb1, cb2, cc0, cc1, cc2, ccl⟩ := kq; clear hb11) | (go_at_call 51; (with_reducible refine (box_Order_c ⟨bk, bn, bz⟩ ⟨ck, cn, cz⟩ z g Nbc.out Ebc.out _).mono ?_); rintro e w12 ⟨rfl, hb12⟩; have hB12 : Below w.heap.size w w12 := below_step (by assumption) hb12; clear ca0 ca1 ca2 cb0 cb1 cb2 cc0 cc1 cc2 ccl; replace kk := K3.step kk hb12; have kq := kk; obtain ⟨ca0, ca1, ca2, cb0, cb1, cb2, cc0, cc1, cc2, ccl⟩ := kq; clear hb12) | (go_at_call 51; (with_reducible refine (box_Order_c ⟨ak, an, az⟩ ⟨ck, cn, cz⟩ y h Nac.out Eac.out _).mono ?_); rintro e w13 ⟨rfl, hb13⟩; have hB13 : Below w.heap.size w w13 := below_step (by assumption) hb13; clear ca0 ca1 ca2 cb0 cb1 cb2 cc0 cc1 cc2 ccl; replace kk := K3.step kk hb13; have kq := kk; obtain ⟨ca0, ca1, ca2, cb0, cb1, cb2, cc0, cc1, cc2, ccl⟩ := kq; clear hb13))
  all_goals go_ret
  all_goals first | exact ⟨rfl, hB13⟩ | (exfalso; omega)
set_option maxRecDepth 100000 in
set_option maxHeartbeats 1600000 in
theorem walk_BoxOrders_08_true (ak an : Int) (az : ByteArray) (bk bn : Int) (bz : ByteArray) (ck cn : Int) (cz : ByteArray) (ha : errForm (okV ⟨ak, an, az⟩) = 0) (hb : errForm (okV ⟨bk, bn, bz⟩) = 0) (hc : errForm (okV ⟨ck, cn, cz⟩) = 0) (zaa : bothE ⟨ak, an, az⟩ ⟨ak, an, az⟩ = 0) (zab : bothE ⟨ak, an, az⟩ ⟨bk, bn, bz⟩ = 0) (zba : bothE ⟨bk, bn, bz⟩ ⟨ak, an, az⟩ = 0) (zbc : bothE ⟨bk, bn, bz⟩ ⟨ck, cn, cz⟩ = 0) (zac : bothE ⟨ak, an, az⟩ ⟨ck, cn, cz⟩ = 0) (bc ac : Bool) (saa : sameB ⟨ak, an, az⟩ ⟨ak, an, az⟩ = true) (sab : sameB ⟨ak, an, az⟩ ⟨bk, bn, bz⟩ = true) (sba : sameB ⟨bk, bn, bz⟩ ⟨ak, an, az⟩ = true) (sbc : sameB ⟨bk, bn, bz⟩ ⟨ck, cn, cz⟩ = bc) (sac : sameB ⟨ak, an, az⟩ ⟨ck, cn, cz⟩ = bc) (x y z h g : Int) (nab : ordN ⟨ak, an, az⟩ ⟨bk, bn, bz⟩ = x) (eab : ordE ⟨ak, an, az⟩ ⟨bk, bn, bz⟩ = 0) (nba : ordN ⟨bk, bn, bz⟩ ⟨ak, an, az⟩ = (-x)) (eba : ordE ⟨bk, bn, bz⟩ ⟨ak, an, az⟩ = 0) (nbc : ordN ⟨bk, bn, bz⟩ ⟨ck, cn, cz⟩ = z) (ebc : ordE ⟨bk, bn, bz⟩ ⟨ck, cn, cz⟩ = 8) (nac : ordN ⟨ak, an, az⟩ ⟨ck, cn, cz⟩ = y) (eac : ordE ⟨ak, an, az⟩ ⟨ck, cn, cz⟩ = h) (lx : -1 ≤ x) (ux : x ≤ 1) (xz : (x == 0) = true) (w : World) (hE : Env w) :
    Calls Tryd.prog 15 #[.agg #[.int .i64 ak, .int .i64 an, .string az], .agg #[.int .i64 bk, .int .i64 bn, .string bz], .agg #[.int .i64 ck, .int .i64 cn, .string cz]] w fun e w' => e = .returned (.bool true) ∧ Below w.heap.size w w' := by
  have hu := Tryd.underlying33
  have Ha := Lib.hid ha
  have Hb := Lib.hid hb
  have Hc := Lib.hid hc
  have Zaa := Lib.hid zaa; have Saa := Lib.hid saa
  have Zab := Lib.hid zab; have Sab := Lib.hid sab
  have Zba := Lib.hid zba; have Sba := Lib.hid sba
  have Zbc := Lib.hid zbc; have Sbc := Lib.hid sbc
  have Zac := Lib.hid zac; have Sac := Lib.hid sac
  have Nab := Lib.hid nab; have Eab := Lib.hid eab
  have Nba := Lib.hid nba; have Eba := Lib.hid eba
  have Nbc := Lib.hid nbc; have Ebc := Lib.hid ebc
  have Nac := Lib.hid nac; have Eac := Lib.hid eac
  clear ha hb hc zaa saa zab sab zba sba zbc sbc zac sac nab eab nba eba nbc ebc nac eac
  go_enter Tryd.func15, Tryd.ntmps15
  go_wp2_with (first | (go_at_call 26; (with_reducible refine (law03_fixed _ (hE.of_below (Go.Joins.below_alloc3 w _ _ _))).mono ?_); rintro e w1 ⟨rfl, hb1⟩; have hB1 : Below w.heap.size w w1 := below_step (Go.Joins.below_alloc3 w _ _ _) hb1; have kk := K3.step (K3.new w ak an az bk bn bz ck cn cz 33) hb1; have kq := kk; obtain ⟨ca0, ca1, ca2, cb0, cb1, cb2, cc0, cc1, cc2, ccl⟩ := kq; clear hb1) | (go_at_call 54; (with_reducible refine (Check_a ⟨ak, an, az⟩ _ Ha.out _).mono ?_); rintro e w2 ⟨rfl, hb2⟩; have hB2 : Below w.heap.size w w2 := below_step (by assumption) hb2; clear ca0 ca1 ca2 cb0 cb1 cb2 cc0 cc1 cc2 ccl; replace kk := K3.step kk hb2; have kq := kk; obtain ⟨ca0, ca1, ca2, cb0, cb1, cb2, cc0, cc1, cc2, ccl⟩ := kq; clear hb2) | (go_at_call 54; (with_reducible refine (Check_a ⟨bk, bn, bz⟩ _ Hb.out _).mono ?_); rintro e w3 ⟨rfl, hb3⟩; have hB3 : Below w.heap.size w w3 := below_step (by assumption) hb3; clear ca0 ca1 ca2 cb0 cb1 cb2 cc0 cc1 cc2 ccl; replace kk := K3.step kk hb3; have kq := kk; obtain ⟨ca0, ca1, ca2, cb0, cb1, cb2, cc0, cc1, cc2, ccl⟩ := kq; clear hb3) | (go_at_call 54; (with_reducible refine (Check_a ⟨ck, cn, cz⟩ _ Hc.out _).mono ?_); rintro e w4 ⟨rfl, hb4⟩; have hB4 : Below w.heap.size w w4 := below_step (by assumption) hb4; clear ca0 ca1 ca2 cb0 cb1 cb2 cc0 cc1 cc2 ccl; replace kk := K3.step kk hb4; have kq := kk; obtain ⟨ca0, ca1, ca2, cb0, cb1, cb2, cc0, cc1, cc2, ccl⟩ := kq; clear hb4) | (go_at_call 50; (with_reducible refine (box_Same_c ⟨ak, an, az⟩ ⟨ak, an, az⟩ true 0 Saa.out Zaa.out _).mono ?_); rintro e w5 ⟨rfl, hb5⟩; have hB5 : Below w.heap.size w w5 := below_step (by assumption) hb5; clear ca0 ca1 ca2 cb0 cb1 cb2 cc0 cc1 cc2 ccl; replace kk := K3.step kk hb5; have kq := kk; obtain ⟨ca0, ca1, ca2, cb0, cb1, cb2, cc0, cc1, cc2, ccl⟩ := kq; clear hb5) | (go_at_call 50; (with_reducible refine (box_Same_c ⟨ak, an, az⟩ ⟨bk, bn, bz⟩ true 0 Sab.out Zab.out _).mono ?_); rintro e w6 ⟨rfl, hb6⟩; have hB6 : Below w.heap.size w w6 := below_step (by assumption) hb6; clear ca0 ca1 ca2 cb0 cb1 cb2 cc0 cc1 cc2 ccl; replace kk := K3.step kk hb6; have kq := kk; obtain ⟨ca0, ca1, ca2, cb0, cb1, cb2, cc0, cc1, cc2, ccl⟩ := kq; clear hb6) | (go_at_call 50; (with_reducible refine (box_Same_c ⟨bk, bn, bz⟩ ⟨ak, an, az⟩ true 0 Sba.out Zba.out _).mono ?_); rintro e w7 ⟨rfl, hb7⟩; have hB7 : Below w.heap.size w w7 := below_step (by assumption) hb7; clear ca0 ca1 ca2 cb0 cb1 cb2 cc0 cc1 cc2 ccl; replace kk := K3.step kk hb7; have kq := kk; obtain ⟨ca0, ca1, ca2, cb0, cb1, cb2, cc0, cc1, cc2, ccl⟩ := kq; clear hb7) | (go_at_call 50; (with_reducible refine (box_Same_c ⟨bk, bn, bz⟩ ⟨ck, cn, cz⟩ bc 0 Sbc.out Zbc.out _).mono ?_); rintro e w8 ⟨rfl, hb8⟩; have hB8 : Below w.heap.size w w8 := below_step (by assumption) hb8; clear ca0 ca1 ca2 cb0 cb1 cb2 cc0 cc1 cc2 ccl; replace kk := K3.step kk hb8; have kq := kk; obtain ⟨ca0, ca1, ca2, cb0, cb1, cb2, cc0, cc1, cc2, ccl⟩ := kq; clear hb8) | (go_at_call 50; (with_reducible refine (box_Same_c ⟨ak, an, az⟩ ⟨ck, cn, cz⟩ bc 0 Sac.out Zac.out _).mono ?_); rintro e w9 ⟨rfl, hb9⟩; have hB9 : Below w.heap.size w w9 := below_step (by assumption) hb9; clear ca0 ca1 ca2 cb0 cb1 cb2 cc0 cc1 cc2 ccl; replace kk := K3.step kk hb9; have kq := kk; obtain ⟨ca0, ca1, ca2, cb0, cb1, cb2, cc0, cc1, cc2, ccl⟩ := kq; clear hb9) | (go_at_call 51; (with_reducible refine (box_Order_c ⟨ak, an, az⟩ ⟨bk, bn, bz⟩ x 0 Nab.out Eab.out _).mono ?_); rintro e w10 ⟨rfl, hb10⟩; have hB10 : Below w.heap.size w w10 := below_step (by assumption) hb10; clear ca0 ca1 ca2 cb0 cb1 cb2 cc0 cc1 cc2 ccl; replace kk := K3.step kk hb10; have kq := kk; obtain ⟨ca0, ca1, ca2, cb0, cb1, cb2, cc0, cc1, cc2, ccl⟩ := kq; clear hb10) | (go_at_call 51; (with_reducible refine (box_Order_c ⟨bk, bn, bz⟩ ⟨ak, an, az⟩ (-x) 0 Nba.out Eba.out _).mono ?_); rintro e w11 ⟨rfl, hb11⟩; have hB11 : Below w.heap.size w w11 := below_step (by assumption) hb11; clear ca0 ca1 ca2 cb0 cb1 cb2 cc0 cc1 cc2 ccl; replace kk := K3.step kk hb11; have kq := kk; obtain ⟨ca0, ca1, ca2, cb0, cb1, cb2, cc0, cc1, cc2, ccl⟩ := kq; clear hb11) | (go_at_call 51; (with_reducible refine (box_Order_c ⟨bk, bn, bz⟩ ⟨ck, cn, cz⟩ z 8 Nbc.out Ebc.out _).mono ?_); rintro e w12 ⟨rfl, hb12⟩; have hB12 : Below w.heap.size w w12 := below_step (by assumption) hb12; clear ca0 ca1 ca2 cb0 cb1 cb2 cc0 cc1 cc2 ccl; replace kk := K3.step kk hb12; have kq := kk; obtain ⟨ca0, ca1, ca2, cb0, cb1, cb2, cc0, cc1, cc2, ccl⟩ := kq; clear hb12) | (go_at_call 51; (with_reducible refine (box_Order_c ⟨ak, an, az⟩ ⟨ck, cn, cz⟩ y h Nac.out Eac.out _).mono ?_); rintro e w13 ⟨rfl, hb13⟩; have hB13 : Below w.heap.size w w13 := below_step (by assumption) hb13; clear ca0 ca1 ca2 cb0 cb1 cb2 cc0 cc1 cc2 ccl; replace kk := K3.step kk hb13; have kq := kk; obtain ⟨ca0, ca1, ca2, cb0, cb1, cb2, cc0, cc1, cc2, ccl⟩ := kq; clear hb13))
  all_goals go_ret
  all_goals first | exact ⟨rfl, hB13⟩ | (exfalso; omega)
set_option maxRecDepth 100000 in
set_option maxHeartbeats 1600000 in
theorem walk_BoxOrders_8_false (ak an : Int) (az : ByteArray) (bk bn : Int) (bz : ByteArray) (ck cn : Int) (cz : ByteArray) (ha : errForm (okV ⟨ak, an, az⟩) = 0) (hb : errForm (okV ⟨bk, bn, bz⟩) = 0) (hc : errForm (okV ⟨ck, cn, cz⟩) = 0) (zaa : bothE ⟨ak, an, az⟩ ⟨ak, an, az⟩ = 0) (zab : bothE ⟨ak, an, az⟩ ⟨bk, bn, bz⟩ = 0) (zba : bothE ⟨bk, bn, bz⟩ ⟨ak, an, az⟩ = 0) (zbc : bothE ⟨bk, bn, bz⟩ ⟨ck, cn, cz⟩ = 0) (zac : bothE ⟨ak, an, az⟩ ⟨ck, cn, cz⟩ = 0) (bc ac : Bool) (saa : sameB ⟨ak, an, az⟩ ⟨ak, an, az⟩ = true) (sab : sameB ⟨ak, an, az⟩ ⟨bk, bn, bz⟩ = false) (sba : sameB ⟨bk, bn, bz⟩ ⟨ak, an, az⟩ = false) (sbc : sameB ⟨bk, bn, bz⟩ ⟨ck, cn, cz⟩ = bc) (sac : sameB ⟨ak, an, az⟩ ⟨ck, cn, cz⟩ = ac) (x y z h g : Int) (nab : ordN ⟨ak, an, az⟩ ⟨bk, bn, bz⟩ = x) (eab : ordE ⟨ak, an, az⟩ ⟨bk, bn, bz⟩ = 8) (nba : ordN ⟨bk, bn, bz⟩ ⟨ak, an, az⟩ = (-x)) (eba : ordE ⟨bk, bn, bz⟩ ⟨ak, an, az⟩ = 8) (nbc : ordN ⟨bk, bn, bz⟩ ⟨ck, cn, cz⟩ = z) (ebc : ordE ⟨bk, bn, bz⟩ ⟨ck, cn, cz⟩ = g) (nac : ordN ⟨ak, an, az⟩ ⟨ck, cn, cz⟩ = y) (eac : ordE ⟨ak, an, az⟩ ⟨ck, cn, cz⟩ = h) (lx : -1 ≤ x) (ux : x ≤ 1) (w : World) (hE : Env w) :
    Calls Tryd.prog 15 #[.agg #[.int .i64 ak, .int .i64 an, .string az], .agg #[.int .i64 bk, .int .i64 bn, .string bz], .agg #[.int .i64 ck, .int .i64 cn, .string cz]] w fun e w' => e = .returned (.bool true) ∧ Below w.heap.size w w' := by
  have hu := Tryd.underlying33
  have Ha := Lib.hid ha
  have Hb := Lib.hid hb
  have Hc := Lib.hid hc
  have Zaa := Lib.hid zaa; have Saa := Lib.hid saa
  have Zab := Lib.hid zab; have Sab := Lib.hid sab
  have Zba := Lib.hid zba; have Sba := Lib.hid sba
  have Zbc := Lib.hid zbc; have Sbc := Lib.hid sbc
  have Zac := Lib.hid zac; have Sac := Lib.hid sac
  have Nab := Lib.hid nab; have Eab := Lib.hid eab
  have Nba := Lib.hid nba; have Eba := Lib.hid eba
  have Nbc := Lib.hid nbc; have Ebc := Lib.hid ebc
  have Nac := Lib.hid nac; have Eac := Lib.hid eac
  clear ha hb hc zaa saa zab sab zba sba zbc sbc zac sac nab eab nba eba nbc ebc nac eac
  go_enter Tryd.func15, Tryd.ntmps15
  go_wp2_with (first | (go_at_call 26; (with_reducible refine (law03_fixed _ (hE.of_below (Go.Joins.below_alloc3 w _ _ _))).mono ?_); rintro e w1 ⟨rfl, hb1⟩; have hB1 : Below w.heap.size w w1 := below_step (Go.Joins.below_alloc3 w _ _ _) hb1; have kk := K3.step (K3.new w ak an az bk bn bz ck cn cz 33) hb1; have kq := kk; obtain ⟨ca0, ca1, ca2, cb0, cb1, cb2, cc0, cc1, cc2, ccl⟩ := kq; clear hb1) | (go_at_call 54; (with_reducible refine (Check_a ⟨ak, an, az⟩ _ Ha.out _).mono ?_); rintro e w2 ⟨rfl, hb2⟩; have hB2 : Below w.heap.size w w2 := below_step (by assumption) hb2; clear ca0 ca1 ca2 cb0 cb1 cb2 cc0 cc1 cc2 ccl; replace kk := K3.step kk hb2; have kq := kk; obtain ⟨ca0, ca1, ca2, cb0, cb1, cb2, cc0, cc1, cc2, ccl⟩ := kq; clear hb2) | (go_at_call 54; (with_reducible refine (Check_a ⟨bk, bn, bz⟩ _ Hb.out _).mono ?_); rintro e w3 ⟨rfl, hb3⟩; have hB3 : Below w.heap.size w w3 := below_step (by assumption) hb3; clear ca0 ca1 ca2 cb0 cb1 cb2 cc0 cc1 cc2 ccl; replace kk := K3.step kk hb3; have kq := kk; obtain ⟨ca0, ca1, ca2, cb0, cb1, cb2, cc0, cc1, cc2, ccl⟩ := kq; clear hb3) | (go_at_call 54; (with_reducible refine (Check_a ⟨ck, cn, cz⟩ _ Hc.out _).mono ?_); rintro e w4 ⟨rfl, hb4⟩; have hB4 : Below w.heap.size w w4 := below_step (by assumption) hb4; clear ca0 ca1 ca2 cb0 cb1 cb2 cc0 cc1 cc2 ccl; replace kk := K3.step kk hb4; have kq := kk; obtain ⟨ca0, ca1, ca2, cb0, cb1, cb2, cc0, cc1, cc2, ccl⟩ := kq; clear hb4) | (go_at_call 50; (with_reducible refine (box_Same_c ⟨ak, an, az⟩ ⟨ak, an, az⟩ true 0 Saa.out Zaa.out _).mono ?_); rintro e w5 ⟨rfl, hb5⟩; have hB5 : Below w.heap.size w w5 := below_step (by assumption) hb5; clear ca0 ca1 ca2 cb0 cb1 cb2 cc0 cc1 cc2 ccl; replace kk := K3.step kk hb5; have kq := kk; obtain ⟨ca0, ca1, ca2, cb0, cb1, cb2, cc0, cc1, cc2, ccl⟩ := kq; clear hb5) | (go_at_call 50; (with_reducible refine (box_Same_c ⟨ak, an, az⟩ ⟨bk, bn, bz⟩ false 0 Sab.out Zab.out _).mono ?_); rintro e w6 ⟨rfl, hb6⟩; have hB6 : Below w.heap.size w w6 := below_step (by assumption) hb6; clear ca0 ca1 ca2 cb0 cb1 cb2 cc0 cc1 cc2 ccl; replace kk := K3.step kk hb6; have kq := kk; obtain ⟨ca0, ca1, ca2, cb0, cb1, cb2, cc0, cc1, cc2, ccl⟩ := kq; clear hb6) | (go_at_call 50; (with_reducible refine (box_Same_c ⟨bk, bn, bz⟩ ⟨ak, an, az⟩ false 0 Sba.out Zba.out _).mono ?_); rintro e w7 ⟨rfl, hb7⟩; have hB7 : Below w.heap.size w w7 := below_step (by assumption) hb7; clear ca0 ca1 ca2 cb0 cb1 cb2 cc0 cc1 cc2 ccl; replace kk := K3.step kk hb7; have kq := kk; obtain ⟨ca0, ca1, ca2, cb0, cb1, cb2, cc0, cc1, cc2, ccl⟩ := kq; clear hb7) | (go_at_call 50; (with_reducible refine (box_Same_c ⟨bk, bn, bz⟩ ⟨ck, cn, cz⟩ bc 0 Sbc.out Zbc.out _).mono ?_); rintro e w8 ⟨rfl, hb8⟩; have hB8 : Below w.heap.size w w8 := below_step (by assumption) hb8; clear ca0 ca1 ca2 cb0 cb1 cb2 cc0 cc1 cc2 ccl; replace kk := K3.step kk hb8; have kq := kk; obtain ⟨ca0, ca1, ca2, cb0, cb1, cb2, cc0, cc1, cc2, ccl⟩ := kq; clear hb8) | (go_at_call 50; (with_reducible refine (box_Same_c ⟨ak, an, az⟩ ⟨ck, cn, cz⟩ ac 0 Sac.out Zac.out _).mono ?_); rintro e w9 ⟨rfl, hb9⟩; have hB9 : Below w.heap.size w w9 := below_step (by assumption) hb9; clear ca0 ca1 ca2 cb0 cb1 cb2 cc0 cc1 cc2 ccl; replace kk := K3.step kk hb9; have kq := kk; obtain ⟨ca0, ca1, ca2, cb0, cb1, cb2, cc0, cc1, cc2, ccl⟩ := kq; clear hb9) | (go_at_call 51; (with_reducible refine (box_Order_c ⟨ak, an, az⟩ ⟨bk, bn, bz⟩ x 8 Nab.out Eab.out _).mono ?_); rintro e w10 ⟨rfl, hb10⟩; have hB10 : Below w.heap.size w w10 := below_step (by assumption) hb10; clear ca0 ca1 ca2 cb0 cb1 cb2 cc0 cc1 cc2 ccl; replace kk := K3.step kk hb10; have kq := kk; obtain ⟨ca0, ca1, ca2, cb0, cb1, cb2, cc0, cc1, cc2, ccl⟩ := kq; clear hb10) | (go_at_call 51; (with_reducible refine (box_Order_c ⟨bk, bn, bz⟩ ⟨ak, an, az⟩ (-x) 8 Nba.out Eba.out _).mono ?_); rintro e w11 ⟨rfl, hb11⟩; have hB11 : Below w.heap.size w w11 := below_step (by assumption) hb11; clear ca0 ca1 ca2 cb0 cb1 cb2 cc0 cc1 cc2 ccl; replace kk := K3.step kk hb11; have kq := kk; obtain ⟨ca0, ca1, ca2, cb0, cb1, cb2, cc0, cc1, cc2, ccl⟩ := kq; clear hb11) | (go_at_call 51; (with_reducible refine (box_Order_c ⟨bk, bn, bz⟩ ⟨ck, cn, cz⟩ z g Nbc.out Ebc.out _).mono ?_); rintro e w12 ⟨rfl, hb12⟩; have hB12 : Below w.heap.size w w12 := below_step (by assumption) hb12; clear ca0 ca1 ca2 cb0 cb1 cb2 cc0 cc1 cc2 ccl; replace kk := K3.step kk hb12; have kq := kk; obtain ⟨ca0, ca1, ca2, cb0, cb1, cb2, cc0, cc1, cc2, ccl⟩ := kq; clear hb12) | (go_at_call 51; (with_reducible refine (box_Order_c ⟨ak, an, az⟩ ⟨ck, cn, cz⟩ y h Nac.out Eac.out _).mono ?_); rintro e w13 ⟨rfl, hb13⟩; have hB13 : Below w.heap.size w w13 := below_step (by assumption) hb13; clear ca0 ca1 ca2 cb0 cb1 cb2 cc0 cc1 cc2 ccl; replace kk := K3.step kk hb13; have kq := kk; obtain ⟨ca0, ca1, ca2, cb0, cb1, cb2, cc0, cc1, cc2, ccl⟩ := kq; clear hb13))
  all_goals go_ret
  all_goals first | exact ⟨rfl, hB13⟩ | (exfalso; omega)
set_option maxRecDepth 100000 in
set_option maxHeartbeats 1600000 in
theorem walk_BoxOrders_08_false (ak an : Int) (az : ByteArray) (bk bn : Int) (bz : ByteArray) (ck cn : Int) (cz : ByteArray) (ha : errForm (okV ⟨ak, an, az⟩) = 0) (hb : errForm (okV ⟨bk, bn, bz⟩) = 0) (hc : errForm (okV ⟨ck, cn, cz⟩) = 0) (zaa : bothE ⟨ak, an, az⟩ ⟨ak, an, az⟩ = 0) (zab : bothE ⟨ak, an, az⟩ ⟨bk, bn, bz⟩ = 0) (zba : bothE ⟨bk, bn, bz⟩ ⟨ak, an, az⟩ = 0) (zbc : bothE ⟨bk, bn, bz⟩ ⟨ck, cn, cz⟩ = 0) (zac : bothE ⟨ak, an, az⟩ ⟨ck, cn, cz⟩ = 0) (bc ac : Bool) (saa : sameB ⟨ak, an, az⟩ ⟨ak, an, az⟩ = true) (sab : sameB ⟨ak, an, az⟩ ⟨bk, bn, bz⟩ = false) (sba : sameB ⟨bk, bn, bz⟩ ⟨ak, an, az⟩ = false) (sbc : sameB ⟨bk, bn, bz⟩ ⟨ck, cn, cz⟩ = bc) (sac : sameB ⟨ak, an, az⟩ ⟨ck, cn, cz⟩ = ac) (x y z h g : Int) (nab : ordN ⟨ak, an, az⟩ ⟨bk, bn, bz⟩ = x) (eab : ordE ⟨ak, an, az⟩ ⟨bk, bn, bz⟩ = 0) (nba : ordN ⟨bk, bn, bz⟩ ⟨ak, an, az⟩ = (-x)) (eba : ordE ⟨bk, bn, bz⟩ ⟨ak, an, az⟩ = 0) (nbc : ordN ⟨bk, bn, bz⟩ ⟨ck, cn, cz⟩ = z) (ebc : ordE ⟨bk, bn, bz⟩ ⟨ck, cn, cz⟩ = 8) (nac : ordN ⟨ak, an, az⟩ ⟨ck, cn, cz⟩ = y) (eac : ordE ⟨ak, an, az⟩ ⟨ck, cn, cz⟩ = h) (lx : -1 ≤ x) (ux : x ≤ 1) (xz : (x == 0) = false) (w : World) (hE : Env w) :
    Calls Tryd.prog 15 #[.agg #[.int .i64 ak, .int .i64 an, .string az], .agg #[.int .i64 bk, .int .i64 bn, .string bz], .agg #[.int .i64 ck, .int .i64 cn, .string cz]] w fun e w' => e = .returned (.bool true) ∧ Below w.heap.size w w' := by
  have hu := Tryd.underlying33
  have Ha := Lib.hid ha
  have Hb := Lib.hid hb
  have Hc := Lib.hid hc
  have Zaa := Lib.hid zaa; have Saa := Lib.hid saa
  have Zab := Lib.hid zab; have Sab := Lib.hid sab
  have Zba := Lib.hid zba; have Sba := Lib.hid sba
  have Zbc := Lib.hid zbc; have Sbc := Lib.hid sbc
  have Zac := Lib.hid zac; have Sac := Lib.hid sac
  have Nab := Lib.hid nab; have Eab := Lib.hid eab
  have Nba := Lib.hid nba; have Eba := Lib.hid eba
  have Nbc := Lib.hid nbc; have Ebc := Lib.hid ebc
  have Nac := Lib.hid nac; have Eac := Lib.hid eac
  clear ha hb hc zaa saa zab sab zba sba zbc sbc zac sac nab eab nba eba nbc ebc nac eac
  go_enter Tryd.func15, Tryd.ntmps15
  go_wp2_with (first | (go_at_call 26; (with_reducible refine (law03_fixed _ (hE.of_below (Go.Joins.below_alloc3 w _ _ _))).mono ?_); rintro e w1 ⟨rfl, hb1⟩; have hB1 : Below w.heap.size w w1 := below_step (Go.Joins.below_alloc3 w _ _ _) hb1; have kk := K3.step (K3.new w ak an az bk bn bz ck cn cz 33) hb1; have kq := kk; obtain ⟨ca0, ca1, ca2, cb0, cb1, cb2, cc0, cc1, cc2, ccl⟩ := kq; clear hb1) | (go_at_call 54; (with_reducible refine (Check_a ⟨ak, an, az⟩ _ Ha.out _).mono ?_); rintro e w2 ⟨rfl, hb2⟩; have hB2 : Below w.heap.size w w2 := below_step (by assumption) hb2; clear ca0 ca1 ca2 cb0 cb1 cb2 cc0 cc1 cc2 ccl; replace kk := K3.step kk hb2; have kq := kk; obtain ⟨ca0, ca1, ca2, cb0, cb1, cb2, cc0, cc1, cc2, ccl⟩ := kq; clear hb2) | (go_at_call 54; (with_reducible refine (Check_a ⟨bk, bn, bz⟩ _ Hb.out _).mono ?_); rintro e w3 ⟨rfl, hb3⟩; have hB3 : Below w.heap.size w w3 := below_step (by assumption) hb3; clear ca0 ca1 ca2 cb0 cb1 cb2 cc0 cc1 cc2 ccl; replace kk := K3.step kk hb3; have kq := kk; obtain ⟨ca0, ca1, ca2, cb0, cb1, cb2, cc0, cc1, cc2, ccl⟩ := kq; clear hb3) | (go_at_call 54; (with_reducible refine (Check_a ⟨ck, cn, cz⟩ _ Hc.out _).mono ?_); rintro e w4 ⟨rfl, hb4⟩; have hB4 : Below w.heap.size w w4 := below_step (by assumption) hb4; clear ca0 ca1 ca2 cb0 cb1 cb2 cc0 cc1 cc2 ccl; replace kk := K3.step kk hb4; have kq := kk; obtain ⟨ca0, ca1, ca2, cb0, cb1, cb2, cc0, cc1, cc2, ccl⟩ := kq; clear hb4) | (go_at_call 50; (with_reducible refine (box_Same_c ⟨ak, an, az⟩ ⟨ak, an, az⟩ true 0 Saa.out Zaa.out _).mono ?_); rintro e w5 ⟨rfl, hb5⟩; have hB5 : Below w.heap.size w w5 := below_step (by assumption) hb5; clear ca0 ca1 ca2 cb0 cb1 cb2 cc0 cc1 cc2 ccl; replace kk := K3.step kk hb5; have kq := kk; obtain ⟨ca0, ca1, ca2, cb0, cb1, cb2, cc0, cc1, cc2, ccl⟩ := kq; clear hb5) | (go_at_call 50; (with_reducible refine (box_Same_c ⟨ak, an, az⟩ ⟨bk, bn, bz⟩ false 0 Sab.out Zab.out _).mono ?_); rintro e w6 ⟨rfl, hb6⟩; have hB6 : Below w.heap.size w w6 := below_step (by assumption) hb6; clear ca0 ca1 ca2 cb0 cb1 cb2 cc0 cc1 cc2 ccl; replace kk := K3.step kk hb6; have kq := kk; obtain ⟨ca0, ca1, ca2, cb0, cb1, cb2, cc0, cc1, cc2, ccl⟩ := kq; clear hb6) | (go_at_call 50; (with_reducible refine (box_Same_c ⟨bk, bn, bz⟩ ⟨ak, an, az⟩ false 0 Sba.out Zba.out _).mono ?_); rintro e w7 ⟨rfl, hb7⟩; have hB7 : Below w.heap.size w w7 := below_step (by assumption) hb7; clear ca0 ca1 ca2 cb0 cb1 cb2 cc0 cc1 cc2 ccl; replace kk := K3.step kk hb7; have kq := kk; obtain ⟨ca0, ca1, ca2, cb0, cb1, cb2, cc0, cc1, cc2, ccl⟩ := kq; clear hb7) | (go_at_call 50; (with_reducible refine (box_Same_c ⟨bk, bn, bz⟩ ⟨ck, cn, cz⟩ bc 0 Sbc.out Zbc.out _).mono ?_); rintro e w8 ⟨rfl, hb8⟩; have hB8 : Below w.heap.size w w8 := below_step (by assumption) hb8; clear ca0 ca1 ca2 cb0 cb1 cb2 cc0 cc1 cc2 ccl; replace kk := K3.step kk hb8; have kq := kk; obtain ⟨ca0, ca1, ca2, cb0, cb1, cb2, cc0, cc1, cc2, ccl⟩ := kq; clear hb8) | (go_at_call 50; (with_reducible refine (box_Same_c ⟨ak, an, az⟩ ⟨ck, cn, cz⟩ ac 0 Sac.out Zac.out _).mono ?_); rintro e w9 ⟨rfl, hb9⟩; have hB9 : Below w.heap.size w w9 := below_step (by assumption) hb9; clear ca0 ca1 ca2 cb0 cb1 cb2 cc0 cc1 cc2 ccl; replace kk := K3.step kk hb9; have kq := kk; obtain ⟨ca0, ca1, ca2, cb0, cb1, cb2, cc0, cc1, cc2, ccl⟩ := kq; clear hb9) | (go_at_call 51; (with_reducible refine (box_Order_c ⟨ak, an, az⟩ ⟨bk, bn, bz⟩ x 0 Nab.out Eab.out _).mono ?_); rintro e w10 ⟨rfl, hb10⟩; have hB10 : Below w.heap.size w w10 := below_step (by assumption) hb10; clear ca0 ca1 ca2 cb0 cb1 cb2 cc0 cc1 cc2 ccl; replace kk := K3.step kk hb10; have kq := kk; obtain ⟨ca0, ca1, ca2, cb0, cb1, cb2, cc0, cc1, cc2, ccl⟩ := kq; clear hb10) | (go_at_call 51; (with_reducible refine (box_Order_c ⟨bk, bn, bz⟩ ⟨ak, an, az⟩ (-x) 0 Nba.out Eba.out _).mono ?_); rintro e w11 ⟨rfl, hb11⟩; have hB11 : Below w.heap.size w w11 := below_step (by assumption) hb11; clear ca0 ca1 ca2 cb0 cb1 cb2 cc0 cc1 cc2 ccl; replace kk := K3.step kk hb11; have kq := kk; obtain ⟨ca0, ca1, ca2, cb0, cb1, cb2, cc0, cc1, cc2, ccl⟩ := kq; clear hb11) | (go_at_call 51; (with_reducible refine (box_Order_c ⟨bk, bn, bz⟩ ⟨ck, cn, cz⟩ z 8 Nbc.out Ebc.out _).mono ?_); rintro e w12 ⟨rfl, hb12⟩; have hB12 : Below w.heap.size w w12 := below_step (by assumption) hb12; clear ca0 ca1 ca2 cb0 cb1 cb2 cc0 cc1 cc2 ccl; replace kk := K3.step kk hb12; have kq := kk; obtain ⟨ca0, ca1, ca2, cb0, cb1, cb2, cc0, cc1, cc2, ccl⟩ := kq; clear hb12) | (go_at_call 51; (with_reducible refine (box_Order_c ⟨ak, an, az⟩ ⟨ck, cn, cz⟩ y h Nac.out Eac.out _).mono ?_); rintro e w13 ⟨rfl, hb13⟩; have hB13 : Below w.heap.size w w13 := below_step (by assumption) hb13; clear ca0 ca1 ca2 cb0 cb1 cb2 cc0 cc1 cc2 ccl; replace kk := K3.step kk hb13; have kq := kk; obtain ⟨ca0, ca1, ca2, cb0, cb1, cb2, cc0, cc1, cc2, ccl⟩ := kq; clear hb13))
  all_goals go_ret
  all_goals first | exact ⟨rfl, hB13⟩ | (exfalso; omega)
set_option maxRecDepth 100000 in
set_option maxHeartbeats 1600000 in
theorem walk_BoxOrders_00_1 (ak an : Int) (az : ByteArray) (bk bn : Int) (bz : ByteArray) (ck cn : Int) (cz : ByteArray) (ha : errForm (okV ⟨ak, an, az⟩) = 0) (hb : errForm (okV ⟨bk, bn, bz⟩) = 0) (hc : errForm (okV ⟨ck, cn, cz⟩) = 0) (zaa : bothE ⟨ak, an, az⟩ ⟨ak, an, az⟩ = 0) (zab : bothE ⟨ak, an, az⟩ ⟨bk, bn, bz⟩ = 0) (zba : bothE ⟨bk, bn, bz⟩ ⟨ak, an, az⟩ = 0) (zbc : bothE ⟨bk, bn, bz⟩ ⟨ck, cn, cz⟩ = 0) (zac : bothE ⟨ak, an, az⟩ ⟨ck, cn, cz⟩ = 0) (bc ac : Bool) (saa : sameB ⟨ak, an, az⟩ ⟨ak, an, az⟩ = true) (sab : sameB ⟨ak, an, az⟩ ⟨bk, bn, bz⟩ = false) (sba : sameB ⟨bk, bn, bz⟩ ⟨ak, an, az⟩ = false) (sbc : sameB ⟨bk, bn, bz⟩ ⟨ck, cn, cz⟩ = bc) (sac : sameB ⟨ak, an, az⟩ ⟨ck, cn, cz⟩ = ac) (x y z h g : Int) (nab : ordN ⟨ak, an, az⟩ ⟨bk, bn, bz⟩ = 1) (eab : ordE ⟨ak, an, az⟩ ⟨bk, bn, bz⟩ = 0) (nba : ordN ⟨bk, bn, bz⟩ ⟨ak, an, az⟩ = (-1)) (eba : ordE ⟨bk, bn, bz⟩ ⟨ak, an, az⟩ = 0) (nbc : ordN ⟨bk, bn, bz⟩ ⟨ck, cn, cz⟩ = z) (ebc : ordE ⟨bk, bn, bz⟩ ⟨ck, cn, cz⟩ = 0) (nac : ordN ⟨ak, an, az⟩ ⟨ck, cn, cz⟩ = y) (eac : ordE ⟨ak, an, az⟩ ⟨ck, cn, cz⟩ = 0) (w : World) (hE : Env w) :
    Calls Tryd.prog 15 #[.agg #[.int .i64 ak, .int .i64 an, .string az], .agg #[.int .i64 bk, .int .i64 bn, .string bz], .agg #[.int .i64 ck, .int .i64 cn, .string cz]] w fun e w' => e = .returned (.bool true) ∧ Below w.heap.size w w' := by
  have hu := Tryd.underlying33
  have Ha := Lib.hid ha
  have Hb := Lib.hid hb
  have Hc := Lib.hid hc
  have Zaa := Lib.hid zaa; have Saa := Lib.hid saa
  have Zab := Lib.hid zab; have Sab := Lib.hid sab
  have Zba := Lib.hid zba; have Sba := Lib.hid sba
  have Zbc := Lib.hid zbc; have Sbc := Lib.hid sbc
  have Zac := Lib.hid zac; have Sac := Lib.hid sac
  have Nab := Lib.hid nab; have Eab := Lib.hid eab
  have Nba := Lib.hid nba; have Eba := Lib.hid eba
  have Nbc := Lib.hid nbc; have Ebc := Lib.hid ebc
  have Nac := Lib.hid nac; have Eac := Lib.hid eac
  clear ha hb hc zaa saa zab sab zba sba zbc sbc zac sac nab eab nba eba nbc ebc nac eac
  go_enter Tryd.func15, Tryd.ntmps15
  go_wp2_with (first | (go_at_call 26; (with_reducible refine (law03_fixed _ (hE.of_below (Go.Joins.below_alloc3 w _ _ _))).mono ?_); rintro e w1 ⟨rfl, hb1⟩; have hB1 : Below w.heap.size w w1 := below_step (Go.Joins.below_alloc3 w _ _ _) hb1; have kk := K3.step (K3.new w ak an az bk bn bz ck cn cz 33) hb1; have kq := kk; obtain ⟨ca0, ca1, ca2, cb0, cb1, cb2, cc0, cc1, cc2, ccl⟩ := kq; clear hb1) | (go_at_call 54; (with_reducible refine (Check_a ⟨ak, an, az⟩ _ Ha.out _).mono ?_); rintro e w2 ⟨rfl, hb2⟩; have hB2 : Below w.heap.size w w2 := below_step (by assumption) hb2; clear ca0 ca1 ca2 cb0 cb1 cb2 cc0 cc1 cc2 ccl; replace kk := K3.step kk hb2; have kq := kk; obtain ⟨ca0, ca1, ca2, cb0, cb1, cb2, cc0, cc1, cc2, ccl⟩ := kq; clear hb2) | (go_at_call 54; (with_reducible refine (Check_a ⟨bk, bn, bz⟩ _ Hb.out _).mono ?_); rintro e w3 ⟨rfl, hb3⟩; have hB3 : Below w.heap.size w w3 := below_step (by assumption) hb3; clear ca0 ca1 ca2 cb0 cb1 cb2 cc0 cc1 cc2 ccl; replace kk := K3.step kk hb3; have kq := kk; obtain ⟨ca0, ca1, ca2, cb0, cb1, cb2, cc0, cc1, cc2, ccl⟩ := kq; clear hb3) | (go_at_call 54; (with_reducible refine (Check_a ⟨ck, cn, cz⟩ _ Hc.out _).mono ?_); rintro e w4 ⟨rfl, hb4⟩; have hB4 : Below w.heap.size w w4 := below_step (by assumption) hb4; clear ca0 ca1 ca2 cb0 cb1 cb2 cc0 cc1 cc2 ccl; replace kk := K3.step kk hb4; have kq := kk; obtain ⟨ca0, ca1, ca2, cb0, cb1, cb2, cc0, cc1, cc2, ccl⟩ := kq; clear hb4) | (go_at_call 50; (with_reducible refine (box_Same_c ⟨ak, an, az⟩ ⟨ak, an, az⟩ true 0 Saa.out Zaa.out _).mono ?_); rintro e w5 ⟨rfl, hb5⟩; have hB5 : Below w.heap.size w w5 := below_step (by assumption) hb5; clear ca0 ca1 ca2 cb0 cb1 cb2 cc0 cc1 cc2 ccl; replace kk := K3.step kk hb5; have kq := kk; obtain ⟨ca0, ca1, ca2, cb0, cb1, cb2, cc0, cc1, cc2, ccl⟩ := kq; clear hb5) | (go_at_call 50; (with_reducible refine (box_Same_c ⟨ak, an, az⟩ ⟨bk, bn, bz⟩ false 0 Sab.out Zab.out _).mono ?_); rintro e w6 ⟨rfl, hb6⟩; have hB6 : Below w.heap.size w w6 := below_step (by assumption) hb6; clear ca0 ca1 ca2 cb0 cb1 cb2 cc0 cc1 cc2 ccl; replace kk := K3.step kk hb6; have kq := kk; obtain ⟨ca0, ca1, ca2, cb0, cb1, cb2, cc0, cc1, cc2, ccl⟩ := kq; clear hb6) | (go_at_call 50; (with_reducible refine (box_Same_c ⟨bk, bn, bz⟩ ⟨ak, an, az⟩ false 0 Sba.out Zba.out _).mono ?_); rintro e w7 ⟨rfl, hb7⟩; have hB7 : Below w.heap.size w w7 := below_step (by assumption) hb7; clear ca0 ca1 ca2 cb0 cb1 cb2 cc0 cc1 cc2 ccl; replace kk := K3.step kk hb7; have kq := kk; obtain ⟨ca0, ca1, ca2, cb0, cb1, cb2, cc0, cc1, cc2, ccl⟩ := kq; clear hb7) | (go_at_call 50; (with_reducible refine (box_Same_c ⟨bk, bn, bz⟩ ⟨ck, cn, cz⟩ bc 0 Sbc.out Zbc.out _).mono ?_); rintro e w8 ⟨rfl, hb8⟩; have hB8 : Below w.heap.size w w8 := below_step (by assumption) hb8; clear ca0 ca1 ca2 cb0 cb1 cb2 cc0 cc1 cc2 ccl; replace kk := K3.step kk hb8; have kq := kk; obtain ⟨ca0, ca1, ca2, cb0, cb1, cb2, cc0, cc1, cc2, ccl⟩ := kq; clear hb8) | (go_at_call 50; (with_reducible refine (box_Same_c ⟨ak, an, az⟩ ⟨ck, cn, cz⟩ ac 0 Sac.out Zac.out _).mono ?_); rintro e w9 ⟨rfl, hb9⟩; have hB9 : Below w.heap.size w w9 := below_step (by assumption) hb9; clear ca0 ca1 ca2 cb0 cb1 cb2 cc0 cc1 cc2 ccl; replace kk := K3.step kk hb9; have kq := kk; obtain ⟨ca0, ca1, ca2, cb0, cb1, cb2, cc0, cc1, cc2, ccl⟩ := kq; clear hb9) | (go_at_call 51; (with_reducible refine (box_Order_c ⟨ak, an, az⟩ ⟨bk, bn, bz⟩ 1 0 Nab.out Eab.out _).mono ?_); rintro e w10 ⟨rfl, hb10⟩; have hB10 : Below w.heap.size w w10 := below_step (by assumption) hb10; clear ca0 ca1 ca2 cb0 cb1 cb2 cc0 cc1 cc2 ccl; replace kk := K3.step kk hb10; have kq := kk; obtain ⟨ca0, ca1, ca2, cb0, cb1, cb2, cc0, cc1, cc2, ccl⟩ := kq; clear hb10) | (go_at_call 51; (with_reducible refine (box_Order_c ⟨bk, bn, bz⟩ ⟨ak, an, az⟩ (-1) 0 Nba.out Eba.out _).mono ?_); rintro e w11 ⟨rfl, hb11⟩; have hB11 : Below w.heap.size w w11 := below_step (by assumption) hb11; clear ca0 ca1 ca2 cb0 cb1 cb2 cc0 cc1 cc2 ccl; replace kk := K3.step kk hb11; have kq := kk; obtain ⟨ca0, ca1, ca2, cb0, cb1, cb2, cc0, cc1, cc2, ccl⟩ := kq; clear hb11) | (go_at_call 51; (with_reducible refine (box_Order_c ⟨bk, bn, bz⟩ ⟨ck, cn, cz⟩ z 0 Nbc.out Ebc.out _).mono ?_); rintro e w12 ⟨rfl, hb12⟩; have hB12 : Below w.heap.size w w12 := below_step (by assumption) hb12; clear ca0 ca1 ca2 cb0 cb1 cb2 cc0 cc1 cc2 ccl; replace kk := K3.step kk hb12; have kq := kk; obtain ⟨ca0, ca1, ca2, cb0, cb1, cb2, cc0, cc1, cc2, ccl⟩ := kq; clear hb12) | (go_at_call 51; (with_reducible refine (box_Order_c ⟨ak, an, az⟩ ⟨ck, cn, cz⟩ y 0 Nac.out Eac.out _).mono ?_); rintro e w13 ⟨rfl, hb13⟩; have hB13 : Below w.heap.size w w13 := below_step (by assumption) hb13; clear ca0 ca1 ca2 cb0 cb1 cb2 cc0 cc1 cc2 ccl; replace kk := K3.step kk hb13; have kq := kk; obtain ⟨ca0, ca1, ca2, cb0, cb1, cb2, cc0, cc1, cc2, ccl⟩ := kq; clear hb13))
  all_goals go_ret
  all_goals first | exact ⟨rfl, hB13⟩ | (exfalso; omega)
set_option maxRecDepth 100000 in
set_option maxHeartbeats 1600000 in
theorem walk_BoxOrders_00_0p (ak an : Int) (az : ByteArray) (bk bn : Int) (bz : ByteArray) (ck cn : Int) (cz : ByteArray) (ha : errForm (okV ⟨ak, an, az⟩) = 0) (hb : errForm (okV ⟨bk, bn, bz⟩) = 0) (hc : errForm (okV ⟨ck, cn, cz⟩) = 0) (zaa : bothE ⟨ak, an, az⟩ ⟨ak, an, az⟩ = 0) (zab : bothE ⟨ak, an, az⟩ ⟨bk, bn, bz⟩ = 0) (zba : bothE ⟨bk, bn, bz⟩ ⟨ak, an, az⟩ = 0) (zbc : bothE ⟨bk, bn, bz⟩ ⟨ck, cn, cz⟩ = 0) (zac : bothE ⟨ak, an, az⟩ ⟨ck, cn, cz⟩ = 0) (bc ac : Bool) (saa : sameB ⟨ak, an, az⟩ ⟨ak, an, az⟩ = true) (sab : sameB ⟨ak, an, az⟩ ⟨bk, bn, bz⟩ = true) (sba : sameB ⟨bk, bn, bz⟩ ⟨ak, an, az⟩ = true) (sbc : sameB ⟨bk, bn, bz⟩ ⟨ck, cn, cz⟩ = bc) (sac : sameB ⟨ak, an, az⟩ ⟨ck, cn, cz⟩ = bc) (x y z h g : Int) (nab : ordN ⟨ak, an, az⟩ ⟨bk, bn, bz⟩ = 0) (eab : ordE ⟨ak, an, az⟩ ⟨bk, bn, bz⟩ = 0) (nba : ordN ⟨bk, bn, bz⟩ ⟨ak, an, az⟩ = 0) (eba : ordE ⟨bk, bn, bz⟩ ⟨ak, an, az⟩ = 0) (nbc : ordN ⟨bk, bn, bz⟩ ⟨ck, cn, cz⟩ = z) (ebc : ordE ⟨bk, bn, bz⟩ ⟨ck, cn, cz⟩ = 0) (nac : ordN ⟨ak, an, az⟩ ⟨ck, cn, cz⟩ = y) (eac : ordE ⟨ak, an, az⟩ ⟨ck, cn, cz⟩ = 0) (dz : decide (0 < z) = true) (w : World) (hE : Env w) :
    Calls Tryd.prog 15 #[.agg #[.int .i64 ak, .int .i64 an, .string az], .agg #[.int .i64 bk, .int .i64 bn, .string bz], .agg #[.int .i64 ck, .int .i64 cn, .string cz]] w fun e w' => e = .returned (.bool true) ∧ Below w.heap.size w w' := by
  have hu := Tryd.underlying33
  have Ha := Lib.hid ha
  have Hb := Lib.hid hb
  have Hc := Lib.hid hc
  have Zaa := Lib.hid zaa; have Saa := Lib.hid saa
  have Zab := Lib.hid zab; have Sab := Lib.hid sab
  have Zba := Lib.hid zba; have Sba := Lib.hid sba
  have Zbc := Lib.hid zbc; have Sbc := Lib.hid sbc
  have Zac := Lib.hid zac; have Sac := Lib.hid sac
  have Nab := Lib.hid nab; have Eab := Lib.hid eab
  have Nba := Lib.hid nba; have Eba := Lib.hid eba
  have Nbc := Lib.hid nbc; have Ebc := Lib.hid ebc
  have Nac := Lib.hid nac; have Eac := Lib.hid eac
  clear ha hb hc zaa saa zab sab zba sba zbc sbc zac sac nab eab nba eba nbc ebc nac eac
  go_enter Tryd.func15, Tryd.ntmps15
  go_wp2_with (first | (go_at_call 26; (with_reducible refine (law03_fixed _ (hE.of_below (Go.Joins.below_alloc3 w _ _ _))).mono ?_); rintro e w1 ⟨rfl, hb1⟩; have hB1 : Below w.heap.size w w1 := below_step (Go.Joins.below_alloc3 w _ _ _) hb1; have kk := K3.step (K3.new w ak an az bk bn bz ck cn cz 33) hb1; have kq := kk; obtain ⟨ca0, ca1, ca2, cb0, cb1, cb2, cc0, cc1, cc2, ccl⟩ := kq; clear hb1) | (go_at_call 54; (with_reducible refine (Check_a ⟨ak, an, az⟩ _ Ha.out _).mono ?_); rintro e w2 ⟨rfl, hb2⟩; have hB2 : Below w.heap.size w w2 := below_step (by assumption) hb2; clear ca0 ca1 ca2 cb0 cb1 cb2 cc0 cc1 cc2 ccl; replace kk := K3.step kk hb2; have kq := kk; obtain ⟨ca0, ca1, ca2, cb0, cb1, cb2, cc0, cc1, cc2, ccl⟩ := kq; clear hb2) | (go_at_call 54; (with_reducible refine (Check_a ⟨bk, bn, bz⟩ _ Hb.out _).mono ?_); rintro e w3 ⟨rfl, hb3⟩; have hB3 : Below w.heap.size w w3 := below_step (by assumption) hb3; clear ca0 ca1 ca2 cb0 cb1 cb2 cc0 cc1 cc2 ccl; replace kk := K3.step kk hb3; have kq := kk; obtain ⟨ca0, ca1, ca2, cb0, cb1, cb2, cc0, cc1, cc2, ccl⟩ := kq; clear hb3) | (go_at_call 54; (with_reducible refine (Check_a ⟨ck, cn, cz⟩ _ Hc.out _).mono ?_); rintro e w4 ⟨rfl, hb4⟩; have hB4 : Below w.heap.size w w4 := below_step (by assumption) hb4; clear ca0 ca1 ca2 cb0 cb1 cb2 cc0 cc1 cc2 ccl; replace kk := K3.step kk hb4; have kq := kk; obtain ⟨ca0, ca1, ca2, cb0, cb1, cb2, cc0, cc1, cc2, ccl⟩ := kq; clear hb4) | (go_at_call 50; (with_reducible refine (box_Same_c ⟨ak, an, az⟩ ⟨ak, an, az⟩ true 0 Saa.out Zaa.out _).mono ?_); rintro e w5 ⟨rfl, hb5⟩; have hB5 : Below w.heap.size w w5 := below_step (by assumption) hb5; clear ca0 ca1 ca2 cb0 cb1 cb2 cc0 cc1 cc2 ccl; replace kk := K3.step kk hb5; have kq := kk; obtain ⟨ca0, ca1, ca2, cb0, cb1, cb2, cc0, cc1, cc2, ccl⟩ := kq; clear hb5) | (go_at_call 50; (with_reducible refine (box_Same_c ⟨ak, an, az⟩ ⟨bk, bn, bz⟩ true 0 Sab.out Zab.out _).mono ?_); rintro e w6 ⟨rfl, hb6⟩; have hB6 : Below w.heap.size w w6 := below_step (by assumption) hb6; clear ca0 ca1 ca2 cb0 cb1 cb2 cc0 cc1 cc2 ccl; replace kk := K3.step kk hb6; have kq := kk; obtain ⟨ca0, ca1, ca2, cb0, cb1, cb2, cc0, cc1, cc2, ccl⟩ := kq; clear hb6) | (go_at_call 50; (with_reducible refine (box_Same_c ⟨bk, bn, bz⟩ ⟨ak, an, az⟩ true 0 Sba.out Zba.out _).mono ?_); rintro e w7 ⟨rfl, hb7⟩; have hB7 : Below w.heap.size w w7 := below_step (by assumption) hb7; clear ca0 ca1 ca2 cb0 cb1 cb2 cc0 cc1 cc2 ccl; replace kk := K3.step kk hb7; have kq := kk; obtain ⟨ca0, ca1, ca2, cb0, cb1, cb2, cc0, cc1, cc2, ccl⟩ := kq; clear hb7) | (go_at_call 50; (with_reducible refine (box_Same_c ⟨bk, bn, bz⟩ ⟨ck, cn, cz⟩ bc 0 Sbc.out Zbc.out _).mono ?_); rintro e w8 ⟨rfl, hb8⟩; have hB8 : Below w.heap.size w w8 := below_step (by assumption) hb8; clear ca0 ca1 ca2 cb0 cb1 cb2 cc0 cc1 cc2 ccl; replace kk := K3.step kk hb8; have kq := kk; obtain ⟨ca0, ca1, ca2, cb0, cb1, cb2, cc0, cc1, cc2, ccl⟩ := kq; clear hb8) | (go_at_call 50; (with_reducible refine (box_Same_c ⟨ak, an, az⟩ ⟨ck, cn, cz⟩ bc 0 Sac.out Zac.out _).mono ?_); rintro e w9 ⟨rfl, hb9⟩; have hB9 : Below w.heap.size w w9 := below_step (by assumption) hb9; clear ca0 ca1 ca2 cb0 cb1 cb2 cc0 cc1 cc2 ccl; replace kk := K3.step kk hb9; have kq := kk; obtain ⟨ca0, ca1, ca2, cb0, cb1, cb2, cc0, cc1, cc2, ccl⟩ := kq; clear hb9) | (go_at_call 51; (with_reducible refine (box_Order_c ⟨ak, an, az⟩ ⟨bk, bn, bz⟩ 0 0 Nab.out Eab.out _).mono ?_); rintro e w10 ⟨rfl, hb10⟩; have hB10 : Below w.heap.size w w10 := below_step (by assumption) hb10; clear ca0 ca1 ca2 cb0 cb1 cb2 cc0 cc1 cc2 ccl; replace kk := K3.step kk hb10; have kq := kk; obtain ⟨ca0, ca1, ca2, cb0, cb1, cb2, cc0, cc1, cc2, ccl⟩ := kq; clear hb10) | (go_at_call 51; (with_reducible refine (box_Order_c ⟨bk, bn, bz⟩ ⟨ak, an, az⟩ 0 0 Nba.out Eba.out _).mono ?_); rintro e w11 ⟨rfl, hb11⟩; have hB11 : Below w.heap.size w w11 := below_step (by assumption) hb11; clear ca0 ca1 ca2 cb0 cb1 cb2 cc0 cc1 cc2 ccl; replace kk := K3.step kk hb11; have kq := kk; obtain ⟨ca0, ca1, ca2, cb0, cb1, cb2, cc0, cc1, cc2, ccl⟩ := kq; clear hb11) | (go_at_call 51; (with_reducible refine (box_Order_c ⟨bk, bn, bz⟩ ⟨ck, cn, cz⟩ z 0 Nbc.out Ebc.out _).mono ?_); rintro e w12 ⟨rfl, hb12⟩; have hB12 : Below w.heap.size w w12 := below_step (by assumption) hb12; clear ca0 ca1 ca2 cb0 cb1 cb2 cc0 cc1 cc2 ccl; replace kk := K3.step kk hb12; have kq := kk; obtain ⟨ca0, ca1, ca2, cb0, cb1, cb2, cc0, cc1, cc2, ccl⟩ := kq; clear hb12) | (go_at_call 51; (with_reducible refine (box_Order_c ⟨ak, an, az⟩ ⟨ck, cn, cz⟩ y 0 Nac.out Eac.out _).mono ?_); rintro e w13 ⟨rfl, hb13⟩; have hB13 : Below w.heap.size w w13 := below_step (by assumption) hb13; clear ca0 ca1 ca2 cb0 cb1 cb2 cc0 cc1 cc2 ccl; replace kk := K3.step kk hb13; have kq := kk; obtain ⟨ca0, ca1, ca2, cb0, cb1, cb2, cc0, cc1, cc2, ccl⟩ := kq; clear hb13))
  all_goals go_ret
  all_goals first | exact ⟨rfl, hB13⟩ | (exfalso; omega)
set_option maxRecDepth 100000 in
set_option maxHeartbeats 1600000 in
theorem walk_BoxOrders_00_0n (ak an : Int) (az : ByteArray) (bk bn : Int) (bz : ByteArray) (ck cn : Int) (cz : ByteArray) (ha : errForm (okV ⟨ak, an, az⟩) = 0) (hb : errForm (okV ⟨bk, bn, bz⟩) = 0) (hc : errForm (okV ⟨ck, cn, cz⟩) = 0) (zaa : bothE ⟨ak, an, az⟩ ⟨ak, an, az⟩ = 0) (zab : bothE ⟨ak, an, az⟩ ⟨bk, bn, bz⟩ = 0) (zba : bothE ⟨bk, bn, bz⟩ ⟨ak, an, az⟩ = 0) (zbc : bothE ⟨bk, bn, bz⟩ ⟨ck, cn, cz⟩ = 0) (zac : bothE ⟨ak, an, az⟩ ⟨ck, cn, cz⟩ = 0) (bc ac : Bool) (saa : sameB ⟨ak, an, az⟩ ⟨ak, an, az⟩ = true) (sab : sameB ⟨ak, an, az⟩ ⟨bk, bn, bz⟩ = true) (sba : sameB ⟨bk, bn, bz⟩ ⟨ak, an, az⟩ = true) (sbc : sameB ⟨bk, bn, bz⟩ ⟨ck, cn, cz⟩ = bc) (sac : sameB ⟨ak, an, az⟩ ⟨ck, cn, cz⟩ = bc) (x y z h g : Int) (nab : ordN ⟨ak, an, az⟩ ⟨bk, bn, bz⟩ = 0) (eab : ordE ⟨ak, an, az⟩ ⟨bk, bn, bz⟩ = 0) (nba : ordN ⟨bk, bn, bz⟩ ⟨ak, an, az⟩ = 0) (eba : ordE ⟨bk, bn, bz⟩ ⟨ak, an, az⟩ = 0) (nbc : ordN ⟨bk, bn, bz⟩ ⟨ck, cn, cz⟩ = z) (ebc : ordE ⟨bk, bn, bz⟩ ⟨ck, cn, cz⟩ = 0) (nac : ordN ⟨ak, an, az⟩ ⟨ck, cn, cz⟩ = y) (eac : ordE ⟨ak, an, az⟩ ⟨ck, cn, cz⟩ = 0) (dz : decide (0 < z) = false) (dy : decide (y ≤ 0) = true) (w : World) (hE : Env w) :
    Calls Tryd.prog 15 #[.agg #[.int .i64 ak, .int .i64 an, .string az], .agg #[.int .i64 bk, .int .i64 bn, .string bz], .agg #[.int .i64 ck, .int .i64 cn, .string cz]] w fun e w' => e = .returned (.bool true) ∧ Below w.heap.size w w' := by
  have hu := Tryd.underlying33
  have Ha := Lib.hid ha
  have Hb := Lib.hid hb
  have Hc := Lib.hid hc
  have Zaa := Lib.hid zaa; have Saa := Lib.hid saa
  have Zab := Lib.hid zab; have Sab := Lib.hid sab
  have Zba := Lib.hid zba; have Sba := Lib.hid sba
  have Zbc := Lib.hid zbc; have Sbc := Lib.hid sbc
  have Zac := Lib.hid zac; have Sac := Lib.hid sac
  have Nab := Lib.hid nab; have Eab := Lib.hid eab
  have Nba := Lib.hid nba; have Eba := Lib.hid eba
  have Nbc := Lib.hid nbc; have Ebc := Lib.hid ebc
  have Nac := Lib.hid nac; have Eac := Lib.hid eac
  clear ha hb hc zaa saa zab sab zba sba zbc sbc zac sac nab eab nba eba nbc ebc nac eac
  go_enter Tryd.func15, Tryd.ntmps15
  go_wp2_with (first | (go_at_call 26; (with_reducible refine (law03_fixed _ (hE.of_below (Go.Joins.below_alloc3 w _ _ _))).mono ?_); rintro e w1 ⟨rfl, hb1⟩; have hB1 : Below w.heap.size w w1 := below_step (Go.Joins.below_alloc3 w _ _ _) hb1; have kk := K3.step (K3.new w ak an az bk bn bz ck cn cz 33) hb1; have kq := kk; obtain ⟨ca0, ca1, ca2, cb0, cb1, cb2, cc0, cc1, cc2, ccl⟩ := kq; clear hb1) | (go_at_call 54; (with_reducible refine (Check_a ⟨ak, an, az⟩ _ Ha.out _).mono ?_); rintro e w2 ⟨rfl, hb2⟩; have hB2 : Below w.heap.size w w2 := below_step (by assumption) hb2; clear ca0 ca1 ca2 cb0 cb1 cb2 cc0 cc1 cc2 ccl; replace kk := K3.step kk hb2; have kq := kk; obtain ⟨ca0, ca1, ca2, cb0, cb1, cb2, cc0, cc1, cc2, ccl⟩ := kq; clear hb2) | (go_at_call 54; (with_reducible refine (Check_a ⟨bk, bn, bz⟩ _ Hb.out _).mono ?_); rintro e w3 ⟨rfl, hb3⟩; have hB3 : Below w.heap.size w w3 := below_step (by assumption) hb3; clear ca0 ca1 ca2 cb0 cb1 cb2 cc0 cc1 cc2 ccl; replace kk := K3.step kk hb3; have kq := kk; obtain ⟨ca0, ca1, ca2, cb0, cb1, cb2, cc0, cc1, cc2, ccl⟩ := kq; clear hb3) | (go_at_call 54; (with_reducible refine (Check_a ⟨ck, cn, cz⟩ _ Hc.out _).mono ?_); rintro e w4 ⟨rfl, hb4⟩; have hB4 : Below w.heap.size w w4 := below_step (by assumption) hb4; clear ca0 ca1 ca2 cb0 cb1 cb2 cc0 cc1 cc2 ccl; replace kk := K3.step kk hb4; have kq := kk; obtain ⟨ca0, ca1, ca2, cb0, cb1, cb2, cc0, cc1, cc2, ccl⟩ := kq; clear hb4) | (go_at_call 50; (with_reducible refine (box_Same_c ⟨ak, an, az⟩ ⟨ak, an, az⟩ true 0 Saa.out Zaa.out _).mono ?_); rintro e w5 ⟨rfl, hb5⟩; have hB5 : Below w.heap.size w w5 := below_step (by assumption) hb5; clear ca0 ca1 ca2 cb0 cb1 cb2 cc0 cc1 cc2 ccl; replace kk := K3.step kk hb5; have kq := kk; obtain ⟨ca0, ca1, ca2, cb0, cb1, cb2, cc0, cc1, cc2, ccl⟩ := kq; clear hb5) | (go_at_call 50; (with_reducible refine (box_Same_c ⟨ak, an, az⟩ ⟨bk, bn, bz⟩ true 0 Sab.out Zab.out _).mono ?_); rintro e w6 ⟨rfl, hb6⟩; have hB6 : Below w.heap.size w w6 := below_step (by assumption) hb6; clear ca0 ca1 ca2 cb0 cb1 cb2 cc0 cc1 cc2 ccl; replace kk := K3.step kk hb6; have kq := kk; obtain ⟨ca0, ca1, ca2, cb0, cb1, cb2, cc0, cc1, cc2, ccl⟩ := kq; clear hb6) | (go_at_call 50; (with_reducible refine (box_Same_c ⟨bk, bn, bz⟩ ⟨ak, an, az⟩ true 0 Sba.out Zba.out _).mono ?_); rintro e w7 ⟨rfl, hb7⟩; have hB7 : Below w.heap.size w w7 := below_step (by assumption) hb7; clear ca0 ca1 ca2 cb0 cb1 cb2 cc0 cc1 cc2 ccl; replace kk := K3.step kk hb7; have kq := kk; obtain ⟨ca0, ca1, ca2, cb0, cb1, cb2, cc0, cc1, cc2, ccl⟩ := kq; clear hb7) | (go_at_call 50; (with_reducible refine (box_Same_c ⟨bk, bn, bz⟩ ⟨ck, cn, cz⟩ bc 0 Sbc.out Zbc.out _).mono ?_); rintro e w8 ⟨rfl, hb8⟩; have hB8 : Below w.heap.size w w8 := below_step (by assumption) hb8; clear ca0 ca1 ca2 cb0 cb1 cb2 cc0 cc1 cc2 ccl; replace kk := K3.step kk hb8; have kq := kk; obtain ⟨ca0, ca1, ca2, cb0, cb1, cb2, cc0, cc1, cc2, ccl⟩ := kq; clear hb8) | (go_at_call 50; (with_reducible refine (box_Same_c ⟨ak, an, az⟩ ⟨ck, cn, cz⟩ bc 0 Sac.out Zac.out _).mono ?_); rintro e w9 ⟨rfl, hb9⟩; have hB9 : Below w.heap.size w w9 := below_step (by assumption) hb9; clear ca0 ca1 ca2 cb0 cb1 cb2 cc0 cc1 cc2 ccl; replace kk := K3.step kk hb9; have kq := kk; obtain ⟨ca0, ca1, ca2, cb0, cb1, cb2, cc0, cc1, cc2, ccl⟩ := kq; clear hb9) | (go_at_call 51; (with_reducible refine (box_Order_c ⟨ak, an, az⟩ ⟨bk, bn, bz⟩ 0 0 Nab.out Eab.out _).mono ?_); rintro e w10 ⟨rfl, hb10⟩; have hB10 : Below w.heap.size w w10 := below_step (by assumption) hb10; clear ca0 ca1 ca2 cb0 cb1 cb2 cc0 cc1 cc2 ccl; replace kk := K3.step kk hb10; have kq := kk; obtain ⟨ca0, ca1, ca2, cb0, cb1, cb2, cc0, cc1, cc2, ccl⟩ := kq; clear hb10) | (go_at_call 51; (with_reducible refine (box_Order_c ⟨bk, bn, bz⟩ ⟨ak, an, az⟩ 0 0 Nba.out Eba.out _).mono ?_); rintro e w11 ⟨rfl, hb11⟩; have hB11 : Below w.heap.size w w11 := below_step (by assumption) hb11; clear ca0 ca1 ca2 cb0 cb1 cb2 cc0 cc1 cc2 ccl; replace kk := K3.step kk hb11; have kq := kk; obtain ⟨ca0, ca1, ca2, cb0, cb1, cb2, cc0, cc1, cc2, ccl⟩ := kq; clear hb11) | (go_at_call 51; (with_reducible refine (box_Order_c ⟨bk, bn, bz⟩ ⟨ck, cn, cz⟩ z 0 Nbc.out Ebc.out _).mono ?_); rintro e w12 ⟨rfl, hb12⟩; have hB12 : Below w.heap.size w w12 := below_step (by assumption) hb12; clear ca0 ca1 ca2 cb0 cb1 cb2 cc0 cc1 cc2 ccl; replace kk := K3.step kk hb12; have kq := kk; obtain ⟨ca0, ca1, ca2, cb0, cb1, cb2, cc0, cc1, cc2, ccl⟩ := kq; clear hb12) | (go_at_call 51; (with_reducible refine (box_Order_c ⟨ak, an, az⟩ ⟨ck, cn, cz⟩ y 0 Nac.out Eac.out _).mono ?_); rintro e w13 ⟨rfl, hb13⟩; have hB13 : Below w.heap.size w w13 := below_step (by assumption) hb13; clear ca0 ca1 ca2 cb0 cb1 cb2 cc0 cc1 cc2 ccl; replace kk := K3.step kk hb13; have kq := kk; obtain ⟨ca0, ca1, ca2, cb0, cb1, cb2, cc0, cc1, cc2, ccl⟩ := kq; clear hb13))
  all_goals go_ret
  all_goals first | exact ⟨rfl, hB13⟩ | (exfalso; omega)
set_option maxRecDepth 100000 in
set_option maxHeartbeats 1600000 in
theorem walk_BoxOrders_00_mp (ak an : Int) (az : ByteArray) (bk bn : Int) (bz : ByteArray) (ck cn : Int) (cz : ByteArray) (ha : errForm (okV ⟨ak, an, az⟩) = 0) (hb : errForm (okV ⟨bk, bn, bz⟩) = 0) (hc : errForm (okV ⟨ck, cn, cz⟩) = 0) (zaa : bothE ⟨ak, an, az⟩ ⟨ak, an, az⟩ = 0) (zab : bothE ⟨ak, an, az⟩ ⟨bk, bn, bz⟩ = 0) (zba : bothE ⟨bk, bn, bz⟩ ⟨ak, an, az⟩ = 0) (zbc : bothE ⟨bk, bn, bz⟩ ⟨ck, cn, cz⟩ = 0) (zac : bothE ⟨ak, an, az⟩ ⟨ck, cn, cz⟩ = 0) (bc ac : Bool) (saa : sameB ⟨ak, an, az⟩ ⟨ak, an, az⟩ = true) (sab : sameB ⟨ak, an, az⟩ ⟨bk, bn, bz⟩ = false) (sba : sameB ⟨bk, bn, bz⟩ ⟨ak, an, az⟩ = false) (sbc : sameB ⟨bk, bn, bz⟩ ⟨ck, cn, cz⟩ = bc) (sac : sameB ⟨ak, an, az⟩ ⟨ck, cn, cz⟩ = ac) (x y z h g : Int) (nab : ordN ⟨ak, an, az⟩ ⟨bk, bn, bz⟩ = (-1)) (eab : ordE ⟨ak, an, az⟩ ⟨bk, bn, bz⟩ = 0) (nba : ordN ⟨bk, bn, bz⟩ ⟨ak, an, az⟩ = 1) (eba : ordE ⟨bk, bn, bz⟩ ⟨ak, an, az⟩ = 0) (nbc : ordN ⟨bk, bn, bz⟩ ⟨ck, cn, cz⟩ = z) (ebc : ordE ⟨bk, bn, bz⟩ ⟨ck, cn, cz⟩ = 0) (nac : ordN ⟨ak, an, az⟩ ⟨ck, cn, cz⟩ = y) (eac : ordE ⟨ak, an, az⟩ ⟨ck, cn, cz⟩ = 0) (dz : decide (0 < z) = true) (w : World) (hE : Env w) :
    Calls Tryd.prog 15 #[.agg #[.int .i64 ak, .int .i64 an, .string az], .agg #[.int .i64 bk, .int .i64 bn, .string bz], .agg #[.int .i64 ck, .int .i64 cn, .string cz]] w fun e w' => e = .returned (.bool true) ∧ Below w.heap.size w w' := by
  have hu := Tryd.underlying33
  have Ha := Lib.hid ha
  have Hb := Lib.hid hb
  have Hc := Lib.hid hc
  have Zaa := Lib.hid zaa; have Saa := Lib.hid saa
  have Zab := Lib.hid zab; have Sab := Lib.hid sab
  have Zba := Lib.hid zba; have Sba := Lib.hid sba
  have Zbc := Lib.hid zbc; have Sbc := Lib.hid sbc
  have Zac := Lib.hid zac; have Sac := Lib.hid sac
  have Nab := Lib.hid nab; have Eab := Lib.hid eab
  have Nba := Lib.hid nba; have Eba := Lib.hid eba
  have Nbc := Lib.hid nbc; have Ebc := Lib.hid ebc
  have Nac := Lib.hid nac; have Eac := Lib.hid eac
  clear ha hb hc zaa saa zab sab zba sba zbc sbc zac sac nab eab nba eba nbc ebc nac eac
  go_enter Tryd.func15, Tryd.ntmps15
  go_wp2_with (first | (go_at_call 26; (with_reducible refine (law03_fixed _ (hE.of_below (Go.Joins.below_alloc3 w _ _ _))).mono ?_); rintro e w1 ⟨rfl, hb1⟩; have hB1 : Below w.heap.size w w1 := below_step (Go.Joins.below_alloc3 w _ _ _) hb1; have kk := K3.step (K3.new w ak an az bk bn bz ck cn cz 33) hb1; have kq := kk; obtain ⟨ca0, ca1, ca2, cb0, cb1, cb2, cc0, cc1, cc2, ccl⟩ := kq; clear hb1) | (go_at_call 54; (with_reducible refine (Check_a ⟨ak, an, az⟩ _ Ha.out _).mono ?_); rintro e w2 ⟨rfl, hb2⟩; have hB2 : Below w.heap.size w w2 := below_step (by assumption) hb2; clear ca0 ca1 ca2 cb0 cb1 cb2 cc0 cc1 cc2 ccl; replace kk := K3.step kk hb2; have kq := kk; obtain ⟨ca0, ca1, ca2, cb0, cb1, cb2, cc0, cc1, cc2, ccl⟩ := kq; clear hb2) | (go_at_call 54; (with_reducible refine (Check_a ⟨bk, bn, bz⟩ _ Hb.out _).mono ?_); rintro e w3 ⟨rfl, hb3⟩; have hB3 : Below w.heap.size w w3 := below_step (by assumption) hb3; clear ca0 ca1 ca2 cb0 cb1 cb2 cc0 cc1 cc2 ccl; replace kk := K3.step kk hb3; have kq := kk; obtain ⟨ca0, ca1, ca2, cb0, cb1, cb2, cc0, cc1, cc2, ccl⟩ := kq; clear hb3) | (go_at_call 54; (with_reducible refine (Check_a ⟨ck, cn, cz⟩ _ Hc.out _).mono ?_); rintro e w4 ⟨rfl, hb4⟩; have hB4 : Below w.heap.size w w4 := below_step (by assumption) hb4; clear ca0 ca1 ca2 cb0 cb1 cb2 cc0 cc1 cc2 ccl; replace kk := K3.step kk hb4; have kq := kk; obtain ⟨ca0, ca1, ca2, cb0, cb1, cb2, cc0, cc1, cc2, ccl⟩ := kq; clear hb4) | (go_at_call 50; (with_reducible refine (box_Same_c ⟨ak, an, az⟩ ⟨ak, an, az⟩ true 0 Saa.out Zaa.out _).mono ?_); rintro e w5 ⟨rfl, hb5⟩; have hB5 : Below w.heap.size w w5 := below_step (by assumption) hb5; clear ca0 ca1 ca2 cb0 cb1 cb2 cc0 cc1 cc2 ccl; replace kk := K3.step kk hb5; have kq := kk; obtain ⟨ca0, ca1, ca2, cb0, cb1, cb2, cc0, cc1, cc2, ccl⟩ := kq; clear hb5) | (go_at_call 50; (with_reducible refine (box_Same_c ⟨ak, an, az⟩ ⟨bk, bn, bz⟩ false 0 Sab.out Zab.out _).mono ?_); rintro e w6 ⟨rfl, hb6⟩; have hB6 : Below w.heap.size w w6 := below_step (by assumption) hb6; clear ca0 ca1 ca2 cb0 cb1 cb2 cc0 cc1 cc2 ccl; replace kk := K3.step kk hb6; have kq := kk; obtain ⟨ca0, ca1, ca2, cb0, cb1, cb2, cc0, cc1, cc2, ccl⟩ := kq; clear hb6) | (go_at_call 50; (with_reducible refine (box_Same_c ⟨bk, bn, bz⟩ ⟨ak, an, az⟩ false 0 Sba.out Zba.out _).mono ?_); rintro e w7 ⟨rfl, hb7⟩; have hB7 : Below w.heap.size w w7 := below_step (by assumption) hb7; clear ca0 ca1 ca2 cb0 cb1 cb2 cc0 cc1 cc2 ccl; replace kk := K3.step kk hb7; have kq := kk; obtain ⟨ca0, ca1, ca2, cb0, cb1, cb2, cc0, cc1, cc2, ccl⟩ := kq; clear hb7) | (go_at_call 50; (with_reducible refine (box_Same_c ⟨bk, bn, bz⟩ ⟨ck, cn, cz⟩ bc 0 Sbc.out Zbc.out _).mono ?_); rintro e w8 ⟨rfl, hb8⟩; have hB8 : Below w.heap.size w w8 := below_step (by assumption) hb8; clear ca0 ca1 ca2 cb0 cb1 cb2 cc0 cc1 cc2 ccl; replace kk := K3.step kk hb8; have kq := kk; obtain ⟨ca0, ca1, ca2, cb0, cb1, cb2, cc0, cc1, cc2, ccl⟩ := kq; clear hb8) | (go_at_call 50; (with_reducible refine (box_Same_c ⟨ak, an, az⟩ ⟨ck, cn, cz⟩ ac 0 Sac.out Zac.out _).mono ?_); rintro e w9 ⟨rfl, hb9⟩; have hB9 : Below w.heap.size w w9 := below_step (by assumption) hb9; clear ca0 ca1 ca2 cb0 cb1 cb2 cc0 cc1 cc2 ccl; replace kk := K3.step kk hb9; have kq := kk; obtain ⟨ca0, ca1, ca2, cb0, cb1, cb2, cc0, cc1, cc2, ccl⟩ := kq; clear hb9) | (go_at_call 51; (with_reducible refine (box_Order_c ⟨ak, an, az⟩ ⟨bk, bn, bz⟩ (-1) 0 Nab.out Eab.out _).mono ?_); rintro e w10 ⟨rfl, hb10⟩; have hB10 : Below w.heap.size w w10 := below_step (by assumption) hb10; clear ca0 ca1 ca2 cb0 cb1 cb2 cc0 cc1 cc2 ccl; replace kk := K3.step kk hb10; have kq := kk; obtain ⟨ca0, ca1, ca2, cb0, cb1, cb2, cc0, cc1, cc2, ccl⟩ := kq; clear hb10) | (go_at_call 51; (with_reducible refine (box_Order_c ⟨bk, bn, bz⟩ ⟨ak, an, az⟩ 1 0 Nba.out Eba.out _).mono ?_); rintro e w11 ⟨rfl, hb11⟩; have hB11 : Below w.heap.size w w11 := below_step (by assumption) hb11; clear ca0 ca1 ca2 cb0 cb1 cb2 cc0 cc1 cc2 ccl; replace kk := K3.step kk hb11; have kq := kk; obtain ⟨ca0, ca1, ca2, cb0, cb1, cb2, cc0, cc1, cc2, ccl⟩ := kq; clear hb11) | (go_at_call 51; (with_reducible refine (box_Order_c ⟨bk, bn, bz⟩ ⟨ck, cn, cz⟩ z 0 Nbc.out Ebc.out _).mono ?_); rintro e w12 ⟨rfl, hb12⟩; have hB12 : Below w.heap.size w w12 := below_step (by assumption) hb12; clear ca0 ca1 ca2 cb0 cb1 cb2 cc0 cc1 cc2 ccl; replace kk := K3.step kk hb12; have kq := kk; obtain ⟨ca0, ca1, ca2, cb0, cb1, cb2, cc0, cc1, cc2, ccl⟩ := kq; clear hb12) | (go_at_call 51; (with_reducible refine (box_Order_c ⟨ak, an, az⟩ ⟨ck, cn, cz⟩ y 0 Nac.out Eac.out _).mono ?_); rintro e w13 ⟨rfl, hb13⟩; have hB13 : Below w.heap.size w w13 := below_step (by assumption) hb13; clear ca0 ca1 ca2 cb0 cb1 cb2 cc0 cc1 cc2 ccl; replace kk := K3.step kk hb13; have kq := kk; obtain ⟨ca0, ca1, ca2, cb0, cb1, cb2, cc0, cc1, cc2, ccl⟩ := kq; clear hb13))
  all_goals go_ret
  all_goals first | exact ⟨rfl, hB13⟩ | (exfalso; omega)
set_option maxRecDepth 100000 in
set_option maxHeartbeats 1600000 in
theorem walk_BoxOrders_00_mn (ak an : Int) (az : ByteArray) (bk bn : Int) (bz : ByteArray) (ck cn : Int) (cz : ByteArray) (ha : errForm (okV ⟨ak, an, az⟩) = 0) (hb : errForm (okV ⟨bk, bn, bz⟩) = 0) (hc : errForm (okV ⟨ck, cn, cz⟩) = 0) (zaa : bothE ⟨ak, an, az⟩ ⟨ak, an, az⟩ = 0) (zab : bothE ⟨ak, an, az⟩ ⟨bk, bn, bz⟩ = 0) (zba : bothE ⟨bk, bn, bz⟩ ⟨ak, an, az⟩ = 0) (zbc : bothE ⟨bk, bn, bz⟩ ⟨ck, cn, cz⟩ = 0) (zac : bothE ⟨ak, an, az⟩ ⟨ck, cn, cz⟩ = 0) (bc ac : Bool) (saa : sameB ⟨ak, an, az⟩ ⟨ak, an, az⟩ = true) (sab : sameB ⟨ak, an, az⟩ ⟨bk, bn, bz⟩ = false) (sba : sameB ⟨bk, bn, bz⟩ ⟨ak, an, az⟩ = false) (sbc : sameB ⟨bk, bn, bz⟩ ⟨ck, cn, cz⟩ = bc) (sac : sameB ⟨ak, an, az⟩ ⟨ck, cn, cz⟩ = ac) (x y z h g : Int) (nab : ordN ⟨ak, an, az⟩ ⟨bk, bn, bz⟩ = (-1)) (eab : ordE ⟨ak, an, az⟩ ⟨bk, bn, bz⟩ = 0) (nba : ordN ⟨bk, bn, bz⟩ ⟨ak, an, az⟩ = 1) (eba : ordE ⟨bk, bn, bz⟩ ⟨ak, an, az⟩ = 0) (nbc : ordN ⟨bk, bn, bz⟩ ⟨ck, cn, cz⟩ = z) (ebc : ordE ⟨bk, bn, bz⟩ ⟨ck, cn, cz⟩ = 0) (nac : ordN ⟨ak, an, az⟩ ⟨ck, cn, cz⟩ = y) (eac : ordE ⟨ak, an, az⟩ ⟨ck, cn, cz⟩ = 0) (dz : decide (0 < z) = false) (dy : decide (y ≤ 0) = true) (dw : decide (y < 0) = true) (w : World) (hE : Env w) :
    Calls Tryd.prog 15 #[.agg #[.int .i64 ak, .int .i64 an, .string az], .agg #[.int .i64 bk, .int .i64 bn, .string bz], .agg #[.int .i64 ck, .int .i64 cn, .string cz]] w fun e w' => e = .returned (.bool true) ∧ Below w.heap.size w w' := by
  have hu := Tryd.underlying33
  have Ha := Lib.hid ha
  have Hb := Lib.hid hb
  have Hc := Lib.hid hc
  have Zaa := Lib.hid zaa; have Saa := Lib.hid saa
  have Zab := Lib.hid zab; have Sab := Lib.hid sab
  have Zba := Lib.hid zba; have Sba := Lib.hid sba
  have Zbc := Lib.hid zbc; have Sbc := Lib.hid sbc
  have Zac := Lib.hid zac; have Sac := Lib.hid sac
  have Nab := Lib.hid nab; have Eab := Lib.hid eab
  have Nba := Lib.hid nba; have Eba := Lib.hid eba
  have Nbc := Lib.hid nbc; have Ebc := Lib.hid ebc
  have Nac := Lib.hid nac; have Eac := Lib.hid eac
  clear ha hb hc zaa saa zab sab zba sba zbc sbc zac sac nab eab nba eba nbc ebc nac eac
  go_enter Tryd.func15, Tryd.ntmps15
  go_wp2_with (first | (go_at_call 26; (with_reducible refine (law03_fixed _ (hE.of_below (Go.Joins.below_alloc3 w _ _ _))).mono ?_); rintro e w1 ⟨rfl, hb1⟩; have hB1 : Below w.heap.size w w1 := below_step (Go.Joins.below_alloc3 w _ _ _) hb1; have kk := K3.step (K3.new w ak an az bk bn bz ck cn cz 33) hb1; have kq := kk; obtain ⟨ca0, ca1, ca2, cb0, cb1, cb2, cc0, cc1, cc2, ccl⟩ := kq; clear hb1) | (go_at_call 54; (with_reducible refine (Check_a ⟨ak, an, az⟩ _ Ha.out _).mono ?_); rintro e w2 ⟨rfl, hb2⟩; have hB2 : Below w.heap.size w w2 := below_step (by assumption) hb2; clear ca0 ca1 ca2 cb0 cb1 cb2 cc0 cc1 cc2 ccl; replace kk := K3.step kk hb2; have kq := kk; obtain ⟨ca0, ca1, ca2, cb0, cb1, cb2, cc0, cc1, cc2, ccl⟩ := kq; clear hb2) | (go_at_call 54; (with_reducible refine (Check_a ⟨bk, bn, bz⟩ _ Hb.out _).mono ?_); rintro e w3 ⟨rfl, hb3⟩; have hB3 : Below w.heap.size w w3 := below_step (by assumption) hb3; clear ca0 ca1 ca2 cb0 cb1 cb2 cc0 cc1 cc2 ccl; replace kk := K3.step kk hb3; have kq := kk; obtain ⟨ca0, ca1, ca2, cb0, cb1, cb2, cc0, cc1, cc2, ccl⟩ := kq; clear hb3) | (go_at_call 54; (with_reducible refine (Check_a ⟨ck, cn, cz⟩ _ Hc.out _).mono ?_); rintro e w4 ⟨rfl, hb4⟩; have hB4 : Below w.heap.size w w4 := below_step (by assumption) hb4; clear ca0 ca1 ca2 cb0 cb1 cb2 cc0 cc1 cc2 ccl; replace kk := K3.step kk hb4; have kq := kk; obtain ⟨ca0, ca1, ca2, cb0, cb1, cb2, cc0, cc1, cc2, ccl⟩ := kq; clear hb4) | (go_at_call 50; (with_reducible refine (box_Same_c ⟨ak, an, az⟩ ⟨ak, an, az⟩ true 0 Saa.out Zaa.out _).mono ?_); rintro e w5 ⟨rfl, hb5⟩; have hB5 : Below w.heap.size w w5 := below_step (by assumption) hb5; clear ca0 ca1 ca2 cb0 cb1 cb2 cc0 cc1 cc2 ccl; replace kk := K3.step kk hb5; have kq := kk; obtain ⟨ca0, ca1, ca2, cb0, cb1, cb2, cc0, cc1, cc2, ccl⟩ := kq; clear hb5) | (go_at_call 50; (with_reducible refine (box_Same_c ⟨ak, an, az⟩ ⟨bk, bn, bz⟩ false 0 Sab.out Zab.out _).mono ?_); rintro e w6 ⟨rfl, hb6⟩; have hB6 : Below w.heap.size w w6 := below_step (by assumption) hb6; clear ca0 ca1 ca2 cb0 cb1 cb2 cc0 cc1 cc2 ccl; replace kk := K3.step kk hb6; have kq := kk; obtain ⟨ca0, ca1, ca2, cb0, cb1, cb2, cc0, cc1, cc2, ccl⟩ := kq; clear hb6) | (go_at_call 50; (with_reducible refine (box_Same_c ⟨bk, bn, bz⟩ ⟨ak, an, az⟩ false 0 Sba.out Zba.out _).mono ?_); rintro e w7 ⟨rfl, hb7⟩; have hB7 : Below w.heap.size w w7 := below_step (by assumption) hb7; clear ca0 ca1 ca2 cb0 cb1 cb2 cc0 cc1 cc2 ccl; replace kk := K3.step kk hb7; have kq := kk; obtain ⟨ca0, ca1, ca2, cb0, cb1, cb2, cc0, cc1, cc2, ccl⟩ := kq; clear hb7) | (go_at_call 50; (with_reducible refine (box_Same_c ⟨bk, bn, bz⟩ ⟨ck, cn, cz⟩ bc 0 Sbc.out Zbc.out _).mono ?_); rintro e w8 ⟨rfl, hb8⟩; have hB8 : Below w.heap.size w w8 := below_step (by assumption) hb8; clear ca0 ca1 ca2 cb0 cb1 cb2 cc0 cc1 cc2 ccl; replace kk := K3.step kk hb8; have kq := kk; obtain ⟨ca0, ca1, ca2, cb0, cb1, cb2, cc0, cc1, cc2, ccl⟩ := kq; clear hb8) | (go_at_call 50; (with_reducible refine (box_Same_c ⟨ak, an, az⟩ ⟨ck, cn, cz⟩ ac 0 Sac.out Zac.out _).mono ?_); rintro e w9 ⟨rfl, hb9⟩; have hB9 : Below w.heap.size w w9 := below_step (by assumption) hb9; clear ca0 ca1 ca2 cb0 cb1 cb2 cc0 cc1 cc2 ccl; replace kk := K3.step kk hb9; have kq := kk; obtain ⟨ca0, ca1, ca2, cb0, cb1, cb2, cc0, cc1, cc2, ccl⟩ := kq; clear hb9) | (go_at_call 51; (with_reducible refine (box_Order_c ⟨ak, an, az⟩ ⟨bk, bn, bz⟩ (-1) 0 Nab.out Eab.out _).mono ?_); rintro e w10 ⟨rfl, hb10⟩; have hB10 : Below w.heap.size w w10 := below_step (by assumption) hb10; clear ca0 ca1 ca2 cb0 cb1 cb2 cc0 cc1 cc2 ccl; replace kk := K3.step kk hb10; have kq := kk; obtain ⟨ca0, ca1, ca2, cb0, cb1, cb2, cc0, cc1, cc2, ccl⟩ := kq; clear hb10) | (go_at_call 51; (with_reducible refine (box_Order_c ⟨bk, bn, bz⟩ ⟨ak, an, az⟩ 1 0 Nba.out Eba.out _).mono ?_); rintro e w11 ⟨rfl, hb11⟩; have hB11 : Below w.heap.size w w11 := below_step (by assumption) hb11; clear ca0 ca1 ca2 cb0 cb1 cb2 cc0 cc1 cc2 ccl; replace kk := K3.step kk hb11; have kq := kk; obtain ⟨ca0, ca1, ca2, cb0, cb1, cb2, cc0, cc1, cc2, ccl⟩ := kq; clear hb11) | (go_at_call 51; (with_reducible refine (box_Order_c ⟨bk, bn, bz⟩ ⟨ck, cn, cz⟩ z 0 Nbc.out Ebc.out _).mono ?_); rintro e w12 ⟨rfl, hb12⟩; have hB12 : Below w.heap.size w w12 := below_step (by assumption) hb12; clear ca0 ca1 ca2 cb0 cb1 cb2 cc0 cc1 cc2 ccl; replace kk := K3.step kk hb12; have kq := kk; obtain ⟨ca0, ca1, ca2, cb0, cb1, cb2, cc0, cc1, cc2, ccl⟩ := kq; clear hb12) | (go_at_call 51; (with_reducible refine (box_Order_c ⟨ak, an, az⟩ ⟨ck, cn, cz⟩ y 0 Nac.out Eac.out _).mono ?_); rintro e w13 ⟨rfl, hb13⟩; have hB13 : Below w.heap.size w w13 := below_step (by assumption) hb13; clear ca0 ca1 ca2 cb0 cb1 cb2 cc0 cc1 cc2 ccl; replace kk := K3.step kk hb13; have kq := kk; obtain ⟨ca0, ca1, ca2, cb0, cb1, cb2, cc0, cc1, cc2, ccl⟩ := kq; clear hb13))
  all_goals go_ret
  all_goals first | exact ⟨rfl, hB13⟩ | (exfalso; omega)
end Go.Proofs.YtpppcoobibmlhaaDoor
/- BoxOrders: the cases joined. -/
namespace Go.Proofs.YtpppcoobibmlhaaDoor
open Go.RowKit
set_option linter.unusedVariables false

theorem errForm_ok {v : V} (h : okV v = true) : errForm (okV v) = 0 := by rw [h]; rfl
theorem rowBoxOrders (a b c : Value) (ha : IsVal a) (hb : IsVal b) (hc : IsVal c) (w : World) (hE : Env w) : Calls Tryd.prog 15 #[a, b, c] w fun e w' => e = .returned (.bool true) ∧ Below w.heap.size w w' := by
  obtain ⟨ak, an, az, rfl, -, -, -⟩ := ha
  obtain ⟨bk, bn, bz, rfl, -, -, -⟩ := hb
  obtain ⟨ck, cn, cz, rfl, -, -, -⟩ := hc
  cases oa : okV ⟨ak, an, az⟩ with
  | false => exact walk_BoxOrders_a _ _ _ _ _ _ _ _ _ oa w hE
  | true =>
  cases ob : okV ⟨bk, bn, bz⟩ with
  | false => exact walk_BoxOrders_b _ _ _ _ _ _ _ _ _ oa ob w hE
  | true =>
  cases oc : okV ⟨ck, cn, cz⟩ with
  | false => exact walk_BoxOrders_c _ _ _ _ _ _ _ _ _ oa ob oc w hE
  | true =>
  have ea := errForm_ok oa; have eb := errForm_ok ob; have ec := errForm_ok oc
  have zaa := bothE_ok oa oa; have zab := bothE_ok oa ob; have zba := bothE_ok ob oa; have zbc := bothE_ok ob oc; have zac := bothE_ok oa oc
  have saa := (same_of _ _ oa oa).2 rfl
  have iab := same_of _ _ oa ob; have iba := same_of _ _ ob oa; have ibc := same_of _ _ ob oc; have iac := same_of _ _ oa oc
  have jab := toBx_inj oa ob
  have nab := ordN_ok oa ob; have nba := ordN_ok ob oa; have nbc := ordN_ok ob oc; have nac := ordN_ok oa oc
  have qab := ordE_ok oa ob; have qba := ordE_ok ob oa; have qbc := ordE_ok ob oc; have qac := ordE_ok oa oc
  rw [order_neg] at nba
  rw [(order_e _ _).1] at qba
  have rab := order_range (toBx ⟨ak, an, az⟩) (toBx ⟨bk, bn, bz⟩)
  have vab := (order_e (toBx ⟨ak, an, az⟩) (toBx ⟨bk, bn, bz⟩)).2
  have vbc := (order_e (toBx ⟨bk, bn, bz⟩) (toBx ⟨ck, cn, cz⟩)).2
  have oz := order_zero (toBx ⟨ak, an, az⟩) (toBx ⟨bk, bn, bz⟩)
  have tr := order_trans (toBx ⟨ak, an, az⟩) (toBx ⟨bk, bn, bz⟩) (toBx ⟨ck, cn, cz⟩)
  generalize orderN (toBx ⟨ak, an, az⟩) (toBx ⟨bk, bn, bz⟩) = x at *
  generalize orderN (toBx ⟨bk, bn, bz⟩) (toBx ⟨ck, cn, cz⟩) = z at *
  generalize orderN (toBx ⟨ak, an, az⟩) (toBx ⟨ck, cn, cz⟩) = y at *
  generalize orderE (toBx ⟨ak, an, az⟩) (toBx ⟨bk, bn, bz⟩) = e at *
  generalize orderE (toBx ⟨bk, bn, bz⟩) (toBx ⟨ck, cn, cz⟩) = g at *
  generalize orderE (toBx ⟨ak, an, az⟩) (toBx ⟨ck, cn, cz⟩) = h at *
  rw [jab] at oz
  cases sab : sameB ⟨ak, an, az⟩ ⟨bk, bn, bz⟩ with
  | true =>
    have eq := iab.1 sab
    have sba : sameB ⟨bk, bn, bz⟩ ⟨ak, an, az⟩ = true := iba.2 eq.symm
    have sac : sameB ⟨ak, an, az⟩ ⟨ck, cn, cz⟩ = sameB ⟨bk, bn, bz⟩ ⟨ck, cn, cz⟩ := by rw [eq]
    rcases vab with rfl | rfl
    · obtain rfl := (oz rfl).2 eq
      rcases vbc with rfl | rfl
      · obtain ⟨rfl, t1, t2⟩ := tr rfl rfl
        by_cases hz : 0 < z
        · exact walk_BoxOrders_00_0p ak an az bk bn bz ck cn cz ea eb ec zaa zab zba zbc zac _ true saa sab sba rfl sac 0 y z 0 0 nab qab nba qba nbc qbc nac qac (by simpa using hz) w hE
        · exact walk_BoxOrders_00_0n ak an az bk bn bz ck cn cz ea eb ec zaa zab zba zbc zac _ true saa sab sba rfl sac 0 y z 0 0 nab qab nba qba nbc qbc nac qac (by simpa using hz) (by simp; omega) w hE
      · exact walk_BoxOrders_08_true ak an az bk bn bz ck cn cz ea eb ec zaa zab zba zbc zac _ true saa sab sba rfl sac 0 y z h 0 nab qab nba qba nbc qbc nac qac (by omega) (by omega) rfl w hE
    · exact walk_BoxOrders_8_true ak an az bk bn bz ck cn cz ea eb ec zaa zab zba zbc zac _ true saa sab sba rfl sac x y z h g nab qab nba qba nbc qbc nac qac rab.1 rab.2 w hE
  | false =>
    have ne : ¬ (⟨ak, an, az⟩ : V) = ⟨bk, bn, bz⟩ := fun q => by rw [iab.2 q] at sab; cases sab
    have sba : sameB ⟨bk, bn, bz⟩ ⟨ak, an, az⟩ = false := by
      cases q : sameB ⟨bk, bn, bz⟩ ⟨ak, an, az⟩ with
      | false => rfl
      | true => exact absurd (iba.1 q).symm ne
    rcases vab with rfl | rfl
    · have nx : x ≠ 0 := fun q => ne ((oz rfl).1 q)
      rcases vbc with rfl | rfl
      · obtain ⟨rfl, t1, t2⟩ := tr rfl rfl
        by_cases hx : x = 1
        · subst hx
          exact walk_BoxOrders_00_1 ak an az bk bn bz ck cn cz ea eb ec zaa zab zba zbc zac _ _ saa sab sba rfl rfl 0 y z 0 0 nab qab nba qba nbc qbc nac qac w hE
        · obtain rfl : x = -1 := by omega
          by_cases hz : 0 < z
          · exact walk_BoxOrders_00_mp ak an az bk bn bz ck cn cz ea eb ec zaa zab zba zbc zac _ _ saa sab sba rfl rfl 0 y z 0 0 nab qab nba qba nbc qbc nac qac (by simpa using hz) w hE
          · exact walk_BoxOrders_00_mn ak an az bk bn bz ck cn cz ea eb ec zaa zab zba zbc zac _ _ saa sab sba rfl rfl 0 y z 0 0 nab qab nba qba nbc qbc nac qac (by simpa using hz) (by simp; omega) (by simp; omega) w hE
      · exact walk_BoxOrders_08_false ak an az bk bn bz ck cn cz ea eb ec zaa zab zba zbc zac _ _ saa sab sba rfl rfl x y z h 0 nab qab nba qba nbc qbc nac qac rab.1 rab.2 (by simpa using nx) w hE
    · exact walk_BoxOrders_8_false ak an az bk bn bz ck cn cz ea eb ec zaa zab zba zbc zac _ _ saa sab sba rfl rfl x y z h g nab qab nba qba nbc qbc nac qac rab.1 rab.2 w hE
end Go.Proofs.YtpppcoobibmlhaaDoor
