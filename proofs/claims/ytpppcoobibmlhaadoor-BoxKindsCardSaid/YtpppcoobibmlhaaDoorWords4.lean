/- Contracts of the package words: the reader's parts. -/
import Derived.Test.YtpppcoobibmlhaaDoorWords3
import Derived.Test.YtpppcoobibmlhaaDoorNum
import Derived.Laws.RangeAny
import Derived.Laws.Externs
namespace Go.Proofs.YtpppcoobibmlhaaDoor
open Go.RowKit
set_option linter.unusedVariables false
set_option linter.unusedSimpArgs false

theorem add64 (x y : Int) (hx : 0 ≤ x) (hy : 0 ≤ y) (w : World) : (callFunc 88 #[.int .u64 x, .int .u64 y, .int .u64 0]).run Tryd.prog w =
    .ok (.value (.tuple #[.int .u64 ((x + y) % 18446744073709551616), .int .u64 ((x + y) / 18446744073709551616)])) w := by
  rw [run_callFunc_extern Tryd.func88 (by kernel_rfl) (by kernel_rfl) (by kernel_rfl) (e := add64Entry) (by kernel_rfl), run_add64 x y 0 hx hy (by omega) (by omega)]
  simp only [Result.andThen, Int.add_zero]

theorem words_digit (r : Int) (h0 : 0 ≤ r) (h1 : r ≤ 127) (w : World) : Calls Tryd.prog 86 #[.int .i32 r] w fun e w' => e = .returned (.int .i64 (Num.worth true r)) ∧ w = w' := by
  have HW : Hid (Num.worth true r = if 48 ≤ r ∧ r ≤ 57 then r - 48 else if 97 ≤ r ∧ r ≤ 102 then r - 87 else if 65 ≤ r ∧ r ≤ 70 then r - 55 else -1) := by unfold Num.worth; simp [Hid]
  go_enter Tryd.func86, Tryd.ntmps86
  go_wp2
  all_goals go_ret
  all_goals refine ⟨ret_int ?_, rfl⟩
  all_goals rw [HW.out]
  all_goals repeat' split
  all_goals omega
theorem words_digit_high (r : Int) (h0 : 128 ≤ r) (w : World) : Calls Tryd.prog 86 #[.int .i32 r] w fun e w' => e = .returned (.int .i64 (-1)) ∧ w = w' := by
  go_enter Tryd.func86, Tryd.ntmps86
  go_wp2
  all_goals go_ret
  all_goals exact ⟨rfl, rfl⟩
theorem cutPrefix (s p r : ByteArray) (b : Bool) (hr : ByteArray.mk (Lib.trimPrefix s.data.toList p.data.toList).toArray = r) (hb : Lib.hasPrefix s.data.toList p.data.toList = b) (w : World) :
    Calls Tryd.prog 64 #[.string s, .string p] w fun e w' => e = .returned (.tuple #[.string r, .bool b]) ∧ w = w' := by
  refine (Tryd.strings_CutPrefix s p w).mono ?_
  rintro e w' ⟨rfl, rfl⟩
  rw [hr, hb]; exact ⟨rfl, rfl⟩
def SizeEnd (s : ByteArray) (w : World) (e : Ending) (w' : World) : Prop :=
  (if Num.good s.data.toList = true then e = .returned (.tuple #[.int .u64 (Num.sat (Num.hexOf s.data.toList) (Num.val (Num.hexOf s.data.toList) (Num.rest s.data.toList))), .bool (Num.hexOf s.data.toList)])
   else e = .panicked [{ v := .iface 89 (.agg #[.int .i64 4]), recovered := false }]) ∧ Below w.heap.size w w'
theorem sizeEnd_bad {s : ByteArray} {w w' : World} {e : Ending} (h : Num.good s.data.toList = false) (he : e = .panicked [{ v := .iface 89 (.agg #[.int .i64 4]), recovered := false }]) (hb : Below w.heap.size w w') : SizeEnd s w e w' := by
  unfold SizeEnd
  rw [if_neg (by simp [h])]
  exact ⟨he, hb⟩
theorem sizeEnd_good {s : ByteArray} {w w' : World} {e : Ending} (h : Num.good s.data.toList = true)
    (he : e = .returned (.tuple #[.int .u64 (Num.sat (Num.hexOf s.data.toList) (Num.val (Num.hexOf s.data.toList) (Num.rest s.data.toList))), .bool (Num.hexOf s.data.toList)])) (hb : Below w.heap.size w w') : SizeEnd s w e w' := by
  unfold SizeEnd
  rw [if_pos h]
  exact ⟨he, hb⟩
theorem below_iter (w : World) (r : ByteArray) (pos : Nat) : Below w.heap.size w (w.iter r pos) := (Below.refl _ _).alloc (Nat.le_refl _) _
theorem size_round (w : World) (r : ByteArray) (pos : Nat) (hx : Bool) (hp : pos < r.size) (hok : Num.okAll hx (r.data.toList.take pos) = true) (d : Nat) (hd : Num.worth hx (r[pos].toNat : Int) = d) (v : Int)
    (hv : v = Num.sat hx (Num.val hx (r.data.toList.take pos) * Num.base hx + d)) :
    ∃ p : Nat, p ≤ r.size ∧ w.iter r (pos + 1) = w.iter r p ∧ Value.int .u64 v = .int .u64 (Num.sat hx (Num.val hx (r.data.toList.take p))) ∧ Hid (Num.okAll hx (r.data.toList.take p) = true) := by
  refine ⟨pos + 1, by omega, rfl, ?_, ?_⟩
  · rw [Num.take_snoc r pos hp, Num.val_snoc, hv, hd]; simp
  · show _ = true
    rw [Num.take_snoc r pos hp, Num.okAll_snoc, hok, hd]; simp
theorem mul64_10 (n h l : Int) (h0 : 0 ≤ n) (h1 : n < 18446744073709551616) (e1 : n * 10 / 18446744073709551616 = h) (e2 : n * 10 % 18446744073709551616 = l) (w : World) :
    Calls Tryd.prog 87 #[.int .u64 n, .int .u64 10] w fun e w' => e = .returned (.tuple #[.int .u64 h, .int .u64 l]) ∧ w = w' := by
  obtain ⟨x, rfl⟩ := Int.eq_ofNat_of_zero_le h0
  refine (Tryd.bits_Mul64 x 10 (by omega) (by omega) w).mono ?_
  rintro e w' ⟨rfl, rfl⟩
  have e3 : ((x * 10 / 18446744073709551616 : Nat) : Int) = h := by omega
  have e4 : ((x * 10 % 18446744073709551616 : Nat) : Int) = l := by omega
  rw [e3, e4]
  exact ⟨rfl, rfl⟩
theorem words_size (s : ByteArray) (w : World) : Calls Tryd.prog 78 #[.string s] w (SizeEnd s w) := by
  obtain ⟨r1, h1⟩ : ∃ r : ByteArray, ByteArray.mk (Lib.trimPrefix s.data.toList [48, 120]).toArray = r := ⟨_, rfl⟩
  obtain ⟨b1, h2⟩ : ∃ b, Lib.hasPrefix s.data.toList [48, 120] = b := ⟨_, rfl⟩
  have H1 := Lib.hid h1; have H2 := Lib.hid h2
  clear h1 h2
  go_enter Tryd.func78, Tryd.ntmps78
  go_upto_if 19 with (go_at_call 64; refine (cutPrefix _ _ r1 b1 H1.out H2.out _).mono ?_; rintro e w' ⟨rfl, rfl⟩)
  go_cut [4, 5] (fun v4 v5 wc => ∃ (r : ByteArray) (hx : Bool), v4 = .string r ∧ v5 = .bool hx ∧ Hid (Num.hexOf s.data.toList = hx ∧ Num.rest s.data.toList = r.data.toList) ∧ w = wc)
  case first =>
    cases b1 with
    | true =>
      go_wp2
      go_meet
      case rel => exact ⟨_, _, rfl, rfl, by have := Num.hexOf_x H2.out; exact ⟨this.1, by rw [this.2, ← H1.out]⟩, rfl⟩
    | false =>
      go_wp2_with (go_at_call 64; refine (cutPrefix _ _ _ _ rfl rfl _).mono ?_; rintro e w' ⟨rfl, rfl⟩)
      go_meet
      case rel => exact ⟨_, _, rfl, rfl, by have := Num.hexOf_X H2.out; exact ⟨this.1, this.2⟩, rfl⟩
  case rest =>
    obtain ⟨r, hx, rfl, rfl, HF, rfl⟩ := hcut
    cases h2 : r.toList.isEmpty with
    | true =>
      have H2 := Lib.hid h2
      go_wp2
      exact ⟨rfl, sizeEnd_bad (by rw [Num.good_of HF.out, H2.out]; rfl) rfl (Below.refl _ _)⟩
    | false =>
      have H2 := Lib.hid h2
      clear h2
      have hne : r.toList.isEmpty = false := H2.out
      go_wp2
      go_loopw [2] (fun n w' => ∃ pos : Nat, pos ≤ r.size ∧ w' = w.iter r pos ∧ n = .int .u64 (Num.sat hx (Num.val hx (r.data.toList.take pos))) ∧ Hid (Num.okAll hx (r.data.toList.take pos) = true)) (fun _ w' => r.size - w'.iterPos w.heap.size)
      case atStart => exact ⟨0, by omega, rfl, by simp [Num.val, Num.sat], by simp [Num.okAll, Hid]⟩
      case round =>
        obtain ⟨pos, hpos, rfl, rfl, hok⟩ := hrel
        by_cases hp : pos < r.size
        · have hnx : ∀ ty, (Instr.next (.pointer (some ⟨w.heap.size, 0, none⟩)) true ty).run Tryd.prog (w.iter r pos) = _ := fun ty => run_next_any w r pos ty hp
          have hS := Num.take_snoc r pos hp
          have HB : Hid (Num.worth hx (r[pos].toNat : Int) < 0 → Num.okAll hx r.data.toList = false) := fun h => Num.okAll_bad hx r pos hp h
          by_cases ha : r[pos].toNat < 128
          · have hd := decode_ascii r pos hp ha
            rw [hd] at hnx
            have HO := Lib.hid hS
            clear hS hd
            obtain ⟨c, hc⟩ : ∃ c : Nat, r[pos].toNat = c := ⟨_, rfl⟩
            rw [hc] at hnx ha HB
            obtain ⟨d, hd⟩ : ∃ d : Int, Num.worth true c = d := ⟨_, rfl⟩
            have hd1 := (Num.worth_lo true c).1
            have hd2 := (Num.worth_lo true c).2
            rw [hd] at hd1 hd2
            have HD := Lib.hid hd
            have HC := Lib.hid hc
            clear hc hd
            cases hx with
            | true =>
              by_cases hd0 : 0 ≤ d
              · go_wp2_with (go_at_call 86; refine (words_digit _ (by omega) (by omega) _).mono ?_; rintro e w' ⟨rfl, rfl⟩; rw [HD.out])
                all_goals go_roundw
                all_goals first
                  | (case measure => simp; omega)
                  | (case rel =>
                      refine size_round w r pos true hp hok.out d.toNat (by rw [HC.out, HD.out]; omega) _ ?_
                      rw [show Num.base true = 16 from rfl, ← Num.step_hex _ d.toNat (by omega), show ((d.toNat : Nat) : Int) = d from by omega])
              · go_wp2_with (go_at_call 86; refine (words_digit _ (by omega) (by omega) _).mono ?_; rintro e w' ⟨rfl, rfl⟩; rw [HD.out])
                exact ⟨rfl, sizeEnd_bad (by rw [Num.good_of HF.out, HB.out (by rw [HD.out]; omega)]; simp) rfl (below_iter _ _ _)⟩
            | false =>
              by_cases hd0 : 0 ≤ d ∧ d ≤ 9
              · obtain ⟨hd0, hd9⟩ := hd0
                obtain ⟨n, hn⟩ : ∃ n : Int, Num.sat false (Num.val false (r.data.toList.take pos)) = n := ⟨_, rfl⟩
                have hn0 := (Num.sat_bound false (Num.val false (r.data.toList.take pos))).1
                have hn1 := (Num.sat_bound false (Num.val false (r.data.toList.take pos))).2
                rw [hn] at hn0 hn1
                have HN := Lib.hid hn
                obtain ⟨h, eh⟩ : ∃ h, n * 10 / 18446744073709551616 = h := ⟨_, rfl⟩
                obtain ⟨l, el⟩ : ∃ l, n * 10 % 18446744073709551616 = l := ⟨_, rfl⟩
                obtain ⟨sm, es⟩ : ∃ x, (l + d) % 18446744073709551616 = x := ⟨_, rfl⟩
                obtain ⟨cy, ec⟩ : ∃ x, (l + d) / 18446744073709551616 = x := ⟨_, rfl⟩
                have b1 : 0 ≤ h := by omega
                have b2 : h ≤ 9 := by omega
                have b3 : 0 ≤ l := by omega
                have b4 : 0 ≤ cy := by omega
                have b5 : cy ≤ 1 := by omega
                have hadd : ∀ w, (callFunc 88 #[.int .u64 l, .int .u64 d, .int .u64 0]).run Tryd.prog w = .ok (.value (.tuple #[.int .u64 sm, .int .u64 cy])) w := by
                  intro w; rw [← es, ← ec]; exact add64 l d b3 hd0 w
                have EH := Lib.hid eh; have EL := Lib.hid el; have ES := Lib.hid es; have EC := Lib.hid ec
                clear eh el es ec
                rw [hn]
                clear hn
                by_cases hz : h + cy = 0
                · have hz1 : (h + cy != 0) = false := by simp [hz]
                  go_wp2_with (first | (go_at_call 86; refine (words_digit _ (by omega) (by omega) _).mono ?_; rintro e w' ⟨rfl, rfl⟩; rw [HD.out]) | (go_at_call 87; refine (mul64_10 n h l hn0 hn1 EH.out EL.out _).mono ?_; rintro e w' ⟨rfl, rfl⟩))
                  all_goals go_roundw
                  all_goals first
                    | (case measure => simp; omega)
                    | (case rel =>
                        refine size_round w r pos false hp hok.out d.toNat (by rw [HC.out, Num.worth_dec_eq _ (by rw [HD.out]; omega), HD.out]; omega) _ ?_
                        exact Num.step_dec _ HN.out hd0 hd9 EH.out EL.out ES.out EC.out (by rw [if_pos hz]))
                · have hz1 : (h + cy != 0) = true := by simp [hz]
                  go_wp2_with (first | (go_at_call 86; refine (words_digit _ (by omega) (by omega) _).mono ?_; rintro e w' ⟨rfl, rfl⟩; rw [HD.out]) | (go_at_call 87; refine (mul64_10 n h l hn0 hn1 EH.out EL.out _).mono ?_; rintro e w' ⟨rfl, rfl⟩))
                  all_goals go_roundw
                  all_goals first
                    | (case measure => simp; omega)
                    | (case rel =>
                        refine size_round w r pos false hp hok.out d.toNat (by rw [HC.out, Num.worth_dec_eq _ (by rw [HD.out]; omega), HD.out]; omega) _ ?_
                        exact Num.step_dec _ HN.out hd0 hd9 EH.out EL.out ES.out EC.out (by rw [if_neg hz]))
              · go_wp2_with (go_at_call 86; refine (words_digit _ (by omega) (by omega) _).mono ?_; rintro e w' ⟨rfl, rfl⟩; rw [HD.out])
                all_goals exact ⟨rfl, sizeEnd_bad (by rw [Num.good_of HF.out, HB.out (Num.worth_dec_bad _ (by rw [HD.out]; omega))]; simp) rfl (below_iter _ _ _)⟩
          · have hd := (decode_high r pos hp (by omega)).1
            have HB := Lib.hid (HB.out (by rw [Num.worth_high _ _ (by omega)]; decide))
            go_wp2_with (go_at_call 86; refine (words_digit_high _ (by omega) _).mono ?_; rintro e w' ⟨rfl, rfl⟩)
            exact ⟨rfl, sizeEnd_bad (by rw [Num.good_of HF.out, HB.out]; simp) rfl (below_iter _ _ _)⟩
        · have hnx : ∀ ty, (Instr.next (.pointer (some ⟨w.heap.size, 0, none⟩)) true ty).run Tryd.prog (w.iter r pos) = _ := fun ty => run_next_end w r pos ty hp
          have HT := Lib.hid (show r.data.toList.take pos = r.data.toList by rw [List.take_of_length_le]; simpa using (show r.data.size ≤ pos by have : r.size = r.data.size := rfl; omega))
          go_wp2
          go_ret2
          exact sizeEnd_good (by rw [Num.good_of HF.out, H2.out, ← HT.out, hok.out]; rfl) (by rw [HF.out.1, HF.out.2, ← HT.out]; simp [HT.out]) (below_iter _ _ _)
end Go.Proofs.YtpppcoobibmlhaaDoor
