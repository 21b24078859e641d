/- Contracts of the reference's reader. -/
import Derived.Test.YtpppcoobibmlhaaDoorWords5
namespace Go.Proofs.YtpppcoobibmlhaaDoor
open Go.RowKit
set_option linter.unusedVariables false
set_option linter.unusedSimpArgs false

theorem ref_worth (c : Int) (hex : Bool) (h0 : 0 ≤ c) (h1 : c ≤ 255) (w : World) : Calls Tryd.prog 79 #[.int .u8 c, .bool hex] w fun e w' => e = .returned (.int .i64 (Num.worth hex c)) ∧ w = w' := by
  cases hex
  all_goals go_enter Tryd.func79, Tryd.ntmps79
  all_goals go_wp2
  all_goals go_ret
  all_goals refine ⟨ret_int ?_, rfl⟩
  all_goals unfold Num.worth
  all_goals repeat' split
  all_goals first | omega | (simp_all; done) | (simp_all; omega)
set_option maxRecDepth 100000 in
theorem ref_read (s : ByteArray) (neg : Bool) (w : World) (hs : s.size ≤ 9223372036854775807) : Calls Tryd.prog 62 #[.string s, .bool neg] w fun e w' =>
    e = .returned (.tuple #[.int .i64 (Num.readN s.data.toList neg), .int .i64 (Num.readE s.data.toList neg)]) ∧ Below w.heap.size w w' := by
  go_enter Tryd.func62, Tryd.ntmps62
  go_upto_region 1 with (fail)
  go_cut [6] (fun v6 wc => v6 = .bool (Num.hexOf s.data.toList) ∧ w = wc)
  case first =>
    go_wp2
    all_goals go_meet
    all_goals refine ⟨congrArg Value.bool ?_, rfl⟩
    all_goals first
      | exact (Num.hexOf_short s (by omega)).symm
      | (rw [Num.hexOf_at s (by omega)]; simp_all)
  case rest =>
    obtain ⟨rfl, rfl⟩ := hcut
    obtain ⟨hx, h1⟩ : ∃ h, Num.hexOf s.data.toList = h := ⟨_, rfl⟩
    rw [h1]
    have H1 := Lib.hid h1
    clear h1
    go_upto_if 31 with (fail)
    go_cut [0] (fun v0 wc => ∃ r : ByteArray, v0 = .string r ∧ Hid (r.data.toList = Num.rest s.data.toList) ∧ r.size ≤ 9223372036854775807 ∧ w = wc)
    case first =>
      cases hx with
      | true =>
        have h2 : 2 ≤ s.size := by
          apply Decidable.byContradiction
          intro h
          have := Num.hexOf_short s (by omega)
          rw [H1.out] at this
          exact absurd this (by decide)
        go_wp2
        all_goals go_meet
        case rel =>
          refine ⟨_, rfl, ?_, ?_, rfl⟩
          · show _ = _
            simp [Num.rest, H1.out, Lib.extract_data]
            exact List.take_of_length_le (by simp)
          · simp; omega
      | false =>
        go_wp2
        all_goals go_meet
        case rel => exact ⟨_, rfl, by simp [Num.rest, H1.out, Hid], hs, rfl⟩
    case rest =>
      obtain ⟨r, rfl, HR, hr, rfl⟩ := hcut
      by_cases h0 : r.size = 0
      · have HG := Lib.hid (Num.good_empty HR.out h0)
        go_wp2
        go_ret2
        exact ⟨ret_ints (Num.readN_bad _ _ HG.out).symm (Num.readE_bad _ _ HG.out).symm, Below.refl _ _⟩
      · have HG := Lib.hid (Num.good_iff H1.out HR.out h0)
        have h0' : ((r.size : Int) == 0) = false := by simpa using h0
        go_wp2
        go_loop [7] (fun v => ∃ i : Nat, i ≤ r.size ∧ v = .int .i64 i ∧ Hid (Num.okAll hx (r.data.toList.take i) = true)) (fun v => r.size - (intOf v).toNat)
        case atStart => exact ⟨0, by omega, rfl, by simp [Num.okAll, Hid]⟩
        case round =>
          obtain ⟨i, hi, rfl, hok⟩ := hrel
          by_cases hlt : i < r.size
          · have hlt' : (i : Int) < r.size := by omega
            have HO := Lib.hid (Num.take_snoc r i hlt)
            have HB : Hid (Num.worth hx (r[i].toNat : Int) < 0 → Num.okAll hx r.data.toList = false) := fun h => Num.okAll_bad hx r i hlt h
            have hc := r[i].toNat_lt
            by_cases hb : Num.worth hx (r[i].toNat : Int) < 0
            · have HG := Lib.hid (HG.out.trans (HB.out hb))
              go_wp2_with (go_at_call 79; refine (ref_worth _ _ (by omega) (by omega) _).mono ?_; rintro e w' ⟨rfl, rfl⟩)
              go_ret2
              exact ⟨ret_ints (Num.readN_bad _ _ HG.out).symm (Num.readE_bad _ _ HG.out).symm, Below.refl _ _⟩
            · go_wp2_with (go_at_call 79; refine (ref_worth _ _ (by omega) (by omega) _).mono ?_; rintro e w' ⟨rfl, rfl⟩)
              go_round
              case rel => exact ⟨i + 1, by omega, by go_num, by show _ = true; rw [HO.out, Num.okAll_snoc, hok.out]; simp; omega⟩
              case measure => simp [intOf]; omega
          · have hall := Num.take_all r i hlt
            have HG2 := Lib.hid (show Num.good s.data.toList = true by rw [HG.out, ← hall]; exact hok.out)
            clear hall
            cases hx with
            | true =>
              go_wp2
              go_loop [8, 9] (fun n v => ∃ i : Nat, i ≤ r.size ∧ v = .int .i64 i ∧ n = .int .i64 (wrap64 (Num.val true (r.data.toList.take i) : Nat))) (fun _ v => r.size - (intOf v).toNat)
              case atStart => exact ⟨0, by omega, rfl, by simp [Num.val, wrap64]⟩
              case round =>
                obtain ⟨j, hj, rfl, rfl⟩ := hrel
                by_cases hlt : j < r.size
                · have hlt' : (j : Int) < r.size := by omega
                  have HO := Lib.hid (Num.take_snoc r j hlt)
                  have hc := r[j].toNat_lt
                  have hgo := Num.worth_of_ok true r j hlt (by rw [← Num.good_iff H1.out HR.out h0]; exact HG2.out)
                  have hlo := (Num.worth_lo true (r[j].toNat : Int)).2
                  go_wp2_with (go_at_call 79; refine (ref_worth _ _ (by omega) (by omega) _).mono ?_; rintro e w' ⟨rfl, rfl⟩)
                  go_round
                  case rel => exact ⟨j + 1, by omega, by go_num, by rw [HO.out, Num.val_snoc]; exact congrArg (Value.int .i64) (Num.hex_step _ _ _ (by omega))⟩
                  case measure => simp [intOf]; omega
                · have HA := Lib.hid (Num.take_all r j hlt)
                  have HE := Lib.hid (Num.readE_hex s.data.toList neg HG2.out H1.out)
                  have HN := Lib.hid (Num.readN_hex s.data.toList neg _ HG2.out H1.out rfl)
                  rw [HA.out, HR.out]
                  cases neg with
                  | true =>
                    have HN2 := Lib.hid (HN.out.trans (if_pos rfl))
                    clear HN
                    go_wp2
                    go_ret2
                    exact ⟨ret_ints HN2.out.symm HE.out.symm, Below.refl _ _⟩
                  | false =>
                    have HN2 := Lib.hid (HN.out.trans (if_neg (by decide)))
                    clear HN
                    go_wp2
                    go_ret2
                    exact ⟨ret_ints HN2.out.symm HE.out.symm, Below.refl _ _⟩
            | false =>
              go_wp2
              go_loop [10, 11, 12] (fun n v d => ∃ i : Nat, i ≤ r.size ∧ v = .int .i64 i ∧ n = .int .i64 (-(Num.val false (r.data.toList.take i) : Nat)) ∧ ((Num.val false (r.data.toList.take i) : Nat) : Int) ≤ 9223372036854775808) (fun _ v _ => r.size - (intOf v).toNat)
              case atStart => exact ⟨0, by omega, rfl, rfl, by simp [Num.val]⟩
              case round =>
                obtain ⟨j, hj, rfl, rfl, hv⟩ := hrel
                by_cases hlt : j < r.size
                · have hlt' : (j : Int) < r.size := by omega
                  have HO := Lib.hid (Num.take_snoc r j hlt)
                  have hc := r[j].toNat_lt
                  have hgo := Num.worth_of_ok false r j hlt (by rw [← Num.good_iff H1.out HR.out h0]; exact HG2.out)
                  have hlo := Num.worth_dec (r[j].toNat : Int)
                  obtain ⟨d, hd⟩ : ∃ d, Num.worth false (r[j].toNat : Int) = d := ⟨_, rfl⟩
                  have HV := Lib.hid (Num.val_snoc false (r.data.toList.take j) r[j])
                  obtain ⟨v, hv'⟩ : ∃ v, Num.val false (r.data.toList.take j) = v := ⟨_, rfl⟩
                  have HX := Lib.hid (Num.val_take false r.data.toList (j + 1))
                  rw [hd] at hgo hlo HV
                  rw [hv'] at hv HV
                  rw [hv']
                  have HD := Lib.hid hd
                  clear hd hv'
                  have hst := Num.dec_step v d.toNat d (by omega) (by omega) hv
                  have hbd := Num.dec_bound v d hgo hlo hv
                  by_cases hbig : -(v : Int) < Int.tdiv (-9223372036854775808 + d) 10
                  · have hb2 := hst.1 hbig
                    have HE := Lib.hid (show Num.readE s.data.toList neg = 14 by
                      rw [Num.readE_dec s.data.toList neg _ HG2.out H1.out rfl, if_pos]
                      have := HX.out; rw [HO.out, HV.out, HR.out] at this
                      unfold Num.most; split <;> omega)
                    have HN := Lib.hid (show Num.readN s.data.toList neg = 0 by
                      rw [Num.readN_dec s.data.toList neg _ HG2.out H1.out rfl, if_pos]
                      have := HX.out; rw [HO.out, HV.out, HR.out] at this
                      unfold Num.most; split <;> omega)
                    clear hst hb2
                    go_wp2_with (go_at_call 79; refine (ref_worth _ _ (by omega) (by omega) _).mono ?_; rintro e w' ⟨rfl, rfl⟩; rw [HD.out])
                    go_ret2
                    exact ⟨ret_ints HN.out.symm HE.out.symm, Below.refl _ _⟩
                  · have hb2 : ¬ _ := fun h => hbig (hst.2 h)
                    clear hst
                    go_wp2_with (go_at_call 79; refine (ref_worth _ _ (by omega) (by omega) _).mono ?_; rintro e w' ⟨rfl, rfl⟩; rw [HD.out])
                    go_round
                    case rel => exact ⟨j + 1, by omega, by go_num, by rw [HO.out, HV.out]; exact congrArg (Value.int .i64) (Num.dec_next v d hgo hb2), by rw [HO.out, HV.out]; omega⟩
                    case measure => simp [intOf]; omega
                · have HA := Lib.hid (Num.take_all r j hlt)
                  rw [HA.out, HR.out] at hv
                  rw [HA.out, HR.out]
                  obtain ⟨v, hv'⟩ : ∃ v, Num.val false (Num.rest s.data.toList) = v := ⟨_, rfl⟩
                  have HE := Lib.hid (Num.readE_dec s.data.toList neg v HG2.out H1.out hv')
                  have HN := Lib.hid (Num.readN_dec s.data.toList neg v HG2.out H1.out hv')
                  rw [hv'] at hv
                  rw [hv']
                  clear hv'
                  cases neg with
                  | true =>
                    have HE2 := Lib.hid (HE.out.trans (if_neg (Num.most_nlt hv)))
                    have HN2 := Lib.hid ((HN.out.trans (if_neg (Num.most_nlt hv))).trans (if_pos rfl))
                    clear HE HN
                    go_wp2
                    go_ret2
                    exact ⟨ret_ints HN2.out.symm HE2.out.symm, Below.refl _ _⟩
                  | false =>
                    by_cases hm : (v : Int) = 9223372036854775808
                    · have HE2 := Lib.hid (HE.out.trans (if_pos (Num.most_lt hm)))
                      have HN2 := Lib.hid (HN.out.trans (if_pos (Num.most_lt hm)))
                      have h9 : (-(v : Int) == -9223372036854775808) = true := by simp; omega
                      clear hm
                      clear HE HN
                      go_wp2
                      go_ret2
                      exact ⟨ret_ints HN2.out.symm HE2.out.symm, Below.refl _ _⟩
                    · have HE2 := Lib.hid (HE.out.trans (if_neg (show ¬ Num.most false < (v : Int) by unfold Num.most; simp; omega)))
                      have HN2 := Lib.hid ((HN.out.trans (if_neg (show ¬ Num.most false < (v : Int) by unfold Num.most; simp; omega))).trans (if_neg (by decide)))
                      have h9 : (-(v : Int) == -9223372036854775808) = false := by simp; omega
                      clear HE HN
                      go_wp2
                      go_ret2
                      exact ⟨ret_ints (Eq.trans (by simp) HN2.out.symm) HE2.out.symm, Below.refl _ _⟩
end Go.Proofs.YtpppcoobibmlhaaDoor
