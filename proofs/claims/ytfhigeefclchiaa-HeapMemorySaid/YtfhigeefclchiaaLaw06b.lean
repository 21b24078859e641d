/- HeapLast: of blocks of one size the one that was given back last comes first. -/
import Derived.Test.YtfhigeefclchiaaLaw06a
namespace Go.Proofs.Ytfhigeefclchiaa
open Go.RowKit Go.Maps
set_option linter.unusedVariables false
set_option linter.unusedSimpArgs false

namespace HS
/-- j blocks of A cells are taken, and nothing else. -/
structure L1 (A : Int) (j : Nat) (h : HS) : Prop where
  lim : h.lim = 2000
  live : h.live = (j : Int) * A
  laid : h.laid = (j : Int) * A
  len : h.sizes.length = j
  rd : h.rd A = []
  tk : ∀ x : Int, 1 ≤ x → x ≤ j → h.tk x = some A
/-- Of K blocks those to j lie ready. -/
structure L2 (A : Int) (K j : Nat) (h : HS) : Prop where
  lim : h.lim = 2000
  live : h.live = ((K - j : Nat) : Int) * A
  laid : h.laid = (K : Int) * A
  len : h.sizes.length = K
  rd : h.rd A = Cs.up j
  tk : ∀ x : Int, j < x → x ≤ K → h.tk x = some A
/-- Of K blocks the last j are taken again. -/
structure L3 (A : Int) (K j : Nat) (h : HS) : Prop where
  lim : h.lim = 2000
  live : h.live = (j : Int) * A
  laid : h.laid = (K : Int) * A
  len : h.sizes.length = K
  rd : h.rd A = Cs.up (K - j)
theorem mul_bound (A : Int) (j : Nat) (a0 : 1 ≤ A) (a1 : A ≤ 50) (hj : j ≤ 20) : 0 ≤ (j : Int) * A ∧ (j : Int) * A ≤ 1000 := by
  constructor
  · exact Int.mul_nonneg (by omega) (by omega)
  · have : (j : Int) * A ≤ 20 * 50 := Int.mul_le_mul (by omega) a1 (by omega) (by omega)
    omega
theorem succ_mul' (A : Int) (j : Nat) : ((j + 1 : Nat) : Int) * A = (j : Int) * A + A := by rw [Int.natCast_add, Int.add_mul]; simp
theorem L1_new (A : Int) : L1 A 0 (new 2000) := ⟨rfl, by simp [new], by simp [new], rfl, rfl, fun x h1 h2 => by omega⟩
theorem take_new {h : HS} {A : Int} (hr : roomE h A = 0) (h0 : A ≠ 0) (hd : h.rd A = []) : h.take A = h.takeNew A ∧ h.takeId A = (h.sizes.length : Int) + 1 := by
  unfold take takeId
  rw [if_neg (by rw [hr]; simp [h0]), if_neg (by rw [hr]; simp [h0]), hd]
  exact ⟨rfl, rfl⟩
theorem take_old {h : HS} {A id : Int} (hr : roomE h A = 0) (h0 : A ≠ 0) (hd : (h.rd A).getLast? = some id) : h.take A = h.takeOld A id ∧ h.takeId A = id := by
  unfold take takeId
  rw [if_neg (by rw [hr]; simp [h0]), if_neg (by rw [hr]; simp [h0]), hd]
  exact ⟨rfl, rfl⟩
theorem L1_step {A : Int} {j : Nat} {h : HS} (a0 : 1 ≤ A) (a1 : A ≤ 50) (hj : j < 20) (H : L1 A j h) : roomE h A = 0 ∧ h.takeId A = (j : Int) + 1 ∧ L1 A (j + 1) (h.take A) := by
  have hb := mul_bound A j a0 a1 (by omega)
  have hr : roomE h A = 0 := roomE_ok.2 ⟨by omega, by rw [H.live, H.lim]; omega⟩
  obtain ⟨e1, e2⟩ := take_new hr (by omega) H.rd
  rw [e1, e2, H.len]
  refine ⟨hr, rfl, H.lim, ?_, ?_, ?_, H.rd, fun x h1 h2 => ?_⟩
  · show h.live + A = _; rw [H.live, succ_mul']
  · show h.laid + A = _; rw [H.laid, succ_mul']
  · show (h.sizes ++ [A]).length = _; simp [H.len]
  · show updI h.tk _ (some A) x = some A
    rw [H.len]
    by_cases e : x = (j : Int) + 1
    · rw [e, updI_same]
    · rw [updI_other _ _ _ e]; exact H.tk x h1 (by omega)
theorem L2_begin {A : Int} {K : Nat} {h : HS} (H : L1 A K h) : L2 A K 0 h := ⟨H.lim, H.live, H.laid, H.len, H.rd, fun x h1 h2 => H.tk x (by omega) h2⟩
theorem L2_step {A : Int} {K j : Nat} {h : HS} (hj : j < K) (H : L2 A K j h) : h.giveE ((j : Int) + 1) = 0 ∧ L2 A K (j + 1) (h.give ((j : Int) + 1)) := by
  have ht := H.tk ((j : Int) + 1) (by omega) (by omega)
  have h0 : ¬ ((j : Int) + 1 = 0) := by omega
  unfold giveE give
  rw [if_neg h0, if_neg h0, ht]
  refine ⟨rfl, H.lim, ?_, H.laid, H.len, ?_, fun x h1 h2 => ?_⟩
  · show h.live - A = _
    rw [H.live, show K - j = (K - (j + 1)) + 1 by omega, succ_mul']; omega
  · show updI h.rd A (h.rd A ++ [(j : Int) + 1]) A = _
    rw [updI_same, H.rd, Cs.up_succ]
  · show updI h.tk _ none x = some A
    rw [updI_other _ _ _ (by omega)]; exact H.tk x (by omega) h2
theorem L3_begin {A : Int} {K : Nat} {h : HS} (H : L2 A K K h) : L3 A K 0 h := ⟨H.lim, by rw [H.live]; simp, H.laid, H.len, H.rd⟩
theorem L3_step {A : Int} {K j : Nat} {h : HS} (a0 : 1 ≤ A) (a1 : A ≤ 50) (hK : K ≤ 20) (hj : j < K) (H : L3 A K j h) : roomE h A = 0 ∧ h.takeId A = ((K - 1 - j : Nat) : Int) + 1 ∧ L3 A K (j + 1) (h.take A) := by
  have hb := mul_bound A j a0 a1 (by omega)
  have hr : roomE h A = 0 := roomE_ok.2 ⟨by omega, by rw [H.live, H.lim]; omega⟩
  have hu : h.rd A = Cs.up (K - 1 - j) ++ [((K - 1 - j : Nat) : Int) + 1] := by rw [H.rd, show K - j = (K - 1 - j) + 1 by omega, Cs.up_succ]
  obtain ⟨e1, e2⟩ := take_old hr (by omega) (show (h.rd A).getLast? = some (((K - 1 - j : Nat) : Int) + 1) by rw [hu]; simp)
  rw [e1, e2]
  refine ⟨hr, rfl, H.lim, ?_, H.laid, H.len, ?_⟩
  · show h.live + A = _; rw [H.live, succ_mul']
  · show updI h.rd A (h.rd A).dropLast A = _
    rw [updI_same, hu, List.dropLast_concat]; congr 1; omega
theorem L3_end {A : Int} {K : Nat} {h : HS} (a0 : 1 ≤ A) (a1 : A ≤ 50) (hK : K < 20) (H : L3 A K K h) : roomE h A = 0 ∧ h.takeId A = (K : Int) + 1 ∧ (h.take A).live = (K : Int) * A + A ∧ (h.take A).laid = (K : Int) * A + A := by
  have hb := mul_bound A K a0 a1 (by omega)
  have hr : roomE h A = 0 := roomE_ok.2 ⟨by omega, by rw [H.live, H.lim]; omega⟩
  obtain ⟨e1, e2⟩ := take_new hr (by omega) (show h.rd A = [] by rw [H.rd, Nat.sub_self]; rfl)
  rw [e1, e2, H.len]
  exact ⟨hr, rfl, by show h.live + A = _; rw [H.live], by show h.laid + A = _; rw [H.laid]⟩
end HS
theorem row_read {w : World} {base n j : Nat} {v : Value} (h : w.ownsRow base 3 1 v n ((Cs.up n).map (Value.int .i64))) (hj : j < n) : ∃ g c, v = .slice (some ⟨g, 0, none⟩) n c ∧ w.cell? ⟨g, j, none⟩ = some (.int .i64 ((j : Int) + 1)) := by
  obtain ⟨m, rfl⟩ : ∃ m, n = m + 1 := ⟨n - 1, by omega⟩
  obtain ⟨g, c, rfl, -⟩ := row_form h
  refine ⟨g, c, rfl, ?_⟩
  rw [h.cellAt j (by omega)]
  simp [Cs.up, hj]
set_option maxRecDepth 100000 in
set_option maxHeartbeats 3200000 in
theorem walk_HeapLast (a k : Int) (A : Int) (NA K : Nat) (a0 : 1 ≤ A) (a1 : A ≤ 50) (hK : K < 20) (ha : (IntKind.u64.wrap a).tmod 50 = NA) (ha1 : wrap64 (NA : Int) = NA) (ha2 : wrap64 (1 + (NA : Int)) = A) (hb : (IntKind.u64.wrap k).tmod 20 = K) (hb1 : wrap64 (K : Int) = K) (w : World) :
    Calls Try.prog 14 #[.int .i64 a, .int .i64 k] w fun e w' => e = .returned (.bool true) ∧ Below w.heap.size w w' := by
  obtain ⟨i0, hi, hz0, hz1, hz2⟩ := info_parts Try.infoInt
  have q1 := Lib.hid ha; have q2 := Lib.hid ha1; have q3 := Lib.hid ha2; have q4 := Lib.hid hb; have q5 := Lib.hid hb1
  have A0 := Lib.hid a0; have A1 := Lib.hid a1
  have nA : wrap64 (((K : Int) + 1) * A) = (K : Int) * A + A := by
    have := HS.mul_bound A K a0 a1 (by omega)
    rw [Int.add_mul, Int.one_mul]
    unfold wrap64; omega
  clear ha ha1 ha2 hb hb1
  go_enter Try.func14, Try.ntmps14
  go_wp2_with (first
    | (go_at_call 32; (with_reducible refine (law06_fixed _).mono ?_); rintro e w1 ⟨rfl, hb1⟩))
  rw [q1.out, q2.out, q3.out, q4.out, q5.out]
  go_wp2_with (first
    | (go_at_call 34; (with_reducible refine (New_h w 2000 (by decide) (by decide) _ hb1).mono ?_); rintro e w2 ⟨p, rfl, H2⟩; clear hb1))
  have H2' : HA w (fun q => nilSl.ownBlock = some q) p (HS.new 2000) w2 := ⟨by obtain ⟨⟨F, hF, hS⟩, -, -⟩ := H2; exact ⟨F, hF, fun q hq => ⟨(hS q hq).1, by simp [nilSl, Value.ownBlock]⟩⟩, fun q h => by simp [nilSl, Value.ownBlock] at h, H2.bel⟩
  clear H2
  go_loopw [7, 8] (fun v i wr => ∃ (j : Nat) (h : HS), j ≤ K ∧ i = .int .i64 j ∧ Hid (HS.L1 A j h) ∧ Hid (HA w (fun q => v.ownBlock = some q) p h wr) ∧ Hid (wr.ownsRow w.heap.size 3 1 v j ((Cs.up j).map (Value.int .i64)))) (fun _ i _ => K - (intOf i).toNat)
  case atStart => exact ⟨0, _, Nat.zero_le _, rfl, Lib.hid (HS.L1_new A), Lib.hid H2', Lib.hid (World.ownsRow_nil _ _ _ _)⟩
  case round =>
    clear H2'
    obtain ⟨j, h, hj, rfl, HL, HH, HO⟩ := hrel
    by_cases hjK : j < K
    · have dj : decide ((j : Int) < (K : Int)) = true := by simp; omega
      obtain ⟨s1, s2, s3⟩ := HS.L1_step A0.out A1.out (by omega) HL.out
      have S1 := Lib.hid s1; have S2 := Lib.hid s2; have S3 := Lib.hid s3
      clear s1 s2 s3
      go_wp2_with (first
        | (go_at_call 40; (with_reducible refine (Take_h A ((j : Int) + 1) 0 S2.out S1.out (by rw [HL.out.len]; omega) HH.out).mono ?_); rintro e w3 ⟨rfl, H3, hk3⟩)
        | (at_builtin; refine wpList_append_own_at _ rfl (Operand.tmp 56) (Operand.tmp 58) 22 rfl w.heap.size 3 i0 (.int .i64 0) 1 8 Try.underlying22 hi hz0 hz1 hz2 rfl (by decide) u7 j ((Cs.up j).map (Value.int .i64)) (by simp [Act.eval, Act.put]) (ownsRow_below (ownsRow_of_block HO.out (fun q e => hk3 q e)) ((Below.refl _ w3).alloc (Nat.le_refl _) (.cells #[.int .i64 ((j : Int) + 1)] 3))) ⟨w3.heap.size, 0, none⟩ 1 1 [.int .i64 ((j : Int) + 1)] (by simp [Act.eval, Act.put]) rfl (fun q u hq => by match q, hq with | 0, hq => simp at hq; subst hq; simp [Addr.add, go_sem]) (fun u hu => by simp at hu; subst hu; rfl) (by unfold maxLen; omega) (by omega) (by have := H3.bel.size; simp [go_sem]; omega) ?_; intro v4 w4 hown4 hg4 hn4 hat4;
            have H4 : Hid (HA w (fun q => v4.ownBlock = some q) p (h.take A) w4) := Lib.hid ((H3.below ((Below.refl _ w3).alloc (Nat.le_refl _) (.cells #[.int .i64 ((j : Int) + 1)] 3))).grown hg4 (fun q e => ⟨e, (HO.out.lt q e).1⟩) (fun q e => ⟨(hown4.lt q e).2, by rcases hat4 with hat4 | hat4; exact .inl (by rw [← hat4]; exact e); right; rw [hat4, Option.some.injEq] at e; omega⟩));
            have HO4 := Lib.hid hown4; clear hown4 hg4 hn4 hat4))
      go_roundw
      case rel => exact ⟨j + 1, _, by omega, by go_num, S3, H4, Lib.hid (by rw [Cs.up_succ, List.map_append]; exact HO4.out)⟩
      case measure => simp [intOf]; omega
    · obtain rfl : K = j := by omega
      have HL2 := Lib.hid (HS.L2_begin HL.out)
      go_wp2
      go_loopw [11] (fun i wr => ∃ (j : Nat) (h : HS), j ≤ K ∧ i = .int .i64 j ∧ Hid (HS.L2 A K j h) ∧ Hid (HA w (fun q => u7.ownBlock = some q) p h wr) ∧ Hid (wr.ownsRow w.heap.size 3 1 u7 K ((Cs.up K).map (Value.int .i64)))) (fun i _ => K - (intOf i).toNat)
      case atStart => exact ⟨0, _, Nat.zero_le _, rfl, HL2, HH, HO⟩
      case round =>
        clear HL HH HO HL2
        obtain ⟨j, h, hj, rfl, HL, HH, HO⟩ := hrel
        by_cases hjK : j < K
        · have dj : decide ((j : Int) < (K : Int)) = true := by simp; omega
          have jk : (j : Int) < (K : Int) := by omega
          obtain ⟨s1, s2⟩ := HS.L2_step hjK HL.out
          have S1 := Lib.hid s1; have S2 := Lib.hid s2
          obtain ⟨g, c, rfl, hcell⟩ := row_read HO.out hjK
          clear s1 s2
          go_wp2_with (first
            | (go_at_call 38; (with_reducible refine (Give_h ((j : Int) + 1) 0 (by unfold In64; omega) S1.out (by rw [HL.out.len]; omega) HH.out).mono ?_); rintro e w3 ⟨rfl, H3, hk3⟩; have HO3 := Lib.hid (ownsRow_of_block HO.out (fun q e => hk3 q e))))
          go_roundw
          case rel => exact ⟨j + 1, _, by omega, by go_num, S2, Lib.hid H3, HO3⟩
          case measure => simp [intOf]; omega
        · obtain rfl : K = j := by omega
          have HL3 := Lib.hid (HS.L3_begin HL.out)
          have wk : wrap64 ((K : Int) - 1) = (K : Int) - 1 := by unfold wrap64; omega
          go_wp2
          go_loopw [12] (fun i wr => ∃ (j : Nat) (h : HS), j ≤ K ∧ i = .int .i64 ((K : Int) - 1 - j) ∧ Hid (HS.L3 A K j h) ∧ Hid (HA w (fun q => u7.ownBlock = some q) p h wr) ∧ Hid (wr.ownsRow w.heap.size 3 1 u7 K ((Cs.up K).map (Value.int .i64)))) (fun i _ => (intOf i + 1).toNat)
          case atStart => exact ⟨0, _, Nat.zero_le _, by simp, HL3, HH, HO⟩
          case round =>
            clear HL HH HO HL3
            obtain ⟨j, h, hj, rfl, HL, HH, HO⟩ := hrel
            by_cases hjK : j < K
            · obtain ⟨s1, s2, s3⟩ := HS.L3_step A0.out A1.out (by omega) hjK HL.out
              have S1 := Lib.hid s1; have S2 := Lib.hid s2; have S3 := Lib.hid s3
              clear s1 s2 s3
              obtain ⟨m, hm⟩ : ∃ m : Nat, K - 1 - j = m := ⟨_, rfl⟩
              have em : (K : Int) - 1 - j = (m : Int) := by omega
              rw [hm] at S2
              rw [em]
              have mk : m < K := by omega
              have dm : decide ((0 : Int) ≤ (m : Int)) = true := by simp
              have mkI : (m : Int) < (K : Int) := by omega
              have wm : wrap64 ((m : Int) - 1) = (m : Int) - 1 := by unfold wrap64; omega
              obtain ⟨g, c, rfl, hcell⟩ := row_read HO.out mk
              go_wp2_with (first
                | (go_at_call 40; (with_reducible refine (Take_h A ((m : Int) + 1) 0 S2.out S1.out (by rw [HL.out.len]; omega) HH.out).mono ?_); rintro e w3 ⟨rfl, H3, hk3⟩; have HO3 := Lib.hid (ownsRow_of_block HO.out (fun q e => hk3 q e)); obtain ⟨g', c', e', hcell3⟩ := row_read HO3.out mk; cases e'))
              go_roundw
              case rel => exact ⟨j + 1, _, by omega, by rw [show (K : Int) - 1 - ((j + 1 : Nat) : Int) = (m : Int) - 1 by omega], S3, Lib.hid H3, HO3⟩
              case measure => simp [intOf]
            · obtain rfl : K = j := by omega
              obtain ⟨s1, s2, s3, s4⟩ := HS.L3_end A0.out A1.out hK HL.out
              have S1 := Lib.hid s1; have S2 := Lib.hid s2; have S3 := Lib.hid s3; have S4 := Lib.hid s4
              clear s1 s2 s3 s4
              have ek : (K : Int) - 1 - (K : Int) = -1 := by omega
              rw [ek]
              have L5 : Hid (h.sizes.length ≤ 1000000) := Lib.hid (by rw [HL.out.len]; omega)
              go_wp2_with (first
                | (go_at_call 40; (with_reducible refine (Take_h A ((K : Int) + 1) 0 S2.out S1.out L5.out HH.out).mono ?_); rintro e w3 ⟨rfl, H3, hk3⟩)
                | (go_at_call 35; (with_reducible refine (Live_h ((K : Int) * A + A) S3.out H3).mono ?_); rintro e w6 ⟨rfl, rfl⟩)
                | (go_at_call 36; (with_reducible refine (Laid_h ((K : Int) * A + A) S4.out H3).mono ?_); rintro e w6 ⟨rfl, rfl⟩))
              go_ret
              exact ⟨rfl, H3.bel⟩
theorem rowHeapLast (a k : Int) (ha : In64 a) (hk : In64 k) (w : World) : Calls Try.prog 14 #[.int .i64 a, .int .i64 k] w fun e w' => e = .returned (.bool true) ∧ Below w.heap.size w w' := by
  obtain ⟨A, a0, a1, NA, h1, h2, -, h3⟩ := umod1 a 50 (by decide) (by decide)
  obtain ⟨K, k0, k1, k2, k3⟩ := umod k 20 (by decide) (by decide)
  exact walk_HeapLast a k A NA K a0 a1 (by omega) h1 h2 h3 k1 k2 w
end Go.Proofs.Ytfhigeefclchiaa
