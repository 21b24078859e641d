/- The walk's laws: has. -/
import Derived.Test.YteheolefemlcgaaWkY
import Derived.Test.YteheolefemlcgaaMapP
namespace Go.Proofs.Yteheolefemlcgaa
open Go.RowKit Go.Maps
set_option linter.unusedVariables false
set_option linter.unusedSimpArgs false

/-- Is the key among the first q? -/
def hasB (l : List V) (k : V) : Bool := decide (k ∈ l)
theorem gD_mem {l : List V} {j : Nat} (h : j < l.length) : l.getD j nilV ∈ l := by
  rw [List.getD_eq_getElem?_getD, List.getElem?_eq_getElem h]
  exact List.getElem_mem h
theorem mem_gD {l : List V} {k : V} (h : k ∈ l) : ∃ j, j < l.length ∧ l.getD j nilV = k := by
  obtain ⟨j, hj, e⟩ := List.mem_iff_getElem.1 h
  exact ⟨j, hj, by rw [List.getD_eq_getElem?_getD, List.getElem?_eq_getElem hj]; exact e⟩
set_option maxRecDepth 100000 in
set_option maxHeartbeats 1600000 in
/-- has: of a row of values of the call's own. -/
theorem law_has (base : Nat) (v : Value) (l : List V) (hsm : l.length ≤ 200000) (kk kn : Int) (ks : ByteArray) (w : World) (H : VRow base w v l) :
    Calls Try.prog 43 #[v, .agg #[.int .i64 kk, .int .i64 kn, .string ks]] w fun e w' => e = .returned (.bool (hasB l ⟨kk, kn, ks⟩)) ∧ Below w.heap.size w w' := by
  obtain ⟨A, c, rfl⟩ := H.slice
  have HR := Lib.hid H
  have HSM := Lib.hid hsm
  have HB0 := Lib.hid ((Below.refl w.heap.size w).alloc (Nat.le_refl _) (.cells #[.int .i64 kk, .int .i64 kn, .string ks] 39))
  have HC0 := Lib.hid (C3.new w kk kn ks)
  clear H hsm
  obtain ⟨n, hn⟩ : ∃ n, l.length = n := ⟨_, rfl⟩
  have HN := Lib.hid hn
  go_enter Try.func43, Try.ntmps43
  rw [hn]
  clear hn
  go_wp2_with fail
  generalize w.alloc (.cells #[.int .i64 kk, .int .i64 kn, .string ks] 39) = w1 at HB0 HC0 ⊢
  go_loopw [5] (fun i wr => ∃ q : Nat, q ≤ n ∧ i = .int .i64 q ∧ Hid (Below w1.heap.size w1 wr) ∧ Hid (∀ j, j < q → l.getD j nilV ≠ ⟨kk, kn, ks⟩)) (fun i _ => n - (intOf i).toNat)
  case atStart => exact ⟨0, Nat.zero_le _, rfl, Lib.hid (Below.refl _ _), Lib.hid (fun j h => by omega)⟩
  case round =>
    obtain ⟨q, hq, rfl, HBi, HNO⟩ := hrel
    by_cases hql : q < n
    · have d2 : decide ((q : Int) < (n : Int)) = true := by simp; omega
      have q1 : (q : Int) < (n : Int) := by omega
      have q3 : (n : Int) ≤ 9223372036854775807 := by have := HSM.out; have := HN.out; omega
      have HQL := Lib.hid hql
      have HW : Hid (Below w.heap.size w wr) := Lib.hid (HB0.out.trans (HBi.out.mono HB0.out.size))
      have hrow := HR.out.keep (fun z hz => HW.out.block z (HR.out.lt z hz).2)
      obtain ⟨g, cp, eA2, -, hgf, hgc⟩ := hrow.at_ (by have := HN.out; omega)
      obtain ⟨rfl, rfl⟩ : A = some ⟨g, 0, none⟩ ∧ c = cp := by simpa using eA2
      obtain ⟨g0, g1, g2⟩ := hgc q (by have := HN.out; omega)
      have HCi := HC0.out.below HBi.out HC0.out.lt
      obtain ⟨b0, b1, b2, bf, -⟩ := HCi
      dsimp only at b0 b1 b2
      simp only [Nat.zero_add] at b1 b2
      have HMM : Hid (l.getD q nilV ∈ l) := Lib.hid (gD_mem (by have := HN.out; omega))
      obtain ⟨y, hy⟩ : ∃ y, l.getD q nilV = y := ⟨_, rfl⟩
      rw [hy] at g0 g1 g2 HMM
      have HY := Lib.hid hy
      clear hgf hgc eA2 hrow bf hy hql hq
      by_cases e : y = ⟨kk, kn, ks⟩
      · subst e
        have HT : Hid (hasB l ⟨kk, kn, ks⟩ = true) := Lib.hid (by unfold hasB; exact decide_eq_true HMM.out)
        dsimp only at g0 g1 g2
        go_wp2
        go_quiet (fail)
        go_wp2
        go_ret
        exact ⟨by rw [HT.out]; rfl, below_drewN HW.out _⟩
      · have h3 := ne3 e
        have HNE : Hid (∀ j, j < q + 1 → l.getD j nilV ≠ ⟨kk, kn, ks⟩) := Lib.hid (fun j hj => by
          by_cases ej : j = q
          · rw [ej, HY.out]; exact e
          · exact HNO.out j (by omega))
        obtain ⟨yk, yn, ys⟩ := y
        dsimp only at h3 g0 g1 g2
        clear e
        rcases h3 with e1 | ⟨rfl, e1⟩ | ⟨rfl, rfl, e1, e2⟩
        all_goals
          go_wp2
          go_quiet (fail)
          go_wp2
          go_roundw
          case rel => exact ⟨q + 1, HQL.out, by go_num, Lib.hid (below_drewN HBi.out _), HNE⟩
          case measure => have := HQL.out; simp [intOf]; omega
    · obtain rfl : q = n := by omega
      have d2 : decide ((q : Int) < (q : Int)) = false := by simp
      have HF : Hid (hasB l ⟨kk, kn, ks⟩ = false) := Lib.hid (by
        unfold hasB
        refine decide_eq_false (fun hm => ?_)
        obtain ⟨j, hj, e⟩ := mem_gD hm
        exact HNO.out j (by have := HN.out; omega) e)
      go_wp2
      go_ret
      exact ⟨by rw [HF.out]; rfl, HB0.out.trans (HBi.out.mono HB0.out.size)⟩
set_option maxRecDepth 100000 in
set_option maxHeartbeats 3200000 in
/-- all: each first key has gone or come, and each that came was there at first. -/
theorem law_all (B1 B2 B3 : Nat) (v1 v2 v3 : Value) (P : List (V × V)) (G C : List V) (s1 : P.length ≤ 200000) (s2 : G.length ≤ 200000) (s3 : C.length ≤ 200000) (w : World) (H1 : PRow B1 w v1 P) (H2 : VRow B2 w v2 G) (H3 : VRow B3 w v3 C)
    (F1 : ∀ i, i < P.length → (prAt P i).1 ∈ G ∨ (prAt P i).1 ∈ C) (F2 : ∀ j, j < C.length → ∃ i, i < P.length ∧ (prAt P i).1 = C.getD j nilV) :
    Calls Try.prog 42 #[v1, v2, v3] w fun e w' => e = .returned (.bool true) ∧ Below w.heap.size w w' := by
  obtain ⟨A1, c1, rfl⟩ := H1.slice
  obtain ⟨A3, c3, rfl⟩ := H3.slice
  have HP := Lib.hid H1; have HG := Lib.hid H2; have HC := Lib.hid H3
  have S1 := Lib.hid s1; have S2 := Lib.hid s2; have S3 := Lib.hid s3
  have HF1 := Lib.hid F1; have HF2 := Lib.hid F2
  clear H1 H2 H3 s1 s2 s3 F1 F2
  obtain ⟨n, hn⟩ : ∃ n, P.length = n := ⟨_, rfl⟩
  obtain ⟨m, hm⟩ : ∃ m, C.length = m := ⟨_, rfl⟩
  have HN := Lib.hid hn; have HM := Lib.hid hm
  have HP' : Hid (PRow B1 w (.slice A1 n c1) P) := Lib.hid (by rw [← hn]; exact HP.out)
  have HC' : Hid (VRow B3 w (.slice A3 m c3) C) := Lib.hid (by rw [← hm]; exact HC.out)
  rw [hn, hm]
  clear hn hm HP HC
  go_enter Try.func42, Try.ntmps42
  go_wp2_with fail
  go_loopw [7] (fun i wr => ∃ q : Nat, q ≤ n ∧ i = .int .i64 q ∧ Hid (Below w.heap.size w wr)) (fun i _ => n - (intOf i).toNat)
  case atStart => exact ⟨0, Nat.zero_le _, rfl, Lib.hid (Below.refl _ _)⟩
  case round =>
    obtain ⟨q, hq, rfl, HW⟩ := hrel
    by_cases hql : q < n
    · have d2 : decide ((q : Int) < (n : Int)) = true := by simp; omega
      have q1 : (q : Int) < (n : Int) := by omega
      have q3 : (n : Int) ≤ 9223372036854775807 := by have := S1.out; have := HN.out; omega
      have HQL := Lib.hid hql
      have HPW := Lib.hid (HP'.out.keep (fun z hz => HW.out.block z (HP'.out.lt z hz).2))
      have HGW := Lib.hid (HG.out.keep (fun z hz => HW.out.block z (HG.out.lt z hz).2))
      have HCW := Lib.hid (HC'.out.keep (fun z hz => HW.out.block z (HC'.out.lt z hz).2))
      have hF := HF1.out q (by have := HN.out; omega)
      have hcell : ∃ g, A1 = some ⟨g, 0, none⟩ ∧ g < wr.heap.size ∧ C6 wr g (q * 6) (prAt P q) := by
        obtain ⟨g, cp, e, -, -, hgl, -, h⟩ := HPW.out.at_ (by have := HN.out; omega)
        exact ⟨g, by simpa using (congrArg (fun v => match v with | Value.slice a _ _ => a | _ => none) e), hgl, h q (by have := HN.out; omega)⟩
      obtain ⟨g, rfl, hgl, hc6⟩ := hcell
      obtain ⟨⟨⟨kk, kn, ks⟩, ⟨vk, vn, vs⟩⟩, hk⟩ : ∃ y, prAt P q = y := ⟨_, rfl⟩
      rw [hk] at hF hc6
      have HFF := Lib.hid hF
      have HC6 := Lib.hid hc6
      obtain ⟨g0, g1, g2, -, -, -⟩ := hc6
      dsimp only at g0 g1 g2
      clear hF hk hql hq
      go_wp2_with fail
      (with_reducible refine (law_has B2 v2 G S2.out kk kn ks _ HGW.out).mono ?_)
      rintro e w5 ⟨rfl, hb⟩
      have HB5 := Lib.hid (HW.out.trans (hb.mono HW.out.size))
      have HCW5 := Lib.hid (HCW.out.keep (fun z hz => hb.block z (HCW.out.lt z hz).2))
      have HC65 := Lib.hid (HC6.out.keep (hb.block g hgl))
      clear hb g0 g1 g2 hgl
      by_cases hg : hasB G ⟨kk, kn, ks⟩ = true
      · rw [hg]
        clear hg
        go_wp2_with fail
        go_roundw
        case rel => exact ⟨q + 1, HQL.out, by go_num, HB5⟩
        case measure => have := HQL.out; simp [intOf]; omega
      · have hg' : hasB G ⟨kk, kn, ks⟩ = false := by simpa using hg
        have HCC : Hid (hasB C ⟨kk, kn, ks⟩ = true) := Lib.hid (by
          rcases HFF.out with h | h
          · exact absurd (decide_eq_true h) hg
          · exact decide_eq_true h)
        rw [hg']
        obtain ⟨g0, g1, g2, -, -, -⟩ := HC65.out
        dsimp only at g0 g1 g2
        clear hg hg'
        go_wp2_with fail
        (with_reducible refine (law_has B3 _ C S3.out kk kn ks _ HCW5.out).mono ?_)
        rintro e w6 ⟨rfl, hb⟩
        have HB6 := Lib.hid (HB5.out.trans (hb.mono HB5.out.size))
        rw [HCC.out]
        clear hb g0 g1 g2
        go_wp2_with fail
        go_roundw
        case rel => exact ⟨q + 1, HQL.out, by go_num, HB6⟩
        case measure => have := HQL.out; simp [intOf]; omega
    · obtain rfl : q = n := by omega
      have d2 : decide ((q : Int) < (q : Int)) = false := by simp
      go_wp2_with fail
      go_loopw [8] (fun i wr => ∃ j : Nat, j ≤ m ∧ i = .int .i64 j ∧ Hid (Below w.heap.size w wr)) (fun i _ => m - (intOf i).toNat)
      case atStart => exact ⟨0, Nat.zero_le _, rfl, HW⟩
      case round =>
        clear HW
        obtain ⟨j, hj, rfl, HW⟩ := hrel
        by_cases hjm : j < m
        · have d3 : decide ((j : Int) < (m : Int)) = true := by simp; omega
          have j1 : (j : Int) < (m : Int) := by omega
          have j3 : (m : Int) ≤ 9223372036854775807 := by have := S3.out; have := HM.out; omega
          have HJM := Lib.hid hjm
          have hex := HF2.out j (by have := HM.out; omega)
          obtain ⟨y, hy⟩ : ∃ y, C.getD j nilV = y := ⟨_, rfl⟩
          rw [hy] at hex
          have HEX := Lib.hid hex
          have hcell : ∃ h, A3 = some ⟨h, 0, none⟩ ∧ ∀ wx, Below w.heap.size w wx → wx.cell? ⟨h, j * 3, none⟩ = some (.int .i64 y.k) ∧ wx.cell? ⟨h, j * 3 + 1, none⟩ = some (.int .i64 y.n) ∧ wx.cell? ⟨h, j * 3 + 2, none⟩ = some (.string y.s) := by
            obtain ⟨h, cp, e, -, -, hh⟩ := HC'.out.at_ (by have := HM.out; omega)
            obtain ⟨a0, a1, a2⟩ := hh j (by have := HM.out; omega)
            rw [hy] at a0 a1 a2
            exact ⟨h, by simpa using (congrArg (fun v => match v with | Value.slice a _ _ => a | _ => none) e), fun wx hb => ⟨(hb.cell (p := ⟨h, _, none⟩) (lt_cell a0)).trans a0, (hb.cell (p := ⟨h, _, none⟩) (lt_cell a0)).trans a1, (hb.cell (p := ⟨h, _, none⟩) (lt_cell a0)).trans a2⟩⟩
          obtain ⟨h, rfl, hcy⟩ := hcell
          have HCY := Lib.hid hcy
          clear hcy hex hy hjm hj
          go_wp2_with fail
          go_loopw [9, 10] (fun ok i wi => ∃ (b : Bool) (k : Nat), k ≤ q ∧ ok = .bool b ∧ i = .int .i64 k ∧ Hid (b = true ∨ ∀ z, z < k → (prAt P z).1 ≠ y) ∧ Hid (Below w.heap.size w wi)) (fun _ i _ => q - (intOf i).toNat)
          case atStart => exact ⟨false, 0, Nat.zero_le _, rfl, rfl, Lib.hid (.inr (fun z hz => by omega)), HW⟩
          case round =>
            clear HW
            obtain ⟨b, k, hk, rfl, rfl, HBB, HW⟩ := hrel
            by_cases hkq : k < q
            · have d4 : decide ((k : Int) < (q : Int)) = true := by simp; omega
              have k1 : (k : Int) < (q : Int) := by omega
              have k3 : (q : Int) ≤ 9223372036854775807 := by have := S1.out; have := HN.out; omega
              have HKQ := Lib.hid hkq
              cases b with
              | true =>
                go_wp2
                go_quiet (fail)
                go_wp2
                go_roundw
                case rel => exact ⟨true, k + 1, HKQ.out, rfl, by go_num, Lib.hid (.inl rfl), Lib.hid (below_drewN HW.out _)⟩
                case measure => have := HKQ.out; simp [intOf]; omega
              | false =>
                have HPW := Lib.hid (HP'.out.keep (fun z hz => HW.out.block z (HP'.out.lt z hz).2))
                have hcell : ∃ g, A1 = some ⟨g, 0, none⟩ ∧ C6 wr g (k * 6) (prAt P k) := by
                  obtain ⟨g, cp, e, -, -, hgl, -, h⟩ := HPW.out.at_ (by have := HN.out; omega)
                  exact ⟨g, by simpa using (congrArg (fun v => match v with | Value.slice a _ _ => a | _ => none) e), h k (by have := HN.out; omega)⟩
                obtain ⟨g, rfl, hc6⟩ := hcell
                have hno := HBB.out.resolve_left (by simp)
                have HNO := Lib.hid hno
                obtain ⟨x, hx⟩ : ∃ x, (prAt P k).1 = x := ⟨_, rfl⟩
                have HX := Lib.hid hx
                obtain ⟨g0, g1, g2, -, -, -⟩ := hc6
                rw [hx] at g0 g1 g2
                obtain ⟨y0, y1, y2⟩ := HCY.out _ HW.out
                clear hno hx hk hkq
                by_cases e : x = y
                · subst e
                  go_wp2
                  go_quiet (fail)
                  go_wp2
                  go_roundw
                  case rel => exact ⟨true, k + 1, HKQ.out, rfl, by go_num, Lib.hid (.inl rfl), Lib.hid (below_drewN HW.out _)⟩
                  case measure => have := HKQ.out; simp [intOf]; omega
                · have h3 := ne3 e
                  have HN2 : Hid (∀ z, z < k + 1 → (prAt P z).1 ≠ y) := Lib.hid (fun z hz => by
                    by_cases ez : z = k
                    · rw [ez, HX.out]; exact e
                    · exact HNO.out z (by omega))
                  obtain ⟨xk, xn, xs⟩ := x
                  obtain ⟨yk, yn, ys⟩ := y
                  dsimp only at h3 g0 g1 g2 y0 y1 y2
                  clear e
                  rcases h3 with e1 | ⟨rfl, e1⟩ | ⟨rfl, rfl, e1, e2⟩
                  all_goals
                    go_wp2
                    go_quiet (fail)
                    go_wp2
                    go_roundw
                    case rel => exact ⟨false, k + 1, HKQ.out, rfl, by go_num, Lib.hid (.inr HN2.out), Lib.hid (below_drewN HW.out _)⟩
                    case measure => have := HKQ.out; simp [intOf]; omega
            · obtain rfl : k = q := by omega
              have d4 : decide ((k : Int) < (k : Int)) = false := by simp
              obtain rfl : b = true := by
                rcases HBB.out with h | h
                · exact h
                · obtain ⟨i, hi, e⟩ := HEX.out
                  exact absurd e (h i (by have := HN.out; omega))
              go_wp2
              go_roundw
              case rel => exact ⟨j + 1, HJM.out, by go_num, HW⟩
              case measure => have := HJM.out; simp [intOf]; omega
        · obtain rfl : j = m := by omega
          have d3 : decide ((j : Int) < (j : Int)) = false := by simp
          go_wp2
          go_ret
          exact ⟨rfl, HW.out⟩
end Go.Proofs.Yteheolefemlcgaa
