/- A table: rehash. -/
import Derived.Test.YteheolefemlcgaaGreatTabZ
import Derived.BigFrameIn
namespace Go.Proofs.YteheolefemlcgaaGreat
open Go.RowKit
set_option linter.unusedVariables false
set_option linter.unusedSimpArgs false
attribute [local go_sem] Oper.semAt_some

namespace PT
def slMj (p : PT) (a j : Nat) : List (V × V) := ((List.range j).filter fun i => decide (a ≤ i ∧ (p.sv i).k ≠ 0)).map fun i : Nat => (iV ((i : Int) + 1), p.sv i)
theorem slMj_all (p : PT) (a : Nat) : p.slMj a p.sn = p.slM a := rfl
theorem slMj_few (p : PT) (a j : Nat) (h : j ≤ a) : p.slMj a j = [] := by
  unfold slMj
  rw [List.filter_eq_nil_iff.2 (fun i hi => by have := List.mem_range.1 hi; simp; omega)]
  rfl
theorem slMj_yes (p : PT) (a j : Nat) (h : a ≤ j) (h0 : (p.sv j).k ≠ 0) : p.slMj a (j + 1) = p.slMj a j ++ [(iV ((j : Int) + 1), p.sv j)] := by
  unfold slMj; rw [List.range_succ, List.filter_append, List.map_append, List.filter_cons_of_pos (by simpa using ⟨h, h0⟩)]; rfl
theorem slMj_no (p : PT) (a j : Nat) (h0 : (p.sv j).k = 0) : p.slMj a (j + 1) = p.slMj a j := by
  unfold slMj; rw [List.range_succ, List.filter_append, List.map_append, List.filter_cons_of_neg (by simp [h0])]; simp
theorem putL_snoc (p : PT) (L : List (V × V)) (kv : V × V) : p.putL (L ++ [kv]) = ((p.putL L).put kv.1 kv.2).1 := by rw [putL_append]; rfl
end PT
/-- New parts that hold nothing yet. -/
def PT.bare (m n : Nat) (x y : Int) : PT := ⟨m, fun _ => nilV, PH.new n, x, y⟩
theorem PartIn.bare {w W : World} {f s' b' g' m n : Nat} {x y : Int} (hC : C4 W f (.slice (some ⟨s', 0, none⟩) m m) (.pointer (some ⟨b', 0, none⟩)) (.int .i64 x) (.int .i64 y)) (hb : Below w.heap.size w W)
    (h7 : s' ≠ b') (h8 : s' ≠ g') (h9 : NdIn w b' g' (PH.new n)) (h10 : ∀ i, i < m → C3 w s' (i * 3) nilV) (h11 : ∀ i, w.frozen? ⟨s', i, none⟩ = false) (h12 : s' < w.heap.size) (hf : w.heap.size ≤ f) : PartIn W f s' b' g' (PT.bare m n x y) :=
  ⟨hC.c0, hC.c1, hC.c2, hC.c3, hC.fz, fun i hi => (h10 i hi).below hb h12, fun i => (hb.frozen (p := ⟨s', i, none⟩) h12).trans (h11 i), Nat.lt_of_lt_of_le h12 hb.size, h9.below hb, by have := h9.lb; have := h9.lg; exact ⟨by omega, by omega, by omega, h7, h8⟩⟩
theorem PartIn.copied {W : World} {f s' b' g' m n : Nat} {x y : Int} (p : PT) (H : PartIn W f s' b' g' (PT.bare m n x y)) : PartIn (W.setCells s' 0 (p.scells (min m p.sn))) f s' b' g' (p.fresh m n x y) := by
  have hk := kp_setCells s' (p.scells (min m p.sn)) 0 W
  obtain ⟨n1, n2, n3, n4, n5⟩ := H.ne
  have hf := hk.block f H.la n1
  have hb := hk.block b' H.nd.lb (Ne.symm n4)
  have hg := hk.block g' H.nd.lg (Ne.symm n5)
  have cf : ∀ i, (W.setCells s' 0 (p.scells (min m p.sn))).cell? ⟨f, i, none⟩ = W.cell? ⟨f, i, none⟩ := fun i => World.cell?_of_block (a := ⟨f, i, none⟩) hf
  exact ⟨(cf 0).trans H.c0, (cf 1).trans H.c1, (cf 2).trans H.c2, (cf 3).trans H.c3, fun i => (World.frozen?_of_block (a := ⟨f, i, none⟩) hf).trans (H.fa i), fun i hi => C3.copied p (Nat.min_le_left _ _) H.sl H.fs H.ls i hi, fun i => by rw [World.frozen?_setCells]; exact H.fs i, Nat.lt_of_lt_of_le H.ls hk.size, H.nd.keep hb hg, H.ne⟩
section
variable (F : Nat → Prop) (a s b g hp : Nat) (t : Tbl) (hs : HS) (kk kn : Int) (ks : ByteArray)
set_option maxRecDepth 100000 in
set_option maxHeartbeats 1600000 in
theorem rehash_yes (hok : t.p.ok) (h64 : In64 kn) (he : t.p.reE ⟨kk, kn, ks⟩ = 0) (m n : Nat) (hm : Cs.sizesA (t.p.ints ⟨kk, kn, ks⟩) (t.p.oth ⟨kk, kn, ks⟩) = (m : Nat)) (hn : Cs.sizesH (t.p.ints ⟨kk, kn, ks⟩) (t.p.oth ⟨kk, kn, ks⟩) = (n : Nat)) (hm6 : m ≤ 65536) (hn6 : n ≤ 65536) (hpw : n = 0 ∨ ∃ e, e ≤ 16 ∧ n = 2 ^ e)
    (hsz : hs.sizes.length ≤ 800000) (hl1 : hs.roomE m = 0) (hl2 : (hs.take m).roomE (3 * n) = 0) (h64s : In64 t.p.sAt) (h64n : In64 t.p.nAt) (hF : ∀ q, PB a s b g q → ¬ F q) (w : World) (H : TabIn w a s b g hp t) (HH : HeapAt F w hp hs) :
    Calls Tryz.prog 54 #[.pointer (some ⟨a, 0, none⟩), .agg #[.int .i64 kk, .int .i64 kn, .string ks]] w fun e w' => e = .returned (.int .i64 0) ∧
      TG F a s b g w hp { p := (t.p.fresh m n (hs.takeId m) ((hs.take m).takeId (3 * n))).putL (t.p.moves m), hint := 0, pr := t.pr } ((((hs.take m).take (3 * n)).give t.p.sAt).give t.p.nAt) w' := by
  refine (callsIn_wide (n := 5)).1 ?_
  have hro : Fence.wide.round = none := rfl
  refine callsIn_of_wp_marks Tryz.func54 rfl trivial ?_ hro
  refine wpIn_wide.2 ?_
  simp only [Tryz.ntmps54, List.size_toArray, List.length_cons, List.length_nil, Nat.reduceAdd, Nat.reduceSub, Array.replicate_succ, Array.replicate_zero, List.push_toArray, List.append_toArray, List.nil_append, List.cons_append]
  have HI := Lib.hid H; have HOK := Lib.hid hok; have H64 := Lib.hid h64; have HE := Lib.hid he; have HHH := Lib.hid HH; have HM := Lib.hid hm; have HN := Lib.hid hn
  unfold PT.reE at HE
  have HBa := Lib.hid ((Below.refl _ w).alloc (Nat.le_refl _) (.cells #[.int .i64 kk, .int .i64 kn, .string ks] 35))
  obtain ⟨x, hx⟩ : ∃ x, hs.takeId m = x := ⟨_, rfl⟩
  obtain ⟨y, hy⟩ : ∃ y, (hs.take m).takeId (3 * n) = y := ⟨_, rfl⟩
  obtain ⟨hs2, hh2⟩ : ∃ h2, (hs.take m).take (3 * n) = h2 := ⟨_, rfl⟩
  have HLAY : Hid (∀ W, HeapAt F W hp hs → Calls Tryz.prog 89 #[.pointer (some ⟨hp, 0, none⟩), .int .i64 m, .int .i64 n] W fun e w' => ∃ s b g F', e = .returned (.tuple #[.agg #[.slice (some ⟨s, 0, none⟩) m m, .pointer (some ⟨b, 0, none⟩), .int .i64 x, .int .i64 y], .int .i64 0]) ∧ Hp F W hp F' hs2 w' ∧ W.heap.size ≤ s ∧ W.heap.size ≤ b ∧ W.heap.size ≤ g ∧ ¬ F' s ∧ ¬ F' b ∧ ¬ F' g ∧ s ≠ b ∧ s ≠ g ∧ NdIn w' b g (PH.new n) ∧ (∀ i, i < m → C3 w' s (i * 3) nilV) ∧ (∀ i, w'.frozen? ⟨s, i, none⟩ = false) ∧ s < w'.heap.size) := Lib.hid (fun W hW => by
    rw [← hh2]
    exact lay_yes F hp hs m n (by omega) hm6 hn6 hpw hl1 hl2 x y hx hy W hW)
  have HFF := Lib.hid hF
  have H64S := Lib.hid h64s; have H64N := Lib.hid h64n
  have HSZ2 : Hid (hs2.sizes.length ≤ 1000000) := Lib.hid (by have h1 := HS.take_sizes hs m; have h2 := HS.take_sizes (hs.take m) (3 * n); rw [hh2] at h2; omega)
  have HM6 := Lib.hid hm6; have HN6 := Lib.hid hn6; have HPW := Lib.hid hpw
  rw [hx, hy, hh2]
  clear H hok h64 he HH hm hn hm6 hn6 hpw hsz hl1 hl2 hF hx hy hh2 h64s h64n
  go_wp2_with fail
  (with_reducible refine (tab_sizes a s b g hp t kk kn ks HOK.out H64.out m n 0 HM.out HN.out HE.out _ (HI.out.below HBa.out)).mono ?_)
  rintro e w1 ⟨rfl, hb1⟩
  have HB1 := Lib.hid (HBa.out.trans (hb1.mono HBa.out.size))
  have c4 := (HI.out.below HB1.out).c4
  have HP1 := Lib.hid ((Hp.start HHH.out).below HB1.out)
  clear hb1
  go_wp2_with fail
  (with_reducible refine (HLAY.out _ HP1.out.at_).mono ?_)
  rintro e w2 ⟨s', b', g', F', rfl, hP, h1, h2, h3, h4, h5, h6, h7, h8, h9, h10, h11, h12⟩
  have HP2 : Hid (Hp F w hp F' hs2 w2) := Lib.hid ⟨hP.at_, HP1.out.kp.trans hP.kp (fun q hq => .inl hq), fun q hq => (hP.sub q hq).imp id (fun h => Nat.le_trans HB1.out.size h)⟩
  have HNF1 : Hid (∀ q, F' q → q < w2.heap.size) := Lib.hid hP.at_.lt
  have HT2 := Lib.hid (HI.out.kp HP2.out.kp HFF.out)
  obtain ⟨f, hf⟩ : ∃ f, w2.heap.size = f := ⟨_, rfl⟩
  have HFE := Lib.hid hf
  have hwf := HP2.out.kp.size
  have HWF : Hid (w.heap.size ≤ f) := Lib.hid (by omega)
  obtain ⟨W4, hW4⟩ : ∃ W4, ((w2.alloc (.cells #[.slice (some ⟨s', 0, none⟩) m m, .pointer (some ⟨b', 0, none⟩), .int .i64 x, .int .i64 y] 108)).alloc (.cells #[.slice (some ⟨s, 0, none⟩) t.p.sn t.p.sn, .pointer (some ⟨b, 0, none⟩), .int .i64 t.p.sAt, .int .i64 t.p.nAt] 108)) = W4 := ⟨_, rfl⟩
  have HB3 := Lib.hid ((Below.refl _ w2).alloc (Nat.le_refl _) (.cells #[.slice (some ⟨s', 0, none⟩) m m, .pointer (some ⟨b', 0, none⟩), .int .i64 x, .int .i64 y] 108))
  have HB4 : Hid (Below w2.heap.size w2 W4) := Lib.hid (by rw [← hW4]; exact HB3.out.alloc HB3.out.size _)
  have HSF1 : Hid (s' ≠ f + 1) := Lib.hid (by omega)
  have HBF : Hid (b' ≠ f + 1 ∧ g' ≠ f + 1) := Lib.hid (by have := h9.lb; have := h9.lg; omega)
  have HC4 : Hid (C4 W4 f (.slice (some ⟨s', 0, none⟩) m m) (.pointer (some ⟨b', 0, none⟩)) (.int .i64 x) (.int .i64 y)) := Lib.hid (by
    rw [← hW4, ← hf]
    exact (C4.new w2 _ _ _ _ _).below ((Below.refl _ _).alloc (Nat.le_refl _) _) (by rw [World.size_alloc]; omega))
  have HO4 : Hid (C4 W4 (f + 1) (.slice (some ⟨s, 0, none⟩) t.p.sn t.p.sn) (.pointer (some ⟨b, 0, none⟩)) (.int .i64 t.p.sAt) (.int .i64 t.p.nAt)) := Lib.hid (by
    have := C4.new (w2.alloc (.cells #[.slice (some ⟨s', 0, none⟩) m m, .pointer (some ⟨b', 0, none⟩), .int .i64 x, .int .i64 y] 108)) (.slice (some ⟨s, 0, none⟩) t.p.sn t.p.sn) (.pointer (some ⟨b, 0, none⟩)) (.int .i64 t.p.sAt) (.int .i64 t.p.nAt) 108
    rw [World.size_alloc, hW4, hf] at this
    exact this)
  have HRH : Hid (RH w a s b g hp t F F' hs2 f s' b' g' (PT.bare m n x y) W4) := Lib.hid (by
    have hB1 := HB1.out.size
    have hlt := HP2.out.at_.lt
    have hnf : ¬ F' f := fun h => by have := hlt _ h; omega
    refine ⟨HT2.out.below HB4.out, HP2.out.below HB4.out, PartIn.bare HC4.out HB4.out h7 h8 h9 h10 h11 h12 (by omega), fun q hq => ?_, fun q hq => ?_⟩
    · rcases hq with rfl | rfl | rfl | rfl
      · exact ⟨by omega, hnf⟩
      · exact ⟨by omega, h4⟩
      · exact ⟨by omega, h5⟩
      · exact ⟨by omega, h6⟩
    · have hql := HI.out.pt.lt hq
      exact ⟨hql, fun h => (HP2.out.sub q h).elim (HFF.out q hq) (fun h => by omega)⟩)
  have c0 := (HT2.out.below HB3.out).pt.c0; have c1 := (HT2.out.below HB3.out).pt.c1; have c2 := (HT2.out.below HB3.out).pt.c2; have c3 := (HT2.out.below HB3.out).pt.c3
  clear c4 h1 h2 h3 h4 h5 h6 h7 h8 h9 h10 h11 h12 hP hwf
  obtain ⟨d0, d1, d2, d3, -, -⟩ := HC4.out
  obtain ⟨e0, e1, e2, e3, -, -⟩ := HO4.out
  rw [← hW4] at d0 d1 d2 d3 e0 e1 e2 e3
  rw [← hf] at d0 d1 d2 d3 e0 e1 e2 e3
  have HW4 := Lib.hid hW4
  clear hW4 hf
  obtain ⟨k0, hk0⟩ : ∃ k0, min m t.p.sn = k0 := ⟨_, rfl⟩
  have HK0 := Lib.hid hk0
  clear hk0
  have hvs : (Tryz.prog.info? 35).map (·.size) = some 3 := by
    obtain ⟨i, hi, -, hs, -⟩ := info_parts infoVal
    rw [hi]; exact congrArg some hs
  have HVS := Lib.hid hvs
  clear hvs
  have HSF : Hid (s' ≠ f ∧ s' ≠ f + 1) := Lib.hid ⟨Ne.symm HRH.out.pt.ne.1, HSF1.out⟩
  have HKC := Lib.hid (kp_setCells s' (t.p.scells k0) 0 W4)
  have HRH5 : Hid (RH w a s b g hp t F F' hs2 f s' b' g' (t.p.fresh m n x y) (W4.setCells s' 0 (t.p.scells k0))) := Lib.hid (HRH.out.put (by have := HRH.out.pt.copied t.p; rw [HK0.out] at this; exact this) (HKC.out.mono (fun q hq => .inl (.inr (.inl hq)))))
  have HO5 := Lib.hid (HO4.out.kp HKC.out (Ne.symm HSF.out.2))
  have HQ2 : Hid (∀ j v, (t.p.scells k0)[j]? = some v → ((w2.alloc (.cells #[.slice (some ⟨s', 0, none⟩) m m, .pointer (some ⟨b', 0, none⟩), .int .i64 x, .int .i64 y] 108)).alloc (.cells #[.slice (some ⟨s, 0, none⟩) t.p.sn t.p.sn, .pointer (some ⟨b, 0, none⟩), .int .i64 t.p.sAt, .int .i64 t.p.nAt] 108)).cell? ((⟨s, 0, none⟩ : Addr).add j) = some v) := Lib.hid (fun j u hj => by
    obtain ⟨h1, rfl⟩ := scells_get _ _ _ _ hj
    rw [HW4.out, addr_add, Nat.zero_add]
    exact HRH.out.tb.pt.scell j (by have := HK0.out; have := Nat.min_le_right m t.p.sn; omega))
  have HQ3 : Hid (∀ j, j < (t.p.scells k0).length → (((w2.alloc (.cells #[.slice (some ⟨s', 0, none⟩) m m, .pointer (some ⟨b', 0, none⟩), .int .i64 x, .int .i64 y] 108)).alloc (.cells #[.slice (some ⟨s, 0, none⟩) t.p.sn t.p.sn, .pointer (some ⟨b, 0, none⟩), .int .i64 t.p.sAt, .int .i64 t.p.nAt] 108)).cell? ⟨s', 0 + j, none⟩).isSome = true) := Lib.hid (fun j hj => by
    rw [scells_length] at hj
    rw [HW4.out, Nat.zero_add]
    exact Option.isSome_iff_exists.2 ⟨_, HRH.out.pt.scell j (by have := HK0.out; have := Nat.min_le_left m t.p.sn; show j < m * 3; omega)⟩)
  have HQ4 : Hid (∀ j, j < (t.p.scells k0).length → ((w2.alloc (.cells #[.slice (some ⟨s', 0, none⟩) m m, .pointer (some ⟨b', 0, none⟩), .int .i64 x, .int .i64 y] 108)).alloc (.cells #[.slice (some ⟨s, 0, none⟩) t.p.sn t.p.sn, .pointer (some ⟨b, 0, none⟩), .int .i64 t.p.sAt, .int .i64 t.p.nAt] 108)).frozen? ⟨s', 0 + j, none⟩ = false) := Lib.hid (fun j hj => by rw [HW4.out]; exact HRH.out.pt.fs _)
  obtain ⟨W5, hW5⟩ : ∃ W5, W4.setCells s' 0 (t.p.scells k0) = W5 := ⟨_, rfl⟩
  rw [hW5] at HRH5 HO5
  have HW5 := Lib.hid hW5
  have HQ1 : Hid (Nat.min t.p.sn m = k0) := Lib.hid (by have := HK0.out; show min t.p.sn m = k0; rw [Nat.min_comm]; exact this)
  have g0 : W5.cell? ⟨w2.heap.size + 1, 0, none⟩ = some (.slice (some ⟨s, 0, none⟩) t.p.sn t.p.sn) := by rw [HFE.out]; exact HO5.out.c0
  have HKS : Hid (k0 ≤ t.p.sn) := Lib.hid (by rw [← HK0.out]; exact Nat.min_le_right _ _)
  clear hW5
  obtain ⟨N, hN⟩ : ∃ N, t.p.sn = N := ⟨_, rfl⟩
  have HNN := Lib.hid hN
  have HNZ : Hid (N ≤ 65536) := Lib.hid (by rw [← hN]; exact HOK.out.sz)
  have hks := HKS.out
  have hnz := HNZ.out
  rw [hN] at hks
  have q1 : (k0 : Int) ≤ (N : Int) := by omega
  have q2 : (0 : Int) ≤ (k0 : Int) := by omega
  have q3 : ¬ (N < k0) := by omega
  have q4 : IntKind.i64.wrap (k0 : Int) = k0 := by rw [IntKind.wrap_i64]; omega
  rw [hN] at g0 c0 e0 HQ2 HQ3 HQ4 HQ1
  clear hN hnz
  have HO9 : Hid (¬ PB f s' b' g' (f + 1)) := Lib.hid (fun h => by
    have h9 := HRH.out.pt.ne; have hla := HO4.out.lt
    rcases h with h | h | h | h
    · omega
    · exact HSF.out.2 h.symm
    · exact HBF.out.1 h.symm
    · exact HBF.out.2 h.symm)
  have HSL0 : Hid (t.p.slMj m k0 = []) := Lib.hid (PT.slMj_few t.p m k0 (by rw [← HK0.out]; exact Nat.min_le_left _ _))
  have HMK : Hid (k0 < N → k0 = m) := Lib.hid (fun h => by have h1 := HK0.out; rw [HNN.out] at h1; omega)
  have HFO : Hid ((t.p.fresh m n x y).ok) := Lib.hid (PT.fresh_ok HOK.out m n x y HM6.out HN6.out HPW.out)
  go_wp2_with ((with_reducible refine wpList_copy3 rfl (Operand.tmp 43) (Operand.tmp 45) 38 38 rfl 35 Tryz.underlying38 HVS.out s' m m ⟨s, 0, none⟩ N N k0 (t.p.scells k0) rfl rfl HQ1.out (scells_length _ _) HQ2.out HQ3.out HQ4.out (fun u hu => by obtain ⟨j, -, rfl⟩ := List.mem_map.1 hu; exact scell_one _ _) ?_); rw [← HNN.out, HW4.out, HW5.out, HNN.out]; clear c0 c1 c2 c3 d0 d1 d2 d3 e0 e1 e2 e3)
  all_goals rw [HFE.out]
  all_goals
    go_loopw [52] (fun i wr => ∃ j : Nat, k0 + j ≤ N ∧ i = .int .i64 (j : Int) ∧ Hid (RH w a s b g hp t F F' hs2 f s' b' g' ((t.p.fresh m n x y).putL (t.p.slMj m (k0 + j))) wr) ∧ Hid (((t.p.fresh m n x y).putL (t.p.slMj m (k0 + j))).ok) ∧ Hid (C4 wr (f + 1) (.slice (some ⟨s, 0, none⟩) t.p.sn t.p.sn) (.pointer (some ⟨b, 0, none⟩)) (.int .i64 t.p.sAt) (.int .i64 t.p.nAt))) (fun i _ => N - k0 - (intOf i).toNat)
    case atStart => exact ⟨0, by omega, rfl, by rw [Nat.add_zero, HSL0.out]; exact HRH5, by rw [Nat.add_zero, HSL0.out]; exact HFO, HO5⟩
    case round =>
      obtain ⟨j, hj, rfl, HRJ, HOJ, HCJ⟩ := hrel
      by_cases hlt : k0 + j < N
      · first
          | (exfalso; omega)
          | (have HLT := Lib.hid hlt
             have hsl := HRJ.out.tb.pt.sl (k0 + j) (by rw [HNN.out]; exact hlt)
             obtain ⟨xk, xn, xs, hv⟩ : ∃ xk xn xs, t.p.sv (k0 + j) = ⟨xk, xn, xs⟩ := ⟨_, _, _, rfl⟩
             rw [hv, Nat.add_mul] at hsl
             obtain ⟨v0, v1, v2, -, -⟩ := hsl
             simp only at v0 v1 v2
             have HVV := Lib.hid hv
             have j1 : (j : Int) < ((N - k0 : Nat) : Int) := by omega
             have j0 : (0 : Int) ≤ (j : Int) := by omega
             have j6 : (j : Int) ≤ 65536 := by have := HNZ.out; omega
             have k6 : (k0 : Int) ≤ 65536 := by have := HNZ.out; omega
             have HA := Lib.hid ((Below.refl _ wr).alloc (Nat.le_refl _) (.cells #[.int .i64 xk, .int .i64 xn, .string xs] 35))
             have HC := Lib.hid (C3.new wr xk xn xs)
             have HKJ : Hid (((k0 + j : Nat) : Int) = (k0 : Int) + (j : Int)) := Lib.hid (by omega)
             have HOLT := Lib.hid HCJ.out.lt
             clear hv hlt
             by_cases e0 : xk = 0
             · have q0 : (xk != 0) = false := by simpa using e0
               have HNO := Lib.hid (t.p.slMj_no m (k0 + j) (by rw [HVV.out]; exact e0))
               clear e0
               go_wp2_with fail
               (with_reducible refine (table_present xk xn xs false q0 _).mono ?_)
               rintro e w3 ⟨rfl, hb1⟩
               have HR1 := Lib.hid ((HRJ.out.below HA.out).below hb1)
               have HC1 := Lib.hid ((HCJ.out.below HA.out HOLT.out).below hb1 (by have := HOLT.out; rw [World.size_alloc]; omega))
               clear hb1 v0 v1 v2
               go_wp2
               go_roundw
               case rel => exact ⟨j + 1, by have := HLT.out; omega, by go_num, by rw [← Nat.add_assoc, HNO.out]; exact HR1, by rw [← Nat.add_assoc, HNO.out]; exact HOJ, HC1⟩
               case measure => have := HLT.out; simp [intOf]; omega
             · have q0 : (xk != 0) = true := by simpa using e0
               have HYES := Lib.hid (t.p.slMj_yes m (k0 + j) (HMK.out (by have := HLT.out; omega) ▸ Nat.le_add_right _ _) (by rw [HVV.out]; exact e0))
               clear e0
               go_wp2_with fail
               (with_reducible refine (table_present xk xn xs true q0 _).mono ?_)
               rintro e w3 ⟨rfl, hb1⟩
               have HR1 := Lib.hid ((HRJ.out.below HA.out).below hb1)
               have HC1 := Lib.hid ((HCJ.out.below HA.out HOLT.out).below hb1 (by have := HOLT.out; rw [World.size_alloc]; omega))
               have HV1 := Lib.hid (HC.out.below hb1 (by rw [World.size_alloc]; omega))
               obtain ⟨y0, y1, y2, -, -⟩ := HV1.out
               simp only [Nat.zero_add] at y0 y1 y2
               clear hb1 v0 v1 v2
               go_wp2_with fail
               (with_reducible refine (part_put f s' b' g' ((t.p.fresh m n x y).putL (t.p.slMj m (k0 + j))) 2 ((k0 : Int) + (j : Int) + 1) ⟨#[]⟩ xk xn xs HOJ.out _ _ rfl rfl _ HR1.out.pt).mono ?_)
               rintro e w4 ⟨rfl, hp4, hk4⟩
               have HR2 := Lib.hid (HR1.out.put hp4 hk4)
               have HC2 := Lib.hid (HC1.out.kp hk4 HO9.out)
               clear hp4 hk4 y0 y1 y2
               go_wp2
               go_roundw
               case rel =>
                 refine ⟨j + 1, by have := HLT.out; omega, by go_num, ?_, ?_, HC2⟩
                 · rw [← Nat.add_assoc, HYES.out, PT.putL_snoc, HVV.out, HKJ.out]; exact HR2
                 · rw [← Nat.add_assoc, HYES.out, PT.putL_snoc, HVV.out, HKJ.out]
                   refine Lib.hid (PT.put_is HOJ.out (okV_iV _) ?_ (by show (2 : Int) ≠ 0; decide) ?_).1
                   · have := HOK.out.sf (k0 + j); rw [HVV.out] at this; exact this
                   · show In64 ((k0 : Int) + (j : Int) + 1); unfold In64; omega
               case measure => have := HLT.out; simp [intOf]; omega)
      · have hjN : k0 + j = N := by omega
        have HRN : Hid (RH w a s b g hp t F F' hs2 f s' b' g' ((t.p.fresh m n x y).putL (t.p.slM m)) wr) := Lib.hid (by have := HRJ.out; rw [hjN, ← HNN.out] at this; exact this)
        have HON : Hid (((t.p.fresh m n x y).putL (t.p.slM m)).ok) := Lib.hid (by have := HOJ.out; rw [hjN, ← HNN.out] at this; exact this)
        have c1 := HCJ.out.c1
        have j1 : ¬ ((j : Int) < ((N - k0 : Nat) : Int)) := by omega
        have HGZ := Lib.hid HOK.out.hg.sz
        have HOLT := Lib.hid HCJ.out.lt
        clear hjN hlt hj
        go_wp2_with fail
        (with_reducible refine (Nd_Dump b g t.p.h HGZ.out _ HRN.out.tb.pt.nd).mono ?_)
        rintro e w3 ⟨gd, cp, rfl, h1, h2, h3, h4, h5⟩
        have HR3 := Lib.hid (HRN.out.below h5)
        have HC3 := Lib.hid (HCJ.out.below h5 HOLT.out)
        have HD3 := Lib.hid h3
        have HGD : Hid (wr.heap.size ≤ gd ∧ gd < w3.heap.size) := Lib.hid ⟨h1, h2⟩
        have HB3' := Lib.hid h5
        clear h1 h2 h3 h4 h5 c1
        go_wp2_with fail
        (with_reducible refine (slices_Backward _ _ _ _).mono ?_)
        rintro e w4 ⟨rfl, rfl⟩
        go_wp2
        have HRB : Hid (RB (w3.heap.size + 1) w a s b g F' f s' b' g') := Lib.hid (HR3.out.rb.mono (by omega))
        have HFB : Hid (f + 1 < w3.heap.size + 1) := Lib.hid (by have := HC3.out.lt; omega)
        have HWS : Hid ((w3.alloc (.cells #[.slice (some ⟨gd, 0, none⟩) t.p.h.n cp] 39)).heap.size = w3.heap.size + 1) := Lib.hid (World.size_alloc _ _)
        have HWB : Hid (Below w3.heap.size w3 (w3.alloc (.cells #[.slice (some ⟨gd, 0, none⟩) t.p.h.n cp] 39))) := Lib.hid ((Below.refl _ w3).alloc (Nat.le_refl _) _)
        have HCB : Hid ((w3.alloc (.cells #[.slice (some ⟨gd, 0, none⟩) t.p.h.n cp] 39)).cell? ⟨w3.heap.size, 0, none⟩ = some (.slice (some ⟨gd, 0, none⟩) t.p.h.n cp)) := Lib.hid (by simp [go_sem])
        have HI0 : Hid (RI (w3.heap.size + 1) w a s b g hp t F F' hs2 f s' b' g' (t.p.fresh m n x y) (t.p.slM m) [] (w3.alloc (.cells #[.slice (some ⟨gd, 0, none⟩) t.p.h.n cp] 39))) := Lib.hid (by
          have e : t.p.slM m ++ t.p.ndMj [] = t.p.slM m := List.append_nil _
          refine ⟨by rw [e]; exact HR3.out.below HWB.out, by rw [e]; exact HON.out, HC3.out.below HWB.out HC3.out.lt, by rw [HWS.out]; exact Nat.le_refl _⟩)
        refine range_nodes (gf := 114) (lb := #[.pointer (some ⟨w3.heap.size, 0, none⟩)]) (h := t.p.h) (Bs := w3.heap.size) (gd := gd) rfl (enters_of Tryz.func114 (by kernel_rfl) rfl) (w3.heap.size + 1)
          (back_stops 4 (by decide) w3.heap.size gd cp t.p.h HGZ.out _ (by rw [HWS.out]; omega) (by rw [HWS.out]; have := HGD.out; omega) HCB.out (HD3.out.keep (HWB.out.block gd HGD.out.2))) (by rw [HWS.out]; omega) (by rw [HWS.out]; have := HGD.out; omega) HWS.out
          (fun pre W => RI (w3.heap.size + 1) w a s b g hp t F F' hs2 f s' b' g' (t.p.fresh m n x y) (t.p.slM m) pre W) (RI.own HRB.out HFB.out) HI0.out ?_ ?_ ?_
        · intro l pre i W K hI hK
          have HKK := Lib.hid hK; have HIp := Lib.hid hI
          clear hK hI
          unfold nodeX
          gi_wp2
          refine HKK.out _ _ (keepsFrom_below ((Below.refl _ W).alloc (Nat.le_refl _) _)) ⟨Below.heap_alloc _ _ _ (by have := HIp.out.sz; omega), Below.heap_alloc _ _ _ (by have := HIp.out.sz; have := HGD.out; omega)⟩ (HIp.out.belowB HRB.out HFB.out ((Below.refl _ W).alloc HIp.out.sz _)) ⟨W.heap.size, ⟨HIp.out.sz, heap_alloc_new W _⟩, by rfl⟩
        · intro l pre i a' W hI hax hl
          obtain ⟨q, hq, rfl⟩ := hax
          have HIp := Lib.hid hI; have HQ := Lib.hid hq
          have hC := hq.c7
          have HQL := Lib.hid hC.lt
          obtain ⟨xk, xn, xs, hv⟩ : ∃ xk xn xs, t.p.h.val i = ⟨xk, xn, xs⟩ := ⟨_, _, _, rfl⟩
          obtain ⟨yk, yn, ys, hk⟩ : ∃ yk yn ys, t.p.h.key i = ⟨yk, yn, ys⟩ := ⟨_, _, _, rfl⟩
          have HV := Lib.hid hv; have HY := Lib.hid hk
          unfold nodeX
          rw [hv, hk] at hC ⊢
          generalize PH.nxt _ _ _ = xx at hC ⊢
          have HC7 := Lib.hid hC
          obtain ⟨d0, d1, d2, d3, d4, d5, d6, -, -⟩ := hC
          simp only at d0 d1 d2 d3 d4 d5
          simp only [Nat.zero_add] at d0 d1 d2 d3 d4 d5 d6
          have HNB : Hid (¬ PB f s' b' g' w3.heap.size ∧ ¬ PB f s' b' g' gd) := Lib.hid ⟨fun h => by have := HR3.out.rb.n _ h; omega, fun h => by have := HRN.out.rb.n _ h; have := HGD.out; omega⟩
          clear hI hl hv hk hq
          by_cases e0 : xk = 0
          · have q0 : (xk != 0) = false := by simpa using e0
            have HNO := Lib.hid (t.p.ndMj_no pre i (by rw [HV.out]; exact e0))
            clear e0
            gi_wp2_with fail
            refine ⟨trivial, ?_⟩
            (refine ((callsIn_wide.2 (table_present xk xn xs false q0 _)).inRound l).mono ?_)
            rintro e W2 ⟨rfl, hb1⟩
            have HB2 := Lib.hid hb1
            clear hb1 d0 d1 d2 d3 d4 d5 d6
            gi_wp2
            refine ⟨keepsFrom_below HB2.out, ⟨HB2.out.block _ (by have := HIp.out.sz; omega), HB2.out.block _ (by have := HIp.out.sz; have := HGD.out; omega)⟩, ?_⟩
            have h1 := HIp.out.belowB HRB.out HFB.out (HB2.out.mono HIp.out.sz)
            exact ⟨by rw [HNO.out]; exact h1.rh, by rw [HNO.out]; exact h1.ok, h1.c4, h1.sz⟩
          · have q0 : (xk != 0) = true := by simpa using e0
            have HYES := Lib.hid (t.p.ndMj_yes pre i (by rw [HV.out]; exact e0))
            have HX0 := Lib.hid e0
            clear e0
            gi_wp2_with fail
            refine ⟨trivial, ?_⟩
            (refine ((callsIn_wide.2 (table_present xk xn xs true q0 _)).inRound l).mono ?_)
            rintro e W2 ⟨rfl, hb1⟩
            have HB2 := Lib.hid hb1
            have HI2 := Lib.hid (HIp.out.belowB HRB.out HFB.out (hb1.mono HIp.out.sz))
            have HC2 := Lib.hid (HC7.out.below hb1 HQL.out)
            clear hb1 d0 d1 d2 d3 d4 d5 d6
            obtain ⟨d0, d1, d2, d3, d4, d5, d6, -, -⟩ := HC2.out
            simp only at d0 d1 d2 d3 d4 d5
            simp only [Nat.zero_add] at d0 d1 d2 d3 d4 d5 d6
            gi_wp2_with fail
            refine ⟨trivial, ?_⟩
            (refine ((callsIn_wide.2 (part_put f s' b' g' ((t.p.fresh m n x y).putL (t.p.slM m ++ t.p.ndMj pre)) yk yn ys xk xn xs HI2.out.ok _ _ rfl rfl _ HI2.out.rh.pt)).inRound l).mono ?_)
            rintro e W4 ⟨rfl, hp4, hk4⟩
            have HP4 := Lib.hid hp4; have HK4 := Lib.hid hk4
            clear hp4 hk4 d0 d1 d2 d3 d4 d5 d6
            gi_wp2
            refine ⟨(keepsFrom_below HB2.out).trans (keepsFrom_kp HK4.out (fun q hq => HRB.out.n q hq)), ⟨(HK4.out.block _ (by have := HI2.out.sz; omega) HNB.out.1).trans (HB2.out.block _ (by have := HIp.out.sz; omega)), (HK4.out.block _ (by have := HI2.out.sz; have := HGD.out; omega) HNB.out.2).trans (HB2.out.block _ (by have := HIp.out.sz; have := HGD.out; omega))⟩, ?_⟩
            have e1 : (t.p.fresh m n x y).putL (t.p.slM m ++ t.p.ndMj (pre ++ [i])) = (((t.p.fresh m n x y).putL (t.p.slM m ++ t.p.ndMj pre)).put ⟨yk, yn, ys⟩ ⟨xk, xn, xs⟩).1 := by rw [HYES.out, ← List.append_assoc, PT.putL_snoc, HY.out, HV.out]
            refine ⟨by rw [e1]; exact HI2.out.rh.put HP4.out HK4.out, ?_, HI2.out.c4.kp HK4.out HO9.out, Nat.le_trans HI2.out.sz HK4.out.size⟩
            rw [e1]
            refine (PT.put_is HI2.out.ok ?_ ?_ ?_ ?_).1
            · have := HOK.out.hg.ok.form i; rw [HY.out] at this; exact this
            · have := HOK.out.vf i; rw [HV.out] at this; exact this
            · show yk ≠ 0
              intro e
              have h2 := (HOK.out.hg.ok.emp i (fun ho => by unfold PH.occ at ho; rw [HY.out] at ho; exact ho e)).2
              rw [HV.out] at h2
              exact HX0.out (congrArg V.k h2)
            · have := HOK.out.kin i; rw [HY.out] at this; exact this
        · intro D W hD hI hd
          have HD5 := Lib.hid hd; have HDB := Lib.hid hD
          have HRF : Hid (RH w a s b g hp t F F' hs2 f s' b' g' ((t.p.fresh m n x y).putL (t.p.moves m)) W) := Lib.hid (by have := hI.rh; rw [PT.ndMj_all] at this; exact this)
          have HCF := Lib.hid hI.c4
          have HWS2 := Lib.hid hI.sz
          obtain ⟨pn, hpn⟩ : ∃ pn, (t.p.fresh m n x y).putL (t.p.moves m) = pn := ⟨_, rfl⟩
          rw [hpn] at HRF
          have HPN := Lib.hid hpn
          clear hI hd hD hpn
          obtain ⟨d0, d1, d2, d3, -, -⟩ := (⟨HRF.out.pt.c0, HRF.out.pt.c1, HRF.out.pt.c2, HRF.out.pt.c3, HRF.out.pt.fa, HRF.out.pt.la⟩ : C4 W f (.slice (some ⟨s', 0, none⟩) pn.sn pn.sn) (.pointer (some ⟨b', 0, none⟩)) (.int .i64 pn.sAt) (.int .i64 pn.nAt))
          have c0 := HRF.out.tb.pt.c0; have c1 := HRF.out.tb.pt.c1; have c2 := HRF.out.tb.pt.c2; have c3 := HRF.out.tb.pt.c3; have c5 := HRF.out.tb.c5
          have f0 := HRF.out.tb.pt.fa 0; have f1 := HRF.out.tb.pt.fa 1; have f2 := HRF.out.tb.pt.fa 2; have f3 := HRF.out.tb.pt.fa 3; have f5 := HRF.out.tb.pt.fa 5
          go_wp2
          have hn : ¬ PB f s' b' g' a := fun h => by have := (HRF.out.new a h).1; have := (HRF.out.old a (.inl rfl)).1; omega
          have R := HRF.out.tb.repart HRF.out.pt hn
          have HR6 := Lib.hid R.1; have HK6 := Lib.hid R.2
          have HDW := Lib.hid (Array.getElem?_eq_some_iff.1 HD5.out).1
          have HDA : Hid (D ≠ a ∧ ¬ F' D) := Lib.hid ⟨fun e => by have := HRB.out.o a (.inl rfl); have := HDB.out; omega, fun h => by have := HRB.out.F D h; have := HDB.out; omega⟩
          have HC6 : Hid (C4 (((((W.setCell ⟨a, 0, none⟩ (.slice (some ⟨s', 0, none⟩) pn.sn pn.sn)).setCell ⟨a, 1, none⟩ (.pointer (some ⟨b', 0, none⟩))).setCell ⟨a, 2, none⟩ (.int .i64 pn.sAt)).setCell ⟨a, 3, none⟩ (.int .i64 pn.nAt)).setCell ⟨a, 5, none⟩ (.int .i64 0)) (f + 1) (.slice (some ⟨s, 0, none⟩) t.p.sn t.p.sn) (.pointer (some ⟨b, 0, none⟩)) (.int .i64 t.p.sAt) (.int .i64 t.p.nAt)) := Lib.hid (HCF.out.kp HK6.out (fun e => by have := (HRF.out.old a (.inl rfl)).1; have := HWF.out; omega))
          have HP6 := Lib.hid ((HRF.out.hq.wide (G := fun q => PB a s b g q ∨ F q) (fun q hq => .inr hq)).side HK6.out (fun q hq => by subst hq; exact ⟨(HRF.out.old q (.inl rfl)).2, .inl (.inl (.inl rfl))⟩))
          have HD6 := Lib.hid ((HK6.out.block D HDW.out HDA.out.1).trans HD5.out)
          have HDS6 := Lib.hid (Nat.lt_of_lt_of_le HDW.out HK6.out.size)
          have HN6 : Hid (∀ q, PB a s' b' g' q → ¬ F' q ∧ q < W.heap.size ∧ q ≠ D) := Lib.hid (fun q hq => by
            rcases hq with rfl | h
            · exact ⟨(HRF.out.old q (.inl rfl)).2, HRF.out.tb.pt.la, Ne.symm HDA.out.1⟩
            · exact ⟨(HRF.out.new q (.inr h)).2, HRF.out.pt.lt (.inr h), fun e => by have := HRB.out.n q (.inr h); have := HDB.out; omega⟩)
          have HSUB : Hid (∀ q, PB a s' b' g' q → PB a s b g q ∨ w.heap.size ≤ q) := Lib.hid (fun q hq => by
            rcases hq with rfl | h
            · exact .inl (.inl rfl)
            · exact .inr (HRF.out.new q (.inr h)).1)
          clear R hn c0 c1 c2 c3 c5 d0 d1 d2 d3 f0 f1 f2 f3 f5
          obtain ⟨W6, hW6⟩ : ∃ W6, (((((W.setCell ⟨a, 0, none⟩ (.slice (some ⟨s', 0, none⟩) pn.sn pn.sn)).setCell ⟨a, 1, none⟩ (.pointer (some ⟨b', 0, none⟩))).setCell ⟨a, 2, none⟩ (.int .i64 pn.sAt)).setCell ⟨a, 3, none⟩ (.int .i64 pn.nAt)).setCell ⟨a, 5, none⟩ (.int .i64 0)) = W6 := ⟨_, rfl⟩
          rw [hW6] at HR6 HK6 HC6 HP6 HD6 HDS6 ⊢
          have HWL := Lib.hid HK6.out.size
          clear hW6
          have c4 := HR6.out.c4
          have e2 := HC6.out.c2
          go_still_tail 6, (by kernel_rfl)
          change wpList _ _ _ _ _ W6.drew
          have HP7 := Lib.hid (HP6.out.below ((Below.refl _ W6).drew))
          go_wp2_with fail
          (with_reducible refine (Give_c F' hp hs2 t.p.sAt _ H64S.out rfl HSZ2.out _ HP7.out.at_).mono ?_)
          rintro e w7 ⟨rfl, hg⟩
          obtain ⟨F1, hP8, hs8, hk8⟩ := HP7.out.call hg
          have HP8 := Lib.hid hP8; have HS8 := Lib.hid hs8
          have HR8 := Lib.hid ((HR6.out.below ((Below.refl _ W6).drew)).kp hk8 (fun q hq => (HN6.out q hq).1))
          have HC8 := Lib.hid ((HC6.out.below ((Below.refl _ W6).drew) HC6.out.lt).kp hk8 (fun h => by have := HNF1.out _ h; have := HFE.out; omega))
          have HD8 := Lib.hid ((hk8.block D HDS6.out HDA.out.2).trans HD6.out)
          have HNF8 : Hid (∀ q, q < W6.heap.size → ¬ F' q → ¬ F1 q) := Lib.hid (fun q h1 h2 h3 => (hs8 q h3).elim h2 (fun h => absurd h (by show ¬ W6.heap.size ≤ q; omega)))
          have HW67 : Hid (W6.heap.size ≤ w7.heap.size) := Lib.hid hk8.size
          have HDS8 := Lib.hid (Nat.lt_of_lt_of_le HDS6.out (show W6.heap.size ≤ w7.heap.size from hk8.size))
          have HWL8 : Hid (W.heap.size ≤ w7.heap.size) := Lib.hid (Nat.le_trans HWL.out (show W6.heap.size ≤ w7.heap.size from hk8.size))
          have HSF8 : Hid (∀ q, F1 q → F q ∨ w.heap.size ≤ q) := Lib.hid (fun q h => (hs8 q h).elim (HRF.out.hq.sub q) (fun h => .inr (Nat.le_trans HP7.out.kp.size h)))
          clear hg hP8 hs8 hk8 c4 e2
          have c4 := HR8.out.c4
          have e3 := HC8.out.c3
          go_wp2
          go_still_tail 6, (by kernel_rfl)
          change wpList _ _ _ _ _ w7.drew
          have HP9 := Lib.hid (HP8.out.below ((Below.refl _ w7).drew))
          go_wp2_with fail
          (with_reducible refine (Give_c F1 hp (hs2.give t.p.sAt) t.p.nAt _ H64N.out rfl (by rw [HS.give_sizes]; exact HSZ2.out) _ HP9.out.at_).mono ?_)
          rintro e w9 ⟨rfl, hg⟩
          obtain ⟨F2, hP10, hs10, hk10⟩ := HP9.out.call hg
          have HP10 := Lib.hid hP10
          have HR10 := Lib.hid ((HR8.out.below ((Below.refl _ w7).drew)).kp hk10 (fun q hq => HNF8.out q (Nat.lt_of_lt_of_le (HN6.out q hq).2.1 HWL.out) (HN6.out q hq).1))
          have HD10 := Lib.hid ((hk10.block D HDS8.out (HNF8.out D HDS6.out HDA.out.2)).trans HD8.out)
          have HNF10 : Hid (∀ q, q < W6.heap.size → ¬ F' q → ¬ F2 q) := Lib.hid (fun q h1 h2 h3 => (hs10 q h3).elim (HNF8.out q h1 h2) (fun h => absurd h (by show ¬ w7.heap.size ≤ q; have := HP8.out.kp.size; have : W6.heap.size ≤ w7.heap.size := HW67.out; omega)))
          have HSF10 : Hid (∀ q, F2 q → F q ∨ w.heap.size ≤ q) := Lib.hid (fun q h => (hs10 q h).elim (HSF8.out q) (fun h => .inr (Nat.le_trans HP9.out.kp.size h)))
          clear hg hP10 hs10 hk10 c4 e3
          go_wp2
          refine ⟨by simp, .inl ⟨_, _, rfl, run_takeDeferred HD10.out, ?_⟩⟩
          have HFIN := fun o' => grown_kp (grownBy_putObj' w9 D o')
          refine ⟨_, results_tmp rfl _ _ _, rfl, s', b', g', F2, ?_, ?_, ?_, HSUB.out, HSF10.out, fun q hq => HNF10.out q (Nat.lt_of_lt_of_le (HN6.out q hq).2.1 HWL.out) (HN6.out q hq).1⟩
          · rw [HPN.out]; exact HR10.out.kp (HFIN _) (fun q hq => (HN6.out q hq).2.2)
          · exact HP10.out.at_.kp (HFIN _) (fun q hq e => HNF10.out D HDS6.out HDA.out.2 (e ▸ hq))
          · exact HP10.out.kp.trans (HFIN _) (fun q hq => .inr (by subst hq; have := HRB.out.w; have := HDB.out; omega))
end
end Go.Proofs.YteheolefemlcgaaGreat
