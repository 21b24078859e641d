/- Folded of TabG, TabI, TabJ, TabK, TabL. -/
import Derived.Test.YteheolefemlcgaaGreatTabW
import Derived.Deep.Slices
import Derived.WideShapes
import Derived.ChangeSlices
import Derived.ChangeOld
import Derived.ChangeArms
import Derived.SizedLaws
import Derived.OpenShut
import Derived.ProofKit
import Derived.Lib.SmallJoins
/- The first calls of the table's laws: values, cells, the fixed answers. -/
namespace Go.Proofs.YteheolefemlcgaaGreat
open Go.RowKit
set_option linter.unusedVariables false
set_option linter.unusedSimpArgs false

theorem ref3_I (n : Int) (w : World) : Calls Tryz.prog 47 #[.int .i64 n] w fun e w' => e = .returned (.agg #[.int .i64 2, .int .i64 n, .string ⟨#[]⟩]) ∧ Below w.heap.size w w' := by
  have HC := Lib.hid (C3.new w 0 0 ⟨#[]⟩)
  obtain ⟨c0, c1, c2, cf, -⟩ := HC.out
  have cf0 := cf 0; have cf1 := cf 1; have cf2 := cf 2
  clear cf
  go_enter Tryz.func47, Tryz.ntmps47
  go_wp2
  exact bodyPost_ret (v := .agg #[.int .i64 2, .int .i64 n, .string ⟨#[]⟩]) (by simp [results, Tryz.results47, go_sem, cell_set_self, *]) rfl ⟨rfl, (Below.refl _ w).alloc (Nat.le_refl _) _⟩
theorem ref3_S (s : ByteArray) (w : World) : Calls Tryz.prog 15 #[.string s] w fun e w' => e = .returned (.agg #[.int .i64 3, .int .i64 0, .string s]) ∧ Below w.heap.size w w' := by
  have HC := Lib.hid (C3.new w 0 0 ⟨#[]⟩)
  obtain ⟨c0, c1, c2, cf, -⟩ := HC.out
  have cf0 := cf 0; have cf1 := cf 1; have cf2 := cf 2
  clear cf
  go_enter Tryz.func15, Tryz.ntmps15
  go_wp2
  exact bodyPost_ret (v := .agg #[.int .i64 3, .int .i64 0, .string s]) (by simp [results, Tryz.results15, go_sem, cell_set_self, *]) rfl ⟨rfl, (Below.refl _ w).alloc (Nat.le_refl _) _⟩
end Go.Proofs.YteheolefemlcgaaGreat
/- New: the account. -/
namespace Go.Proofs.YteheolefemlcgaaGreat
open Go.RowKit
set_option linter.unusedVariables false
set_option linter.unusedSimpArgs false

theorem newT_ok (hs : HS) (m n : Int) (he : newE hs m n = 0) : (newT hs m n).p.ok := by
  unfold newE at he
  by_cases hb : ¬ (0 ≤ m ∧ m ≤ 65536) ∨ ¬ (0 ≤ n ∧ n ≤ 65536)
  · rw [if_pos hb] at he; simp at he
  · obtain ⟨hm, hn⟩ : (0 ≤ m ∧ m ≤ 65536) ∧ (0 ≤ n ∧ n ≤ 65536) := by omega
    obtain ⟨n', rfl⟩ : ∃ k : Nat, n = k := ⟨n.toNat, by omega⟩
    obtain ⟨c, hc, hc6, hpw, hcE, -⟩ := ceil_is n' (by omega)
    refine ⟨?_, ?_, fun i => okV_nil, fun i => okV_nil, fun i hi => absurd rfl hi, fun i => ?_⟩
    · show (PH.new (Ws.ceil2 n').toNat).good
      rw [hc]; exact PT.good_new c hc6 hpw
    · show m.toNat ≤ 65536; omega
    · show In64 nilV.n; unfold In64 nilV; simp
theorem newH_ok {hs : HS} (H : hs.ok) (m n : Int) : (newH hs m n).ok := by
  unfold newH
  split
  · exact H
  · split
    · exact H
    · split
      · exact HS.ok_give (layH_ok (HS.ok_take H _) _ _) _
      · exact layH_ok (HS.ok_take H _) _ _
theorem newH_sizes (hs : HS) (m n : Int) : (newH hs m n).sizes.length ≤ hs.sizes.length + 3 := by
  have h1 := HS.take_sizes hs 4
  have h2 := layH_sizes (hs.take 4) m (Ws.ceil2 n)
  unfold newH
  split
  · omega
  · split
    · omega
    · split
      · rw [HS.give_sizes]; omega
      · omega
/-- A new table and the account. -/
theorem Acc.made {B A : OT} {hs : HS} {n : Nat} (H : Acc none B hs n) (hn : n ≤ 800000) (m k : Int) (hA : NewO hs m k A) : Acc A B (newH hs m k) (n + 3) := by
  have hz := newH_sizes hs m k
  have hok := newH_ok H.hok m k
  have hsz := H.sz
  have hlive : hs.live = B.cells := by have := H.live; show hs.live = B.cells; rw [this]; exact Int.zero_add _
  rcases hA with ⟨rfl, he⟩ | ⟨a, rfl, he⟩
  · suffices (newH hs m k).live = hs.live ∧ ∀ id q, hs.bears id q → (newH hs m k).bears id q by
      obtain ⟨h1, h2⟩ := this
      exact ⟨hok, by omega, fun x h => by simp at h, fun y hy => ⟨(H.b y hy).1, (H.b y hy).2.1, ⟨h2 _ _ (H.b y hy).2.2.s, h2 _ _ (H.b y hy).2.2.n, (H.b y hy).2.2.ne⟩⟩, fun x y h => by simp at h, by rw [h1, hlive]; exact (Int.zero_add _).symm⟩
    unfold newE at he
    unfold newH
    split
    · exact ⟨rfl, fun _ _ h => h⟩
    · rename_i hb
      rw [if_neg hb] at he
      split
      · exact ⟨rfl, fun _ _ h => h⟩
      · rename_i h4
        rw [if_neg h4] at he
        obtain ⟨b1, b2, b3, b4, b5⟩ := HS.take_bears H.hok (n := 4) (by simpa using h4)
        rw [if_pos he]
        obtain ⟨c1, c2, c3, c4⟩ := layH_no b3 he
        obtain ⟨d1, d2, d3, d4⟩ := HS.give_bears c1 (c4 _ _ b1)
        exact ⟨by omega, fun id q h => d4 id q (c4 _ _ (b5 id q h).1) (b5 id q h).2⟩
  · have hT := newT_ok hs m k he
    unfold newE at he
    unfold newH at hz hok ⊢
    by_cases hb : ¬ (0 ≤ m ∧ m ≤ 65536) ∨ ¬ (0 ≤ k ∧ k ≤ 65536)
    · rw [if_pos hb] at he; simp at he
    · rw [if_neg hb] at he hz hok ⊢
      by_cases h4 : hs.roomE 4 ≠ 0
      · rw [if_pos h4] at he; exact absurd he h4
      · rw [if_neg h4] at he hz hok ⊢
        rw [if_neg (by rw [he]; simp)] at hz hok ⊢
        obtain ⟨hm, hk⟩ : (0 ≤ m ∧ m ≤ 65536) ∧ (0 ≤ k ∧ k ≤ 65536) := by omega
        obtain ⟨k', rfl⟩ : ∃ q : Nat, k = q := ⟨k.toNat, by omega⟩
        obtain ⟨c, hc, hc6, hpw, hcE, -⟩ := ceil_is k' (by omega)
        obtain ⟨b1, b2, b3, b4, b5⟩ := HS.take_bears H.hok (n := 4) (by simpa using h4)
        obtain ⟨c1, c2, c3, c4, c5, c6, c7⟩ := layH_yes b3 he
        have e1 : (newT hs m k').p.sn = m.toNat := rfl
        have e2 : (newT hs m k').p.h.n = c := by show (Ws.ceil2 k').toNat = c; rw [hc]; rfl
        have e3 : (newT hs m k').p.sAt = layA (hs.take 4) m := rfl
        have e4 : (newT hs m k').p.nAt = layN (hs.take 4) m (Ws.ceil2 k') := rfl
        have em : ((m.toNat : Nat) : Int) = m := by omega
        have t1 := HS.take_sizes hs 4
        have t2 := HS.take_sizes (hs.take 4) m
        refine ⟨hok, by omega, fun x hx => ?_, fun y hy => ?_, fun x y hx hy => ?_, ?_⟩
        · obtain rfl := Option.some.inj hx
          refine ⟨hT, ⟨takeId_in b3 _ (by omega), takeId_in (HS.ok_take b3 _) _ (by omega)⟩, ⟨?_, ?_, ?_⟩⟩
          · show HS.bears _ (newT hs m k').p.sAt ((newT hs m k').p.sn : Int)
            rw [e3, e1, em]; exact c4
          · show HS.bears _ (newT hs m k').p.nAt (3 * ((newT hs m k').p.h.n : Int))
            rw [e4, e2, ← hc]; exact c5
          · show (newT hs m k').p.sAt = (newT hs m k').p.nAt → (newT hs m k').p.sAt = 0
            rw [e3, e4]; exact c6
        · obtain ⟨y1, y2, y3⟩ := H.b y hy
          exact ⟨y1, y2, ⟨(c7 _ _ (b5 _ _ y3.s).1).1, (c7 _ _ (b5 _ _ y3.n).1).1, y3.ne⟩⟩
        · obtain rfl := Option.some.inj hx
          obtain ⟨y1, y2, y3⟩ := H.b y hy
          have p1 := (c7 _ _ (b5 _ _ y3.s).1).2
          have p2 := (c7 _ _ (b5 _ _ y3.n).1).2
          exact ⟨p1, p2⟩
        · show _ = 4 + ((newT hs m k').p.sn + 3 * ((newT hs m k').p.h.n : Int)) + B.cells
          rw [e1, e2, em, c2, b2, hlive, hc]; omega
end Go.Proofs.YteheolefemlcgaaGreat
/- The fixed answers of the table's laws. -/
namespace Go.Proofs.YteheolefemlcgaaGreat
open Go.RowKit
set_option linter.unusedVariables false
set_option linter.unusedSimpArgs false

def sV (s : ByteArray) : V := ⟨3, 0, s⟩
abbrev bA : ByteArray := { data := #[97] }
abbrev bX : ByteArray := { data := #[120] }
abbrev bY : ByteArray := { data := #[121] }
def f0 : Tbl × HS := (newT (HS.new 100) 0 0, newH (HS.new 100) 0 0)
def stp (x : Tbl × HS) (k v : V) : Tbl × HS := ((x.1.set x.2 k v).1, (x.1.set x.2 k v).2.1)
def f1 := stp f0 (iV 1) (sV bA)
def f2 := stp f1 (iV 2) (sV bA)
def f3 := stp f2 (iV 3) (sV bA)
def f4 := stp f3 (iV 4) (sV bA)
def f5 := stp f4 (sV bX) (iV 1)
def f6 := stp f5 (sV bY) (iV 2)
def fN : Nat → Tbl × HS
  | 0 => f0
  | 1 => f1
  | 2 => f2
  | 3 => f3
  | _ => f4
theorem fN_succ (i : Nat) (hi : i < 4) : fN (i + 1) = stp (fN i) (iV ((i : Int) + 1)) (sV bA) := by
  match i, hi with
  | 0, _ => rfl
  | 1, _ => rfl
  | 2, _ => rfl
  | 3, _ => rfl
theorem f0_is : newE (HS.new 100) 0 0 = 0 := by decide +kernel
theorem f6_stats : (f6.1.p.sn : Int) = 4 ∧ (f6.1.p.h.n : Int) = 2 ∧ (f6.1.p.h.free : Int) = 2 ∧ f6.1.hint = 0 ∧ f6.2.live = 14 := by decide +kernel
theorem f6_get : f6.1.get ⟨2, 3, ⟨#[]⟩⟩ = ⟨3, 0, bA⟩ := by decide +kernel
theorem f6_getx : (f6.1.read ⟨2, 3, ⟨#[]⟩⟩).get ⟨3, 0, bX⟩ = ⟨2, 1, ⟨#[]⟩⟩ := by decide +kernel
/-- The fixed table and its heap. -/
structure FX (w0 : World) (hp a : Nat) (x : Tbl × HS) (n : Nat) (w : World) : Prop where
  t : TT w0 (fun _ => False) hp (some (a, x.1)) none x.2 w
  k : TOK x.1 x.2 n
section
variable {w0 w w' : World} {hp a n : Nat} {x : Tbl × HS}
theorem FX.below (H : FX w0 hp a x n w) (hb : Below w.heap.size w w') : FX w0 hp a x n w' := ⟨H.t.below hb, H.k⟩
theorem FX.ok (H : FX w0 hp a x n w) : OT.fit (some (a, x.1)) := ⟨H.k.ok, H.k.ids⟩
theorem FX.set (H : FX w0 hp a x n w) (hn : n ≤ 100) (kk kn : Int) (ks : ByteArray) (vk vn : Int) (vs : ByteArray) (h64 : In64 kn) : Calls Tryz.prog 12 #[.pointer (some ⟨a, 0, none⟩), .agg #[.int .i64 kk, .int .i64 kn, .string ks], .agg #[.int .i64 vk, .int .i64 vn, .string vs]] w fun e w' => ∃ er, e = .returned (.int .i64 er) ∧ FX w0 hp a (stp x ⟨kk, kn, ks⟩ ⟨vk, vn, vs⟩) (n + 2) w' := by
  refine (Set_t H.t H.ok (by have := H.k.sz; omega) kk kn ks vk vn vs h64 _ rfl).mono ?_
  rintro e w' ⟨he, h1, -⟩
  exact ⟨_, he, h1, set_keeps (k := ⟨kk, kn, ks⟩) H.k (by omega) h64⟩
theorem FX.get (H : FX w0 hp a x n w) (kk kn : Int) (ks : ByteArray) (vk vn : Int) (vs : ByteArray) (hv : x.1.get ⟨kk, kn, ks⟩ = ⟨vk, vn, vs⟩) : Calls Tryz.prog 18 #[.pointer (some ⟨a, 0, none⟩), .agg #[.int .i64 kk, .int .i64 kn, .string ks]] w fun e w' => e = .returned (.agg #[.int .i64 vk, .int .i64 vn, .string vs]) ∧ FX w0 hp a (x.1.read ⟨kk, kn, ks⟩, x.2) n w' := by
  obtain ⟨⟨⟨F, D, E, h1, ⟨s, b, g, hT, hD⟩, h3, h4, h5, h6, h7, h8, h9⟩, h10, h11⟩, hk⟩ := H
  refine (tab_Get a s b g hp x.1 kk kn ks hk.ok vk vn vs hv w hT).mono ?_
  rintro e w' ⟨he, hT', hkp⟩
  refine ⟨he, ⟨(TT.turn (A' := some (a, x.1.read ⟨kk, kn, ks⟩)) (D' := PB a s b g) h3 h4 h5 h6 h8 h9 h10 h11 hkp (fun q hq => .inr (hD q (.inl hq))) ⟨s, b, g, hT', fun _ h => h⟩ (h1.kp hkp (fun q hq e => h7 q (hD q (.inl e)) hq)) (fun q hq => .inl (hD q hq)) (fun q hq => .inl hq) (fun q hq => h7 q (hD q hq)) (fun q hq => hT'.pt.lt hq)).1, ?_⟩⟩
  have e2 : (x.1.read ⟨kk, kn, ks⟩).p = x.1.p := by unfold Tbl.read; split <;> rfl
  exact ⟨by rw [e2]; exact hk.ok, by rw [e2]; exact hk.ids, hk.hok, hk.sz⟩
theorem FX.stats (H : FX w0 hp a x n w) (q1 q2 q3 q4 : Int) (e1 : (x.1.p.sn : Int) = q1) (e2 : (x.1.p.h.n : Int) = q2) (e3 : (x.1.p.h.free : Int) = q3) (e4 : x.1.hint = q4) : Calls Tryz.prog 20 #[.pointer (some ⟨a, 0, none⟩)] w fun e w' => e = .returned (.agg #[.int .i64 q1, .int .i64 q2, .int .i64 q3, .int .i64 q4]) ∧ FX w0 hp a x n w' := by
  have HH := H
  obtain ⟨⟨⟨F, D, E, h1, ⟨s, b, g, hT, hD⟩, -⟩, -⟩, -⟩ := H
  refine (tab_Stats a s b g hp x.1 q1 q2 q3 q4 e1 e2 e3 e4 w hT).mono ?_
  rintro e w' ⟨he, hb⟩
  exact ⟨he, HH.below hb⟩
theorem FX.bel (H : FX w0 hp a x n w) : Below w0.heap.size w0 w := H.t.bel
end
set_option maxRecDepth 100000 in
set_option maxHeartbeats 1600000 in
theorem law08_fixed (w : World) : Calls Tryz.prog 9 #[] w fun e w' => e = .returned (.bool true) ∧ Below w.heap.size w w' := by
  have HS0 := Lib.hid f6_stats
  have HG := Lib.hid f6_get; have HGX := Lib.hid f6_getx
  have hf2 : ∀ (a b c d : Int) (W : World), (Instr.field 56 (.agg #[.int .i64 a, .int .i64 b, .int .i64 c, .int .i64 d]) 2).run Tryz.prog W = .ok (.int .i64 c) W := fun a b c d W => by rfl
  have HNEW : Hid (∀ W hp, TT w (fun _ => False) hp none none (HS.new 100) W → Calls Tryz.prog 46 #[.pointer (some ⟨hp, 0, none⟩), .int .i64 0, .int .i64 0] W fun e w' => ∃ a, e = .returned (.tuple #[.pointer (some ⟨a, 0, none⟩), .int .i64 0]) ∧ FX w hp a f0 3 w') := Lib.hid (fun W hp H => by
    refine (New_t H (by simp [HS.new]) 0 0 0 f0_is).mono ?_
    rintro e w' ⟨A, he, hA, hT, -⟩
    rcases hA with ⟨-, h⟩ | ⟨a, rfl, -⟩
    · exact absurd f0_is h
    · have h2 := (Acc.new 100 (by decide) (by decide)).made (by decide) 0 0 (.inr ⟨a, rfl, f0_is⟩)
      exact ⟨a, he, hT, (h2.a _ rfl).1, (h2.a _ rfl).2.1, h2.hok, h2.sz⟩)
  go_enter Tryz.func9, Tryz.ntmps9
  go_wp2_with fail
  (with_reducible refine (New_h w 100 (by decide) (by decide) _ (fun _ => False) (fun _ h => h.elim) (Below.refl _ _)).mono ?_)
  rintro e w1 ⟨hp, rfl, hT, -⟩
  have HT := Lib.hid hT
  clear hT
  go_wp2_with fail
  (with_reducible refine (HNEW.out _ hp HT.out).mono ?_)
  rintro e w2 ⟨a, rfl, hX⟩
  have HX := Lib.hid hX
  clear hX
  go_wp2
  go_loopw [5] (fun i wr => ∃ j : Nat, j ≤ 4 ∧ i = .int .i64 ((j : Int) + 1) ∧ Hid (FX w hp a (fN j) (3 + 2 * j) wr)) (fun i _ => 5 - (intOf i).toNat)
  case atStart => exact ⟨0, by omega, rfl, HX⟩
  case round =>
    clear HX HT
    obtain ⟨j, hj, rfl, HX⟩ := hrel
    by_cases hj4 : j < 4
    · have dj : decide ((j : Int) + 1 ≤ 4) = true := by simp; omega
      go_wp2_with fail
      (with_reducible refine (ref3_I _ _).mono ?_)
      rintro e w3 ⟨rfl, hb⟩
      have HX3 := Lib.hid (HX.out.below hb)
      clear hb
      go_wp2_with fail
      (with_reducible refine (ref3_S _ _).mono ?_)
      rintro e w4 ⟨rfl, hb⟩
      have HX4 := Lib.hid (HX3.out.below hb)
      clear hb
      go_wp2_with fail
      (with_reducible refine (HX4.out.set (by omega) 2 ((j : Int) + 1) ⟨#[]⟩ 3 0 _ (by unfold In64; omega)).mono ?_)
      rintro e w5 ⟨er, rfl, hx⟩
      have HX5 := Lib.hid (show FX w hp a (fN (j + 1)) (3 + 2 * (j + 1)) w5 by rw [fN_succ j hj4]; exact hx)
      clear hx
      go_wp2
      go_roundw
      case rel => exact ⟨j + 1, by omega, by go_num, HX5⟩
      case measure => simp [intOf]; omega
    · obtain rfl : j = 4 := by omega
      have HX1 : Hid (FX w hp a f4 11 wr) := HX
      clear HX
      go_wp2_with fail
      (with_reducible refine (ref3_S _ _).mono ?_)
      rintro e w3 ⟨rfl, hb⟩
      have HX3 := Lib.hid (HX1.out.below hb)
      clear hb
      go_wp2_with fail
      (with_reducible refine (ref3_I _ _).mono ?_)
      rintro e w4 ⟨rfl, hb⟩
      have HX4 := Lib.hid (HX3.out.below hb)
      clear hb
      go_wp2_with fail
      (with_reducible refine (HX4.out.set (by omega) 3 0 _ 2 1 ⟨#[]⟩ (by unfold In64; omega)).mono ?_)
      rintro e w5 ⟨er, rfl, hx⟩
      have HX5 := Lib.hid (show FX w hp a f5 13 w5 from hx)
      clear hx
      go_wp2_with fail
      (with_reducible refine (ref3_S _ _).mono ?_)
      rintro e w6 ⟨rfl, hb⟩
      have HX6 := Lib.hid (HX5.out.below hb)
      clear hb
      go_wp2_with fail
      (with_reducible refine (ref3_I _ _).mono ?_)
      rintro e w7 ⟨rfl, hb⟩
      have HX7 := Lib.hid (HX6.out.below hb)
      clear hb
      go_wp2_with fail
      (with_reducible refine (HX7.out.set (by omega) 3 0 _ 2 2 ⟨#[]⟩ (by unfold In64; omega)).mono ?_)
      rintro e w8 ⟨er, rfl, hx⟩
      have HX8 := Lib.hid (show FX w hp a f6 15 w8 from hx)
      clear hx HX1 HX3 HX4 HX5 HX6 HX7
      go_wp2_with fail
      (with_reducible refine (HX8.out.stats 4 2 2 0 HS0.out.1 HS0.out.2.1 HS0.out.2.2.1 HS0.out.2.2.2.1).mono ?_)
      rintro e w9 ⟨rfl, hx⟩
      have HX9 := Lib.hid hx
      clear hx
      go_wp2_with fail
      (with_reducible refine (HX9.out.stats 4 2 2 0 HS0.out.1 HS0.out.2.1 HS0.out.2.2.1 HS0.out.2.2.2.1).mono ?_)
      rintro e w10 ⟨rfl, hx⟩
      have HX10 := Lib.hid hx
      clear hx
      go_wp2_with fail
      (with_reducible refine (ref3_I _ _).mono ?_)
      rintro e w11 ⟨rfl, hb⟩
      have HX11 := Lib.hid (HX10.out.below hb)
      clear hb
      go_wp2_with fail
      (with_reducible refine (HX11.out.get 2 3 ⟨#[]⟩ 3 0 bA HG.out).mono ?_)
      rintro e w12 ⟨rfl, hx⟩
      have HX12 := Lib.hid hx
      clear hx
      go_wp2_with fail
      (with_reducible refine (ref3_S _ _).mono ?_)
      rintro e w13 ⟨rfl, hb⟩
      have HX13 := Lib.hid (HX12.out.below hb)
      clear hb
      go_wp2_with fail
      (with_reducible refine (ref3_S _ _).mono ?_)
      rintro e w14 ⟨rfl, hb⟩
      have HX14 := Lib.hid (HX13.out.below hb)
      clear hb
      go_wp2_with fail
      (with_reducible refine (HX14.out.get 3 0 bX 2 1 ⟨#[]⟩ HGX.out).mono ?_)
      rintro e w15 ⟨rfl, hx⟩
      have HX15 := Lib.hid hx
      clear hx
      go_wp2_with fail
      (with_reducible refine (ref3_I _ _).mono ?_)
      rintro e w16 ⟨rfl, hb⟩
      have HX16 := Lib.hid (HX15.out.below hb)
      clear hb
      go_wp2_with fail
      (with_reducible refine (Live_t 14 HS0.out.2.2.2.2 HX16.out.t).mono ?_)
      rintro e w17 ⟨rfl, rfl⟩
      go_wp2
      go_ret
      exact ⟨rfl, HX16.out.bel⟩
end Go.Proofs.YteheolefemlcgaaGreat
/- A case of the table's laws that came in: what the reading says. -/
namespace Go.Proofs.YteheolefemlcgaaGreat
open Go.RowKit Go.Joins Go.ChangeShapes Go.WideShapes Go.Deep Go.ChangeAt
set_option linter.unusedVariables false
set_option linter.unusedSimpArgs false

def In64V (v : V) : Prop := In64 v.k ∧ In64 v.n
/-- One operation's key and value, in the cells that follow its kind. -/
structure COp (w : World) (b o : Nat) (x : V × V) : Prop where
  k0 : w.cell? ⟨b, o + 1, none⟩ = some (.int .i64 x.1.k)
  k1 : w.cell? ⟨b, o + 2, none⟩ = some (.int .i64 x.1.n)
  k2 : w.cell? ⟨b, o + 3, none⟩ = some (.string x.1.s)
  v0 : w.cell? ⟨b, o + 4, none⟩ = some (.int .i64 x.2.k)
  v1 : w.cell? ⟨b, o + 5, none⟩ = some (.int .i64 x.2.n)
  v2 : w.cell? ⟨b, o + 6, none⟩ = some (.string x.2.s)
def opAt (l : List (V × V)) (j : Nat) : V × V := l.getD j (nilV, nilV)
/-- The row of operations. -/
def TOps (w : World) (A : Option Addr) (l : List (V × V)) : Prop := 0 < l.length → ∃ b o, A = some ⟨b, o, none⟩ ∧ b < w.heap.size ∧ ∀ j, j < l.length → COp w b (o + j * 8) (opAt l j)
/-- A case: the heap's limit, the sizes, the operations. -/
structure CX where
  lim : Int
  arr : Int
  hsh : Int
  A : Option Addr
  c : Nat
  l : List (V × V)
def CX.val (x : CX) : Value := .agg #[.int .i64 x.lim, .int .i64 x.arr, .int .i64 x.hsh, .slice x.A x.l.length x.c]
structure CSA (W : World) (v : Value) (x : CX) : Prop where
  e : v = x.val
  l0 : In64 x.lim
  l1 : In64 x.arr
  l2 : In64 x.hsh
  le : x.l.length ≤ x.c
  mx : x.c ≤ 9223372036854775807
  ops : TOps W x.A x.l
  in_ : ∀ y ∈ x.l, In64V y.1 ∧ In64V y.2
theorem trod_i64 {H : Type} {enc : TypeId × Value → H} {W : World} {base : Nat} {spare : Nat → Bool} {held : Bool} {n : Nat} {c : Value} {y : DataW H × List MemPlace} (f : DataW.trod enc Tryz.prog W base spare held n 3 [c] = some y) : ∃ k, c = .int .i64 k ∧ In64 k := by
  obtain ⟨k, e0, -, w0⟩ := DataW.trod_int Tryz.underlying3 f
  simp only [List.cons.injEq, and_true] at e0
  exact ⟨k, e0, bounds_i64 w0⟩
set_option maxRecDepth 100000 in
theorem trod_val {H : Type} {enc : TypeId × Value → H} {W : World} {base : Nat} {spare : Nat → Bool} {held : Bool} {n : Nat} {c0 c1 c2 : Value} {y : DataW H × List MemPlace} (f : DataW.trod enc Tryz.prog W base spare held n 35 [c0, c1, c2] = some y) : ∃ x : V, In64V x ∧ c0 = .int .i64 x.k ∧ c1 = .int .i64 x.n ∧ c2 = .string x.s := by
  have hI : Tryz.prog.cellsOf 3 = 1 := by kernel_rfl
  have hS : Tryz.prog.cellsOf 9 = 1 := by kernel_rfl
  obtain ⟨ys, n', -, -, -, hyl, hfl⟩ := DataW.trod_struct Tryz.underlying35 f
  match ys, hyl with
  | [y0, y1, y2], _ =>
    have g0 := hfl 0 _ rfl
    have g1 := hfl 1 _ rfl
    have g2 := hfl 2 _ rfl
    have f0 : DataW.trod enc Tryz.prog W base spare held n' 3 (List.take (Tryz.prog.cellsOf 3) [c0, c1, c2]) = some y0 := g0
    have f1 : DataW.trod enc Tryz.prog W base spare held n' 3 (List.take (Tryz.prog.cellsOf 3) [c1, c2]) = some y1 := g1
    have f2 : DataW.trod enc Tryz.prog W base spare held n' 9 (List.take (Tryz.prog.cellsOf 9) [c2]) = some y2 := g2
    rw [hI] at f0 f1
    rw [hS] at f2
    simp only [List.take_succ_cons, List.take_zero] at f0 f1 f2
    obtain ⟨k, rfl, w0⟩ := trod_i64 f0
    obtain ⟨q, rfl, w1⟩ := trod_i64 f1
    obtain ⟨s, e2, -, w2⟩ := DataW.trod_string Tryz.underlying9 f2
    simp only [List.cons.injEq, and_true] at e2
    exact ⟨⟨k, q, s⟩, ⟨w0, w1⟩, rfl, rfl, e2⟩
set_option maxRecDepth 100000 in
theorem opens_case {H : Type} {enc : TypeId × Value → H} {W : World} {base : Nat} {spare : Nat → Bool} {held : Bool} {r : Reach} {b0 : Nat} {v : Value} {d : DataW H} {p : List MemPlace} {ts : List TypeId} {ds : List (DataW H)} {j : Nat}
    (hv : Value.okWide Tryz.prog W r b0 24 v) (h : DataW.Trod enc Tryz.prog W base spare held 24 v d p) (hsz : (DataW.weightsEach Tryz.prog ts ds).all (· ≤ reachBytes) = true) (ht : ts[j]? = some 24) (hd : ds[j]? = some d) : ∃ x : CX, CSA W v x := by
  obtain ⟨v0, v1, v2, v3, y0, y1, y2, y3, n, rfl, -, -, h0, h1, h2, hf⟩ := open_agg4 Tryz.underlying24 (by kernel_rfl) (by kernel_rfl) hv h
  obtain ⟨k0, rfl, i0⟩ := trod_i64 h0
  obtain ⟨k1, rfl, i1⟩ := trod_i64 h1
  obtain ⟨k2, rfl, i2⟩ := trod_i64 h2
  have hf' : DataW.trod enc Tryz.prog W base spare held n 22 [v3] = some y3 := hf
  rcases open_slice Tryz.underlying22 hf' with ⟨hcs, _⟩ | ⟨ad, len, cap, m, n, D, Pl, hcs, hb, hl, hm, hmm, hx, hi⟩
  · simp only [List.cons.injEq, and_true] at hcs
    subst hcs
    exact ⟨⟨k0, k1, k2, none, 0, []⟩, rfl, i0, i1, i2, Nat.le_refl _, by simp, fun h => by simp at h, fun y hy => by simp at hy⟩
  · simp only [List.cons.injEq, and_true] at hcs
    subst hcs
    have hC : Tryz.prog.cellsOf 37 = 8 := by kernel_rfl
    have hI : Tryz.prog.cellsOf 3 = 1 := by kernel_rfl
    have hV : Tryz.prog.cellsOf 35 = 3 := by kernel_rfl
    have key : ∀ i, i < len → ∃ x : V × V, (In64V x.1 ∧ In64V x.2) ∧ W.cell? ((ad.add (i * 8)).add 0) ≠ none ∧ W.cell? ((ad.add (i * 8)).add 1) = some (.int .i64 x.1.k) ∧ W.cell? ((ad.add (i * 8)).add 2) = some (.int .i64 x.1.n) ∧ W.cell? ((ad.add (i * 8)).add 3) = some (.string x.1.s) ∧ W.cell? ((ad.add (i * 8)).add 4) = some (.int .i64 x.2.k) ∧ W.cell? ((ad.add (i * 8)).add 5) = some (.int .i64 x.2.n) ∧ W.cell? ((ad.add (i * 8)).add 6) = some (.string x.2.s) := by
      intro i h
      obtain ⟨cs', hc, ht'⟩ := hi i (by rw [hmm]; split <;> omega)
      rw [hC] at hc
      obtain ⟨_, hcl, hat⟩ := World.cells?_some hc
      obtain ⟨ys, n', -, -, -, hyl, hfl⟩ := DataW.trod_struct Tryz.underlying37 ht'
      match cs', hcl with
      | [c0, c1, c2, c3, c4, c5, c6, c7], _ =>
        match ys, hyl with
        | [y0, y1, y2, y3], _ =>
          have g1 := hfl 1 _ rfl
          have g2 := hfl 2 _ rfl
          have f1 : DataW.trod enc Tryz.prog W base spare held n' 35 (List.take (Tryz.prog.cellsOf 35) [c1, c2, c3, c4, c5, c6, c7]) = some y1 := g1
          have f2 : DataW.trod enc Tryz.prog W base spare held n' 35 (List.take (Tryz.prog.cellsOf 35) [c4, c5, c6, c7]) = some y2 := g2
          rw [hV] at f1 f2
          simp only [List.take_succ_cons, List.take_zero] at f1 f2
          obtain ⟨x, hx, rfl, rfl, rfl⟩ := trod_val f1
          obtain ⟨z, hz, rfl, rfl, rfl⟩ := trod_val f2
          exact ⟨(x, z), ⟨hx, hz⟩, by rw [hat 0 (by omega)]; simp, by rw [hat 1 (by omega)]; rfl, by rw [hat 2 (by omega)]; rfl, by rw [hat 3 (by omega)]; rfl, by rw [hat 4 (by omega)]; rfl, by rw [hat 5 (by omega)]; rfl, by rw [hat 6 (by omega)]; rfl⟩
    obtain ⟨g, hg⟩ : ∃ g : Nat → V × V, ∀ i, i < len → (In64V (g i).1 ∧ In64V (g i).2) ∧ W.cell? ((ad.add (i * 8)).add 0) ≠ none ∧ W.cell? ((ad.add (i * 8)).add 1) = some (.int .i64 (g i).1.k) ∧ W.cell? ((ad.add (i * 8)).add 2) = some (.int .i64 (g i).1.n) ∧ W.cell? ((ad.add (i * 8)).add 3) = some (.string (g i).1.s) ∧ W.cell? ((ad.add (i * 8)).add 4) = some (.int .i64 (g i).2.k) ∧ W.cell? ((ad.add (i * 8)).add 5) = some (.int .i64 (g i).2.n) ∧ W.cell? ((ad.add (i * 8)).add 6) = some (.string (g i).2.s) :=
      ⟨fun i => if h : i < len then Classical.choose (key i h) else (nilV, nilV), fun i h => by simp only [dif_pos h]; exact Classical.choose_spec (key i h)⟩
    have hll : ((List.range len).map g).length = len := by simp
    refine ⟨⟨k0, k1, k2, some ad, cap, (List.range len).map g⟩, by unfold CX.val; rw [hll], i0, i1, i2, by rw [hll]; exact hl, hm, fun h0 => ?_, fun x hx' => ?_⟩
    · rw [hll] at h0
      have h1 := (hg 0 h0).2.1
      rw [show (ad.add (0 * 8)).add 0 = ad by simp [Addr.add]] at h1
      obtain ⟨cv, hcv⟩ := Option.ne_none_iff_exists'.1 h1
      obtain ⟨b, o, rfl, hbl⟩ := spot_of_cell hcv
      refine ⟨b, o, rfl, hbl, fun i hi' => ?_⟩
      have hil : i < len := by simpa using hi'
      obtain ⟨-, -, c1, c2, c3, c4, c5, c6⟩ := hg i hil
      simp only [addr_add] at c1 c2 c3 c4 c5 c6
      have e : opAt ((List.range len).map g) i = g i := by unfold opAt; simp [List.getD_eq_getElem?_getD, hil]
      rw [e]
      exact ⟨c1, c2, c3, c4, c5, c6⟩
    · obtain ⟨i, hi', rfl⟩ := List.mem_map.1 hx'
      exact (hg i (List.mem_range.1 hi')).1
end Go.Proofs.YteheolefemlcgaaGreat
/- cut: the sizes and the operations that are played. -/
namespace Go.Proofs.YteheolefemlcgaaGreat
open Go.RowKit
set_option linter.unusedVariables false
set_option linter.unusedSimpArgs false

def cutN (n : Int) : Int := if n ≤ 65536 then min n 2000 else n
def CX.cut (x : CX) : CX := { x with arr := cutN x.arr, hsh := cutN x.hsh, l := x.l.take 300 }
theorem CSA.cut {W : World} {v : Value} {x : CX} (f : CSA W v x) : CSA W x.cut.val x.cut := by
  have h := f.le
  refine ⟨rfl, f.l0, ?_, ?_, ?_, f.mx, fun h0 => ?_, fun y hy => f.in_ y (List.mem_of_mem_take hy)⟩
  · show In64 (cutN x.arr)
    have := f.l1; unfold cutN In64 at *; split <;> omega
  · show In64 (cutN x.hsh)
    have := f.l2; unfold cutN In64 at *; split <;> omega
  · show (x.l.take 300).length ≤ x.c
    rw [List.length_take]; omega
  · have h0' : 0 < (x.l.take 300).length := h0
    rw [List.length_take] at h0'
    obtain ⟨b, o, e, hb, hj⟩ := f.ops (by omega)
    refine ⟨b, o, e, hb, fun j hj' => ?_⟩
    have hj2 : j < (x.l.take 300).length := hj'
    rw [List.length_take] at hj2
    have e2 : opAt (x.l.take 300) j = opAt x.l j := by
      unfold opAt
      rw [List.getD_eq_getElem?_getD, List.getD_eq_getElem?_getD, List.getElem?_take, if_pos (by omega)]
    show COp W b (o + j * 8) (opAt (x.l.take 300) j)
    rw [e2]
    exact hj j (by omega)
set_option maxRecDepth 100000 in
set_option maxHeartbeats 800000 in
theorem law08_cut {W : World} {v : Value} {x : CX} (f : CSA W v x) (w : World) : Calls Tryz.prog 10 #[v] w fun e w' => e = .returned x.cut.val ∧ Below w.heap.size w w' := by
  obtain rfl := f.e
  have hle := f.le; have hmx := f.mx
  obtain ⟨lim, arr, hsh, A, c, l⟩ := x
  unfold CX.cut CX.val
  dsimp only at hle hmx ⊢
  rw [List.length_take]
  obtain ⟨n, hn⟩ : ∃ n, l.length = n := ⟨_, rfl⟩
  rw [hn] at hle ⊢
  clear hn f
  have s1 : ((min (n : Int) 300).toNat ≤ c) := by omega
  unfold cutN
  have sm : (min (n : Int) 300).toNat = min 300 n := by omega
  by_cases h1 : arr ≤ 65536
  · have d1 : decide (arr ≤ 65536) = true := by simpa using h1
    simp only [if_pos h1]
    by_cases h2 : hsh ≤ 65536
    · have d2 : decide (hsh ≤ 65536) = true := by simpa using h2
      simp only [if_pos h2]
      go_enter Tryz.func10, Tryz.ntmps10
      go_wp2
      exact bodyPost_ret (v := .agg #[.int .i64 lim, .int .i64 (min arr 2000), .int .i64 (min hsh 2000), .slice A (min (n : Int) 300).toNat c]) (by simp [results, Tryz.results10, go_sem, *]) rfl ⟨by rw [sm], ((Below.refl _ w).alloc (Nat.le_refl _) _).alloc (by simp [go_sem]) _⟩
    · have d2 : decide (hsh ≤ 65536) = false := by simpa using h2
      simp only [if_neg h2]
      go_enter Tryz.func10, Tryz.ntmps10
      go_wp2
      exact bodyPost_ret (v := .agg #[.int .i64 lim, .int .i64 (min arr 2000), .int .i64 (hsh), .slice A (min (n : Int) 300).toNat c]) (by simp [results, Tryz.results10, go_sem, *]) rfl ⟨by rw [sm], ((Below.refl _ w).alloc (Nat.le_refl _) _).alloc (by simp [go_sem]) _⟩
  · have d1 : decide (arr ≤ 65536) = false := by simpa using h1
    simp only [if_neg h1]
    by_cases h2 : hsh ≤ 65536
    · have d2 : decide (hsh ≤ 65536) = true := by simpa using h2
      simp only [if_pos h2]
      go_enter Tryz.func10, Tryz.ntmps10
      go_wp2
      exact bodyPost_ret (v := .agg #[.int .i64 lim, .int .i64 (arr), .int .i64 (min hsh 2000), .slice A (min (n : Int) 300).toNat c]) (by simp [results, Tryz.results10, go_sem, *]) rfl ⟨by rw [sm], ((Below.refl _ w).alloc (Nat.le_refl _) _).alloc (by simp [go_sem]) _⟩
    · have d2 : decide (hsh ≤ 65536) = false := by simpa using h2
      simp only [if_neg h2]
      go_enter Tryz.func10, Tryz.ntmps10
      go_wp2
      exact bodyPost_ret (v := .agg #[.int .i64 lim, .int .i64 (arr), .int .i64 (hsh), .slice A (min (n : Int) 300).toNat c]) (by simp [results, Tryz.results10, go_sem, *]) rfl ⟨by rw [sm], ((Below.refl _ w).alloc (Nat.le_refl _) _).alloc (by simp [go_sem]) _⟩
end Go.Proofs.YteheolefemlcgaaGreat
