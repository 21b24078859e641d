/- TableRow: the walk. -/
import Derived.Test.YteheolefemlcgaaRowQ
import Derived.Test.YteheolefemlcgaaTabV
namespace Go.Proofs.Yteheolefemlcgaa
open Go.RowKit Go.Maps
set_option linter.unusedVariables false
set_option linter.unusedSimpArgs false

theorem wrap_back (x : Int) (s : Nat) (hs : s ≤ 10000) : wrap64 (wrap64 (x + s) - x) = s := by
  unfold wrap64
  omega
theorem wrap_more (x : Int) (s r : Nat) : wrap64 (wrap64 (x + s) + r) = wrap64 (x + (s + r : Nat)) := by
  unfold wrap64
  omega
def h4 : HS := newH (HS.new 400000) 0 0
theorem h4_is : newE (HS.new 400000) 0 0 = 0 ∧ h4.lim = 400000 := by decide +kernel
theorem row_start (b : Nat) (hb : b < 4611686018427387904) (hok : (newT (HS.new 400000) 0 0).p.ok) : RowT b 0 (newT (HS.new 400000) 0 0) := by
  have hn : (newT (HS.new 400000) 0 0).p.h.n = 0 := by decide +kernel
  have hg := hok.hg
  refine ⟨hok, rfl, ⟨hg, by rw [hn]; omega, Nat.zero_le _, fun q hq => absurd rfl hq, fun i i1 i2 => by omega, fun i i1 i2 => by omega, .inl hn.symm⟩, by rw [hn]; omega, fun i i1 i2 => by omega⟩
theorem in_wrap (x : Int) : In64 (wrap64 x) := by unfold In64 wrap64; omega
theorem Tbl.set_pr {t : Tbl} {hs : HS} {k v : V} (h : In64 t.pr) : In64 (t.set hs k v).1.pr := by
  have h1 : In64 (t.tried k v).pr := in_wrap _
  have h2 : ((t.tried k v).reh hs k).1.pr = (t.tried k v).pr := by
    unfold Tbl.reh
    split
    · rfl
    · split
      · rfl
      · rfl
  unfold Tbl.set
  split
  · exact h
  · split
    · exact h1
    · split
      · rw [h2]; exact h1
      · show In64 ((t.tried k v).reh hs k).1.pr
        rw [h2]; exact h1
/-- The table of a row behind j Sets, in memory. -/
structure RS8 (w0 : World) (b hp a j : Nat) (w : World) (t : Tbl) (hs : HS) : Prop where
  tt : TT w0 (fun _ => False) hp (some (a, t)) none hs w
  k : Acc (some (a, t)) none hs (3 + 2 * j)
  lim : hs.lim = 400000
  r : RowT b j t
  p64 : In64 t.pr
theorem RS8.below {w0 w w' : World} {b hp a j : Nat} {t : Tbl} {hs : HS} (H : RS8 w0 b hp a j w t hs) (hb : Below w.heap.size w w') : RS8 w0 b hp a j w' t hs := ⟨H.tt.below hb, H.k, H.lim, H.r, H.p64⟩
theorem RS8.set {w0 w : World} {b hp a j : Nat} {t : Tbl} {hs : HS} (H : RS8 w0 b hp a j w t hs) (hj : 2 * (j + 1) ≤ b) (hj2 : j ≤ 700) (hlt : b < 4611686018427387904) (y : Int) (hy : y = ((b + (j + 1) : Nat) : Int)) (z : Int) (hz : z = ((j + 1 : Nat) : Int)) :
    Calls Try.prog 23 #[.pointer (some ⟨a, 0, none⟩), .agg #[.int .i64 2, .int .i64 y, .string ⟨#[]⟩], .agg #[.int .i64 2, .int .i64 z, .string ⟨#[]⟩]] w fun e w' => e = .returned (.int .i64 0) ∧ ∃ t' hs', RS8 w0 b hp a (j + 1) w' t' hs' := by
  subst hy; subst hz
  have h64 : In64 (((b + (j + 1) : Nat) : Int)) := by unfold In64; omega
  have hlive : hs.live = 4 + t.p.cells := by have := H.k.live; rw [this]; exact Int.add_zero _
  obtain ⟨s1, s2⟩ := H.r.step H.k.hok H.lim hlive hj hj2 hlt
  obtain ⟨t1, t2, t3⟩ := H.k.a _ rfl
  obtain ⟨-, -, d3, -⟩ := set_held (k := PH.kb b (j + 1)) (v := iV ((j + 1 : Nat) : Int)) ⟨t1, t2, H.k.hok, H.k.sz⟩ t3 h64
  have hacc := H.k.set (by omega) (PH.kb b (j + 1)) (iV ((j + 1 : Nat) : Int)) h64
  refine (Set_t H.tt ⟨t1, t2⟩ (by have := H.k.sz; omega) 2 _ ⟨#[]⟩ 2 _ ⟨#[]⟩ h64 0 s1).mono ?_
  rintro e w' ⟨he, h1, -⟩
  exact ⟨he, _, _, h1, hacc, d3.trans H.lim, s2, Tbl.set_pr H.p64⟩
/-- Behind i Gets: what was read. -/
structure RG8 (w0 : World) (b hp a m : Nat) (w : World) (t : Tbl) (hs : HS) (was : Int) (i : Nat) : Prop where
  tt : TT w0 (fun _ => False) hp (some (a, t)) none hs w
  k : Acc (some (a, t)) none hs (3 + 2 * m)
  r : RowT b m t
  pr : t.pr = wrap64 (was + rdSum b t.p.h i)
theorem RG8.get {w0 w : World} {b hp a m : Nat} {t : Tbl} {hs : HS} {was : Int} {i : Nat} (H : RG8 w0 b hp a m w t hs was i) (hi : i < m) (y : Int) (hy : y = ((b + (i + 1) : Nat) : Int)) :
    Calls Try.prog 25 #[.pointer (some ⟨a, 0, none⟩), .agg #[.int .i64 2, .int .i64 y, .string ⟨#[]⟩]] w fun e w' => e = .returned (.agg #[.int .i64 2, .int .i64 ((i + 1 : Nat) : Int), .string ⟨#[]⟩]) ∧ ∃ t', RG8 w0 b hp a m w' t' hs was (i + 1) := by
  subst hy
  obtain ⟨⟨F, D, E, h1, ⟨s, bb, g, hT, hD⟩, h3, h4, h5, h6, h7, h8, h9⟩, h10, h11⟩ := H.tt
  obtain ⟨t1, t2, t3⟩ := H.k.a _ rfl
  have hget : t.get (PH.kb b (i + 1)) = iV ((i + 1 : Nat) : Int) := H.r.get (i + 1) (by omega) (by omega)
  refine (tab_Get a s bb g hp t 2 _ ⟨#[]⟩ t1 2 _ ⟨#[]⟩ hget w hT).mono ?_
  rintro e w' ⟨he, hT', hkp⟩
  have hT2 := (TT.turn (A' := some (a, t.read ⟨2, ((b + (i + 1) : Nat) : Int), ⟨#[]⟩⟩)) (D' := PB a s bb g) h3 h4 h5 h6 h8 h9 h10 h11 hkp (fun q hq => .inr (hD q (.inl hq))) ⟨s, bb, g, hT', fun _ h => h⟩ (h1.kp hkp (fun q hq e => h7 q (hD q (.inl e)) hq)) (fun q hq => .inl (hD q hq)) (fun q hq => .inl hq) (fun q hq => h7 q (hD q hq)) (fun q hq => hT'.pt.lt hq)).1
  have e1 : t.read ⟨2, ((b + (i + 1) : Nat) : Int), ⟨#[]⟩⟩ = { t with pr := wrap64 (t.pr + ((t.p.h.findA (PH.kb b (i + 1))).2 : Nat)) } := by
    unfold Tbl.read
    rw [if_neg (PT.notB H.r.sn _)]; rfl
  rw [e1] at hT2
  refine ⟨he, _, hT2, ?_, ?_, ?_⟩
  · exact ⟨H.k.hok, H.k.sz, fun x hx => by obtain rfl := Option.some.inj hx; exact ⟨t1, t2, t3⟩, fun y hy => by simp at hy, fun x y hx hy => by simp at hy, H.k.live⟩
  · exact ⟨H.r.ok, H.r.sn, H.r.lin, H.r.n2, H.r.get⟩
  · show wrap64 (t.pr + _) = _
    rw [H.pr, wrap_more]; rfl
theorem RG8.below {w0 w w' : World} {b hp a m : Nat} {t : Tbl} {hs : HS} {was : Int} {i : Nat} (H : RG8 w0 b hp a m w t hs was i) (hb : Below w.heap.size w w') : RG8 w0 b hp a m w' t hs was i := ⟨H.tt.below hb, H.k, H.r, H.pr⟩
theorem RG8.probes {w0 w : World} {b hp a m : Nat} {t : Tbl} {hs : HS} {was : Int} {i : Nat} (H : RG8 w0 b hp a m w t hs was i) (x : Int) (hx : t.pr = x) : Calls Try.prog 27 #[.pointer (some ⟨a, 0, none⟩)] w fun e w' => e = .returned (.int .i64 x) ∧ w = w' := by
  obtain ⟨⟨F, D, E, h1, ⟨s, bb, g, hT, hD⟩, -⟩, -, -⟩ := H.tt
  subst hx
  exact tab_Probes a s bb g hp t w hT
theorem RS8.gets {w0 w : World} {b hp a j : Nat} {t : Tbl} {hs : HS} (H : RS8 w0 b hp a j w t hs) : RG8 w0 b hp a j w t hs t.pr 0 :=
  ⟨H.tt, H.k, H.r, by show t.pr = wrap64 (t.pr + ((0 : Nat) : Int)); rw [wrap64_id (by have := H.p64; unfold In64 at *; omega)]; omega⟩
theorem RG8.stats {w0 w : World} {b hp a m : Nat} {t : Tbl} {hs : HS} {was : Int} {i : Nat} (H : RG8 w0 b hp a m w t hs was i) : Calls Try.prog 28 #[.pointer (some ⟨a, 0, none⟩)] w fun e w' => (∃ x y z : Int, e = .returned (.agg #[.int .i64 0, .int .i64 x, .int .i64 y, .int .i64 z])) ∧ RG8 w0 b hp a m w' t hs was i := by
  have HH := H
  obtain ⟨⟨F, D, E, h1, ⟨s, bb, g, hT, hD⟩, -⟩, -, -⟩ := H.tt
  refine (tab_Stats a s bb g hp t 0 _ _ _ (by rw [H.r.sn]; rfl) rfl rfl rfl w hT).mono ?_
  rintro e w' ⟨he, hb⟩
  exact ⟨⟨_, _, _, he⟩, HH.below hb⟩
theorem RG8.last {w0 w : World} {b hp a m : Nat} {t : Tbl} {hs : HS} {was : Int} (H : RG8 w0 b hp a m w t hs was m) (hm : m ≤ 700) : wrap64 (t.pr - was) ≤ (m : Int) + 1 := by
  have h1 := rdSum_le H.r.lin m (Nat.le_refl _)
  have h2 : rdSum b t.p.h m ≤ m + 1 := by split at h1 <;> omega
  rw [H.pr, wrap_back _ _ (by omega)]
  omega
end Go.Proofs.Yteheolefemlcgaa
