/- WalkCounts: the walk. -/
import Derived.Test.YteheolefemlcgaaGreatWkY
import Derived.Lib.SmallJoins
import Derived.ChangeArms
namespace Go.Proofs.YteheolefemlcgaaGreat
open Go.RowKit Go.Maps Go.Joins Go.ChangeShapes Go.WideShapes
set_option linter.unusedVariables false
set_option linter.unusedSimpArgs false

/-- An api.Val that came in. -/
def IsVal (v : Value) : Prop := ∃ (k n : Int) (s : ByteArray), v = .agg #[.int .i64 k, .int .i64 n, .string s] ∧ In64 k ∧ In64 n ∧ s.size ≤ maxLen
set_option maxRecDepth 100000 in
theorem isVal_of {H : Type} {enc : TypeId × Value → H} {W : World} {base : Nat} {spare : Nat → Bool} {held : Bool} {r : Reach} {b0 : Nat} {v : Value} {d : DataW H} {p : List MemPlace}
    (hv : Value.okWide Tryz.prog W r b0 35 v) (h : DataW.Trod enc Tryz.prog W base spare held 35 v d p) : IsVal v := by
  obtain ⟨v0, v1, v2, y0, y1, y2, n, rfl, -, -, h0, h1, h2⟩ := open_agg3 Tryz.underlying35 (by kernel_rfl) (by kernel_rfl) hv h
  obtain ⟨k, e0, -, w0⟩ := DataW.trod_int Tryz.underlying3 h0
  obtain ⟨m, e1, -, w1⟩ := DataW.trod_int Tryz.underlying3 h1
  obtain ⟨s, e2, -, w2⟩ := DataW.trod_string Tryz.underlying9 h2
  simp only [List.cons.injEq, and_true] at e0 e1 e2
  subst e0 e1 e2
  exact ⟨k, m, s, rfl, bounds_i64 w0, bounds_i64 w1, w2⟩
def twoX (b c : Nat) (q : Nat) : Prop := q = b ∨ q = c
theorem BS.probes {w0 w : World} {S : Nat → Prop} {hp a n : Nat} {t : Tbl} {hs : HS} (H : BS w0 S hp a t hs n w) (x : Int) (hx : t.pr = x) : Calls Tryz.prog 17 #[.pointer (some ⟨a, 0, none⟩)] w fun e w' => e = .returned (.int .i64 x) ∧ w = w' := by
  obtain ⟨s, b, g, hT⟩ := H.tab
  subst hx
  exact tab_Probes a s b g hp t w hT
theorem wrap_back (x r : Int) : wrap64 (wrap64 (x + r) - x) = wrap64 r := by
  unfold wrap64
  omega
/-- A Next reads what a Place has read. -/
theorem count_same {t : Tbl} {k : V} (H : t.p.ok) : wrap64 (((t.read k).nread k).pr - (t.read k).pr) = wrap64 ((t.read k).pr - t.pr) := by
  unfold Tbl.nread
  by_cases hn : okV k = true ∧ k.k ≠ 0
  · rw [if_pos hn]
    by_cases hb : t.p.inB k
    · have e : t.read k = t := by unfold Tbl.read; rw [if_pos hb]
      rw [e, e]
    · have e : ∀ u : Tbl, u.p = t.p → (u.read k).pr = wrap64 (u.pr + ((t.p.h.findA k).2 : Nat)) := fun u hu => by unfold Tbl.read; rw [hu, if_neg hb]
      rw [e _ (read_ph t k).1, wrap_back, e t rfl, wrap_back]
  · rw [if_neg hn, Int.sub_self]
    by_cases hb : t.p.inB k
    · exact absurd ⟨PT.inB_ok hb, by rw [hb.1]; decide⟩ hn
    · have hf : (t.p.h.findA k).2 = 0 := by
        unfold PH.findA
        rw [if_neg (fun h => hn h.2)]
      have e : (t.read k).pr = wrap64 (t.pr + ((t.p.h.findA k).2 : Nat)) := by unfold Tbl.read; rw [if_neg hb]
      rw [e, wrap_back, hf]; rfl
theorem count_in {t : Tbl} {k : V} (hb : t.p.inB k) : ((t.read k).nread k).pr = t.pr := by
  have e : t.read k = t := by unfold Tbl.read; rw [if_pos hb]
  unfold Tbl.nread
  split <;> rw [e]
  exact congrArg Tbl.pr e
theorem nread_nil (t : Tbl) : t.nread ⟨0, 0, ⟨#[]⟩⟩ = t := by unfold Tbl.nread; rw [if_neg (fun h => h.2 rfl)]
/-- Where a key lies, test by test. -/
theorem count_cases (p : PT) (kk kn : Int) (ks : ByteArray) (n : Int) (hn : (p.sn : Int) = n) :
    ((kk != 2) = true) ∨ ((kk != 2) = false ∧ ¬ ks.toList = [] ∧ ks.toList.isEmpty = false ∧ (!ks.toList.isEmpty) = true) ∨ ((kk != 2) = false ∧ ks.toList = [] ∧ decide (kn < 1) = true) ∨ ((kk != 2) = false ∧ ks.toList = [] ∧ decide (kn < 1) = false ∧ decide (n < kn) = true) ∨ ((kk != 2) = false ∧ ks.toList = [] ∧ decide (kn < 1) = false ∧ decide (n < kn) = false ∧ p.inB ⟨kk, kn, ks⟩) := by
  by_cases e1 : kk = 2
  · by_cases e2 : ks.toList = []
    · by_cases e3 : kn < 1
      · exact .inr (.inr (.inl ⟨by simpa using e1, e2, by simpa using e3⟩))
      · by_cases e4 : n < kn
        · exact .inr (.inr (.inr (.inl ⟨by simpa using e1, e2, by simpa using e3, by simpa using e4⟩)))
        · exact .inr (.inr (.inr (.inr ⟨by simpa using e1, e2, by simpa using e3, by simpa using e4, ⟨e1, e2, by show 1 ≤ kn; omega, by show kn ≤ p.sn; omega⟩⟩)))
    · exact .inr (.inl ⟨by simpa using e1, e2, by simpa using e2, by simpa using e2⟩)
  · exact .inl (by simpa using e1)
end Go.Proofs.YteheolefemlcgaaGreat
