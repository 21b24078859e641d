/- TableValues, in plain terms: the layout hangs on the keys and on what is Nil alone. -/
import Derived.Test.YteheolefemlcgaaTabX
namespace Go.Proofs.Yteheolefemlcgaa
open Go.RowKit
set_option linter.unusedVariables false
set_option linter.unusedSimpArgs false

/-- Two values that lay alike: both Nil or neither, both in form or neither. -/
structure NV (v w : V) : Prop where
  z : v.k = 0 ↔ w.k = 0
  f : okV v = okV w
theorem NV.refl (v : V) : NV v v := ⟨Iff.rfl, rfl⟩
theorem NV.upd {f g : Nat → V} (H : ∀ i, NV (f i) (g i)) (j : Nat) {v w : V} (h : NV v w) : ∀ i, NV (PH.upd f j v i) (PH.upd g j w i) := fun i => by
  by_cases e : i = j
  · subst e; rw [PH.upd_same, PH.upd_same]; exact h
  · rw [PH.upd_other _ _ _ e, PH.upd_other _ _ _ e]; exact H i
/-- Two hash parts that lie alike. -/
def SmH (h g : PH) : Prop := ∃ x, g = { h with val := x } ∧ ∀ i, NV (h.val i) (x i)
theorem SmH.refl (h : PH) : SmH h h := ⟨h.val, rfl, fun i => NV.refl _⟩
theorem SmH.find {h g : PH} (H : SmH h g) (k : V) : g.findA k = h.findA k := by
  obtain ⟨x, rfl, -⟩ := H; rfl
namespace PH
variable {h : PH} {k v : V}
theorem ins_no (h1 : ¬ h.has k) : h.ins k v = (h, 12) := by unfold ins; rw [if_pos h1]
theorem ins_place (h1 : h.has k) (h2 : ¬ h.occ (mpos h.n k)) : h.ins k v = (h.place (mpos h.n k) k v, 0) := by unfold ins; rw [if_neg (fun h => h h1), if_pos h2]
theorem ins_none (h1 : h.has k) (h2 : h.occ (mpos h.n k)) (h3 : h.roomF h.free = none) : h.ins k v = ({ h with free := 0 }, 12) := by unfold ins; rw [if_neg (fun h => h h1), if_neg (fun h => h h2), h3]
theorem ins_link {f : Nat} (h1 : h.has k) (h2 : h.occ (mpos h.n k)) (h3 : h.roomF h.free = some f) (h4 : mpos h.n (h.key (mpos h.n k)) = mpos h.n k) : h.ins k v = (({ h with free := f } : PH).link (mpos h.n k) f k v, 0) := by
  unfold ins; rw [if_neg (fun h => h h1), if_neg (fun h => h h2), h3]; exact if_pos h4
theorem ins_move {f : Nat} (h1 : h.has k) (h2 : h.occ (mpos h.n k)) (h3 : h.roomF h.free = some f) (h4 : ¬ mpos h.n (h.key (mpos h.n k)) = mpos h.n k) : h.ins k v = (({ h with free := f } : PH).move (mpos h.n k) f (mpos h.n (h.key (mpos h.n k))) k v, 0) := by
  unfold ins; rw [if_neg (fun h => h h1), if_neg (fun h => h h2), h3]; exact if_neg h4
end PH
theorem SmH.ins {h g : PH} (H : SmH h g) (k : V) {v w : V} (hv : NV v w) : SmH (h.ins k v).1 (g.ins k w).1 ∧ (g.ins k w).2 = (h.ins k v).2 := by
  obtain ⟨x, e, hx⟩ := H
  have e1 : g.n = h.n := by rw [e]
  have e2 : g.key = h.key := by rw [e]
  have e3 : g.free = h.free := by rw [e]
  have e4 : ∀ i, g.occ i ↔ h.occ i := fun i => by unfold PH.occ; rw [e2]
  have e5 : g.has k ↔ h.has k := by rw [e]; exact Iff.rfl
  have r1 : ∀ j, g.roomF j = h.roomF j := fun j => by
    induction j with
    | zero => rfl
    | succ j ih => unfold PH.roomF; rw [ih]; simp only [e4]
  by_cases h1 : h.has k
  · by_cases h2 : h.occ (mpos h.n k)
    · have h2' : g.occ (mpos g.n k) := by rw [e1]; exact (e4 _).2 h2
      cases h3 : h.roomF h.free with
      | none =>
        rw [PH.ins_none h1 h2 h3, PH.ins_none (e5.2 h1) h2' (by rw [e3, r1]; exact h3)]
        exact ⟨⟨x, by rw [e], hx⟩, rfl⟩
      | some f =>
        have h3' : g.roomF g.free = some f := by rw [e3, r1]; exact h3
        by_cases h4 : mpos h.n (h.key (mpos h.n k)) = mpos h.n k
        · rw [PH.ins_link h1 h2 h3 h4, PH.ins_link (e5.2 h1) h2' h3' (by rw [e1, e2]; exact h4), e]
          exact ⟨⟨_, rfl, NV.upd hx _ hv⟩, rfl⟩
        · rw [PH.ins_move h1 h2 h3 h4, PH.ins_move (e5.2 h1) h2' h3' (by rw [e1, e2]; exact h4), e]
          exact ⟨⟨_, rfl, NV.upd (NV.upd hx _ (hx _)) _ hv⟩, rfl⟩
    · rw [PH.ins_place h1 h2, PH.ins_place (e5.2 h1) (by rw [e1]; exact fun h => h2 ((e4 _).1 h)), e]
      exact ⟨⟨_, rfl, NV.upd hx _ hv⟩, rfl⟩
  · rw [PH.ins_no h1, PH.ins_no (fun h => h1 (e5.1 h))]
    exact ⟨⟨x, e, hx⟩, rfl⟩
theorem SmH.put {h g : PH} (H : SmH h g) (k : V) {v w : V} (hv : NV v w) : SmH (h.put k v).1 (g.put k w).1 ∧ (g.put k w).2 = (h.put k v).2 := by
  have hf := H.find k
  obtain ⟨i1, i2⟩ := H.ins k hv
  unfold PH.put
  rw [hf]
  have hf2 : (okV k = false ∨ okV w = false) ↔ (okV k = false ∨ okV v = false) := by rw [hv.f]
  by_cases h1 : okV k = false ∨ okV v = false
  · rw [if_pos h1, if_pos (hf2.2 h1)]; exact ⟨H, rfl⟩
  · rw [if_neg h1, if_neg (fun h => h1 (hf2.1 h))]
    by_cases h2 : k.k = 0
    · rw [if_pos h2, if_pos h2]; exact ⟨H, rfl⟩
    · rw [if_neg h2, if_neg h2]
      cases (h.findA k).1 with
      | some i =>
        obtain ⟨x, rfl, hx⟩ := H
        exact ⟨⟨_, rfl, NV.upd hx _ hv⟩, rfl⟩
      | none =>
        dsimp only
        by_cases h3 : v.k = 0
        · rw [if_pos h3, if_pos (hv.z.1 h3)]; exact ⟨H, rfl⟩
        · rw [if_neg h3, if_neg (fun e => h3 (hv.z.2 e))]
          exact ⟨i1, by rw [i2]⟩
/-- Two tables' parts that lie alike. -/
structure SmP (p q : PT) : Prop where
  sn : q.sn = p.sn
  sv : ∀ i, NV (p.sv i) (q.sv i)
  h : SmH p.h q.h
  sAt : q.sAt = p.sAt
  nAt : q.nAt = p.nAt
namespace SmP
variable {p q : PT}
theorem put (H : SmP p q) (k : V) {v w : V} (hv : NV v w) : SmP (p.put k v).1 (q.put k w).1 ∧ (q.put k w).2 = (p.put k v).2 := by
  obtain ⟨h1, h2⟩ := H.h.put k hv
  by_cases hb : p.inB k
  · rw [PT.put_in hb, PT.put_in ((PT.inB_sn H.sn k).2 hb)]
    exact ⟨⟨H.sn, NV.upd H.sv _ hv, H.h, H.sAt, H.nAt⟩, rfl⟩
  · rw [PT.put_out hb, PT.put_out (fun h => hb ((PT.inB_sn H.sn k).1 h))]
    exact ⟨⟨H.sn, H.sv, h1, H.sAt, H.nAt⟩, h2⟩
theorem hn (H : SmP p q) : q.h.n = p.h.n ∧ q.h.key = p.h.key ∧ q.h.ch = p.h.ch ∧ q.h.free = p.h.free := by
  obtain ⟨x, e, -⟩ := H.h; rw [e]; exact ⟨rfl, rfl, rfl, rfl⟩
theorem val (H : SmP p q) (i : Nat) : NV (p.h.val i) (q.h.val i) := by
  obtain ⟨x, e, h⟩ := H.h; rw [e]; exact h i
theorem slI (H : SmP p q) : q.slI = p.slI := by
  unfold PT.slI
  rw [H.sn]
  congr 1
  apply List.filter_congr
  intro i _
  exact decide_eq_decide.2 (not_congr (H.sv i).z.symm)
theorem ndL (H : SmP p q) : q.ndL = p.ndL := by
  unfold PT.ndL
  rw [H.hn.1]
  apply List.filter_congr
  intro i _
  exact decide_eq_decide.2 (not_congr (H.val i).z.symm)
theorem re (H : SmP p q) (k : V) : q.reA k = p.reA k ∧ q.reN k = p.reN k ∧ q.reE k = p.reE k := by
  have e1 : q.ints k = p.ints k := by
    unfold PT.ints PT.ndI
    rw [H.slI, H.ndL, H.hn.2.1]
  have e2 : q.oth k = p.oth k := by
    unfold PT.oth PT.ndO
    rw [H.ndL, H.hn.2.1]
  unfold PT.reA PT.reN PT.reE
  rw [e1, e2]
  exact ⟨rfl, rfl, rfl⟩
/-- Two lists of puts alike. -/
inductive LL : List (V × V) → List (V × V) → Prop
  | nil : LL [] []
  | cons {k v w : V} {L M : List (V × V)} : NV v w → LL L M → LL ((k, v) :: L) ((k, w) :: M)
theorem LL.app {L M L' M' : List (V × V)} (h : LL L M) (h' : LL L' M') : LL (L ++ L') (M ++ M') := by
  induction h with
  | nil => exact h'
  | cons hv _ ih => exact .cons hv ih
theorem LL.map {α : Type} (l : List α) (k : α → V) (f g : α → V) (h : ∀ i, NV (f i) (g i)) : LL (l.map fun i => (k i, f i)) (l.map fun i => (k i, g i)) := by
  induction l with
  | nil => exact .nil
  | cons a l ih => exact .cons (h a) ih
theorem putL {L M : List (V × V)} (h : LL L M) : ∀ {p q : PT}, SmP p q → SmP (p.putL L) (q.putL M) := by
  induction h with
  | nil => exact fun H => H
  | cons hv _ ih => intro p q H; rw [PT.putL_cons, PT.putL_cons]; exact ih (H.put _ hv).1
theorem moves (H : SmP p q) (a : Nat) : LL (p.moves a) (q.moves a) := by
  unfold PT.moves
  refine LL.app ?_ ?_
  · have e : q.slM a = ((List.range p.sn).filter fun i => decide (a ≤ i ∧ (p.sv i).k ≠ 0)).map fun i : Nat => (iV ((i : Int) + 1), q.sv i) := by
      unfold PT.slM
      rw [H.sn]
      congr 1
      apply List.filter_congr
      intro i _
      exact decide_eq_decide.2 (and_congr Iff.rfl (not_congr (H.sv i).z.symm))
    rw [e]
    exact LL.map _ (fun i : Nat => iV ((i : Int) + 1)) _ _ H.sv
  · unfold PT.ndM
    rw [H.ndL, H.hn.2.1]
    exact LL.map _ p.h.key _ _ H.val
theorem laid (H : SmP p q) (k : V) (x y : Int) : SmP (p.laid k x y) (q.laid k x y) := by
  obtain ⟨e1, e2, -⟩ := H.re k
  unfold PT.laid
  rw [e1, e2]
  refine putL (H.moves _) ⟨rfl, fun i => ?_, SmH.refl _, rfl, rfl⟩
  show NV (if i < min (p.reA k) p.sn then p.sv i else nilV) (if i < min (p.reA k) q.sn then q.sv i else nilV)
  rw [H.sn]
  split
  · exact H.sv i
  · exact NV.refl _
end SmP
/-- Two tables that lie alike. -/
structure SmT (t u : Tbl) : Prop where
  p : SmP t.p u.p
  hint : u.hint = t.hint
  pr : u.pr = t.pr
theorem SmT.set {t u : Tbl} (H : SmT t u) (hs : HS) (k : V) {v w : V} (hv : NV v w) : SmT (t.set hs k v).1 (u.set hs k w).1 ∧ (u.set hs k w).2 = (t.set hs k v).2 := by
  obtain ⟨a1, a2⟩ := H.p.put k hv
  have hT : SmT (t.tried k v) (u.tried k w) := ⟨a1, H.hint, by show wrap64 (u.pr + (u.p.put k w).2.1) = wrap64 (t.pr + (t.p.put k v).2.1); rw [H.pr, a2]⟩
  obtain ⟨e1, e2, e3⟩ := hT.p.re k
  have hR : SmT ((t.tried k v).reh hs k).1 ((u.tried k w).reh hs k).1 ∧ ((u.tried k w).reh hs k).2 = ((t.tried k v).reh hs k).2 := by
    unfold Tbl.reh
    rw [e1, e2, e3]
    by_cases h1 : (t.tried k v).p.reE k ≠ 0
    · rw [if_pos h1, if_pos h1]; exact ⟨hT, rfl⟩
    · rw [if_neg h1, if_neg h1]
      by_cases h2 : layE hs ((t.tried k v).p.reA k) ((t.tried k v).p.reN k) ≠ 0
      · rw [if_pos h2, if_pos h2]; exact ⟨hT, rfl⟩
      · rw [if_neg h2, if_neg h2]
        exact ⟨⟨hT.p.laid k _ _, rfl, hT.pr⟩, by rw [hT.p.sAt, hT.p.nAt]⟩
  obtain ⟨b1, b2⟩ := hR.1.p.put k hv
  unfold Tbl.set
  have hf2 : (okV k = false ∨ okV w = false) ↔ (okV k = false ∨ okV v = false) := by rw [hv.f]
  by_cases h1 : okV k = false ∨ okV v = false
  · rw [if_pos h1, if_pos (hf2.2 h1)]; exact ⟨H, rfl⟩
  · rw [if_neg h1, if_neg (fun h => h1 (hf2.1 h)), a2]
    by_cases h2 : (t.p.put k v).2.2 ≠ 12
    · rw [if_pos h2, if_pos h2]; exact ⟨hT, rfl⟩
    · rw [if_neg h2, if_neg h2, hR.2]
      by_cases h3 : ((t.tried k v).reh hs k).2.2 ≠ 0
      · rw [if_pos h3, if_pos h3]; exact hR
      · rw [if_neg h3, if_neg h3]
        exact ⟨⟨b1, hR.1.hint, hR.1.pr⟩, by rw [b2]⟩
theorem SmT.refl (t : Tbl) : SmT t t := ⟨⟨rfl, fun i => NV.refl _, SmH.refl _, rfl, rfl⟩, rfl, rfl⟩
theorem SmT.nxt {t u : Tbl} (H : SmT t u) (i : Nat) : u.p.h.nxt (mpos u.p.h.n) i = t.p.h.nxt (mpos t.p.h.n) i := by
  obtain ⟨x, e, -⟩ := H.p.h; rw [e]; rfl
end Go.Proofs.Yteheolefemlcgaa
