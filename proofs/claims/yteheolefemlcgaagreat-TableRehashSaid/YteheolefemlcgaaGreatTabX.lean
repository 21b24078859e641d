/- Folded of TabP, TabQ, TabH. -/
import Derived.Test.YteheolefemlcgaaGreatNodZ
import Derived.Test.YteheolefemlcgaaGreatHeaA
/- A table in plain terms: its array part, its hash part; a rehash. -/
namespace Go.Proofs.YteheolefemlcgaaGreat
open Go.RowKit
set_option linter.unusedVariables false
set_option linter.unusedSimpArgs false

/-- The whole number n as a value. -/
def iV (n : Int) : V := ⟨2, n, ⟨#[]⟩⟩
theorem okV_iV (n : Int) : okV (iV n) = true := by simp [okV, iV, emp_toList]
theorem iV_of {k : V} (hk : okV k = true) (h2 : k.k = 2) : k = iV k.n := by
  unfold okV at hk
  rw [if_neg (by omega), if_neg (by omega), if_pos h2] at hk
  exact V_ext h2 rfl (toList_inj (by rw [List.isEmpty_iff.1 hk]; exact emp_toList.symm))
/-- The slots and the nodes of a table, the numbers of their blocks. -/
structure PT where
  sn : Nat
  sv : Nat → V
  h : PH
  sAt : Int
  nAt : Int
namespace PT
/-- Is it in the array part? -/
def inB (p : PT) (k : V) : Prop := k.k = 2 ∧ k.s.toList = [] ∧ 1 ≤ k.n ∧ k.n ≤ p.sn
instance (p : PT) (k : V) : Decidable (p.inB k) := inferInstanceAs (Decidable (k.k = 2 ∧ k.s.toList = [] ∧ 1 ≤ k.n ∧ k.n ≤ p.sn))
def ix (k : V) : Nat := (k.n - 1).toNat
def get (p : PT) (k : V) : V := if p.inB k then p.sv (ix k) else p.h.get k
def reads (p : PT) (k : V) : Nat := if p.inB k then 0 else (p.h.findA k).2
def put (p : PT) (k v : V) : PT × Nat × Int := if p.inB k then ({ p with sv := PH.upd p.sv (ix k) v }, 0, 0) else ({ p with h := (p.h.put k v).1 }, (p.h.put k v).2.1, (p.h.put k v).2.2)
structure ok (p : PT) : Prop where
  hg : p.h.good
  sz : p.sn ≤ 65536
  sf : ∀ i, okV (p.sv i) = true
  vf : ∀ i, okV (p.h.val i) = true
  off : ∀ i, p.h.occ i → ¬ p.inB (p.h.key i)
  kin : ∀ i, In64 (p.h.key i).n
theorem ix_inj {p : PT} {k k' : V} (h : p.inB k) (h' : p.inB k') (e : ix k = ix k') : k = k' := by
  obtain ⟨a, b, c, d⟩ := h
  obtain ⟨a', b', c', d'⟩ := h'
  unfold ix at e
  exact V_ext (by omega) (by omega) (toList_inj (by rw [b, b']))
theorem inB_ok {p : PT} {k : V} (h : p.inB k) : okV k = true := by
  unfold okV
  rw [if_neg (by rw [h.1]; omega), if_neg (by rw [h.1]; omega), if_pos h.1, h.2.1]
  rfl
theorem inB_iV {p : PT} {k : V} (h : p.inB k) : k = iV k.n := iV_of (inB_ok h) h.1
theorem inB_sn {p q : PT} (h : p.sn = q.sn) (k : V) : p.inB k ↔ q.inB k := by unfold inB; rw [h]
variable {p : PT}
theorem put_in {k v : V} (h : p.inB k) : p.put k v = ({ p with sv := PH.upd p.sv (ix k) v }, 0, 0) := by unfold put; rw [if_pos h]
theorem put_out {k v : V} (h : ¬ p.inB k) : p.put k v = ({ p with h := (p.h.put k v).1 }, (p.h.put k v).2.1, (p.h.put k v).2.2) := by unfold put; rw [if_neg h]
/-- A put of a right key and value. -/
theorem put_is (H : p.ok) {k v : V} (hk : okV k = true) (hv : okV v = true) (hk0 : k.k ≠ 0) (h64 : In64 k.n) :
    (p.put k v).1.ok ∧ (p.put k v).1.sn = p.sn ∧ (p.put k v).1.sAt = p.sAt ∧ (p.put k v).1.nAt = p.nAt ∧ (p.put k v).1.h.n = p.h.n ∧ (p.put k v).2.1 = p.reads k ∧
    (((p.put k v).2.2 = 12 ∧ ¬ p.inB k ∧ (∀ i, i < p.h.n → p.h.occ i) ∧ (∀ i, p.h.occ i → p.h.key i ≠ k) ∧ v.k ≠ 0 ∧ (p.put k v).1.sv = p.sv ∧ (p.put k v).1.h.key = p.h.key ∧ (p.put k v).1.h.val = p.h.val ∧ (p.put k v).1.h.ch = p.h.ch ∧ ∀ k', (p.put k v).1.get k' = p.get k')
    ∨ ((p.put k v).2.2 = 0 ∧ (∀ k', (p.put k v).1.get k' = if k' = k then v else p.get k') ∧ (∀ j, (p.put k v).1.h.occ j → (p.put k v).1.h.key j = k ∧ ¬ p.inB k ∨ ∃ i, p.h.occ i ∧ (p.put k v).1.h.key j = p.h.key i))) := by
  by_cases hb : p.inB k
  · rw [put_in hb]
    refine ⟨⟨H.hg, H.sz, fun i => ?_, H.vf, H.off, H.kin⟩, rfl, rfl, rfl, rfl, ?_, .inr ⟨rfl, fun k' => ?_, fun j hj => .inr ⟨j, hj, rfl⟩⟩⟩
    · show okV (PH.upd p.sv (ix k) v i) = true
      by_cases e : i = ix k
      · subst e; rw [PH.upd_same]; exact hv
      · rw [PH.upd_other _ _ _ e]; exact H.sf i
    · unfold reads; rw [if_pos hb]
    · show (if p.inB k' then PH.upd p.sv (ix k) v (ix k') else p.h.get k') = _
      by_cases e : k' = k
      · subst e; rw [if_pos hb, if_pos rfl, PH.upd_same]
      · rw [if_neg e]
        unfold get
        by_cases hb' : p.inB k'
        · rw [if_pos hb', if_pos hb', PH.upd_other _ _ _ (fun e2 => e (ix_inj hb' hb e2))]
        · rw [if_neg hb', if_neg hb']
  · rw [put_out hb]
    obtain ⟨h1, h2, h3, h4⟩ := PH.put_is H.hg hk hv hk0
    have hocc : ∀ j, (p.h.put k v).1.occ j → (p.h.put k v).1.key j = k ∨ ∃ i, p.h.occ i ∧ (p.h.put k v).1.key j = p.h.key i := by
      intro j hj
      rcases h4 with ⟨-, -, -, -, ek, -, -, -⟩ | ⟨-, -, h5, -, -⟩
      · right
        unfold PH.occ at hj
        rw [ek] at hj ⊢
        exact ⟨j, hj, rfl⟩
      · exact h5 j hj
    refine ⟨⟨h1, H.sz, H.sf, fun i => ?_, fun i hi => ?_, fun i => ?_⟩, rfl, rfl, rfl, h2, ?_, ?_⟩
    · rcases h4 with ⟨-, -, -, -, -, ev, -, -⟩ | ⟨-, -, -, -, h5⟩
      · show okV ((p.h.put k v).1.val i) = true; rw [ev]; exact H.vf i
      · rcases h5 i with h6 | ⟨j, -, h6⟩
        · exact h6
        · show okV ((p.h.put k v).1.val i) = true; rw [h6]; exact H.vf j
    · show ¬ p.inB ((p.h.put k v).1.key i)
      rcases hocc i hi with e | ⟨j, h5, h6⟩
      · rw [e]; exact hb
      · rw [h6]; exact H.off j h5
    · show In64 ((p.h.put k v).1.key i).n
      by_cases hi : (p.h.put k v).1.occ i
      · rcases hocc i hi with e | ⟨j, h5, h6⟩
        · rw [e]; exact h64
        · rw [h6]; exact H.kin j
      · rw [(h1.ok.emp i hi).1]; unfold In64 nilV; simp
    · show (p.h.put k v).2.1 = _
      rw [h3]; unfold reads; rw [if_neg hb]
    · have hget : ∀ k', get { p with h := (p.h.put k v).1 } k' = if p.inB k' then p.sv (ix k') else (p.h.put k v).1.get k' := fun k' => rfl
      rcases h4 with ⟨a, b, c, d, ek, ev, ec, eg⟩ | ⟨a, eg, -, -, -⟩
      · refine .inl ⟨a, hb, b, c, d, rfl, ek, ev, ec, fun k' => ?_⟩
        rw [hget, eg]; rfl
      · refine .inr ⟨a, fun k' => ?_, fun j hj => ?_⟩
        · rw [hget, eg]
          by_cases e : k' = k
          · subst e; rw [if_neg hb, if_pos rfl, if_pos rfl]
          · rw [if_neg e, if_neg e]; rfl
        · rcases hocc j hj with e | h5
          · exact .inl ⟨e, hb⟩
          · exact .inr h5
theorem put_form {k v : V} (h1 : okV k = false ∨ okV v = false) (hb : ¬ p.inB k) : p.put k v = (p, 0, 2) := by rw [put_out hb, PH.put_form h1]
theorem put_nil {k v : V} (h1 : okV k = true) (h2 : okV v = true) (h3 : k.k = 0) : p.put k v = (p, 0, 9) := by
  have hb : ¬ p.inB k := fun h => by have := h.1; omega
  rw [put_out hb, PH.put_nil h1 h2 h3]
/-- One behind the other. -/
def putL (p : PT) (L : List (V × V)) : PT := L.foldl (fun p kv => (p.put kv.1 kv.2).1) p
theorem putL_cons (p : PT) (kv : V × V) (L : List (V × V)) : p.putL (kv :: L) = (p.put kv.1 kv.2).1.putL L := rfl
theorem putL_append (p : PT) (L M : List (V × V)) : p.putL (L ++ M) = (p.putL L).putL M := by unfold putL; rw [List.foldl_append]
/-- What the list says of k last. -/
def lk (L : List (V × V)) (k : V) (d : V) : V := L.foldl (fun d kv => if k = kv.1 then kv.2 else d) d
theorem lk_const : ∀ (L : List (V × V)) (k d x : V), (∀ kv ∈ L, kv.1 = k → kv.2 = x) → (d = x ∨ ∃ kv ∈ L, kv.1 = k) → lk L k d = x
  | [], k, d, x, _, h => by
    rcases h with h | ⟨kv, h, -⟩
    · exact h
    · simp at h
  | kv :: L, k, d, x, h1, h2 => by
    show lk L k (if k = kv.1 then kv.2 else d) = x
    refine lk_const L k _ x (fun kv' h => h1 kv' (List.mem_cons_of_mem _ h)) ?_
    by_cases e : k = kv.1
    · rw [if_pos e]; exact .inl (h1 kv (by simp) e.symm)
    · rw [if_neg e]
      rcases h2 with h | ⟨kv', h, h'⟩
      · exact .inl h
      · rcases List.mem_cons.1 h with rfl | h
        · exact absurd h'.symm e
        · exact .inr ⟨kv', h, h'⟩
/-- Puts with room for all: none fails. -/
theorem putL_is : ∀ (L : List (V × V)) (p : PT) (S : List V), p.ok → (∀ i, p.h.occ i → p.h.key i ∈ S) → (∀ kv ∈ L, okV kv.1 = true ∧ okV kv.2 = true ∧ kv.1.k ≠ 0 ∧ In64 kv.1.n) →
    S.length + (L.filter fun kv => decide (¬ p.inB kv.1)).length ≤ p.h.n →
    (p.putL L).ok ∧ (p.putL L).sn = p.sn ∧ (p.putL L).sAt = p.sAt ∧ (p.putL L).nAt = p.nAt ∧ (p.putL L).h.n = p.h.n ∧ (∀ k, (p.putL L).get k = lk L k (p.get k)) ∧
    ∃ S' : List V, (∀ i, (p.putL L).h.occ i → (p.putL L).h.key i ∈ S') ∧ S'.length ≤ S.length + (L.filter fun kv => decide (¬ p.inB kv.1)).length
  | [], p, S, H, hS, _, hl => ⟨H, rfl, rfl, rfl, rfl, fun _ => rfl, S, hS, by simp⟩
  | kv :: L, p, S, H, hS, hL, hl => by
    obtain ⟨a1, a2, a3, a4⟩ := hL kv (by simp)
    obtain ⟨h1, h2, h3, h4, h5, -, h6⟩ := put_is H (v := kv.2) a1 a2 a3 a4
    have hfil : (L.filter fun x => decide (¬ (p.put kv.1 kv.2).1.inB x.1)) = L.filter fun x => decide (¬ p.inB x.1) := by
      congr 1; funext x; exact decide_eq_decide.2 (not_congr (inB_sn h2 x.1))
    rw [putL_cons]
    by_cases hb : p.inB kv.1
    · have hl' : ((kv :: L).filter fun kv => decide (¬ p.inB kv.1)) = L.filter fun kv => decide (¬ p.inB kv.1) := by rw [List.filter_cons_of_neg (by simpa using hb)]
      rw [hl'] at hl ⊢
      rcases h6 with ⟨-, h7, -⟩ | ⟨-, h7, h8⟩
      · exact absurd hb h7
      have hS' : ∀ i, (p.put kv.1 kv.2).1.h.occ i → (p.put kv.1 kv.2).1.h.key i ∈ S := fun i hi => by
        rcases h8 i hi with ⟨-, h9⟩ | ⟨j, h9, e⟩
        · exact absurd hb h9
        · rw [e]; exact hS j h9
      obtain ⟨b1, b2, b3, b4, b5, b6, S', b7, b8⟩ := putL_is L _ S h1 hS' (fun x hx => hL x (List.mem_cons_of_mem _ hx)) (by rw [hfil, h5]; exact hl)
      refine ⟨b1, b2.trans h2, b3.trans h3, b4.trans h4, b5.trans h5, fun k => ?_, S', b7, by rw [hfil] at b8; exact b8⟩
      rw [b6, h7]; rfl
    · have hl' : ((kv :: L).filter fun kv => decide (¬ p.inB kv.1)).length = (L.filter fun kv => decide (¬ p.inB kv.1)).length + 1 := by rw [List.filter_cons_of_pos (by simpa using hb)]; rfl
      rw [hl'] at hl ⊢
      rcases h6 with ⟨-, -, h7, -⟩ | ⟨-, h7, h8⟩
      · have := PH.full_le H.hg S hS h7
        omega
      have hS' : ∀ i, (p.put kv.1 kv.2).1.h.occ i → (p.put kv.1 kv.2).1.h.key i ∈ kv.1 :: S := fun i hi => by
        rcases h8 i hi with ⟨e, -⟩ | ⟨j, h9, e⟩
        · rw [e]; simp
        · rw [e]; exact List.mem_cons_of_mem _ (hS j h9)
      obtain ⟨b1, b2, b3, b4, b5, b6, S', b7, b8⟩ := putL_is L _ (kv.1 :: S) h1 hS' (fun x hx => hL x (List.mem_cons_of_mem _ hx)) (by rw [hfil, h5, List.length_cons]; omega)
      refine ⟨b1, b2.trans h2, b3.trans h3, b4.trans h4, b5.trans h5, fun k => ?_, S', b7, by rw [hfil, List.length_cons] at b8; omega⟩
      rw [b6, h7]; rfl
/-- The whole numbers of the slots that are not Nil; the nodes that are not. -/
def slI (p : PT) : List Int := ((List.range p.sn).filter fun i => decide ((p.sv i).k ≠ 0)).map fun i : Nat => (i : Int) + 1
def ndL (p : PT) : List Nat := (List.range p.h.n).filter fun i => decide ((p.h.val i).k ≠ 0)
def ndI (p : PT) : List Int := (p.ndL.filter fun i => decide ((p.h.key i).k = 2)).map fun i => (p.h.key i).n
def ndO (p : PT) : List Nat := p.ndL.filter fun i => decide (¬ (p.h.key i).k = 2)
def ints (p : PT) (k : V) : List Int := p.slI ++ p.ndI ++ (if k.k = 2 then [k.n] else [])
def oth (p : PT) (k : V) : Int := (p.ndO.length : Int) + (if k.k = 2 then 0 else 1)
/-- New parts: what the slots keep. -/
def fresh (p : PT) (a n : Nat) (x y : Int) : PT := ⟨a, fun i => if i < min a p.sn then p.sv i else nilV, PH.new n, x, y⟩
/-- What is put into them. -/
def slM (p : PT) (a : Nat) : List (V × V) := ((List.range p.sn).filter fun i => decide (a ≤ i ∧ (p.sv i).k ≠ 0)).map fun i : Nat => (iV ((i : Int) + 1), p.sv i)
def ndM (p : PT) : List (V × V) := p.ndL.reverse.map fun i => (p.h.key i, p.h.val i)
def moves (p : PT) (a : Nat) : List (V × V) := p.slM a ++ p.ndM
def reA (p : PT) (k : V) : Nat := (Cs.sizesA (p.ints k) (p.oth k)).toNat
def reN (p : PT) (k : V) : Nat := (Cs.sizesH (p.ints k) (p.oth k)).toNat
def reE (p : PT) (k : V) : Int := Cs.sizesE (p.ints k) (p.oth k)
def laid (p : PT) (k : V) (x y : Int) : PT := (p.fresh (p.reA k) (p.reN k) x y).putL (p.moves (p.reA k))
theorem ndL_mem {i : Nat} : i ∈ p.ndL ↔ i < p.h.n ∧ (p.h.val i).k ≠ 0 := by unfold ndL; simp
theorem ndL_occ (H : p.ok) {i : Nat} (hi : i ∈ p.ndL) : p.h.occ i := by
  apply Decidable.byContradiction
  intro hn
  have := (H.hg.ok.emp i hn).2
  exact (ndL_mem.1 hi).2 (by rw [this]; rfl)
theorem good_new (n : Nat) (hz : n ≤ 65536) (hp : n = 0 ∨ ∃ e, e ≤ 16 ∧ n = 2 ^ e) : (PH.new n).good := ⟨PH.ok_new _ n, hz, hp⟩
theorem ints_nodup (H : p.ok) {k : V} (hk : okV k = true) (hb : ¬ p.inB k) (hn : ∀ i, p.h.occ i → p.h.key i ≠ k) : (p.ints k).Nodup := by
  have key2 : ∀ i, p.h.occ i → (p.h.key i).k = 2 → p.h.key i = iV (p.h.key i).n := fun i ho h2 => iV_of (H.hg.ok.form i) h2
  have hsl : ∀ x, x ∈ p.slI → 1 ≤ x ∧ x ≤ p.sn := fun x hx => by
    unfold slI at hx
    obtain ⟨i, hi, rfl⟩ := List.mem_map.1 hx
    have := List.mem_range.1 (List.mem_filter.1 hi).1
    omega
  have hout : ∀ n : Int, ¬ p.inB (iV n) → ¬ (1 ≤ n ∧ n ≤ p.sn) := fun n h1 h2 => h1 ⟨rfl, emp_toList, h2.1, h2.2⟩
  have hnd : ∀ x, x ∈ p.ndI → ∃ i, p.h.occ i ∧ p.h.key i = iV x := fun x hx => by
    unfold ndI at hx
    obtain ⟨i, hi, rfl⟩ := List.mem_map.1 hx
    obtain ⟨h1, h2⟩ := List.mem_filter.1 hi
    have ho := ndL_occ H h1
    exact ⟨i, ho, key2 i ho (by simpa using h2)⟩
  unfold ints
  rw [List.nodup_append, List.nodup_append]
  refine ⟨⟨?_, ?_, ?_⟩, ?_, ?_⟩
  · unfold slI
    rw [List.nodup_iff_pairwise_ne, List.pairwise_map]
    refine List.Pairwise.imp ?_ (List.nodup_iff_pairwise_ne.1 (List.nodup_range.filter _))
    intro a b hab e; exact hab (by omega)
  · unfold ndI
    rw [List.nodup_iff_pairwise_ne, List.pairwise_map]
    have hnd : (p.ndL.filter fun i => decide ((p.h.key i).k = 2)).Nodup := (List.nodup_range.filter _).filter _
    refine List.Pairwise.imp_of_mem ?_ (List.nodup_iff_pairwise_ne.1 hnd)
    intro a b ha hb' hab e
    obtain ⟨a1, a2⟩ := List.mem_filter.1 ha
    obtain ⟨b1, b2⟩ := List.mem_filter.1 hb'
    have oa := ndL_occ H a1
    have ob := ndL_occ H b1
    refine hab (H.hg.ok.dist a b oa ob ?_)
    rw [key2 a oa (by simpa using a2), key2 b ob (by simpa using b2), e]
  · intro x hx y hy e
    subst e
    obtain ⟨i, ho, hi⟩ := hnd x hy
    exact hout x (by rw [← hi]; exact H.off i ho) (hsl x hx)
  · split <;> simp
  · intro x hx y hy e
    subst e
    by_cases h2 : k.k = 2
    · rw [if_pos h2] at hy
      obtain rfl : x = k.n := by simpa using hy
      rcases List.mem_append.1 hx with h3 | h3
      · exact hout k.n (by rw [← iV_of hk h2]; exact hb) (hsl _ h3)
      · obtain ⟨i, ho, hi⟩ := hnd _ h3
        exact hn i ho (by rw [hi, ← iV_of hk h2])
    · rw [if_neg h2] at hy; simp at hy
theorem filter_split {α : Type} (f g : α → Bool) : ∀ l : List α, (l.filter f).length = ((l.filter g).filter f).length + ((l.filter fun x => !g x).filter f).length
  | [] => rfl
  | a :: l => by
    have ih := filter_split f g l
    cases hg : g a <;> cases hf : f a <;> simp [hg, hf, List.filter_cons, -List.filter_filter] <;> omega
theorem length_map_filter {α β : Type} (f : α → β) (g : β → Bool) : ∀ l : List α, ((l.map f).filter g).length = (l.filter fun x => g (f x)).length
  | [] => rfl
  | a :: l => by
    have ih := length_map_filter f g l
    cases hg : g (f a) <;> simp [hg, List.filter_cons, ih]
/-- How many of the list are not from 1 to a. -/
def beyond (l : List Int) (a : Int) : Nat := (l.filter fun x => decide (¬ (1 ≤ x ∧ x ≤ a))).length
theorem beyond_within (l : List Int) (a : Int) : (l.length : Int) = Cs.within l a + beyond l a := by
  unfold Cs.within beyond
  induction l with
  | nil => rfl
  | cons x l ih =>
    by_cases e : 1 ≤ x ∧ x ≤ a
    · rw [List.filter_cons_of_pos (by simpa using e), List.filter_cons_of_neg (by simpa using e)]
      simp only [List.length_cons]; omega
    · rw [List.filter_cons_of_neg (by simp only [decide_eq_true_eq]; exact e), List.filter_cons_of_pos (by simp only [decide_eq_true_eq]; exact e)]
      simp only [List.length_cons]; omega
theorem beyond_append (l m : List Int) (a : Int) : beyond (l ++ m) a = beyond l a + beyond m a := by unfold beyond; rw [List.filter_append, List.length_append]
end PT
end Go.Proofs.YteheolefemlcgaaGreat
/- A table in plain terms: what a rehash comes to; Set. -/
namespace Go.Proofs.YteheolefemlcgaaGreat
open Go.RowKit
set_option linter.unusedVariables false
set_option linter.unusedSimpArgs false

namespace PT
variable {p : PT}
theorem slI_length (p : PT) : p.slI.length ≤ p.sn := by
  unfold slI; rw [List.length_map]
  exact Nat.le_trans (List.length_filter_le _ _) (by simp)
theorem ndL_length (p : PT) : p.ndL.length ≤ p.h.n := by unfold ndL; exact Nat.le_trans (List.length_filter_le _ _) (by simp)
theorem ndI_length (p : PT) : p.ndI.length ≤ p.h.n := by
  unfold ndI; rw [List.length_map]
  exact Nat.le_trans (List.length_filter_le _ _) p.ndL_length
theorem ndO_length (p : PT) : p.ndO.length ≤ p.h.n := by
  unfold ndO
  exact Nat.le_trans (List.length_filter_le _ _) p.ndL_length
theorem ints_length (H : p.ok) (k : V) : (p.ints k).length ≤ 131073 := by
  have h1 := p.slI_length; have h2 := p.ndI_length; have h3 := H.sz; have h4 := H.hg.sz
  unfold ints
  rw [List.length_append, List.length_append]
  split <;> simp <;> omega
theorem oth_range (H : p.ok) (k : V) : 0 ≤ p.oth k ∧ p.oth k ≤ 65537 := by
  have h2 := p.ndO_length; have h4 := H.hg.sz
  unfold oth
  split <;> omega
theorem ints_in (H : p.ok) {k : V} (h64 : In64 k.n) : ∀ x ∈ p.ints k, In64 x := by
  intro x hx
  unfold ints at hx
  rw [List.mem_append, List.mem_append] at hx
  rcases hx with (hx | hx) | hx
  · unfold slI at hx
    obtain ⟨i, hi, rfl⟩ := List.mem_map.1 hx
    have := List.mem_range.1 (List.mem_filter.1 hi).1
    have := H.sz
    unfold In64; omega
  · unfold ndI at hx
    obtain ⟨i, hi, rfl⟩ := List.mem_map.1 hx
    exact H.kin i
  · split at hx
    · obtain rfl : x = k.n := by simpa using hx
      exact h64
    · simp at hx
/-- What the census says: its errors, the sizes. -/
theorem re_is (H : p.ok) {k : V} (hk : okV k = true) (hb : ¬ p.inB k) (hn : ∀ i, p.h.occ i → p.h.key i ≠ k) :
    (p.reE k = 14 ∨ p.reE k = 0) ∧ (p.reE k = 0 → Cs.sizesA (p.ints k) (p.oth k) = p.reA k ∧ Cs.sizesH (p.ints k) (p.oth k) = p.reN k ∧ (p.reA k : Int) = Cs.chooseA (Cs.countL (p.ints k)) ∧ p.reA k ≤ 65536 ∧ p.reN k ≤ 65536 ∧ (p.reN k = 0 ∨ ∃ e, e ≤ 16 ∧ p.reN k = 2 ^ e)
      ∧ (p.reN k : Int) = Ws.ceil2 (beyond (p.ints k) (p.reA k) + p.oth k) ∧ beyond (p.ints k) (p.reA k) + p.oth k ≤ p.reN k) := by
  have hl := ints_length H k
  have ho := oth_range H k
  have hd : Cs.dup (p.ints k) = false := by unfold Cs.dup; simp [ints_nodup H hk hb hn]
  by_cases hbig : 65536 < p.oth k ∨ 65536 < Cs.rest (p.ints k) (p.oth k)
  · have := (Cs.sizes_big (by omega) hd hbig).1
    exact ⟨.inl this, fun h => by unfold reE at h; omega⟩
  · obtain ⟨e1, e2, e3⟩ := Cs.sizes_ok (by omega) hd hbig
    refine ⟨.inr e1, fun _ => ?_⟩
    have hcn := Cs.chooseN_within (p.ints k) (by omega)
    have hbw := beyond_within (p.ints k) (Cs.chooseA (Cs.countL (p.ints k)))
    have hrest : Cs.rest (p.ints k) (p.oth k) = beyond (p.ints k) (Cs.chooseA (Cs.countL (p.ints k))) + p.oth k := by
      unfold Cs.rest; rw [hcn]; omega
    have hA : 0 ≤ Cs.chooseA (Cs.countL (p.ints k)) ∧ Cs.chooseA (Cs.countL (p.ints k)) ≤ 65536 := by
      rcases Cs.choose_dense (p.ints k) (by omega) with ⟨a, -, -⟩ | ⟨i, hi, a, -, -⟩
      · rw [a]; omega
      · have h1 : (2 : Nat) ^ i ≤ 65536 := Nat.le_trans (Nat.pow_le_pow_right (by omega) hi) (by decide)
        have h2 : ((2 : Int) ^ i) = ((2 ^ i : Nat) : Int) := by simp
        rw [a, h2]
        generalize (2 : Nat) ^ i = q at h1 ⊢
        omega
    have hAe : (p.reA k : Int) = Cs.chooseA (Cs.countL (p.ints k)) := by unfold reA; rw [e2]; omega
    rw [← hAe] at hrest
    have hr0 : 0 ≤ Cs.rest (p.ints k) (p.oth k) := by rw [hrest]; omega
    have hc0 : 0 ≤ Ws.ceil2 (Cs.rest (p.ints k) (p.oth k)) := by
      unfold Ws.ceil2
      split
      · omega
      · split
        · omega
        · have h2 : ∀ j : Nat, ((2 : Int) ^ j) = ((2 ^ j : Nat) : Int) := fun j => by simp
          rw [h2]; exact Int.natCast_nonneg _
    have hNe : (p.reN k : Int) = Ws.ceil2 (Cs.rest (p.ints k) (p.oth k)) := by unfold reN; rw [e3]; omega
    have hcl := Cs.ceil2_le (Cs.rest (p.ints k) (p.oth k)) hr0 (by omega)
    refine ⟨by rw [e2, hAe], by rw [e3, hNe], hAe, by omega, by omega, ?_, by rw [hNe, hrest], ?_⟩
    · by_cases e : Cs.rest (p.ints k) (p.oth k) = 0
      · left
        rw [e] at hNe
        have : Ws.ceil2 0 = 0 := by decide
        omega
      · right
        obtain ⟨j, -, -, h2, -, -, -, -⟩ := Ws.ceil2_k _ (by omega : 1 ≤ Cs.rest (p.ints k) (p.oth k)) (by omega)
        have h3 : ((2 : Int) ^ j) = ((2 ^ j : Nat) : Int) := by simp
        rw [h3] at h2
        refine ⟨j, ?_, by omega⟩
        apply Decidable.byContradiction
        intro hj
        have h4 : 131072 ≤ (2 : Nat) ^ j := Nat.le_trans (by decide) (Nat.pow_le_pow_right (by omega) (by omega : 17 ≤ j))
        generalize (2 : Nat) ^ j = q at h2 h4
        omega
    · by_cases e : Cs.rest (p.ints k) (p.oth k) = 0
      · omega
      · obtain ⟨j, -, -, h2, -, h6, -, -⟩ := Ws.ceil2_k _ (by omega : 1 ≤ Cs.rest (p.ints k) (p.oth k)) (by omega)
        omega
theorem get_out {k : V} (h : ¬ p.inB k) : p.get k = p.h.get k := by unfold get; rw [if_neg h]
theorem get_in {k : V} (h : p.inB k) : p.get k = p.sv (ix k) := by unfold get; rw [if_pos h]
theorem slM_mem {a : Nat} {kv : V × V} : kv ∈ p.slM a ↔ ∃ i, i < p.sn ∧ a ≤ i ∧ (p.sv i).k ≠ 0 ∧ kv = (iV ((i : Int) + 1), p.sv i) := by
  unfold slM
  rw [List.mem_map]
  constructor
  · rintro ⟨i, hi, rfl⟩
    obtain ⟨h1, h2⟩ := List.mem_filter.1 hi
    have h3 := of_decide_eq_true h2
    exact ⟨i, List.mem_range.1 h1, h3.1, h3.2, rfl⟩
  · rintro ⟨i, h1, h2, h3, rfl⟩
    exact ⟨i, List.mem_filter.2 ⟨List.mem_range.2 h1, decide_eq_true ⟨h2, h3⟩⟩, rfl⟩
theorem ndM_mem {kv : V × V} : kv ∈ p.ndM ↔ ∃ i, i ∈ p.ndL ∧ kv = (p.h.key i, p.h.val i) := by
  unfold ndM
  rw [List.mem_map]
  constructor
  · rintro ⟨i, hi, rfl⟩; exact ⟨i, List.mem_reverse.1 hi, rfl⟩
  · rintro ⟨i, hi, rfl⟩; exact ⟨i, List.mem_reverse.2 hi, rfl⟩
/-- How many of the keys that are put are not in the new array part. -/
theorem moves_out (H : p.ok) (a n : Nat) (x y : Int) : ((p.moves a).filter fun kv => decide (¬ (p.fresh a n x y).inB kv.1)).length = beyond p.slI a + beyond p.ndI a + p.ndO.length := by
  have hI : ∀ m : Int, (p.fresh a n x y).inB (iV m) ↔ (1 ≤ m ∧ m ≤ a) := fun m => ⟨fun h => ⟨h.2.2.1, h.2.2.2⟩, fun h => ⟨rfl, emp_toList, h.1, h.2⟩⟩
  unfold moves
  rw [List.filter_append, List.length_append]
  have h1 : ((p.slM a).filter fun kv => decide (¬ (p.fresh a n x y).inB kv.1)).length = beyond p.slI a := by
    unfold slM beyond slI
    rw [length_map_filter, length_map_filter, List.filter_filter, List.filter_filter]
    congr 1
    apply List.filter_congr
    intro i hi
    simp only [hI]
    rw [Bool.eq_iff_iff]
    simp
    omega
  have h2 : (p.ndM.filter fun kv => decide (¬ (p.fresh a n x y).inB kv.1)).length = beyond p.ndI a + p.ndO.length := by
    unfold ndM
    rw [length_map_filter, List.filter_reverse, List.length_reverse]
    rw [filter_split (fun i => decide (¬ (p.fresh a n x y).inB (p.h.key i))) (fun i => decide ((p.h.key i).k = 2)) p.ndL]
    congr 1
    · unfold beyond ndI
      rw [length_map_filter]
      congr 1
      apply List.filter_congr
      intro i hi
      obtain ⟨hi1, hi2⟩ := List.mem_filter.1 hi
      have h2 : (p.h.key i).k = 2 := by simpa using hi2
      have e := hI (p.h.key i).n
      rw [← iV_of (H.hg.ok.form i) h2] at e
      exact decide_eq_decide.2 (not_congr e)
    · unfold ndO
      have e : (p.ndL.filter fun i => !decide ((p.h.key i).k = 2)) = p.ndL.filter fun i => decide (¬ (p.h.key i).k = 2) := by
        congr 1; funext i; simp
      rw [e]
      congr 1
      rw [List.filter_eq_self]
      intro i hi
      have h2 : ¬ (p.h.key i).k = 2 := of_decide_eq_true (List.mem_filter.1 hi).2
      exact decide_eq_true fun h => h2 h.1
  rw [h1, h2]; omega
theorem fresh_ok (H : p.ok) (a n : Nat) (x y : Int) (ha : a ≤ 65536) (hn : n ≤ 65536) (hp : n = 0 ∨ ∃ e, e ≤ 16 ∧ n = 2 ^ e) : (p.fresh a n x y).ok := by
  refine ⟨good_new n hn hp, ha, fun i => ?_, fun i => okV_nil, fun i hi => absurd rfl hi, fun i => ?_⟩
  · show okV (if i < min a p.sn then p.sv i else nilV) = true
    split
    · exact H.sf i
    · exact okV_nil
  · show In64 nilV.n; unfold In64 nilV; simp
theorem fresh_get (H : p.ok) (a n : Nat) (x y : Int) (hn : n ≤ 65536) (hp : n = 0 ∨ ∃ e, e ≤ 16 ∧ n = 2 ^ e) (k : V) : (p.fresh a n x y).get k = if (p.fresh a n x y).inB k ∧ p.inB k then p.sv (ix k) else nilV := by
  by_cases hb : (p.fresh a n x y).inB k
  · rw [get_in hb]
    show (if ix k < min a p.sn then p.sv (ix k) else nilV) = _
    have h1 := hb.2.2.1; have h2 : k.n ≤ (a : Int) := hb.2.2.2
    by_cases hs : k.n ≤ p.sn
    · rw [if_pos (show ix k < min a p.sn by unfold ix; omega), if_pos ⟨hb, hb.1, hb.2.1, h1, hs⟩]
    · rw [if_neg (show ¬ ix k < min a p.sn by unfold ix; omega), if_neg (fun h => hs h.2.2.2.2)]
  · rw [get_out hb, if_neg (fun h => hb h.1)]
    exact PH.get_no (good_new n hn hp) k (fun i hi => absurd rfl hi)
/-- The new parts: they hold what the old ones held, and have room for the new key. -/
theorem laid_is (H : p.ok) {k : V} (hk : okV k = true) (hk0 : k.k ≠ 0) (h64 : In64 k.n) (hb : ¬ p.inB k) (hn : ∀ i, p.h.occ i → p.h.key i ≠ k) (he : p.reE k = 0) (x y : Int) :
    (p.laid k x y).ok ∧ (p.laid k x y).sn = p.reA k ∧ (p.laid k x y).sAt = x ∧ (p.laid k x y).nAt = y ∧ (p.laid k x y).h.n = p.reN k ∧ (∀ k', (p.laid k x y).get k' = p.get k') ∧ ∀ v, okV v = true → ((p.laid k x y).put k v).2.2 = 0 := by
  obtain ⟨-, hs⟩ := re_is H hk hb hn
  obtain ⟨-, -, -, ha, hnn, hp, -, hroom⟩ := hs he
  have hf := fresh_ok H (p.reA k) (p.reN k) x y ha hnn hp
  have hmo := moves_out H (p.reA k) (p.reN k) x y
  have hcnt : beyond (p.ints k) (p.reA k) + p.oth k = beyond p.slI (p.reA k) + beyond p.ndI (p.reA k) + p.ndO.length + (if (p.fresh (p.reA k) (p.reN k) x y).inB k then 0 else 1 : Nat) := by
    unfold ints oth
    rw [beyond_append, beyond_append]
    by_cases h2 : k.k = 2
    · rw [if_pos h2, if_pos h2]
      have e := iV_of hk h2
      have e2 : (p.fresh (p.reA k) (p.reN k) x y).inB k ↔ (1 ≤ k.n ∧ k.n ≤ p.reA k) := ⟨fun h => h.2.2, fun h => ⟨h2, by rw [e]; exact emp_toList, h⟩⟩
      by_cases h3 : 1 ≤ k.n ∧ k.n ≤ p.reA k
      · rw [if_pos (e2.2 h3)]
        have : beyond [k.n] (p.reA k) = 0 := by unfold beyond; rw [List.filter_cons_of_neg (by simp only [decide_eq_true_eq]; exact fun h => h h3)]; rfl
        omega
      · rw [if_neg (fun h => h3 (e2.1 h))]
        have : beyond [k.n] (p.reA k) = 1 := by unfold beyond; rw [List.filter_cons_of_pos (by simp only [decide_eq_true_eq]; exact h3)]; rfl
        omega
    · rw [if_neg h2, if_neg h2, if_neg (fun h => h2 h.1)]
      have : beyond [] (p.reA k) = 0 := rfl
      omega
  have hforms : ∀ kv ∈ p.moves (p.reA k), okV kv.1 = true ∧ okV kv.2 = true ∧ kv.1.k ≠ 0 ∧ In64 kv.1.n := by
    intro kv hkv
    rcases List.mem_append.1 hkv with h | h
    · obtain ⟨i, h1, -, -, rfl⟩ := slM_mem.1 h
      refine ⟨okV_iV _, H.sf i, (show (2 : Int) ≠ 0 by decide), ?_⟩
      have := H.sz
      show In64 ((i : Int) + 1)
      unfold In64; omega
    · obtain ⟨i, h1, rfl⟩ := ndM_mem.1 h
      exact ⟨H.hg.ok.form i, H.vf i, ndL_occ H h1, H.kin i⟩
  obtain ⟨b1, b2, b3, b4, b5, b6, S', b7, b8⟩ := putL_is (p.moves (p.reA k)) (p.fresh (p.reA k) (p.reN k) x y) [] hf (fun i hi => absurd rfl hi) hforms (by
    rw [hmo]; show 0 + _ ≤ p.reN k
    split at hcnt <;> omega)
  refine ⟨b1, b2, b3, b4, b5, fun k' => ?_, fun v hv => ?_⟩
  · show ((p.fresh (p.reA k) (p.reN k) x y).putL (p.moves (p.reA k))).get k' = _
    rw [b6]
    have hfg := fresh_get H (p.reA k) (p.reN k) x y hnn hp k'
    apply lk_const
    · intro kv hkv e
      rcases List.mem_append.1 hkv with h | h
      · obtain ⟨i, h1, -, -, rfl⟩ := slM_mem.1 h
        subst e
        have hin : p.inB (iV ((i : Int) + 1)) := ⟨rfl, emp_toList, by show (1 : Int) ≤ (i : Int) + 1; omega, by show (i : Int) + 1 ≤ p.sn; omega⟩
        rw [get_in hin]
        show p.sv i = p.sv ((i : Int) + 1 - 1).toNat
        congr 1; omega
      · obtain ⟨i, h1, rfl⟩ := ndM_mem.1 h
        subst e
        have ho := ndL_occ H h1
        rw [get_out (H.off i ho)]
        exact (PH.get_at H.hg i ho).symm
    · rw [hfg]
      by_cases hin : p.inB k'
      · rw [get_in hin]
        by_cases hin2 : (p.fresh (p.reA k) (p.reN k) x y).inB k'
        · rw [if_pos ⟨hin2, hin⟩]; exact .inl rfl
        · rw [if_neg (fun h => hin2 h.1)]
          have hk' := inB_iV hin
          have hix : (ix k' : Int) = k'.n - 1 := by unfold ix; have := hin.2.2.1; omega
          have hge : p.reA k ≤ ix k' := by
            apply Decidable.byContradiction
            intro hlt
            exact hin2 ⟨hin.1, hin.2.1, hin.2.2.1, by show k'.n ≤ (p.reA k : Int); omega⟩
          by_cases hz : (p.sv (ix k')).k = 0
          · left
            have h3 := PH.nil_of (H.sf (ix k')) hz
            rw [h3]
          · right
            refine ⟨(iV ((ix k' : Int) + 1), p.sv (ix k')), List.mem_append_left _ (slM_mem.2 ⟨ix k', ?_, hge, hz, rfl⟩), ?_⟩
            · have := hin.2.2.2; omega
            · show iV ((ix k' : Int) + 1) = k'
              rw [hk', show (ix (iV k'.n) : Int) + 1 = k'.n from by rw [← hk']; omega]
      · rw [if_neg (fun h => hin h.2), get_out hin]
        rcases PH.get_two H.hg k' with ⟨i, h1, h2, h3⟩ | ⟨h1, h2⟩
        · by_cases hz : (p.h.val i).k = 0
          · left
            rw [h3, PH.nil_of (H.vf i) hz]
          · exact .inr ⟨(p.h.key i, p.h.val i), List.mem_append_right _ (ndM_mem.2 ⟨i, ndL_mem.2 ⟨H.hg.ok.occ_lt h1, hz⟩, rfl⟩), h2⟩
        · left; exact h2.symm
  · obtain ⟨-, -, -, -, -, -, h6⟩ := put_is b1 (v := v) hk hv hk0 h64
    rcases h6 with ⟨-, hb2, hall, -⟩ | ⟨h7, -⟩
    · exfalso
      have hb3 : ¬ (p.fresh (p.reA k) (p.reN k) x y).inB k := fun h => hb2 ((inB_sn b2 k).2 h)
      rw [if_neg hb3] at hcnt
      have h9 := PH.full_le b1.hg S' b7 hall
      rw [b5] at h9
      have h10 : (p.fresh (p.reA k) (p.reN k) x y).h.n = p.reN k := rfl
      rw [hmo] at b8
      simp at b8
      omega
    · exact h7
end PT
/-- A table: its parts, the hint of its border, how many nodes were read for it. -/
structure Tbl where
  p : PT
  hint : Int
  pr : Int
/-- The blocks for new parts. -/
def layE (hs : HS) (a n : Int) : Int := if hs.roomE a ≠ 0 then hs.roomE a else (hs.take a).roomE (3 * n)
def layH (hs : HS) (a n : Int) : HS := if hs.roomE a ≠ 0 then hs.take a else if (hs.take a).roomE (3 * n) ≠ 0 then (hs.take a).give (hs.takeId a) else (hs.take a).take (3 * n)
def layA (hs : HS) (a : Int) : Int := hs.takeId a
def layN (hs : HS) (a n : Int) : Int := (hs.take a).takeId (3 * n)
namespace Tbl
def get (t : Tbl) (k : V) : V := t.p.get k
/-- rehash: the table, the heap, the error. -/
def reh (t : Tbl) (hs : HS) (k : V) : Tbl × HS × Int :=
  if t.p.reE k ≠ 0 then (t, hs, t.p.reE k)
  else if layE hs (t.p.reA k) (t.p.reN k) ≠ 0 then (t, layH hs (t.p.reA k) (t.p.reN k), layE hs (t.p.reA k) (t.p.reN k))
  else ({ p := t.p.laid k (layA hs (t.p.reA k)) (layN hs (t.p.reA k) (t.p.reN k)), hint := 0, pr := t.pr }, ((layH hs (t.p.reA k) (t.p.reN k)).give t.p.sAt).give t.p.nAt, 0)
/-- The table behind the first try of a Set. -/
def tried (t : Tbl) (k v : V) : Tbl := { p := (t.p.put k v).1, hint := t.hint, pr := wrap64 (t.pr + (t.p.put k v).2.1) }
/-- Set: the table, the heap, the error. -/
def set (t : Tbl) (hs : HS) (k v : V) : Tbl × HS × Int :=
  if okV k = false ∨ okV v = false then (t, hs, 2)
  else if (t.p.put k v).2.2 ≠ 12 then (t.tried k v, hs, (t.p.put k v).2.2)
  else if ((t.tried k v).reh hs k).2.2 ≠ 0 then (t.tried k v).reh hs k
  else ({ ((t.tried k v).reh hs k).1 with p := (((t.tried k v).reh hs k).1.p.put k v).1 }, ((t.tried k v).reh hs k).2.1, (((t.tried k v).reh hs k).1.p.put k v).2.2)
/-- A Set: a table is a map. -/
theorem set_is {t : Tbl} {hs : HS} (H : t.p.ok) {k v : V} (h64 : In64 k.n) :
    (t.set hs k v).1.p.ok ∧ ((t.set hs k v).2.2 = 0 → ∀ k', (t.set hs k v).1.get k' = if k' = k then v else t.get k') ∧ ((t.set hs k v).2.2 ≠ 0 → ∀ k', (t.set hs k v).1.get k' = t.get k') := by
  unfold set
  by_cases h1 : okV k = false ∨ okV v = false
  · rw [if_pos h1]; exact ⟨H, fun h => by simp at h, fun _ _ => rfl⟩
  · rw [if_neg h1]
    have hk : okV k = true := by cases e : okV k; exact absurd (.inl e) h1; rfl
    have hv : okV v = true := by cases e : okV v; exact absurd (.inr e) h1; rfl
    by_cases hk0 : k.k = 0
    · have e := PT.put_nil (p := t.p) hk hv hk0
      rw [if_pos (by rw [e]; simp)]
      unfold tried
      rw [e]
      exact ⟨H, fun h => by simp at h, fun _ _ => rfl⟩
    · obtain ⟨o1, o2, o3, o4, o5, -, o6⟩ := PT.put_is H (v := v) hk hv hk0 h64
      rcases o6 with ⟨e, hb, hall, hnew, hv0, esv, ek, ev, ec, eg⟩ | ⟨e, eg, -⟩
      · rw [if_neg (by rw [e]; simp)]
        have hb' : ¬ (t.tried k v).p.inB k := fun h => hb ((PT.inB_sn o2 k).1 h)
        have hnew' : ∀ i, (t.tried k v).p.h.occ i → (t.tried k v).p.h.key i ≠ k := fun i hi => by
          have e2 : (t.tried k v).p.h.key = t.p.h.key := ek
          unfold PH.occ at hi
          rw [e2] at hi ⊢
          exact hnew i hi
        by_cases hr : ((t.tried k v).reh hs k).2.2 ≠ 0
        · rw [if_pos hr]
          refine ⟨?_, fun h => absurd h hr, fun _ => ?_⟩ <;> unfold reh at hr ⊢
          · split
            · exact o1
            · rename_i he
              split
              · exact o1
              · rename_i hl
                rw [if_neg he, if_neg hl] at hr
                exact absurd rfl hr
          · split
            · exact eg
            · rename_i he
              split
              · exact eg
              · rename_i hl
                rw [if_neg he, if_neg hl] at hr
                exact absurd rfl hr
        · rw [if_neg hr]
          have he : (t.tried k v).p.reE k = 0 := by
            apply Decidable.byContradiction
            intro h
            unfold reh at hr
            rw [if_pos h] at hr
            exact hr h
          have hl : layE hs ((t.tried k v).p.reA k) ((t.tried k v).p.reN k) = 0 := by
            apply Decidable.byContradiction
            intro h
            unfold reh at hr
            rw [if_neg (by simpa using he), if_pos h] at hr
            exact hr h
          have e2 : (t.tried k v).reh hs k = ({ p := (t.tried k v).p.laid k (layA hs ((t.tried k v).p.reA k)) (layN hs ((t.tried k v).p.reA k) ((t.tried k v).p.reN k)), hint := 0, pr := (t.tried k v).pr }, ((layH hs ((t.tried k v).p.reA k) ((t.tried k v).p.reN k)).give (t.tried k v).p.sAt).give (t.tried k v).p.nAt, 0) := by
            unfold reh
            rw [if_neg (by simpa using he), if_neg (by simpa using hl)]
          rw [e2]
          obtain ⟨q1, q2, q3, q4, q5, q6, q7⟩ := PT.laid_is (p := (t.tried k v).p) o1 hk hk0 h64 hb' hnew' he (layA hs ((t.tried k v).p.reA k)) (layN hs ((t.tried k v).p.reA k) ((t.tried k v).p.reN k))
          obtain ⟨r1, -, -, -, -, -, r6⟩ := PT.put_is q1 (v := v) hk hv hk0 h64
          refine ⟨r1, fun _ k' => ?_, fun h => absurd (q7 v hv) h⟩
          rcases r6 with ⟨r7, -⟩ | ⟨-, r8, -⟩
          · rw [q7 v hv] at r7; simp at r7
          · show PT.get _ k' = _
            rw [r8, q6]
            have : (t.tried k v).p.get k' = t.p.get k' := eg k'
            rw [this]; rfl
      · rw [if_pos (by rw [e]; decide)]
        exact ⟨o1, fun _ => eg, fun h => absurd e h⟩
/-- A rehash that goes through leaves a table in order. -/
theorem reh_ok {t : Tbl} {hs : HS} (H : t.p.ok) {k v : V} (hk : okV k = true) (hv : okV v = true) (hk0 : k.k ≠ 0) (h64 : In64 k.n) (h12 : (t.p.put k v).2.2 = 12) (h0 : ((t.tried k v).reh hs k).2.2 = 0) : ((t.tried k v).reh hs k).1.p.ok := by
  obtain ⟨o1, o2, o3, o4, o5, -, o6⟩ := PT.put_is H (v := v) hk hv hk0 h64
  rcases o6 with ⟨e, hb, hall, hnew, hv0, esv, ek, ev, ec, eg⟩ | ⟨e, -⟩
  · have hb' : ¬ (t.tried k v).p.inB k := fun h => hb ((PT.inB_sn o2 k).1 h)
    have hnew' : ∀ i, (t.tried k v).p.h.occ i → (t.tried k v).p.h.key i ≠ k := fun i hi => by
      have e2 : (t.tried k v).p.h.key = t.p.h.key := ek
      unfold PH.occ at hi
      rw [e2] at hi ⊢
      exact hnew i hi
    unfold reh at h0 ⊢
    by_cases he : (t.tried k v).p.reE k ≠ 0
    · rw [if_pos he] at h0; exact absurd h0 he
    · rw [if_neg he] at h0 ⊢
      by_cases hl : layE hs ((t.tried k v).p.reA k) ((t.tried k v).p.reN k) ≠ 0
      · rw [if_pos hl] at h0; exact absurd h0 hl
      · rw [if_neg hl]
        exact (PT.laid_is (p := (t.tried k v).p) o1 hk hk0 h64 hb' hnew' (by simpa using he) _ _).1
  · rw [h12] at e; simp at e
end Tbl
end Go.Proofs.YteheolefemlcgaaGreat
/- A table's blocks on a heap: its live cells. -/
namespace Go.Proofs.YteheolefemlcgaaGreat
open Go.RowKit Go.Maps
set_option linter.unusedVariables false
set_option linter.unusedSimpArgs false

namespace HS
/-- A block that is taken: its number was not. -/
theorem take_is {h : HS} (k : h.ok) {n : Int} (hr : h.roomE n = 0) (h0 : n ≠ 0) : h.tk (h.takeId n) = none ∧ 1 ≤ h.takeId n ∧ (h.take n).tk = updI h.tk (h.takeId n) (some n) ∧ (h.take n).live = h.live + n ∧ (h.take n).lim = h.lim ∧ (h.take n).sizes.length ≤ h.sizes.length + 1 ∧ h.takeId n ≤ h.sizes.length + 1 := by
  unfold takeId take
  rw [if_neg (by simp [hr, h0]), if_neg (by simp [hr, h0])]
  cases e : (h.rd n).getLast? with
  | some id =>
    have hm : id ∈ h.rd n := by rw [getLast_concat e]; simp
    obtain ⟨a1, a2, a3, a4⟩ := k.rd n id hm
    exact ⟨a4, a1, rfl, rfl, rfl, by simp [takeOld], by show id ≤ _; omega⟩
  | none =>
    refine ⟨?_, by simp only; omega, rfl, rfl, rfl, by simp [takeNew], by simp⟩
    cases e2 : h.tk ((h.sizes.length : Int) + 1) with
    | none => rfl
    | some m => obtain ⟨-, a2, -⟩ := k.tk _ _ e2; omega
theorem take_zero {h : HS} : h.take 0 = h ∧ h.takeId 0 = 0 := by unfold take takeId; simp
theorem take_no {h : HS} {n : Int} (hr : h.roomE n ≠ 0) : h.take n = h ∧ h.takeId n = 0 := by unfold take takeId; simp [hr]
theorem give_zero {h : HS} : h.give 0 = h := by unfold give; simp
theorem give_is {h : HS} {id n : Int} (h0 : id ≠ 0) (e : h.tk id = some n) : (h.give id).tk = updI h.tk id none ∧ (h.give id).live = h.live - n ∧ (h.give id).lim = h.lim ∧ (h.give id).sizes = h.sizes := by
  unfold give; rw [if_neg h0, e]; exact ⟨rfl, rfl, rfl, rfl⟩
theorem give_sizes (h : HS) (id : Int) : (h.give id).sizes = h.sizes := by
  unfold give; split
  · rfl
  · split <;> rfl
theorem take_sizes (h : HS) (n : Int) : (h.take n).sizes.length ≤ h.sizes.length + 1 := by
  unfold take; split
  · omega
  · split <;> simp [takeOld, takeNew]
/-- The number id bears n cells (0: none, for no cells). -/
def bears (h : HS) (id n : Int) : Prop := (n = 0 ∧ id = 0) ∨ (0 < n ∧ 1 ≤ id ∧ h.tk id = some n)
/-- Taking: live cells, what other numbers bear. -/
theorem take_bears {h : HS} (k : h.ok) {n : Int} (hr : h.roomE n = 0) : (h.take n).bears (h.takeId n) n ∧ (h.take n).live = h.live + n ∧ (h.take n).ok ∧ (h.take n).lim = h.lim ∧
    ∀ id m, h.bears id m → (h.take n).bears id m ∧ (id = h.takeId n → id = 0) := by
  have hn : 0 ≤ n := by unfold roomE at hr; split at hr <;> omega
  by_cases h0 : n = 0
  · subst h0
    rw [take_zero.1, take_zero.2]
    refine ⟨.inl ⟨rfl, rfl⟩, by omega, k, rfl, fun id m hb => ⟨hb, fun e => e⟩⟩
  · obtain ⟨a1, a2, a3, a4, a5, -, -⟩ := take_is k hr h0
    refine ⟨.inr ⟨by omega, a2, by rw [a3, updI_same]⟩, a4, ok_take k n, a5, fun id m hb => ?_⟩
    rcases hb with ⟨e1, e2⟩ | ⟨e1, e2, e3⟩
    · exact ⟨.inl ⟨e1, e2⟩, fun _ => e2⟩
    · have hne : id ≠ h.takeId n := fun e => by rw [e, a1] at e3; simp at e3
      exact ⟨.inr ⟨e1, e2, by rw [a3, updI_other _ _ _ hne]; exact e3⟩, fun e => absurd e hne⟩
/-- Giving back: live cells, what other numbers bear. -/
theorem give_bears {h : HS} (k : h.ok) {id n : Int} (hb : h.bears id n) : (h.give id).live = h.live - n ∧ (h.give id).ok ∧ (h.give id).lim = h.lim ∧ ∀ id' m, h.bears id' m → (id' = id → id' = 0) → (h.give id).bears id' m := by
  rcases hb with ⟨rfl, rfl⟩ | ⟨e1, e2, e3⟩
  · rw [give_zero]; exact ⟨by omega, k, rfl, fun _ _ h _ => h⟩
  · obtain ⟨a1, a2, a3, -⟩ := give_is (by omega) e3
    refine ⟨a2, ok_give k id, a3, fun id' m hb' hne => ?_⟩
    rcases hb' with ⟨f1, f2⟩ | ⟨f1, f2, f3⟩
    · exact .inl ⟨f1, f2⟩
    · have : id' ≠ id := fun e => by have := hne e; omega
      exact .inr ⟨f1, f2, by rw [a1, updI_other _ _ _ this]; exact f3⟩
end HS
/-- A table's parts bear their cells. -/
structure PT.held (p : PT) (hs : HS) : Prop where
  s : hs.bears p.sAt p.sn
  n : hs.bears p.nAt (3 * p.h.n)
  ne : p.sAt = p.nAt → p.sAt = 0
def PT.cells (p : PT) : Int := p.sn + 3 * p.h.n
/-- Another block is not one of the table's. -/
def PT.apart (p : PT) (id : Int) : Prop := (id = p.sAt → id = 0) ∧ (id = p.nAt → id = 0)
theorem layH_no {hs : HS} (k : hs.ok) {a n : Int} (e : layE hs a n ≠ 0) : (layH hs a n).ok ∧ (layH hs a n).live = hs.live ∧ (layH hs a n).lim = hs.lim ∧ ∀ id m, hs.bears id m → (layH hs a n).bears id m := by
  unfold layE at e
  unfold layH
  by_cases h1 : hs.roomE a ≠ 0
  · rw [if_pos h1, (HS.take_no h1).1]; exact ⟨k, rfl, rfl, fun _ _ h => h⟩
  · rw [if_neg h1] at e ⊢
    rw [if_pos e]
    have hr : hs.roomE a = 0 := by simpa using h1
    obtain ⟨b1, b2, b3, b4, b5⟩ := HS.take_bears k hr
    obtain ⟨c1, c2, c3, c4⟩ := HS.give_bears b3 b1
    exact ⟨c2, by omega, by omega, fun id m hb => c4 id m (b5 id m hb).1 (b5 id m hb).2⟩
theorem layH_yes {hs : HS} (k : hs.ok) {a n : Int} (e : layE hs a n = 0) : (layH hs a n).ok ∧ (layH hs a n).live = hs.live + a + 3 * n ∧ (layH hs a n).lim = hs.lim ∧ (layH hs a n).bears (layA hs a) a ∧ (layH hs a n).bears (layN hs a n) (3 * n) ∧ (layA hs a = layN hs a n → layA hs a = 0)
    ∧ ∀ id m, hs.bears id m → (layH hs a n).bears id m ∧ (id = layA hs a → id = 0) ∧ (id = layN hs a n → id = 0) := by
  unfold layE at e
  unfold layH layA layN
  by_cases h1 : hs.roomE a ≠ 0
  · rw [if_pos h1] at e; exact absurd e h1
  · rw [if_neg h1] at e ⊢
    rw [if_neg (by simpa using e)]
    have hr : hs.roomE a = 0 := by simpa using h1
    obtain ⟨b1, b2, b3, b4, b5⟩ := HS.take_bears k hr
    obtain ⟨c1, c2, c3, c4, c5⟩ := HS.take_bears b3 e
    exact ⟨c3, by omega, by omega, (c5 _ _ b1).1, c1, (c5 _ _ b1).2, fun id m hb => ⟨(c5 _ _ (b5 id m hb).1).1, (b5 id m hb).2, (c5 _ _ (b5 id m hb).1).2⟩⟩
theorem layH_sizes (hs : HS) (a n : Int) : (layH hs a n).sizes.length ≤ hs.sizes.length + 2 := by
  have h1 := HS.take_sizes hs a
  have h2 := HS.take_sizes (hs.take a) (3 * n)
  unfold layH
  split
  · omega
  · split
    · rw [HS.give_sizes]; omega
    · omega
/-- The heap behind a rehash. -/
theorem reh_held {t : Tbl} {hs : HS} (K : hs.ok) (H : t.p.held hs) {k : V} (hfit : t.p.reE k = 0 → (t.p.laid k (layA hs (t.p.reA k)) (layN hs (t.p.reA k) (t.p.reN k))).sn = t.p.reA k ∧ (t.p.laid k (layA hs (t.p.reA k)) (layN hs (t.p.reA k) (t.p.reN k))).h.n = t.p.reN k
      ∧ (t.p.laid k (layA hs (t.p.reA k)) (layN hs (t.p.reA k) (t.p.reN k))).sAt = layA hs (t.p.reA k) ∧ (t.p.laid k (layA hs (t.p.reA k)) (layN hs (t.p.reA k) (t.p.reN k))).nAt = layN hs (t.p.reA k) (t.p.reN k)) :
    (t.reh hs k).2.1.ok ∧ (t.reh hs k).1.p.held (t.reh hs k).2.1 ∧ (t.reh hs k).2.1.live - (t.reh hs k).1.p.cells = hs.live - t.p.cells ∧ (t.reh hs k).2.1.lim = hs.lim ∧
    ∀ id m, hs.bears id m → t.p.apart id → (t.reh hs k).2.1.bears id m ∧ (t.reh hs k).1.p.apart id := by
  unfold Tbl.reh
  by_cases he : t.p.reE k ≠ 0
  · rw [if_pos he]; exact ⟨K, H, rfl, rfl, fun id m h1 h2 => ⟨h1, h2⟩⟩
  · rw [if_neg he]
    by_cases hl : layE hs (t.p.reA k) (t.p.reN k) ≠ 0
    · rw [if_pos hl]
      obtain ⟨a1, a2, a3, a4⟩ := layH_no K hl
      exact ⟨a1, ⟨a4 _ _ H.s, a4 _ _ H.n, H.ne⟩, by simp only; omega, a3, fun id m h1 h2 => ⟨a4 _ _ h1, h2⟩⟩
    · rw [if_neg hl]
      obtain ⟨f1, f2, f3, f4⟩ := hfit (by simpa using he)
      obtain ⟨a1, a2, a3, a4, a5, a6, a7⟩ := layH_yes K (by simpa using hl : layE hs (t.p.reA k) (t.p.reN k) = 0)
      obtain ⟨s1, s2, s3⟩ := a7 _ _ H.s
      obtain ⟨n1, n2, n3⟩ := a7 _ _ H.n
      obtain ⟨b1, b2, b3, b4⟩ := HS.give_bears a1 s1
      have n4 := b4 _ _ n1 (fun e => by rw [e]; exact H.ne e.symm)
      obtain ⟨c1, c2, c3, c4⟩ := HS.give_bears b2 n4
      have far : ∀ id m, (layH hs (t.p.reA k) (t.p.reN k)).bears id m → (id = t.p.sAt → id = 0) → (id = t.p.nAt → id = 0) → (((layH hs (t.p.reA k) (t.p.reN k)).give t.p.sAt).give t.p.nAt).bears id m := fun id m h1 h2 h3 => c4 id m (b4 id m h1 h2) h3
      refine ⟨c2, ⟨?_, ?_, ?_⟩, ?_, by simp only; omega, fun id m h1 h2 => ?_⟩
      · show HS.bears _ (PT.sAt _) (PT.sn _)
        rw [f1, f3]
        exact far _ _ a4 (fun e => by rw [← e] at s2; exact s2 rfl) (fun e => by rw [← e] at n2; exact n2 rfl)
      · show HS.bears _ (PT.nAt _) (3 * ((PH.n _ : Nat) : Int))
        rw [f2, f4]
        exact far _ _ a5 (fun e => by rw [← e] at s3; exact s3 rfl) (fun e => by rw [← e] at n3; exact n3 rfl)
      · show PT.sAt _ = PT.nAt _ → PT.sAt _ = 0
        rw [f3, f4]; exact a6
      · show HS.live (HS.give (HS.give (layH hs (t.p.reA k) (t.p.reN k)) t.p.sAt) t.p.nAt) - ((PT.sn _ : Int) + 3 * ((PH.n _ : Nat) : Int)) = hs.live - ((t.p.sn : Int) + 3 * t.p.h.n)
        rw [f1, f2]; omega
      · obtain ⟨g1, g2, g3⟩ := a7 _ _ h1
        refine ⟨far _ _ g1 h2.1 h2.2, ?_, ?_⟩
        · show id = PT.sAt _ → id = 0; rw [f3]; exact g2
        · show id = PT.nAt _ → id = 0; rw [f4]; exact g3
end Go.Proofs.YteheolefemlcgaaGreat
