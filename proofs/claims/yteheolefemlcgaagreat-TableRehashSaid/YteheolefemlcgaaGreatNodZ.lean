/- Folded of NodeS, Node8, Node9, NodeN. -/
import Derived.Test.YteheolefemlcgaaGreatNodY
import Derived.Laws.MakeOwn
/- The hash part in plain terms: what Put makes of it, what Get tells behind it. -/
namespace Go.Proofs.YteheolefemlcgaaGreat
open Go.RowKit
set_option linter.unusedVariables false
set_option linter.unusedSimpArgs false

theorem emp_toList : (⟨#[]⟩ : ByteArray).toList = [] := by simp [Lib.toList_data]
theorem okV_nil : okV nilV = true := by simp [okV, nilV, emp_toList]
namespace PH
variable {h : PH}
theorem find_is (hg : h.good) (h0 : 0 < h.n) {k : V} {i : Nat} (hk0 : k.k ≠ 0) (e : (h.find (mpos h.n) k).1 = some i) : h.occ i ∧ h.key i = k := by
  unfold find at e
  cases e2 : seek h.key k (h.path (mpos h.n) k) with
  | none => rw [e2] at e; simp at e
  | some t =>
    rw [e2] at e
    obtain ⟨h1, h2, -⟩ := seek_some e2
    simp only at e
    rw [List.getElem?_eq_getElem h1] at e
    obtain rfl : _ = i := by simpa using e
    exact ⟨by unfold occ; rw [h2]; exact hk0, h2⟩
theorem find_not (hg : h.good) (h0 : 0 < h.n) {k : V} (e : (h.find (mpos h.n) k).1 = none) : ∀ i, h.occ i → h.key i ≠ k := by
  intro i ho hki
  have hc := hg.ok.cov i ho
  rw [hki] at hc
  have hne : h.ch (mpos h.n k) ≠ [] := fun e => by rw [e] at hc; simp at hc
  have hhd := hg.ok.head _ hne
  obtain ⟨l, hl⟩ : ∃ l, h.ch (mpos h.n k) = mpos h.n k :: l := by
    cases e2 : h.ch (mpos h.n k) with
    | nil => exact absurd e2 hne
    | cons a l => rw [e2] at hhd; simp at hhd; exact ⟨l, by rw [hhd]⟩
  obtain ⟨-, h2, h3⟩ := hg.ok.mem (mpos h.n k) (mpos h.n k) (by rw [hl]; simp)
  have hp : h.path (mpos h.n) k = h.ch (mpos h.n k) := by
    unfold path
    rw [if_pos h2, h3, hl]
    unfold fromL
    rw [if_pos rfl]
  unfold find at e
  rw [hp] at e
  cases e2 : seek h.key k (h.ch (mpos h.n k)) with
  | some t =>
    rw [e2] at e
    obtain ⟨h4, -, -⟩ := seek_some e2
    simp only at e
    rw [List.getElem?_eq_getElem h4] at e
    simp at e
  | none =>
    obtain ⟨t, ht, hti⟩ := List.mem_iff_getElem.1 hc
    exact seek_none e2 t ht (by rw [hti]; exact hki)
theorem findA_iff (hg : h.good) (k : V) (i : Nat) : (h.findA k).1 = some i ↔ h.occ i ∧ h.key i = k := by
  constructor
  · intro e
    unfold findA at e
    by_cases hh : h.has k
    · rw [if_pos hh] at e; exact find_is hg hh.1 hh.2.2 e
    · rw [if_neg hh] at e; simp at e
  · rintro ⟨ho, hk⟩
    have hh : h.has k := ⟨Nat.lt_of_le_of_lt (Nat.zero_le _) (hg.ok.occ_lt ho), by rw [← hk]; exact hg.ok.form i, by rw [← hk]; exact ho⟩
    unfold findA
    rw [if_pos hh]
    cases e : (h.find (mpos h.n) k).1 with
    | none => exact absurd hk (find_not hg hh.1 e i ho)
    | some j =>
      obtain ⟨h1, h2⟩ := find_is hg hh.1 hh.2.2 e
      rw [hg.ok.dist i j ho h1 (by rw [hk, h2])]
theorem findA_none (hg : h.good) (k : V) : (h.findA k).1 = none ↔ ∀ i, h.occ i → h.key i ≠ k := by
  constructor
  · intro e i ho hk
    rw [(findA_iff hg k i).2 ⟨ho, hk⟩] at e
    simp at e
  · intro e
    cases e2 : (h.findA k).1 with
    | none => rfl
    | some i => obtain ⟨a, b⟩ := (findA_iff hg k i).1 e2; exact absurd b (e i a)
theorem get_at (hg : h.good) (i : Nat) (ho : h.occ i) : h.get (h.key i) = h.val i := by
  unfold get; rw [(findA_iff hg _ i).2 ⟨ho, rfl⟩]
theorem get_no (hg : h.good) (k : V) (e : ∀ i, h.occ i → h.key i ≠ k) : h.get k = nilV := by
  unfold get; rw [(findA_none hg k).2 e]
/-- What a Get tells, by the nodes. -/
theorem get_two (hg : h.good) (k : V) : (∃ i, h.occ i ∧ h.key i = k ∧ h.get k = h.val i) ∨ ((∀ i, h.occ i → h.key i ≠ k) ∧ h.get k = nilV) := by
  cases e : (h.findA k).1 with
  | some i =>
    obtain ⟨a, b⟩ := (findA_iff hg k i).1 e
    exact .inl ⟨i, a, b, by rw [← b]; exact get_at hg i a⟩
  | none =>
    have := (findA_none hg k).1 e
    exact .inr ⟨this, get_no hg k this⟩
theorem get_gen {h' : PH} {k v : V} (hg : h.good) (hg' : h'.good) (a : ∃ j, h'.occ j ∧ h'.key j = k ∧ h'.val j = v) (b : ∀ i, h.occ i → h.key i ≠ k → ∃ j, h'.occ j ∧ h'.key j = h.key i ∧ h'.val j = h.val i)
    (c : ∀ j, h'.occ j → h'.key j = k ∨ ∃ i, h.occ i ∧ h'.key j = h.key i) (k' : V) : h'.get k' = if k' = k then v else h.get k' := by
  by_cases e : k' = k
  · subst e
    rw [if_pos rfl]
    obtain ⟨j, h1, h2, h3⟩ := a
    rw [← h2, get_at hg' j h1, h3]
  · rw [if_neg e]
    rcases get_two hg k' with ⟨i, h1, h2, h3⟩ | ⟨h1, h2⟩
    · obtain ⟨j, h4, h5, h6⟩ := b i h1 (by rw [h2]; exact e)
      rw [h3, ← h6, ← get_at hg' j h4, h5, h2]
    · rw [h2]
      refine get_no hg' k' fun j hj hk => ?_
      rcases c j hj with h3 | ⟨i, h3, h4⟩
      · exact e (by rw [← hk, h3])
      · exact h1 i h3 (by rw [← h4, hk])
/-- insert: what the part becomes, the error. -/
def ins (h : PH) (k v : V) : PH × Int :=
  if ¬ h.has k then (h, 12)
  else if ¬ h.occ (mpos h.n k) then (h.place (mpos h.n k) k v, 0)
  else match h.roomF h.free with
    | none => ({ h with free := 0 }, 12)
    | some f => if mpos h.n (h.key (mpos h.n k)) = mpos h.n k then (({ h with free := f } : PH).link (mpos h.n k) f k v, 0) else (({ h with free := f } : PH).move (mpos h.n k) f (mpos h.n (h.key (mpos h.n k))) k v, 0)
theorem good_of {h' : PH} (hg : h.good) (hn : h'.n = h.n) (ho : h'.ok (mpos h.n)) : h'.good := ⟨by rw [hn]; exact ho, by rw [hn]; exact hg.sz, by rw [hn]; exact hg.pw⟩
/-- insert of a new key that has a main position: it is full, or there is the key. -/
theorem ins_is (hg : h.good) {k v : V} (hk : okV k = true) (hk0 : k.k ≠ 0) (hnew : ∀ i, h.occ i → h.key i ≠ k) :
    (h.ins k v).1.good ∧ (h.ins k v).1.n = h.n ∧
    (((h.ins k v).2 = 12 ∧ (∀ i, i < h.n → h.occ i) ∧ (h.ins k v).1.key = h.key ∧ (h.ins k v).1.val = h.val ∧ (h.ins k v).1.ch = h.ch)
    ∨ ((h.ins k v).2 = 0 ∧ (∃ f, f < h.n ∧ ¬ h.occ f) ∧ (∃ j, (h.ins k v).1.occ j ∧ (h.ins k v).1.key j = k ∧ (h.ins k v).1.val j = v) ∧ (∀ i, h.occ i → ∃ j, (h.ins k v).1.occ j ∧ (h.ins k v).1.key j = h.key i ∧ (h.ins k v).1.val j = h.val i)
      ∧ (∀ j, (h.ins k v).1.occ j → ((h.ins k v).1.key j = k ∧ (h.ins k v).1.val j = v) ∨ ∃ i, h.occ i ∧ (h.ins k v).1.key j = h.key i ∧ (h.ins k v).1.val j = h.val i))) := by
  unfold ins
  by_cases hh : h.has k
  · rw [if_neg (by simpa using hh)]
    have hml := hg.lt hh.1 k
    by_cases ho : h.occ (mpos h.n k)
    · rw [if_neg (by simpa using ho)]
      cases hr : h.roomF h.free with
      | none =>
        refine ⟨good_of hg rfl (ok_roomed_full hg.ok hr), rfl, .inl ⟨rfl, fun i hi => ?_, rfl, rfl, rfl⟩⟩
        by_cases e : i < h.free
        · exact roomF_none hr i e
        · exact hg.ok.past i (by omega) hi
      | some f =>
        obtain ⟨hf1, hfo, -⟩ := roomF_some hr
        have hfn : f < h.n := by have := hg.ok.free; omega
        have hmf : mpos h.n k ≠ f := fun e => hfo (e ▸ ho)
        simp only
        by_cases hmo : mpos h.n (h.key (mpos h.n k)) = mpos h.n k
        · rw [if_pos hmo]
          refine ⟨good_of hg rfl (ok_link hg.ok _ f k v rfl ho hmo hr hk0 hk hnew), rfl, .inr ⟨rfl, ⟨f, hfn, hfo⟩, ⟨f, ?_, upd_same _ _ _, upd_same _ _ _⟩, fun i hi => ⟨i, ?_, ?_, ?_⟩, fun j hj => ?_⟩⟩
          · show (upd h.key f k f).k ≠ 0; rw [upd_same]; exact hk0
          · show (upd h.key f k i).k ≠ 0; rw [upd_other h.key f k (j := i) (fun e => hfo (e ▸ hi))]; exact hi
          · exact upd_other _ _ _ (fun e => hfo (e ▸ hi))
          · exact upd_other _ _ _ (fun e => hfo (e ▸ hi))
          · by_cases e : j = f
            · subst e; exact .inl ⟨upd_same _ _ _, upd_same _ _ _⟩
            · refine .inr ⟨j, ?_, upd_other _ _ _ e, upd_other _ _ _ e⟩
              have : (upd h.key f k j).k ≠ 0 := hj
              rwa [upd_other _ _ _ e] at this
        · rw [if_neg hmo]
          have km : (({ h with free := f } : PH).move (mpos h.n k) f (mpos h.n (h.key (mpos h.n k))) k v).key = upd (upd h.key f (h.key (mpos h.n k))) (mpos h.n k) k := rfl
          have vm : (({ h with free := f } : PH).move (mpos h.n k) f (mpos h.n (h.key (mpos h.n k))) k v).val = upd (upd h.val f (h.val (mpos h.n k))) (mpos h.n k) v := rfl
          refine ⟨good_of hg rfl (ok_move hg.ok _ f _ k v rfl ho rfl hmo hr hk0 hk hnew), rfl, .inr ⟨rfl, ⟨f, hfn, hfo⟩, ⟨mpos h.n k, ?_, ?_, ?_⟩, fun i hi => ?_, fun j hj => ?_⟩⟩
          · unfold occ; simp only [km, upd_same]; exact hk0
          · simp only [km, upd_same]
          · simp only [vm, upd_same]
          · by_cases e : i = mpos h.n k
            · refine ⟨f, ?_, ?_, ?_⟩
              · unfold occ; simp only [km]; rw [upd_other _ _ _ hmf.symm, upd_same]; exact ho
              · simp only [km]; rw [upd_other _ _ _ hmf.symm, upd_same, e]
              · simp only [vm]; rw [upd_other _ _ _ hmf.symm, upd_same, e]
            · have e2 : i ≠ f := fun e2 => hfo (e2 ▸ hi)
              refine ⟨i, ?_, ?_, ?_⟩
              · unfold occ; simp only [km]; rw [upd_other _ _ _ e, upd_other _ _ _ e2]; exact hi
              · simp only [km]; rw [upd_other _ _ _ e, upd_other _ _ _ e2]
              · simp only [vm]; rw [upd_other _ _ _ e, upd_other _ _ _ e2]
          · unfold occ at hj
            simp only [km, vm] at hj ⊢
            by_cases e : j = mpos h.n k
            · subst e; exact .inl ⟨upd_same _ _ _, upd_same _ _ _⟩
            · rw [upd_other _ _ _ e] at hj ⊢
              rw [upd_other _ _ _ e]
              by_cases e2 : j = f
              · subst e2
                rw [upd_same, upd_same]
                exact .inr ⟨_, ho, rfl, rfl⟩
              · rw [upd_other _ _ _ e2] at hj ⊢
                rw [upd_other _ _ _ e2]
                exact .inr ⟨j, hj, rfl, rfl⟩
    · rw [if_pos (by simpa using ho)]
      refine ⟨good_of hg rfl (ok_place hg.ok _ k v hml rfl ho hk0 hk hnew), rfl, .inr ⟨rfl, ⟨_, hml, ho⟩, ⟨mpos h.n k, ?_, upd_same _ _ _, upd_same _ _ _⟩, fun i hi => ⟨i, ?_, ?_, ?_⟩, fun j hj => ?_⟩⟩
      · show (upd h.key _ k _).k ≠ 0; rw [upd_same]; exact hk0
      · show (upd h.key (mpos h.n k) k i).k ≠ 0; rw [upd_other h.key (mpos h.n k) k (j := i) (fun e => ho (e ▸ hi))]; exact hi
      · exact upd_other _ _ _ (fun e => ho (e ▸ hi))
      · exact upd_other _ _ _ (fun e => ho (e ▸ hi))
      · by_cases e : j = mpos h.n k
        · subst e; exact .inl ⟨upd_same _ _ _, upd_same _ _ _⟩
        · refine .inr ⟨j, ?_, upd_other _ _ _ e, upd_other _ _ _ e⟩
          have : (upd h.key (mpos h.n k) k j).k ≠ 0 := hj
          rwa [upd_other _ _ _ e] at this
  · rw [if_pos (by simpa using hh)]
    refine ⟨hg, rfl, .inl ⟨rfl, fun i hi => ?_, rfl, rfl, rfl⟩⟩
    exact absurd ⟨by omega, hk, hk0⟩ hh
/-- Put: what the part becomes, how many nodes the search read, the error. -/
def put (h : PH) (k v : V) : PH × Nat × Int :=
  if okV k = false ∨ okV v = false then (h, 0, 2)
  else if k.k = 0 then (h, 0, 9)
  else match (h.findA k).1 with
    | some i => (h.setVal i v, (h.findA k).2, 0)
    | none => if v.k = 0 then (h, (h.findA k).2, 0) else ((h.ins k v).1, (h.findA k).2, (h.ins k v).2)
theorem nil_of {v : V} (hv : okV v = true) (h0 : v.k = 0) : v = nilV := by
  unfold okV at hv
  rw [if_pos h0] at hv
  simp only [Bool.and_eq_true, beq_iff_eq, List.isEmpty_iff] at hv
  exact V_ext h0 hv.1 (toList_inj (by rw [hv.2]; exact emp_toList.symm))
/-- Put of a right key and value: what changes. -/
theorem put_is (hg : h.good) {k v : V} (hk : okV k = true) (hv : okV v = true) (hk0 : k.k ≠ 0) :
    (h.put k v).1.good ∧ (h.put k v).1.n = h.n ∧ (h.put k v).2.1 = (h.findA k).2 ∧
    (((h.put k v).2.2 = 12 ∧ (∀ i, i < h.n → h.occ i) ∧ (∀ i, h.occ i → h.key i ≠ k) ∧ v.k ≠ 0 ∧ (h.put k v).1.key = h.key ∧ (h.put k v).1.val = h.val ∧ (h.put k v).1.ch = h.ch ∧ ∀ k', (h.put k v).1.get k' = h.get k')
    ∨ ((h.put k v).2.2 = 0 ∧ (∀ k', (h.put k v).1.get k' = if k' = k then v else h.get k') ∧ (∀ j, (h.put k v).1.occ j → (h.put k v).1.key j = k ∨ ∃ i, h.occ i ∧ (h.put k v).1.key j = h.key i)
      ∧ (∀ i, h.occ i → ∃ j, (h.put k v).1.occ j ∧ (h.put k v).1.key j = h.key i) ∧ (∀ j, okV ((h.put k v).1.val j) = true ∨ ∃ i, h.occ i ∧ (h.put k v).1.val j = h.val i))) := by
  have hin := okV_nil
  unfold put
  rw [if_neg (by simp [hk, hv]), if_neg hk0]
  cases hf : (h.findA k).1 with
  | some i =>
    obtain ⟨ho, hki⟩ := (findA_iff hg k i).1 hf
    have hg' : (h.setVal i v).good := good_of hg rfl (ok_setVal hg.ok i v ho)
    refine ⟨hg', rfl, rfl, .inr ⟨rfl, fun k' => ?_, fun j hj => .inr ⟨j, hj, rfl⟩, fun j hj => ⟨j, hj, rfl⟩, fun j => ?_⟩⟩
    · refine get_gen hg hg' ⟨i, ho, hki, upd_same _ _ _⟩ (fun j hj hne => ⟨j, hj, rfl, upd_other _ _ _ (fun e => hne (by rw [e, hki]))⟩) (fun j hj => .inr ⟨j, hj, rfl⟩) k'
    · show okV (upd h.val i v j) = true ∨ ∃ i_1, h.occ i_1 ∧ upd h.val i v j = h.val i_1
      by_cases e : j = i
      · subst e; rw [upd_same]; exact .inl hv
      · rw [upd_other _ _ _ e]
        by_cases hj : h.occ j
        · exact .inr ⟨j, hj, rfl⟩
        · rw [(hg.ok.emp j hj).2]; exact .inl hin
  | none =>
    have hnew := (findA_none hg k).1 hf
    simp only
    by_cases hv0 : v.k = 0
    · rw [if_pos hv0]
      refine ⟨hg, rfl, rfl, .inr ⟨rfl, fun k' => ?_, fun j hj => .inr ⟨j, hj, rfl⟩, fun j hj => ⟨j, hj, rfl⟩, fun j => ?_⟩⟩
      · by_cases e : k' = k
        · subst e; rw [if_pos rfl, get_no hg k' hnew, nil_of hv hv0]
        · rw [if_neg e]
      · by_cases hj : h.occ j
        · exact .inr ⟨j, hj, rfl⟩
        · show okV (h.val j) = true ∨ _
          rw [(hg.ok.emp j hj).2]; exact .inl hin
    · rw [if_neg hv0]
      obtain ⟨h1, h2, h3⟩ := ins_is (v := v) hg hk hk0 hnew
      refine ⟨h1, h2, rfl, ?_⟩
      rcases h3 with ⟨e, hall, hkk, hvv, hcc⟩ | ⟨e, -, ha, hb, hc⟩
      · refine .inl ⟨e, hall, hnew, hv0, hkk, hvv, hcc, fun k' => ?_⟩
        show (h.ins k v).1.get k' = h.get k'
        rcases get_two hg k' with ⟨i, a, b, c⟩ | ⟨a, b⟩
        · have ho' : (h.ins k v).1.occ i := by unfold occ; rw [hkk]; exact a
          have := get_at h1 i ho'
          rw [hkk, hvv, b] at this
          rw [this, c]
        · rw [b]
          refine get_no h1 k' fun i hi => ?_
          unfold occ at hi
          rw [hkk] at hi ⊢
          exact a i hi
      · refine .inr ⟨e, get_gen hg h1 ha (fun i hi _ => hb i hi) (fun j hj => ?_), fun j hj => ?_, fun i hi => ?_, fun j => ?_⟩
        · rcases hc j hj with ⟨a, -⟩ | ⟨i, a, b, -⟩
          · exact .inl a
          · exact .inr ⟨i, a, b⟩
        · rcases hc j hj with ⟨a, -⟩ | ⟨i, a, b, -⟩
          · exact .inl a
          · exact .inr ⟨i, a, b⟩
        · obtain ⟨j, a, b, -⟩ := hb i hi
          exact ⟨j, a, b⟩
        · by_cases hj : (h.ins k v).1.occ j
          · rcases hc j hj with ⟨-, a⟩ | ⟨i, a, -, b⟩
            · left; show okV ((h.ins k v).1.val j) = true; rw [a]; exact hv
            · exact .inr ⟨i, a, b⟩
          · left; show okV ((h.ins k v).1.val j) = true; rw [(h1.ok.emp j hj).2]; exact hin
theorem put_form {k v : V} (h1 : okV k = false ∨ okV v = false) : h.put k v = (h, 0, 2) := by unfold put; rw [if_pos h1]
theorem put_nil {k v : V} (h1 : okV k = true) (h2 : okV v = true) (h3 : k.k = 0) : h.put k v = (h, 0, 9) := by unfold put; rw [if_neg (by simp [h1, h2]), if_pos h3]
/-- A part whose nodes are all taken holds at least as many keys. -/
theorem full_le (hg : h.good) (S : List V) (hS : ∀ i, h.occ i → h.key i ∈ S) (hall : ∀ i, i < h.n → h.occ i) : h.n ≤ S.length := by
  have hnd : ((List.range h.n).map h.key).Nodup := by
    rw [List.nodup_iff_pairwise_ne, List.pairwise_map]
    refine List.Pairwise.imp_of_mem ?_ (List.nodup_iff_pairwise_ne.1 List.nodup_range)
    intro a b ha hb hne e
    exact hne (hg.ok.dist a b (hall a (List.mem_range.1 ha)) (hall b (List.mem_range.1 hb)) e)
  have := length_le_of_nodup _ S hnd (fun x hx => by
    obtain ⟨i, hi, rfl⟩ := List.mem_map.1 hx
    exact hS i (hall i (List.mem_range.1 hi)))
  simpa using this
end PH
end Go.Proofs.YteheolefemlcgaaGreat
/- Contracts of the package nodes: insert, where the main position is taken. -/
namespace Go.Proofs.YteheolefemlcgaaGreat
open Go.RowKit
set_option linter.unusedVariables false
set_option linter.unusedSimpArgs false
/-- A link is no longer than the part. -/
theorem nxt_bound {h : PH} (hg : h.good) (m : Nat) (hm : m < h.n) : -70000 ≤ h.nxt (mpos h.n) m ∧ h.nxt (mpos h.n) m ≤ 70000 := by
  have hz := hg.sz
  by_cases ho : h.occ m
  · rw [PH.nxt_occ m ho]
    cases e : PH.succL (h.ch (mpos h.n (h.key m))) m with
    | none => simp [PH.lnk]
    | some j =>
      have hj := PH.succL_mem e
      have hl := (hg.ok.mem _ j (List.mem_of_mem_tail hj)).1
      simp only [PH.lnk]
      omega
  · rw [PH.nxt_not m ho]; omega
set_option maxRecDepth 100000 in
set_option maxHeartbeats 3200000 in
theorem Nd_insert_full (b g : Nat) (h : PH) (hg : h.good) (kk kn : Int) (ks : ByteArray) (vk vn : Int) (vs : ByteArray) (hh : h.has ⟨kk, kn, ks⟩) (m : Nat) (hm : mpos h.n ⟨kk, kn, ks⟩ = m) (ho : h.occ m) (hf : h.roomF h.free = none) (w : World) (H : NdIn w b g h) :
    Calls Tryz.prog 111 #[.pointer (some ⟨b, 0, none⟩), .agg #[.int .i64 kk, .int .i64 kn, .string ks, .int .i64 vk, .int .i64 vn, .string vs, .int .i64 0]] w fun e w' => e = .returned (.int .i64 12) ∧ NdIn w' b g ({ h with free := 0 }) ∧ Kp (fun q => q = b ∨ q = g) w w' := by
  have HI := Lib.hid H; have HG := Lib.hid hg; have HH := Lib.hid hh; have HM := Lib.hid hm; have HO := Lib.hid ho
  have hml : m < h.n := by rw [← hm]; exact hg.lt hh.1 _
  have HML := Lib.hid hml
  have HBa : Hid (Below w.heap.size w (w.alloc (.cells #[.int .i64 kk, .int .i64 kn, .string ks, .int .i64 vk, .int .i64 vn, .string vs, .int .i64 0] 44))) := Lib.hid ((Below.refl _ w).alloc (Nat.le_refl _) _)
  have HX : Hid (C7 (w.alloc (.cells #[.int .i64 kk, .int .i64 kn, .string ks, .int .i64 vk, .int .i64 vn, .string vs, .int .i64 0] 44)) w.heap.size 0 ⟨kk, kn, ks⟩ ⟨vk, vn, vs⟩ 0) := Lib.hid (C7.new w ⟨kk, kn, ks⟩ ⟨vk, vn, vs⟩ 0)
  obtain ⟨ik, inn, is, hkm⟩ : ∃ ik inn is, h.key m = ⟨ik, inn, is⟩ := ⟨_, _, _, rfl⟩
  obtain ⟨uk, un, us, hvm⟩ : ∃ uk un us, h.val m = ⟨uk, un, us⟩ := ⟨_, _, _, rfl⟩
  obtain ⟨xx, hxm⟩ : ∃ xx, h.nxt (mpos h.n) m = xx := ⟨_, rfl⟩
  have HKM := Lib.hid hkm; have HVM := Lib.hid hvm; have HXM := Lib.hid hxm
  obtain ⟨n, hnn⟩ : ∃ n, h.n = n := ⟨_, rfl⟩
  have HNN := Lib.hid hnn
  have hmI : (m : Int) < (n : Int) := by omega
  have e0 : (ik == 0) = false := by unfold PH.occ at ho; rw [hkm] at ho; simpa using ho
  have hmz := hg.sz
  have HRI : Hid (h.roomI = -1) := Lib.hid (by unfold PH.roomI; rw [hf]; rfl)
  have HRF : Hid ((h.roomF h.free).getD 0 = 0) := Lib.hid (by rw [hf]; rfl)
  have HFR := Lib.hid hg.ok.free; have HSZ := Lib.hid hg.sz
  clear H hg hh hm ho hml hnn hkm hvm hxm hmz hf
  go_enter Tryz.func111, Tryz.ntmps111
  go_wp2_with (first
    | (go_at_call 105; (refine (Nd_main _ b h kk kn ks HH.out.2.1 HH.out.2.2 HH.out.1 _ ((HI.out.below HBa.out).nodes HG.out)).mono ?_); rintro e w1 ⟨rfl, hb1⟩; rw [HM.out]; have HB1 := Lib.hid hb1; clear hb1; have HBw := Lib.hid (HBa.out.trans (HB1.out.mono (by simp [go_sem]))); have HI1 := Lib.hid (HI.out.below HBw.out); have HX1 := Lib.hid (HX.out.below HB1.out (by simp [go_sem])); have c0 := HI1.out.c0; rw [HNN.out] at c0; have q := HI1.out.c7 m HML.out; rw [HKM.out, HVM.out, HXM.out] at q; obtain ⟨q0, q1, q2, q3, q4, q5, q6, -, -⟩ := q; simp only at q0 q1 q2 q3 q4 q5)
    | (go_at_call 118; (with_reducible refine (Nd_empty ik inn is uk un us xx false e0 _).mono ?_); rintro e w2 ⟨rfl, hb2⟩; clear c0 q0 q1 q2 q3 q4 q5 q6; have HBw2 := Lib.hid (HBw.out.trans (hb2.mono (HBw.out.size))); have HI2 := Lib.hid (HI.out.below HBw2.out); have HX2 := Lib.hid (HX1.out.below hb2 (HX1.out.lt)); clear hb2)
    | (go_at_call 119; (with_reducible refine (Nd_room b g h HFR.out HSZ.out _ HI2.out).mono ?_); rintro e w3 ⟨rfl, hi3, hk3⟩; rw [HRI.out]; rw [HRF.out] at hi3; have HI3 := Lib.hid hi3; have HK3 := Lib.hid hk3; clear hi3 hk3; have HKw3 := Lib.hid ((below_kp HBw2.out : Kp (fun q => q = b ∨ q = g) w w2).trans HK3.out (fun q hq => .inl (.inl hq)))))
  go_ret
  exact ⟨rfl, HI3.out, HKw3.out⟩
set_option maxRecDepth 100000 in
set_option maxHeartbeats 1600000 in
theorem Nd_insert_link (b g : Nat) (h : PH) (hg : h.good) (kk kn : Int) (ks : ByteArray) (vk vn : Int) (vs : ByteArray) (hh : h.has ⟨kk, kn, ks⟩) (m : Nat) (hm : mpos h.n ⟨kk, kn, ks⟩ = m) (ho : h.occ m) (f : Nat) (hf : h.roomF h.free = some f) (hmo : mpos h.n (h.key m) = m) (w : World) (H : NdIn w b g h) :
    Calls Tryz.prog 111 #[.pointer (some ⟨b, 0, none⟩), .agg #[.int .i64 kk, .int .i64 kn, .string ks, .int .i64 vk, .int .i64 vn, .string vs, .int .i64 0]] w fun e w' => e = .returned (.int .i64 0) ∧ NdIn w' b g (({ h with free := f } : PH).link m f ⟨kk, kn, ks⟩ ⟨vk, vn, vs⟩) ∧ Kp (fun q => q = b ∨ q = g) w w' := by
  have HI := Lib.hid H; have HG := Lib.hid hg; have HH := Lib.hid hh; have HM := Lib.hid hm; have HO := Lib.hid ho
  have hml : m < h.n := by rw [← hm]; exact hg.lt hh.1 _
  have HML := Lib.hid hml
  have HBa : Hid (Below w.heap.size w (w.alloc (.cells #[.int .i64 kk, .int .i64 kn, .string ks, .int .i64 vk, .int .i64 vn, .string vs, .int .i64 0] 44))) := Lib.hid ((Below.refl _ w).alloc (Nat.le_refl _) _)
  have HX : Hid (C7 (w.alloc (.cells #[.int .i64 kk, .int .i64 kn, .string ks, .int .i64 vk, .int .i64 vn, .string vs, .int .i64 0] 44)) w.heap.size 0 ⟨kk, kn, ks⟩ ⟨vk, vn, vs⟩ 0) := Lib.hid (C7.new w ⟨kk, kn, ks⟩ ⟨vk, vn, vs⟩ 0)
  obtain ⟨ik, inn, is, hkm⟩ : ∃ ik inn is, h.key m = ⟨ik, inn, is⟩ := ⟨_, _, _, rfl⟩
  obtain ⟨uk, un, us, hvm⟩ : ∃ uk un us, h.val m = ⟨uk, un, us⟩ := ⟨_, _, _, rfl⟩
  obtain ⟨xx, hxm⟩ : ∃ xx, h.nxt (mpos h.n) m = xx := ⟨_, rfl⟩
  have HKM := Lib.hid hkm; have HVM := Lib.hid hvm; have HXM := Lib.hid hxm
  obtain ⟨n, hnn⟩ : ∃ n, h.n = n := ⟨_, rfl⟩
  have HNN := Lib.hid hnn
  have hmI : (m : Int) < (n : Int) := by omega
  have e0 : (ik == 0) = false := by unfold PH.occ at ho; rw [hkm] at ho; simpa using ho
  have hmz := hg.sz
  have HRI : Hid (h.roomI = (f : Int)) := Lib.hid (by unfold PH.roomI; rw [hf]; rfl)
  have HRF : Hid ((h.roomF h.free).getD 0 = f) := Lib.hid (by rw [hf]; rfl)
  have HFR := Lib.hid hg.ok.free; have HSZ := Lib.hid hg.sz
  have hpw : ∃ e, e ≤ 16 ∧ h.n = 2 ^ e := pw_of hg hh.1
  obtain ⟨hff, hfo, -⟩ := PH.roomF_some hf
  have HFO := Lib.hid hfo
  have hfl : f < h.n := by have := hg.ok.free; omega
  have HFL := Lib.hid hfl
  have hfI : (f : Int) < (n : Int) := by omega
  have df : decide ((f : Int) < 0) = false := by simp
  have hokm := hg.ok.form m
  rw [hkm] at hokm
  have hik : ik ≠ 0 := by simpa using e0
  have hmo2 := hmo
  rw [hkm] at hmo2
  have HMO2 := Lib.hid hmo2
  have HMN : Hid (∀ W, NdIn W b g { h with free := f } → Calls Tryz.prog 105 #[.pointer (some ⟨b, 0, none⟩), .agg #[.int .i64 ik, .int .i64 inn, .string is]] W fun e w' => e = .returned (.tuple #[.int .i64 m, .bool true]) ∧ Below W.heap.size W w') := Lib.hid (fun W hW => by
    have := Nd_mainI b g { h with free := f } hg.sz hpw ik inn is hokm hik hh.1 W hW
    change Calls _ _ _ _ (fun e w' => e = .returned (.tuple #[.int .i64 (mpos h.n ⟨ik, inn, is⟩), .bool true]) ∧ _) at this
    rw [hmo2] at this
    exact this)
  have hlx : -70000 ≤ xx ∧ xx ≤ 70000 := by
    rw [← hxm]; exact nxt_bound hg m hml
  obtain ⟨x, hx⟩ : ∃ x : Int, (if xx = 0 then 0 else (m : Int) + xx - f) = x := ⟨_, rfl⟩
  have HMF : Hid (m ≠ f) := Lib.hid (fun e => hfo (e ▸ ho))
  have HXX := Lib.hid hx; have HLX := Lib.hid hlx; have HMOK := Lib.hid hmo
  obtain ⟨dd, hdd⟩ : ∃ dd : Int, (f : Int) - m = dd := ⟨_, rfl⟩
  have HDD := Lib.hid hdd
  have wdd : wrap64 ((f : Int) - m) = dd := by rw [← hdd]; unfold wrap64; omega
  clear H hg hh hm ho hml hnn hkm hvm hxm hmz hpw hf hff hfo hfl hokm hik hmo2 hlx hmo hx hdd
  go_enter Tryz.func111, Tryz.ntmps111
  go_wp2_with fail
  ((refine (Nd_main _ b h kk kn ks HH.out.2.1 HH.out.2.2 HH.out.1 _ ((HI.out.below HBa.out).nodes HG.out)).mono ?_); rintro e w1 ⟨rfl, hb1⟩; rw [HM.out]; have HB1 := Lib.hid hb1; clear hb1; have HBw := Lib.hid (HBa.out.trans (HB1.out.mono (by simp [go_sem]))); have HI1 := Lib.hid (HI.out.below HBw.out); have HX1 := Lib.hid (HX.out.below HB1.out (by simp [go_sem])); have c0 := HI1.out.c0; rw [HNN.out] at c0; have q := HI1.out.c7 m HML.out; rw [HKM.out, HVM.out, HXM.out] at q; obtain ⟨q0, q1, q2, q3, q4, q5, q6, -, -⟩ := q; simp only at q0 q1 q2 q3 q4 q5)
  go_wp2_with fail
  ((with_reducible refine (Nd_empty ik inn is uk un us xx false e0 _).mono ?_); rintro e w2 ⟨rfl, hb2⟩; clear c0 q0 q1 q2 q3 q4 q5 q6; have HBw2 := Lib.hid (HBw.out.trans (hb2.mono (HBw.out.size))); have HI2 := Lib.hid (HI.out.below HBw2.out); have HX2 := Lib.hid (HX1.out.below hb2 (HX1.out.lt)); clear hb2)
  go_wp2_with fail
  ((with_reducible refine (Nd_room b g h HFR.out HSZ.out _ HI2.out).mono ?_); rintro e w3 ⟨rfl, hi3, hk3⟩; rw [HRI.out]; rw [HRF.out] at hi3; have HI3 := Lib.hid hi3; have HK3 := Lib.hid hk3; clear hi3 hk3; have HKw3 := Lib.hid ((below_kp HBw2.out : Kp (fun q => q = b ∨ q = g) w w2).trans HK3.out (fun q hq => .inl (.inl hq))); have HX3 := Lib.hid (HX2.out.kp HK3.out (fun e => absurd HI.out.lb (by omega))); have HI3' : Hid (NdIn w3 b g { h with free := f }) := HI3; have c0 := HI3'.out.c0; change _ = some (Value.slice (some ⟨g, 0, none⟩) h.n h.n) at c0; rw [HNN.out] at c0; have q := HI3'.out.c7 m HML.out; change C7 w3 g (m * 7) (h.key m) (h.val m) (h.nxt (mpos h.n) m) at q; rw [HKM.out, HVM.out, HXM.out] at q; obtain ⟨q0, q1, q2, q3, q4, q5, q6, -, -⟩ := q; simp only at q0 q1 q2 q3 q4 q5)
  go_wp2_with fail
  ((refine (HMN.out _ (HI3'.out.below ((Below.refl _ w3).alloc (Nat.le_refl _) _))).mono ?_); rintro e w4 ⟨rfl, hb4⟩; have HB34 := Lib.hid (((Below.refl _ w3).alloc (Nat.le_refl _) (.cells #[.int .i64 ik, .int .i64 inn, .string is, .int .i64 uk, .int .i64 un, .string us, .int .i64 xx] 44)).trans (hb4.mono (by simp [go_sem]))); have HI4 := Lib.hid (HI3'.out.below HB34.out); have HX4 := Lib.hid (HX3.out.below HB34.out HX3.out.lt); have HT4 := Lib.hid ((C7.new w3 ⟨ik, inn, is⟩ ⟨uk, un, us⟩ xx).below hb4 (by simp [go_sem])); have HKw4 := Lib.hid (HKw3.out.below HB34.out); clear hb4 c0 q0 q1 q2 q3 q4 q5 q6; obtain ⟨x0, x1, x2, x3, x4, x5, x6, -, lx⟩ := HX4.out; simp only at x0 x1 x2 x3 x4 x5; simp only [Nat.zero_add] at x0 x1 x2 x3 x4 x5 x6; obtain ⟨t0, t1, t2, t3, t4, t5, t6, -, lt⟩ := HT4.out; simp only at t0 t1 t2 t3 t4 t5; simp only [Nat.zero_add] at t0 t1 t2 t3 t4 t5 t6)
  go_wp2_with fail
  ((refine (Nd_link b g { h with free := f } HSZ.out f m HFL.out HML.out kk kn ks vk vn vs 0 ik inn is uk un us xx HLX.out x HXX.out _ HI4.out).mono ?_); rintro e w5 ⟨rfl, hp5⟩; have HP5 := Lib.hid hp5; clear hp5 x0 x1 x2 x3 x4 x5 x6 t0 t1 t2 t3 t4 t5 t6; have c0 := (World.cell?_of_block (a := ⟨b, 0, none⟩) (HP5.out.kp.block b HI4.out.lb HI4.out.ne)).trans HI4.out.c0; change _ = some (Value.slice (some ⟨g, 0, none⟩) h.n h.n) at c0; rw [HNN.out] at c0; have q6 := (HP5.out.old (m * 7 + 6) (by have := HMF.out; omega)).trans (HI4.out.nx m HML.out); have f6 := (HP5.out.fg (m * 7 + 6)).trans (HI4.out.fg (m * 7 + 6)))
  go_wp2
  go_ret
  have h6 := HI4.out.linked (k := ⟨kk, kn, ks⟩) (v := ⟨vk, vn, vs⟩) (m := m) (f := f) (x := x) HG.out.ok HM.out HO.out HMOK.out HFO.out HH.out.2.2 HP5.out (by rw [HXM.out]; exact HXX.out)
  rw [HDD.out] at h6
  exact ⟨rfl, h6, ((HKw4.out.trans HP5.out.kp (fun q hq => .inl (.inr hq))).set _ (.inl (.inr rfl)) _)⟩
theorem C7.setOther {w : World} {a o j : Nat} {k v : V} {x : Int} (H : C7 w a o k v x) (hj : j < o ∨ o + 7 ≤ j) (u : Value) : C7 (w.setCell ⟨a, j, none⟩ u) a o k v x :=
  ⟨(cell_other _ _ _ _ _ (by omega)).trans H.c0, (cell_other _ _ _ _ _ (by omega)).trans H.c1, (cell_other _ _ _ _ _ (by omega)).trans H.c2, (cell_other _ _ _ _ _ (by omega)).trans H.c3, (cell_other _ _ _ _ _ (by omega)).trans H.c4, (cell_other _ _ _ _ _ (by omega)).trans H.c5, (cell_other _ _ _ _ _ (by omega)).trans H.c6, fun i => (frozen_set _ _ _ _).trans (H.fz i), by rw [sz_set]; exact H.lt⟩
theorem C7.put {w w' : World} {g f m : Nat} {k v k' v' : V} {x x' : Int} (H : C7 w g (m * 7) k v x) (P : NdPut w w' g f k' v' x') (hmf : m ≠ f) : C7 w' g (m * 7) k v x :=
  ⟨(P.old _ (by omega)).trans H.c0, (P.old _ (by omega)).trans H.c1, (P.old _ (by omega)).trans H.c2, (P.old _ (by omega)).trans H.c3, (P.old _ (by omega)).trans H.c4, (P.old _ (by omega)).trans H.c5, (P.old _ (by omega)).trans H.c6, fun i => (P.fg i).trans (H.fz i), Nat.lt_of_lt_of_le H.lt P.kp.size⟩
/-- The chain that holds m, from its head up to m. -/
theorem chain_to {mp : V → Nat} {h : PH} (H : h.ok mp) {m o : Nat} (ho : h.occ m) (hmo : mp (h.key m) = o) (hom : o ≠ m) :
    ∃ (c ix : Nat → Nat) (t : Nat), c 0 = o ∧ c (t + 1) = m ∧ (∀ s, s ≤ t → c s < h.n ∧ c s ≠ m ∧ h.nxt mp (c s) = (c (s + 1) : Int) - c s ∧ ix (c s) = s ∧ c s ≠ c (s + 1)) ∧ c t ∈ h.ch o ∧ PH.succL (h.ch o) (c t) = some m := by
  have hm := H.cov m ho
  rw [hmo] at hm
  have hnd := H.nd o
  have hhd := H.head o (fun e => by rw [e] at hm; simp at hm)
  obtain ⟨r, hr, hrm⟩ := List.mem_iff_getElem.1 hm
  have hl0 : 0 < (h.ch o).length := by omega
  have h0 : (h.ch o)[0] = o := by
    rw [List.head?_eq_getElem?, List.getElem?_eq_getElem hl0] at hhd
    simpa using hhd
  have hr0 : r ≠ 0 := fun e => by subst e; exact hom (h0.symm.trans hrm)
  obtain ⟨t, rfl⟩ : ∃ t, r = t + 1 := ⟨r - 1, by omega⟩
  have hget : ∀ s (hs : s < (h.ch o).length), ((h.ch o)[s]?).getD 0 = (h.ch o)[s] := fun s hs => by rw [List.getElem?_eq_getElem hs]; rfl
  have hinj : ∀ a b (ha : a < (h.ch o).length) (hb : b < (h.ch o).length), (h.ch o)[a] = (h.ch o)[b] → a = b := fun a b ha hb e => by
    have hp := List.pairwise_iff_getElem.1 (List.nodup_iff_pairwise_ne.1 hnd)
    rcases Nat.lt_trichotomy a b with h1 | h1 | h1
    · exact absurd e (hp a b ha hb h1)
    · exact h1
    · exact absurd e.symm (hp b a hb ha h1)
  refine ⟨fun s => ((h.ch o)[s]?).getD 0, fun i => (h.ch o).idxOf i, t, ?_, ?_, fun s hs => ?_, ?_, ?_⟩
  · show ((h.ch o)[0]?).getD 0 = o; rw [hget 0 hl0, h0]
  · show ((h.ch o)[t + 1]?).getD 0 = m; rw [hget _ hr, hrm]
  · have hsl : s < (h.ch o).length := by omega
    have hsl1 : s + 1 < (h.ch o).length := by omega
    simp only [hget s hsl, hget (s + 1) hsl1]
    obtain ⟨a1, a2, a3⟩ := H.mem o _ (List.getElem_mem hsl)
    refine ⟨a1, fun e => ?_, ?_, ?_, fun e => ?_⟩
    · have := hinj s (t + 1) hsl hr (by rw [hrm]; exact e)
      omega
    · rw [PH.nxt_occ _ a2, a3, PH.succL_get hnd s hsl, List.getElem?_eq_getElem hsl1]
      rfl
    · exact List.Nodup.idxOf_getElem hnd s hsl
    · have := hinj s (s + 1) hsl hsl1 e
      omega
  · show ((h.ch o)[t]?).getD 0 ∈ h.ch o
    rw [hget t (by omega)]; exact List.getElem_mem _
  · show PH.succL (h.ch o) (((h.ch o)[t]?).getD 0) = some m
    rw [hget t (by omega), PH.succL_get hnd t (by omega), List.getElem?_eq_getElem hr, hrm]
set_option maxRecDepth 100000 in
set_option maxHeartbeats 1600000 in
theorem Nd_insert_move (b g : Nat) (h : PH) (hg : h.good) (kk kn : Int) (ks : ByteArray) (vk vn : Int) (vs : ByteArray) (hh : h.has ⟨kk, kn, ks⟩) (m : Nat) (hm : mpos h.n ⟨kk, kn, ks⟩ = m) (ho : h.occ m) (f : Nat) (hf : h.roomF h.free = some f) (o : Nat) (hmo : mpos h.n (h.key m) = o) (hom : o ≠ m) (w : World) (H : NdIn w b g h) :
    Calls Tryz.prog 111 #[.pointer (some ⟨b, 0, none⟩), .agg #[.int .i64 kk, .int .i64 kn, .string ks, .int .i64 vk, .int .i64 vn, .string vs, .int .i64 0]] w fun e w' => e = .returned (.int .i64 0) ∧ NdIn w' b g (({ h with free := f } : PH).move m f o ⟨kk, kn, ks⟩ ⟨vk, vn, vs⟩) ∧ Kp (fun q => q = b ∨ q = g) w w' := by
  have HI := Lib.hid H; have HG := Lib.hid hg; have HH := Lib.hid hh; have HM := Lib.hid hm; have HO := Lib.hid ho
  have hml : m < h.n := by rw [← hm]; exact hg.lt hh.1 _
  have HML := Lib.hid hml
  have HBa : Hid (Below w.heap.size w (w.alloc (.cells #[.int .i64 kk, .int .i64 kn, .string ks, .int .i64 vk, .int .i64 vn, .string vs, .int .i64 0] 44))) := Lib.hid ((Below.refl _ w).alloc (Nat.le_refl _) _)
  have HX : Hid (C7 (w.alloc (.cells #[.int .i64 kk, .int .i64 kn, .string ks, .int .i64 vk, .int .i64 vn, .string vs, .int .i64 0] 44)) w.heap.size 0 ⟨kk, kn, ks⟩ ⟨vk, vn, vs⟩ 0) := Lib.hid (C7.new w ⟨kk, kn, ks⟩ ⟨vk, vn, vs⟩ 0)
  obtain ⟨ik, inn, is, hkm⟩ : ∃ ik inn is, h.key m = ⟨ik, inn, is⟩ := ⟨_, _, _, rfl⟩
  obtain ⟨uk, un, us, hvm⟩ : ∃ uk un us, h.val m = ⟨uk, un, us⟩ := ⟨_, _, _, rfl⟩
  obtain ⟨xx, hxm⟩ : ∃ xx, h.nxt (mpos h.n) m = xx := ⟨_, rfl⟩
  have HKM := Lib.hid hkm; have HVM := Lib.hid hvm; have HXM := Lib.hid hxm
  obtain ⟨n, hnn⟩ : ∃ n, h.n = n := ⟨_, rfl⟩
  have HNN := Lib.hid hnn
  have hmI : (m : Int) < (n : Int) := by omega
  have e0 : (ik == 0) = false := by unfold PH.occ at ho; rw [hkm] at ho; simpa using ho
  have hmz := hg.sz
  have HRI : Hid (h.roomI = (f : Int)) := Lib.hid (by unfold PH.roomI; rw [hf]; rfl)
  have HRF : Hid ((h.roomF h.free).getD 0 = f) := Lib.hid (by rw [hf]; rfl)
  have HFR := Lib.hid hg.ok.free; have HSZ := Lib.hid hg.sz
  have hpw : ∃ e, e ≤ 16 ∧ h.n = 2 ^ e := pw_of hg hh.1
  obtain ⟨hff, hfo, -⟩ := PH.roomF_some hf
  have HFO := Lib.hid hfo
  have hfl : f < h.n := by have := hg.ok.free; omega
  have HFL := Lib.hid hfl
  have hfI : (f : Int) < (n : Int) := by omega
  have df : decide ((f : Int) < 0) = false := by simp
  have hokm := hg.ok.form m
  rw [hkm] at hokm
  have hik : ik ≠ 0 := by simpa using e0
  have hmo2 := hmo
  rw [hkm] at hmo2
  have HMO2 := Lib.hid hmo2
  have HMN : Hid (∀ W, NdIn W b g { h with free := f } → Calls Tryz.prog 105 #[.pointer (some ⟨b, 0, none⟩), .agg #[.int .i64 ik, .int .i64 inn, .string is]] W fun e w' => e = .returned (.tuple #[.int .i64 o, .bool true]) ∧ Below W.heap.size W w') := Lib.hid (fun W hW => by
    have := Nd_mainI b g { h with free := f } hg.sz hpw ik inn is hokm hik hh.1 W hW
    change Calls _ _ _ _ (fun e w' => e = .returned (.tuple #[.int .i64 (mpos h.n ⟨ik, inn, is⟩), .bool true]) ∧ _) at this
    rw [hmo2] at this
    exact this)
  have hlx : -70000 ≤ xx ∧ xx ≤ 70000 := by
    rw [← hxm]; exact nxt_bound hg m hml
  obtain ⟨x, hx⟩ : ∃ x : Int, (if xx = 0 then 0 else (m : Int) + xx - f) = x := ⟨_, rfl⟩
  have HMF : Hid (m ≠ f) := Lib.hid (fun e => hfo (e ▸ ho))
  have HXX := Lib.hid hx; have HLX := Lib.hid hlx; have HMOK := Lib.hid hmo
  obtain ⟨c, ix, t, hc0, hct, hcs, hcm, hcn⟩ := chain_to hg.ok ho hmo hom
  have HC0 := Lib.hid hc0; have HCT := Lib.hid hct; have HCS := Lib.hid hcs; have HCM := Lib.hid hcm; have HCN := Lib.hid hcn; have HOM := Lib.hid hom
  have omf : ((o : Int) == (m : Int)) = false := beq_eq_false_iff_ne.2 (by omega)
  clear H hg hh hm ho hml hnn hkm hvm hxm hmz hpw hf hff hfo hfl hokm hik hmo2 hlx hmo hx hc0 hct hcs hcm hcn hom
  go_enter Tryz.func111, Tryz.ntmps111
  go_wp2_with fail
  ((refine (Nd_main _ b h kk kn ks HH.out.2.1 HH.out.2.2 HH.out.1 _ ((HI.out.below HBa.out).nodes HG.out)).mono ?_); rintro e w1 ⟨rfl, hb1⟩; rw [HM.out]; have HB1 := Lib.hid hb1; clear hb1; have HBw := Lib.hid (HBa.out.trans (HB1.out.mono (by simp [go_sem]))); have HI1 := Lib.hid (HI.out.below HBw.out); have HX1 := Lib.hid (HX.out.below HB1.out (by simp [go_sem])); have c0 := HI1.out.c0; rw [HNN.out] at c0; have q := HI1.out.c7 m HML.out; rw [HKM.out, HVM.out, HXM.out] at q; obtain ⟨q0, q1, q2, q3, q4, q5, q6, -, -⟩ := q; simp only at q0 q1 q2 q3 q4 q5)
  go_wp2_with fail
  ((with_reducible refine (Nd_empty ik inn is uk un us xx false e0 _).mono ?_); rintro e w2 ⟨rfl, hb2⟩; clear c0 q0 q1 q2 q3 q4 q5 q6; have HBw2 := Lib.hid (HBw.out.trans (hb2.mono (HBw.out.size))); have HI2 := Lib.hid (HI.out.below HBw2.out); have HX2 := Lib.hid (HX1.out.below hb2 (HX1.out.lt)); clear hb2)
  go_wp2_with fail
  ((with_reducible refine (Nd_room b g h HFR.out HSZ.out _ HI2.out).mono ?_); rintro e w3 ⟨rfl, hi3, hk3⟩; rw [HRI.out]; rw [HRF.out] at hi3; have HI3 := Lib.hid hi3; have HK3 := Lib.hid hk3; clear hi3 hk3; have HKw3 := Lib.hid ((below_kp HBw2.out : Kp (fun q => q = b ∨ q = g) w w2).trans HK3.out (fun q hq => .inl (.inl hq))); have HX3 := Lib.hid (HX2.out.kp HK3.out (fun e => absurd HI.out.lb (by omega))); have HI3' : Hid (NdIn w3 b g { h with free := f }) := HI3; have c0 := HI3'.out.c0; change _ = some (Value.slice (some ⟨g, 0, none⟩) h.n h.n) at c0; rw [HNN.out] at c0; have q := HI3'.out.c7 m HML.out; change C7 w3 g (m * 7) (h.key m) (h.val m) (h.nxt (mpos h.n) m) at q; rw [HKM.out, HVM.out, HXM.out] at q; obtain ⟨q0, q1, q2, q3, q4, q5, q6, -, -⟩ := q; simp only at q0 q1 q2 q3 q4 q5)
  go_wp2_with fail
  ((refine (HMN.out _ (HI3'.out.below ((Below.refl _ w3).alloc (Nat.le_refl _) _))).mono ?_); rintro e w4 ⟨rfl, hb4⟩; have HB34 := Lib.hid (((Below.refl _ w3).alloc (Nat.le_refl _) (.cells #[.int .i64 ik, .int .i64 inn, .string is, .int .i64 uk, .int .i64 un, .string us, .int .i64 xx] 44)).trans (hb4.mono (by simp [go_sem]))); have HI4 := Lib.hid (HI3'.out.below HB34.out); have HX4 := Lib.hid (HX3.out.below HB34.out HX3.out.lt); have HT4 := Lib.hid ((C7.new w3 ⟨ik, inn, is⟩ ⟨uk, un, us⟩ xx).below hb4 (by simp [go_sem])); have HKw4 := Lib.hid (HKw3.out.below HB34.out); clear hb4 c0 q0 q1 q2 q3 q4 q5 q6; obtain ⟨x0, x1, x2, x3, x4, x5, x6, -, lx⟩ := HX4.out; simp only at x0 x1 x2 x3 x4 x5; simp only [Nat.zero_add] at x0 x1 x2 x3 x4 x5 x6; obtain ⟨t0, t1, t2, t3, t4, t5, t6, -, lt⟩ := HT4.out; simp only at t0 t1 t2 t3 t4 t5; simp only [Nat.zero_add] at t0 t1 t2 t3 t4 t5 t6)
  go_wp2_with fail
  clear x0 x1 x2 x3 x4 x5 x6 t0 t1 t2 t3 t4 t5 t6
  rw [← HC0.out]
  go_loop [9] (fun a => ∃ s : Nat, s ≤ t ∧ a = .int .i64 ((c s : Nat) : Int)) (fun a => t - ix (intOf a).toNat)
  case atStart => exact ⟨0, Nat.zero_le _, rfl⟩
  case round =>
    obtain ⟨s, hs, rfl⟩ := hrel
    obtain ⟨hcl, hcmm, hcx, hix, hne⟩ := HCS.out s hs
    have HIX := Lib.hid hix
    have c0 := HI4.out.c0
    change _ = some (Value.slice (some ⟨g, 0, none⟩) h.n h.n) at c0
    rw [HNN.out] at c0
    have q6 := HI4.out.nx (c s) hcl
    change _ = some (Value.int .i64 (h.nxt (mpos h.n) (c s))) at q6
    rw [hcx] at q6
    have HJL : Hid (c (s + 1) < h.n) := Lib.hid (by
      by_cases e : s = t
      · subst e; rw [HCT.out]; exact HML.out
      · exact (HCS.out (s + 1) (by omega)).1)
    have hjl := HJL.out
    have hsz := HSZ.out
    obtain ⟨i, hi⟩ : ∃ i, c s = i := ⟨_, rfl⟩
    obtain ⟨j, hj⟩ : ∃ j, c (s + 1) = j := ⟨_, rfl⟩
    rw [hi] at q6 hcl hcmm hne
    rw [hj] at q6 hjl hne
    rw [hi]
    have HIJ := Lib.hid hi; have HJJ := Lib.hid hj; have HCL := Lib.hid hcl
    rw [HNN.out] at hcl hjl hsz
    have hiI : (i : Int) < (n : Int) := by omega
    obtain ⟨dx, hdx⟩ : ∃ dx : Int, (j : Int) - i = dx := ⟨_, rfl⟩
    rw [hdx] at q6
    have wa : wrap64 ((i : Int) + dx) = (j : Int) := by unfold wrap64; omega
    have HCMM := Lib.hid hcmm
    clear hcx hix hi hj hdx hcl hjl hsz hne hcmm
    by_cases e : s = t
    · have ejm : j = m := by rw [← HJJ.out, e]; exact HCT.out
      subst ejm
      have HCM' : Hid (i ∈ h.ch o ∧ PH.succL (h.ch o) i = some j) := Lib.hid (by have h1 := HCM.out; have h2 := HCN.out; rw [← e, HIJ.out] at h1 h2; exact ⟨h1, h2⟩)
      have HIF : Hid (i ≠ f) := Lib.hid (fun e2 => HFO.out (e2 ▸ (HG.out.ok.mem o i HCM'.out.1).2.1))
      have gt : ¬ (g = w3.heap.size) := fun e2 => absurd HI3.out.lg (by omega)
      have gx : ¬ (g = w.heap.size) := fun e2 => absurd HI.out.lg (by omega)
      have gb : ¬ (g = b) := fun e2 => HI.out.ne e2.symm
      have f6 := HI4.out.fg (i * 7 + 6)
      have hsz := HSZ.out; rw [HNN.out] at hsz
      obtain ⟨dd, hdd⟩ : ∃ dd : Int, (f : Int) - i = dd := ⟨_, rfl⟩
      have HDD := Lib.hid hdd
      have wdd : wrap64 ((f : Int) - i) = dd := by rw [← hdd]; unfold wrap64; omega
      obtain ⟨t0, t1, t2, t3, t4, t5, t6, -, -⟩ := HT4.out
      simp only at t0 t1 t2 t3 t4 t5
      simp only [Nat.zero_add] at t0 t1 t2 t3 t4 t5 t6
      clear e hdd hsz
      go_wp2_with fail
      have HK1 : Hid (Kp (fun q => q = g) w4 (w4.setCell ⟨g, i * 7 + 6, none⟩ (.int .i64 dd))) := Lib.hid ((Kp.refl (fun q => q = g) w4).set ⟨g, i * 7 + 6, none⟩ (.inl rfl) _)
      (refine (Nd_linkC b g h.n HSZ.out f j HFL.out HML.out ik inn is uk un us xx ik inn is uk un us xx HLX.out x HXX.out _ ((World.cell?_of_block (a := ⟨b, 0, none⟩) (HK1.out.block b HI4.out.lb (fun e2 => gb e2.symm))).trans HI4.out.c0) (Nat.lt_of_lt_of_le HI4.out.lb HK1.out.size) HI4.out.ne _ _ _ ((HI4.out.c7 f HFL.out).setOther (by have := HIF.out; omega) _)).mono ?_)
      rintro e w5 ⟨rfl, hp5⟩
      have HP5 := Lib.hid hp5
      have HK2 := Lib.hid (HK1.out.trans HP5.out.kp (fun q hq => .inl hq))
      have c0 := (World.cell?_of_block (a := ⟨b, 0, none⟩) (HK2.out.block b HI4.out.lb (fun e2 => gb e2.symm))).trans HI4.out.c0
      change _ = some (Value.slice (some ⟨g, 0, none⟩) h.n h.n) at c0
      rw [HNN.out] at c0
      have HX5 := Lib.hid (HX4.out.kp HK2.out (fun e2 => gx e2.symm))
      have HM5 := Lib.hid (((HI4.out.c7 j HML.out).setOther (j := i * 7 + 6) (by have := HCMM.out; omega) (.int .i64 dd)).put HP5.out HMF.out)
      have gw : ¬ (g = w5.heap.size) := fun e2 => absurd HM5.out.lt (by omega)
      obtain ⟨x0, x1, x2, x3, x4, x5, x6, -, -⟩ := HX5.out
      simp only at x0 x1 x2 x3 x4 x5
      simp only [Nat.zero_add] at x0 x1 x2 x3 x4 x5 x6
      obtain ⟨q0, q1, q2, q3, q4, q5, q7, -, -⟩ := HM5.out
      have fg0 := HM5.out.fz (j * 7); have fg1 := HM5.out.fz (j * 7 + 1); have fg2 := HM5.out.fz (j * 7 + 2); have fg3 := HM5.out.fz (j * 7 + 3); have fg4 := HM5.out.fz (j * 7 + 4); have fg5 := HM5.out.fz (j * 7 + 5); have fg6 := HM5.out.fz (j * 7 + 6)
      generalize PH.nxt _ _ _ = z0 at q7
      generalize V.k _ = z1 at q0
      generalize V.n _ = z2 at q1
      generalize V.s _ = z3 at q2
      generalize V.k _ = z4 at q3
      generalize V.n _ = z5 at q4
      generalize V.s _ = z6 at q5
      clear hp5 t0 t1 t2 t3 t4 t5 t6 f6 q6 wdd
      go_wp2
      go_region
      all_goals have P := ndput7 w5 g j ⟨kk, kn, ks⟩ ⟨vk, vn, vs⟩ 0 HM5.out.some
      all_goals have HP := Lib.hid P
      all_goals clear P c0 q0 q1 q2 q3 q4 q5 q7
      all_goals go_wp2
      all_goals go_ret
      all_goals have h6 := HI4.out.moved (k := ⟨kk, kn, ks⟩) (v := ⟨vk, vn, vs⟩) (m := j) (f := f) (o := o) (p := i) (x := x) HG.out.ok HM.out HO.out HMOK.out HOM.out HFO.out HH.out.2.2 HCM'.out.1 HCM'.out.2 (by rw [HXM.out]; exact HXX.out) (by rw [HKM.out, HVM.out, HDD.out]; exact HP5.out) HP.out
      all_goals exact ⟨rfl, h6.below ((Below.refl _ _).drew), (((HKw4.out.trans HK2.out (fun q hq => .inl (.inr hq))).trans HP.out.kp (fun q hq => .inl (.inr hq)))).below ((Below.refl _ _).drew)⟩
    · have ejm : j ≠ m := by rw [← HJJ.out]; exact (HCS.out (s + 1) (by omega)).2.1
      have ejb : ((j : Int) == (m : Int)) = false := beq_eq_false_iff_ne.2 (by omega)
      have HE := Lib.hid e
      have hs1 : s + 1 ≤ t := by omega
      clear e ejm
      go_wp2
      go_round
      case rel => exact ⟨s + 1, hs1, by rw [HJJ.out, wa]⟩
      case measure =>
        have h1 := (HCS.out (s + 1) hs1).2.2.2.1
        have h2 := HIX.out
        rw [HJJ.out] at h1
        rw [HIJ.out] at h2
        simp [intOf, wa, h1, h2]
        omega
theorem Nd_insert (b g : Nat) (h : PH) (hg : h.good) (kk kn : Int) (ks : ByteArray) (vk vn : Int) (vs : ByteArray) (er : Int) (he : (h.ins ⟨kk, kn, ks⟩ ⟨vk, vn, vs⟩).2 = er) (w : World) (H : NdIn w b g h) :
    Calls Tryz.prog 111 #[.pointer (some ⟨b, 0, none⟩), .agg #[.int .i64 kk, .int .i64 kn, .string ks, .int .i64 vk, .int .i64 vn, .string vs, .int .i64 0]] w fun e w' => e = .returned (.int .i64 er) ∧ NdIn w' b g (h.ins ⟨kk, kn, ks⟩ ⟨vk, vn, vs⟩).1 ∧ Kp (fun q => q = b ∨ q = g) w w' := by
  unfold PH.ins at he ⊢
  by_cases hh : h.has ⟨kk, kn, ks⟩
  · rw [if_neg (by simpa using hh)] at he ⊢
    by_cases ho : h.occ (mpos h.n ⟨kk, kn, ks⟩)
    · rw [if_neg (by simpa using ho)] at he ⊢
      cases hf : h.roomF h.free with
      | none =>
        rw [hf] at he
        simp only at he ⊢
        subst he
        exact Nd_insert_full b g h hg kk kn ks vk vn vs hh _ rfl ho hf w H
      | some f =>
        rw [hf] at he
        simp only at he ⊢
        by_cases hmo : mpos h.n (h.key (mpos h.n ⟨kk, kn, ks⟩)) = mpos h.n ⟨kk, kn, ks⟩
        · rw [if_pos hmo] at he ⊢
          simp only at he ⊢
          subst he
          exact Nd_insert_link b g h hg kk kn ks vk vn vs hh _ rfl ho f hf hmo w H
        · rw [if_neg hmo] at he ⊢
          simp only at he ⊢
          subst he
          exact Nd_insert_move b g h hg kk kn ks vk vn vs hh _ rfl ho f hf _ rfl hmo w H
    · rw [if_pos (by simpa using ho)] at he ⊢
      simp only at he ⊢
      subst he
      exact Nd_insert_place b g h hg kk kn ks vk vn vs hh _ rfl ho w H
  · rw [if_pos (by simpa using hh)] at he ⊢
    simp only at he ⊢
    subst he
    exact (Nd_insert_no b g h hg kk kn ks vk vn vs hh w H).mono fun e w' ⟨h1, h2⟩ => ⟨h1, H.below h2, below_kp h2⟩
end Go.Proofs.YteheolefemlcgaaGreat
/- Contracts of the package nodes: Put. -/
namespace Go.Proofs.YteheolefemlcgaaGreat
open Go.RowKit
set_option linter.unusedVariables false
set_option linter.unusedSimpArgs false

/-- A value's three cells in a block. -/
structure C3 (w : World) (a o : Nat) (k : V) : Prop where
  c0 : w.cell? ⟨a, o, none⟩ = some (.int .i64 k.k)
  c1 : w.cell? ⟨a, o + 1, none⟩ = some (.int .i64 k.n)
  c2 : w.cell? ⟨a, o + 2, none⟩ = some (.string k.s)
  fz : ∀ i, w.frozen? ⟨a, i, none⟩ = false
  lt : a < w.heap.size
theorem C3.below {w w' : World} {B a o : Nat} {k : V} (H : C3 w a o k) (hb : Below B w w') (hB : a < B) : C3 w' a o k := by
  have hc : ∀ o, w'.cell? ⟨a, o, none⟩ = w.cell? ⟨a, o, none⟩ := fun o => hb.cell (p := ⟨a, o, none⟩) hB
  exact ⟨(hc _).trans H.c0, (hc _).trans H.c1, (hc _).trans H.c2, fun i => (hb.frozen (p := ⟨a, i, none⟩) hB).trans (H.fz i), Nat.lt_of_lt_of_le H.lt hb.size⟩
theorem C3.kp {F : Nat → Prop} {w w' : World} {a o : Nat} {k : V} (H : C3 w a o k) (hk : Kp F w w') (hF : ¬ F a) : C3 w' a o k := by
  have hh := hk.block a H.lt hF
  have hc : ∀ o, w'.cell? ⟨a, o, none⟩ = w.cell? ⟨a, o, none⟩ := fun o => World.cell?_of_block (a := ⟨a, o, none⟩) hh
  exact ⟨(hc _).trans H.c0, (hc _).trans H.c1, (hc _).trans H.c2, fun i => (World.frozen?_of_block (a := ⟨a, i, none⟩) hh).trans (H.fz i), Nat.lt_of_lt_of_le H.lt hk.size⟩
theorem C3.new (w : World) (kk kn : Int) (ks : ByteArray) : C3 (w.alloc (.cells #[.int .i64 kk, .int .i64 kn, .string ks] 35)) w.heap.size 0 ⟨kk, kn, ks⟩ := by
  refine ⟨?_, ?_, ?_, fun i => ?_, ?_⟩ <;> simp [go_sem]
theorem C3.alloc {w : World} {a o : Nat} {k : V} (H : C3 w a o k) (ob : Obj) : C3 (w.alloc ob) a o k := H.below ((Below.refl _ w).alloc (Nat.le_refl _) ob) H.lt
theorem box_Check_c (kk kn : Int) (ks : ByteArray) (er : Int) (he : errForm (okV ⟨kk, kn, ks⟩) = er) (w : World) : Calls Tryz.prog 52 #[.agg #[.int .i64 kk, .int .i64 kn, .string ks]] w fun e w' => e = .returned (.int .i64 er) ∧ Below w.heap.size w w' := by
  rw [← he]; exact box_Check ⟨kk, kn, ks⟩ w
/-- The value of a node that holds a key is set. -/
theorem NdIn.valued {w : World} {b g : Nat} {h : PH} (H : NdIn w b g h) (i : Nat) (hi : i < h.n) (v : V) :
    NdIn (((w.setCell ⟨g, i * 7 + 3, none⟩ (.int .i64 v.k)).setCell ⟨g, i * 7 + 3 + 1, none⟩ (.int .i64 v.n)).setCell ⟨g, i * 7 + 3 + 2, none⟩ (.string v.s)) b g (h.setVal i v) ∧ Kp (fun q => q = g) w (((w.setCell ⟨g, i * 7 + 3, none⟩ (.int .i64 v.k)).setCell ⟨g, i * 7 + 3 + 1, none⟩ (.int .i64 v.n)).setCell ⟨g, i * 7 + 3 + 2, none⟩ (.string v.s)) := by
  have hK : Kp (fun q => q = g) w (((w.setCell ⟨g, i * 7 + 3, none⟩ (.int .i64 v.k)).setCell ⟨g, i * 7 + 3 + 1, none⟩ (.int .i64 v.n)).setCell ⟨g, i * 7 + 3 + 2, none⟩ (.string v.s)) := (((Kp.refl (fun q => q = g) w).set ⟨g, i * 7 + 3, none⟩ (.inl rfl) _).set ⟨g, i * 7 + 3 + 1, none⟩ (.inl rfl) _).set ⟨g, i * 7 + 3 + 2, none⟩ (.inl rfl) _
  refine ⟨?_, hK⟩
  have e : (((w.setCell ⟨g, i * 7 + 3, none⟩ (.int .i64 v.k)).setCell ⟨g, i * 7 + 3 + 1, none⟩ (.int .i64 v.n)).setCell ⟨g, i * 7 + 3 + 2, none⟩ (.string v.s)) = w.setCells g (i * 7 + 3) [.int .i64 v.k, .int .i64 v.n, .string v.s] := rfl
  obtain ⟨v0, v1, v2⟩ := H.val i hi
  have hin := World.cell?_setCells_in g [.int .i64 v.k, .int .i64 v.n, .string v.s] (i * 7 + 3) w (fun j hj => by
    match j, (show j < 3 by simpa using hj) with
    | 0, _ => exact Option.isSome_iff_exists.2 ⟨_, v0⟩
    | 1, _ => exact Option.isSome_iff_exists.2 ⟨_, v1⟩
    | 2, _ => exact Option.isSome_iff_exists.2 ⟨_, v2⟩)
  have hb := hK.block b H.lb H.ne
  have cb : ∀ j, (((w.setCell ⟨g, i * 7 + 3, none⟩ (.int .i64 v.k)).setCell ⟨g, i * 7 + 3 + 1, none⟩ (.int .i64 v.n)).setCell ⟨g, i * 7 + 3 + 2, none⟩ (.string v.s)).cell? ⟨b, j, none⟩ = w.cell? ⟨b, j, none⟩ := fun j => World.cell?_of_block (a := ⟨b, j, none⟩) hb
  have co : ∀ j, j < i * 7 + 3 ∨ i * 7 + 3 + 3 ≤ j → (((w.setCell ⟨g, i * 7 + 3, none⟩ (.int .i64 v.k)).setCell ⟨g, i * 7 + 3 + 1, none⟩ (.int .i64 v.n)).setCell ⟨g, i * 7 + 3 + 2, none⟩ (.string v.s)).cell? ⟨g, j, none⟩ = w.cell? ⟨g, j, none⟩ := fun j hj => by
    rw [e]; exact World.cell?_setCells_out g _ _ _ ⟨g, j, none⟩ (fun _ _ => by simpa using hj)
  refine ⟨(cb 0).trans H.c0, (cb 1).trans H.c1, fun j hj => ?_, fun j hj => ?_, fun j hj => (co _ (by omega)).trans (H.nx j hj), fun j => (World.frozen?_of_block (a := ⟨b, j, none⟩) hb).trans (H.fb j), fun j => by rw [e, World.frozen?_setCells]; exact H.fg j, Nat.lt_of_lt_of_le H.lg hK.size, H.ne⟩
  · obtain ⟨a, c, d⟩ := H.key j hj; exact ⟨(co _ (by omega)).trans a, (co _ (by omega)).trans c, (co _ (by omega)).trans d⟩
  · have hj' : j < h.n := hj
    show _ = some (Value.int .i64 (PH.upd h.val i v j).k) ∧ _ = some (Value.int .i64 (PH.upd h.val i v j).n) ∧ _ = some (Value.string (PH.upd h.val i v j).s)
    by_cases e2 : j = i
    · subst e2
      rw [PH.upd_same, e]
      exact ⟨hin 0 (by simp), hin 1 (by simp), hin 2 (by simp)⟩
    · rw [PH.upd_other _ _ _ e2]
      obtain ⟨a, c, d⟩ := H.val j hj'
      exact ⟨(co _ (by omega)).trans a, (co _ (by omega)).trans c, (co _ (by omega)).trans d⟩
section
variable (b g : Nat) (h : PH) (hg : h.good) (kk kn : Int) (ks : ByteArray) (vk vn : Int) (vs : ByteArray)
/-- Put: a key or a value not in form; Nil. -/
theorem Nd_Put_bad (er : Int) (hc : okV ⟨kk, kn, ks⟩ = false ∧ er = 2 ∨ okV ⟨kk, kn, ks⟩ = true ∧ okV ⟨vk, vn, vs⟩ = false ∧ er = 2 ∨ okV ⟨kk, kn, ks⟩ = true ∧ okV ⟨vk, vn, vs⟩ = true ∧ kk = 0 ∧ er = 9) (w : World) :
    Calls Tryz.prog 96 #[.pointer (some ⟨b, 0, none⟩), .agg #[.int .i64 kk, .int .i64 kn, .string ks], .agg #[.int .i64 vk, .int .i64 vn, .string vs]] w fun e w' => e = .returned (.tuple #[.int .i64 0, .int .i64 er]) ∧ Below w.heap.size w w' := by
  have HBa : Hid (Below w.heap.size w ((w.alloc (.cells #[.int .i64 kk, .int .i64 kn, .string ks] 35)).alloc (.cells #[.int .i64 vk, .int .i64 vn, .string vs] 35))) := Lib.hid (((Below.refl _ w).alloc (Nat.le_refl _) _).alloc (by simp [go_sem]) _)
  have HK := Lib.hid ((C3.new w kk kn ks).alloc (.cells #[.int .i64 vk, .int .i64 vn, .string vs] 35))
  have HV := Lib.hid (C3.new (w.alloc (.cells #[.int .i64 kk, .int .i64 kn, .string ks] 35)) vk vn vs)
  rcases hc with ⟨h1, rfl⟩ | ⟨h1, h2, rfl⟩ | ⟨h1, h2, rfl, rfl⟩
  · have H1 : Hid (errForm (okV ⟨kk, kn, ks⟩) = 2) := Lib.hid (by rw [h1]; rfl)
    clear h1
    go_enter Tryz.func96, Tryz.ntmps96
    go_wp2_with fail
    (with_reducible refine (box_Check_c kk kn ks 2 H1.out _).mono ?_)
    rintro e w1 ⟨rfl, hb1⟩
    go_wp2
    go_ret2
    exact ⟨rfl, HBa.out.trans (hb1.mono (HBa.out.size))⟩
  · have H1 : Hid (errForm (okV ⟨kk, kn, ks⟩) = 0) := Lib.hid (by rw [h1]; rfl)
    have H2 : Hid (errForm (okV ⟨vk, vn, vs⟩) = 2) := Lib.hid (by rw [h2]; rfl)
    clear h1 h2
    go_enter Tryz.func96, Tryz.ntmps96
    go_wp2_with fail
    (with_reducible refine (box_Check_c kk kn ks 0 H1.out _).mono ?_)
    rintro e w1 ⟨rfl, hb1⟩
    have HV1 := Lib.hid (HV.out.below hb1 HV.out.lt)
    have HB1 := Lib.hid (HBa.out.trans (hb1.mono (HBa.out.size)))
    obtain ⟨y0, y1, y2, -, -⟩ := HV1.out
    simp only [World.size_alloc, Nat.zero_add] at y0 y1 y2
    clear hb1
    go_wp2_with fail
    (with_reducible refine (box_Check_c vk vn vs 2 H2.out _).mono ?_)
    rintro e w2 ⟨rfl, hb2⟩
    go_wp2
    go_ret2
    exact ⟨rfl, HB1.out.trans (hb2.mono (HB1.out.size))⟩
  · have H1 : Hid (errForm (okV ⟨0, kn, ks⟩) = 0) := Lib.hid (by rw [h1]; rfl)
    have H2 : Hid (errForm (okV ⟨vk, vn, vs⟩) = 0) := Lib.hid (by rw [h2]; rfl)
    clear h1 h2
    go_enter Tryz.func96, Tryz.ntmps96
    go_wp2_with fail
    (with_reducible refine (box_Check_c 0 kn ks 0 H1.out _).mono ?_)
    rintro e w1 ⟨rfl, hb1⟩
    have HV1 := Lib.hid (HV.out.below hb1 HV.out.lt)
    have HK1 := Lib.hid (HK.out.below hb1 HK.out.lt)
    have HB1 := Lib.hid (HBa.out.trans (hb1.mono (HBa.out.size)))
    obtain ⟨y0, y1, y2, -, -⟩ := HV1.out
    simp only [World.size_alloc, Nat.zero_add] at y0 y1 y2
    clear hb1
    go_wp2_with fail
    (with_reducible refine (box_Check_c vk vn vs 0 H2.out _).mono ?_)
    rintro e w2 ⟨rfl, hb2⟩
    have HK2 := Lib.hid (HK1.out.below hb2 HK1.out.lt)
    have HB2 := Lib.hid (HB1.out.trans (hb2.mono (HB1.out.size)))
    obtain ⟨x0, x1, x2, -, -⟩ := HK2.out
    clear hb2 y0 y1 y2
    go_wp2
    go_ret2
    exact ⟨rfl, HB2.out⟩
include hg in
set_option maxRecDepth 100000 in
set_option maxHeartbeats 800000 in
theorem Nd_Put_found (hk : okV ⟨kk, kn, ks⟩ = true) (hv : okV ⟨vk, vn, vs⟩ = true) (hk0 : kk ≠ 0) (rd : Nat) (hr : (h.findA ⟨kk, kn, ks⟩).2 = rd) (i : Nat) (hf : (h.findA ⟨kk, kn, ks⟩).1 = some i) (w : World) (H : NdIn w b g h) :
    Calls Tryz.prog 96 #[.pointer (some ⟨b, 0, none⟩), .agg #[.int .i64 kk, .int .i64 kn, .string ks], .agg #[.int .i64 vk, .int .i64 vn, .string vs]] w fun e w' => e = .returned (.tuple #[.int .i64 rd, .int .i64 0]) ∧ NdIn w' b g (h.setVal i ⟨vk, vn, vs⟩) ∧ Kp (fun q => q = b ∨ q = g) w w' := by
  have HBa : Hid (Below w.heap.size w ((w.alloc (.cells #[.int .i64 kk, .int .i64 kn, .string ks] 35)).alloc (.cells #[.int .i64 vk, .int .i64 vn, .string vs] 35))) := Lib.hid (((Below.refl _ w).alloc (Nat.le_refl _) _).alloc (by simp [go_sem]) _)
  have HK := Lib.hid ((C3.new w kk kn ks).alloc (.cells #[.int .i64 vk, .int .i64 vn, .string vs] 35))
  have HV := Lib.hid (C3.new (w.alloc (.cells #[.int .i64 kk, .int .i64 kn, .string ks] 35)) vk vn vs)
  have H1 : Hid (errForm (okV ⟨kk, kn, ks⟩) = 0) := Lib.hid (by rw [hk]; rfl)
  have H2 : Hid (errForm (okV ⟨vk, vn, vs⟩) = 0) := Lib.hid (by rw [hv]; rfl)
  have kk0 : (kk == 0) = false := by simpa using hk0
  have HI := Lib.hid H; have HG := Lib.hid hg
  have HRD := Lib.hid hr
  have HA : Hid (atI (h.findA ⟨kk, kn, ks⟩).1 = (i : Int)) := Lib.hid (by rw [hf]; rfl)
  have hi := findA_lt hg ⟨kk, kn, ks⟩ i hf
  have HIL := Lib.hid hi
  obtain ⟨n, hnn⟩ : ∃ n, h.n = n := ⟨_, rfl⟩
  have HNN := Lib.hid hnn
  rw [hnn] at hi
  have hiI : (i : Int) < (n : Int) := by omega
  have i0 : (0 : Int) ≤ (i : Int) := by omega
  have gb : ¬ (g = b) := fun e => H.ne e.symm
  clear hk hv hk0 H hg hr hf hnn
  go_enter Tryz.func96, Tryz.ntmps96
  go_wp2_with fail
  (with_reducible refine (box_Check_c kk kn ks 0 H1.out _).mono ?_)
  rintro e w1 ⟨rfl, hb1⟩
  have HV1 := Lib.hid (HV.out.below hb1 HV.out.lt)
  have HK1 := Lib.hid (HK.out.below hb1 HK.out.lt)
  have HB1 := Lib.hid (HBa.out.trans (hb1.mono (HBa.out.size)))
  obtain ⟨y0, y1, y2, -, -⟩ := HV1.out
  simp only [World.size_alloc, Nat.zero_add] at y0 y1 y2
  clear hb1
  go_wp2_with fail
  (with_reducible refine (box_Check_c vk vn vs 0 H2.out _).mono ?_)
  rintro e w2 ⟨rfl, hb2⟩
  have HV2 := Lib.hid (HV1.out.below hb2 HV1.out.lt)
  have HK2 := Lib.hid (HK1.out.below hb2 HK1.out.lt)
  have HB2 := Lib.hid (HB1.out.trans (hb2.mono (HB1.out.size)))
  obtain ⟨x0, x1, x2, -, -⟩ := HK2.out
  simp only [Nat.zero_add] at x0 x1 x2
  clear hb2 y0 y1 y2
  go_wp2_with fail
  (with_reducible refine (Nd_FindA _ b h kk kn ks _ ((HI.out.below HB2.out).nodes HG.out) (i : Int) rd HA.out HRD.out).mono ?_)
  rintro e w3 ⟨rfl, hb3⟩
  have HV3 := Lib.hid (HV2.out.below hb3 HV2.out.lt)
  have HK3 := Lib.hid (HK2.out.below hb3 HK2.out.lt)
  have HB3 := Lib.hid (HB2.out.trans (hb3.mono (HB2.out.size)))
  have HI3 := Lib.hid (HI.out.below HB3.out)
  obtain ⟨y0, y1, y2, -, -⟩ := HV3.out
  simp only [World.size_alloc, Nat.zero_add] at y0 y1 y2
  clear hb3 x0 x1 x2
  have c0 := HI3.out.c0
  rw [HNN.out] at c0
  obtain ⟨v0, v1, v2⟩ := HI3.out.val i HIL.out
  have fg0 := HI3.out.fg (i * 7 + 3); have fg1 := HI3.out.fg (i * 7 + 3 + 1); have fg2 := HI3.out.fg (i * 7 + 3 + 2)
  have fg1' := HI3.out.fg (i * 7 + 4); have fg2' := HI3.out.fg (i * 7 + 5)
  have gw : ¬ (g = w.heap.size + 1) := fun e => absurd HI.out.lg (by omega)
  generalize V.k _ = z4 at v0
  generalize V.n _ = z5 at v1
  generalize V.s _ = z6 at v2
  go_wp2
  go_region
  all_goals have P := HI3.out.valued i HIL.out ⟨vk, vn, vs⟩
  all_goals have HP := Lib.hid P
  all_goals clear P c0 v0 v1 v2
  all_goals go_wp2
  all_goals go_ret2
  all_goals exact ⟨rfl, HP.out.1.below ((Below.refl _ _).drew), ((below_kp HB3.out : Kp (fun q => q = b ∨ q = g) w w3).trans HP.out.2 (fun q hq => .inl (.inr hq))).below ((Below.refl _ _).drew)⟩
include hg in
set_option maxRecDepth 100000 in
set_option maxHeartbeats 800000 in
theorem Nd_Put_nil (hk : okV ⟨kk, kn, ks⟩ = true) (hv : okV ⟨vk, vn, vs⟩ = true) (hk0 : kk ≠ 0) (rd : Nat) (hr : (h.findA ⟨kk, kn, ks⟩).2 = rd) (hf : (h.findA ⟨kk, kn, ks⟩).1 = none) (hv0 : vk = 0) (w : World) (H : NdIn w b g h) :
    Calls Tryz.prog 96 #[.pointer (some ⟨b, 0, none⟩), .agg #[.int .i64 kk, .int .i64 kn, .string ks], .agg #[.int .i64 vk, .int .i64 vn, .string vs]] w fun e w' => e = .returned (.tuple #[.int .i64 rd, .int .i64 0]) ∧ NdIn w' b g h ∧ Kp (fun q => q = b ∨ q = g) w w' := by
  have HBa : Hid (Below w.heap.size w ((w.alloc (.cells #[.int .i64 kk, .int .i64 kn, .string ks] 35)).alloc (.cells #[.int .i64 vk, .int .i64 vn, .string vs] 35))) := Lib.hid (((Below.refl _ w).alloc (Nat.le_refl _) _).alloc (by simp [go_sem]) _)
  have HK := Lib.hid ((C3.new w kk kn ks).alloc (.cells #[.int .i64 vk, .int .i64 vn, .string vs] 35))
  have HV := Lib.hid (C3.new (w.alloc (.cells #[.int .i64 kk, .int .i64 kn, .string ks] 35)) vk vn vs)
  have H1 : Hid (errForm (okV ⟨kk, kn, ks⟩) = 0) := Lib.hid (by rw [hk]; rfl)
  have H2 : Hid (errForm (okV ⟨vk, vn, vs⟩) = 0) := Lib.hid (by rw [hv]; rfl)
  have kk0 : (kk == 0) = false := by simpa using hk0
  have HI := Lib.hid H; have HG := Lib.hid hg
  have HRD := Lib.hid hr
  have HA : Hid (atI (h.findA ⟨kk, kn, ks⟩).1 = -1) := Lib.hid (by rw [hf]; rfl)
  subst hv0
  clear hk hv hk0 H hg hr hf
  go_enter Tryz.func96, Tryz.ntmps96
  go_wp2_with fail
  (with_reducible refine (box_Check_c kk kn ks 0 H1.out _).mono ?_)
  rintro e w1 ⟨rfl, hb1⟩
  have HV1 := Lib.hid (HV.out.below hb1 HV.out.lt)
  have HK1 := Lib.hid (HK.out.below hb1 HK.out.lt)
  have HB1 := Lib.hid (HBa.out.trans (hb1.mono (HBa.out.size)))
  obtain ⟨y0, y1, y2, -, -⟩ := HV1.out
  simp only [World.size_alloc, Nat.zero_add] at y0 y1 y2
  clear hb1
  go_wp2_with fail
  (with_reducible refine (box_Check_c 0 vn vs 0 H2.out _).mono ?_)
  rintro e w2 ⟨rfl, hb2⟩
  have HV2 := Lib.hid (HV1.out.below hb2 HV1.out.lt)
  have HK2 := Lib.hid (HK1.out.below hb2 HK1.out.lt)
  have HB2 := Lib.hid (HB1.out.trans (hb2.mono (HB1.out.size)))
  obtain ⟨x0, x1, x2, -, -⟩ := HK2.out
  simp only [Nat.zero_add] at x0 x1 x2
  clear hb2 y0 y1 y2
  go_wp2_with fail
  (with_reducible refine (Nd_FindA _ b h kk kn ks _ ((HI.out.below HB2.out).nodes HG.out) (-1) rd HA.out HRD.out).mono ?_)
  rintro e w3 ⟨rfl, hb3⟩
  have HV3 := Lib.hid (HV2.out.below hb3 HV2.out.lt)
  have HK3 := Lib.hid (HK2.out.below hb3 HK2.out.lt)
  have HB3 := Lib.hid (HB2.out.trans (hb3.mono (HB2.out.size)))
  have HI3 := Lib.hid (HI.out.below HB3.out)
  obtain ⟨y0, y1, y2, -, -⟩ := HV3.out
  simp only [World.size_alloc, Nat.zero_add] at y0 y1 y2
  clear hb3 x0 x1 x2
  go_wp2
  go_ret2
  exact ⟨rfl, HI3.out, below_kp HB3.out⟩
include hg in
set_option maxRecDepth 100000 in
set_option maxHeartbeats 800000 in
theorem Nd_Put_new (hk : okV ⟨kk, kn, ks⟩ = true) (hv : okV ⟨vk, vn, vs⟩ = true) (hk0 : kk ≠ 0) (rd : Nat) (hr : (h.findA ⟨kk, kn, ks⟩).2 = rd) (hf : (h.findA ⟨kk, kn, ks⟩).1 = none) (hv0 : vk ≠ 0) (er : Int) (he : (h.ins ⟨kk, kn, ks⟩ ⟨vk, vn, vs⟩).2 = er) (w : World) (H : NdIn w b g h) :
    Calls Tryz.prog 96 #[.pointer (some ⟨b, 0, none⟩), .agg #[.int .i64 kk, .int .i64 kn, .string ks], .agg #[.int .i64 vk, .int .i64 vn, .string vs]] w fun e w' => e = .returned (.tuple #[.int .i64 rd, .int .i64 er]) ∧ NdIn w' b g (h.ins ⟨kk, kn, ks⟩ ⟨vk, vn, vs⟩).1 ∧ Kp (fun q => q = b ∨ q = g) w w' := by
  have HBa : Hid (Below w.heap.size w ((w.alloc (.cells #[.int .i64 kk, .int .i64 kn, .string ks] 35)).alloc (.cells #[.int .i64 vk, .int .i64 vn, .string vs] 35))) := Lib.hid (((Below.refl _ w).alloc (Nat.le_refl _) _).alloc (by simp [go_sem]) _)
  have HK := Lib.hid ((C3.new w kk kn ks).alloc (.cells #[.int .i64 vk, .int .i64 vn, .string vs] 35))
  have HV := Lib.hid (C3.new (w.alloc (.cells #[.int .i64 kk, .int .i64 kn, .string ks] 35)) vk vn vs)
  have H1 : Hid (errForm (okV ⟨kk, kn, ks⟩) = 0) := Lib.hid (by rw [hk]; rfl)
  have H2 : Hid (errForm (okV ⟨vk, vn, vs⟩) = 0) := Lib.hid (by rw [hv]; rfl)
  have kk0 : (kk == 0) = false := by simpa using hk0
  have HI := Lib.hid H; have HG := Lib.hid hg
  have HRD := Lib.hid hr
  have HA : Hid (atI (h.findA ⟨kk, kn, ks⟩).1 = -1) := Lib.hid (by rw [hf]; rfl)
  have vk0 : (vk == 0) = false := by simpa using hv0
  have HE := Lib.hid he
  clear hk hv hk0 H hg hr hf hv0 he
  go_enter Tryz.func96, Tryz.ntmps96
  go_wp2_with fail
  (with_reducible refine (box_Check_c kk kn ks 0 H1.out _).mono ?_)
  rintro e w1 ⟨rfl, hb1⟩
  have HV1 := Lib.hid (HV.out.below hb1 HV.out.lt)
  have HK1 := Lib.hid (HK.out.below hb1 HK.out.lt)
  have HB1 := Lib.hid (HBa.out.trans (hb1.mono (HBa.out.size)))
  obtain ⟨y0, y1, y2, -, -⟩ := HV1.out
  simp only [World.size_alloc, Nat.zero_add] at y0 y1 y2
  clear hb1
  go_wp2_with fail
  (with_reducible refine (box_Check_c vk vn vs 0 H2.out _).mono ?_)
  rintro e w2 ⟨rfl, hb2⟩
  have HV2 := Lib.hid (HV1.out.below hb2 HV1.out.lt)
  have HK2 := Lib.hid (HK1.out.below hb2 HK1.out.lt)
  have HB2 := Lib.hid (HB1.out.trans (hb2.mono (HB1.out.size)))
  obtain ⟨x0, x1, x2, -, -⟩ := HK2.out
  simp only [Nat.zero_add] at x0 x1 x2
  clear hb2 y0 y1 y2
  go_wp2_with fail
  (with_reducible refine (Nd_FindA _ b h kk kn ks _ ((HI.out.below HB2.out).nodes HG.out) (-1) rd HA.out HRD.out).mono ?_)
  rintro e w3 ⟨rfl, hb3⟩
  have HV3 := Lib.hid (HV2.out.below hb3 HV2.out.lt)
  have HK3 := Lib.hid (HK2.out.below hb3 HK2.out.lt)
  have HB3 := Lib.hid (HB2.out.trans (hb3.mono (HB2.out.size)))
  have HI3 := Lib.hid (HI.out.below HB3.out)
  obtain ⟨y0, y1, y2, -, -⟩ := HV3.out
  simp only [World.size_alloc, Nat.zero_add] at y0 y1 y2
  clear hb3 x0 x1 x2
  obtain ⟨x0, x1, x2, -, -⟩ := HK3.out
  simp only [Nat.zero_add] at x0 x1 x2
  go_wp2_with fail
  (with_reducible refine (Nd_insert b g h HG.out kk kn ks vk vn vs er HE.out _ HI3.out).mono ?_)
  rintro e w4 ⟨rfl, h4, h5⟩
  have H4 := Lib.hid h4; have H5 := Lib.hid h5
  clear h4 h5 x0 x1 x2 y0 y1 y2
  go_wp2
  go_ret2
  exact ⟨rfl, H4.out, ((below_kp HB3.out : Kp (fun q => q = b ∨ q = g) w w3).trans H5.out (fun q hq => .inl hq))⟩
include hg in
theorem Nd_Put (rd : Nat) (er : Int) (hr : (h.put ⟨kk, kn, ks⟩ ⟨vk, vn, vs⟩).2.1 = rd) (he : (h.put ⟨kk, kn, ks⟩ ⟨vk, vn, vs⟩).2.2 = er) (w : World) (H : NdIn w b g h) :
    Calls Tryz.prog 96 #[.pointer (some ⟨b, 0, none⟩), .agg #[.int .i64 kk, .int .i64 kn, .string ks], .agg #[.int .i64 vk, .int .i64 vn, .string vs]] w fun e w' => e = .returned (.tuple #[.int .i64 rd, .int .i64 er]) ∧ NdIn w' b g (h.put ⟨kk, kn, ks⟩ ⟨vk, vn, vs⟩).1 ∧ Kp (fun q => q = b ∨ q = g) w w' := by
  by_cases h1 : okV ⟨kk, kn, ks⟩ = false ∨ okV ⟨vk, vn, vs⟩ = false
  · rw [PH.put_form h1] at hr he ⊢
    subst hr he
    refine (Nd_Put_bad b kk kn ks vk vn vs 2 ?_ w).mono fun e w' ⟨a, c⟩ => ⟨a, H.below c, below_kp c⟩
    rcases h1 with h1 | h1
    · exact .inl ⟨h1, rfl⟩
    · cases e : okV ⟨kk, kn, ks⟩
      · exact .inl ⟨rfl, rfl⟩
      · exact .inr (.inl ⟨rfl, h1, rfl⟩)
  · have hk : okV ⟨kk, kn, ks⟩ = true := by cases e : okV ⟨kk, kn, ks⟩; exact absurd (.inl e) h1; rfl
    have hv : okV ⟨vk, vn, vs⟩ = true := by cases e : okV ⟨vk, vn, vs⟩; exact absurd (.inr e) h1; rfl
    by_cases hk0 : kk = 0
    · rw [PH.put_nil hk hv hk0] at hr he ⊢
      subst hr he
      exact (Nd_Put_bad b kk kn ks vk vn vs 9 (.inr (.inr ⟨hk, hv, hk0, rfl⟩)) w).mono fun e w' ⟨a, c⟩ => ⟨a, H.below c, below_kp c⟩
    · unfold PH.put at hr he ⊢
      rw [if_neg h1, if_neg hk0] at hr he ⊢
      cases hf : (h.findA ⟨kk, kn, ks⟩).1 with
      | some i =>
        rw [hf] at hr he
        simp only at hr he ⊢
        subst he
        exact Nd_Put_found b g h hg kk kn ks vk vn vs hk hv hk0 rd hr i hf w H
      | none =>
        rw [hf] at hr he
        simp only at hr he ⊢
        by_cases hv0 : vk = 0
        · rw [if_pos hv0] at hr he ⊢
          simp only at hr he ⊢
          subst he
          exact Nd_Put_nil b g h hg kk kn ks vk vn vs hk hv hk0 rd hr hf hv0 w H
        · rw [if_neg hv0] at hr he ⊢
          simp only at hr he ⊢
          exact Nd_Put_new b g h hg kk kn ks vk vn vs hk hv hk0 rd hr hf hv0 er he w H
end
end Go.Proofs.YteheolefemlcgaaGreat
/- Contracts of the package nodes: New. -/
namespace Go.Proofs.YteheolefemlcgaaGreat
open Go.RowKit
set_option linter.unusedVariables false
set_option linter.unusedSimpArgs false

theorem infoNode : (Tryz.prog.info? 44).map (fun i => (i.zero, i.size, i.bytes)) = some (some (.agg #[.int .i64 0, .int .i64 0, .string ByteArray.empty, .int .i64 0, .int .i64 0, .string ByteArray.empty, .int .i64 0]), 7, 72) := by kernel_rfl
theorem infoVal : (Tryz.prog.info? 35).map (fun i => (i.zero, i.size, i.bytes)) = some (some (.agg #[.int .i64 0, .int .i64 0, .string ByteArray.empty]), 3, 32) := by kernel_rfl
theorem cell_made (w : World) (z : Array Value) (n k : Nat) (e : TypeId) (hk : k < n) : (w.alloc (.cells (madeCells z n) e)).cell? ⟨w.heap.size, k, none⟩ = some (z[k % z.size]!) := by
  rw [World.cell?_alloc_new]
  simp [madeCells, hk]
theorem frozen_made (w : World) (z : Array Value) (e : TypeId) (i : Nat) : (w.alloc (.cells z e)).frozen? ⟨w.heap.size, i, none⟩ = false := by simp [go_sem]
theorem make_nodes (n : Nat) (hn : n ≤ 65536) (W : World) : (Instr.makeSlice 39 (.int .i64 n) (.int .i64 n)).run Tryz.prog W = .ok (.slice (some ⟨W.heap.size, 0, none⟩) n n) (W.alloc (.cells (madeCells #[.int .i64 0, .int .i64 0, .string ByteArray.empty, .int .i64 0, .int .i64 0, .string ByteArray.empty, .int .i64 0] (n * 7)) 44)) := by
  obtain ⟨i, hi, hz, hs, hb⟩ := info_parts infoNode
  have h := run_make (P := Tryz.prog) W 39 44 i _ Tryz.underlying39 hi hz .i64 .i64 n n (by omega) (Int.le_refl _) (by rw [hb]; omega) (by omega)
  rw [hs] at h
  simp only [Int.toNat_natCast] at h
  exact h
theorem make_vals (n : Nat) (hn : n ≤ 65536) (W : World) : (Instr.makeSlice 38 (.int .i64 n) (.int .i64 n)).run Tryz.prog W = .ok (.slice (some ⟨W.heap.size, 0, none⟩) n n) (W.alloc (.cells (madeCells #[.int .i64 0, .int .i64 0, .string ByteArray.empty] (n * 3)) 35)) := by
  obtain ⟨i, hi, hz, hs, hb⟩ := info_parts infoVal
  have h := run_make (P := Tryz.prog) W 38 35 i _ Tryz.underlying38 hi hz .i64 .i64 n n (by omega) (Int.le_refl _) (by rw [hb]; omega) (by omega)
  rw [hs] at h
  simp only [Int.toNat_natCast] at h
  exact h
theorem pow_and (n : Nat) (hn : n ≤ 65536) (hp : n = 0 ∨ ∃ e, e ≤ 16 ∧ n = 2 ^ e) : bits .and .i64 (n : Int) ((n : Int) - 1) = 0 := by
  rcases hp with rfl | ⟨e, he, rfl⟩
  · decide
  · clear hn
    rcases (show e = 0 ∨ e = 1 ∨ e = 2 ∨ e = 3 ∨ e = 4 ∨ e = 5 ∨ e = 6 ∨ e = 7 ∨ e = 8 ∨ e = 9 ∨ e = 10 ∨ e = 11 ∨ e = 12 ∨ e = 13 ∨ e = 14 ∨ e = 15 ∨ e = 16 by omega) with rfl | rfl | rfl | rfl | rfl | rfl | rfl | rfl | rfl | rfl | rfl | rfl | rfl | rfl | rfl | rfl | rfl <;> decide
theorem NdIn.new (w : World) (n : Nat) : NdIn ((w.alloc (.cells (madeCells #[.int .i64 0, .int .i64 0, .string ByteArray.empty, .int .i64 0, .int .i64 0, .string ByteArray.empty, .int .i64 0] (n * 7)) 44)).alloc (.cells #[.slice (some ⟨w.heap.size, 0, none⟩) n n, .int .i64 n] 164)) (w.heap.size + 1) w.heap.size (PH.new n) := by
  have hc : ∀ k, ((w.alloc (.cells (madeCells #[.int .i64 0, .int .i64 0, .string ByteArray.empty, .int .i64 0, .int .i64 0, .string ByteArray.empty, .int .i64 0] (n * 7)) 44)).alloc (.cells #[.slice (some ⟨w.heap.size, 0, none⟩) n n, .int .i64 n] 164)).cell? ⟨w.heap.size, k, none⟩ = (w.alloc (.cells (madeCells #[.int .i64 0, .int .i64 0, .string ByteArray.empty, .int .i64 0, .int .i64 0, .string ByteArray.empty, .int .i64 0] (n * 7)) 44)).cell? ⟨w.heap.size, k, none⟩ := fun k =>
    World.cell?_of_block (a := ⟨w.heap.size, k, none⟩) (Below.heap_alloc _ _ _ (by simp [go_sem]))
  have hm : ∀ i j, i < n → j < 7 → ((w.alloc (.cells (madeCells #[.int .i64 0, .int .i64 0, .string ByteArray.empty, .int .i64 0, .int .i64 0, .string ByteArray.empty, .int .i64 0] (n * 7)) 44)).alloc (.cells #[.slice (some ⟨w.heap.size, 0, none⟩) n n, .int .i64 n] 164)).cell? ⟨w.heap.size, i * 7 + j, none⟩ = some ((#[.int .i64 0, .int .i64 0, .string ByteArray.empty, .int .i64 0, .int .i64 0, .string ByteArray.empty, .int .i64 0] : Array Value)[j]!) := fun i j hi hj => by
    rw [hc, cell_made _ _ _ _ _ (by omega)]
    show some ((#[.int .i64 0, .int .i64 0, .string ByteArray.empty, .int .i64 0, .int .i64 0, .string ByteArray.empty, .int .i64 0] : Array Value)[(i * 7 + j) % 7]!) = _
    rw [show (i * 7 + j) % 7 = j by omega]
  have hl : (w.alloc (.cells (madeCells #[.int .i64 0, .int .i64 0, .string ByteArray.empty, .int .i64 0, .int .i64 0, .string ByteArray.empty, .int .i64 0] (n * 7)) 44)).heap.size = w.heap.size + 1 := by simp [go_sem]
  refine ⟨?_, ?_, fun i hi => ⟨hm i 0 hi (by omega), hm i 1 hi (by omega), hm i 2 hi (by omega)⟩, fun i hi => ⟨hm i 3 hi (by omega), hm i 4 hi (by omega), hm i 5 hi (by omega)⟩, fun i hi => hm i 6 hi (by omega), fun i => ?_, fun i => ?_, ?_, by omega⟩
  · rw [← hl, World.cell?_alloc_new]; rfl
  · rw [← hl, World.cell?_alloc_new]; rfl
  · rw [← hl]; exact frozen_made _ _ _ _
  · rw [World.frozen?_of_block (a := ⟨w.heap.size, i, none⟩) (Below.heap_alloc _ _ _ (by simp [go_sem]))]; exact frozen_made _ _ _ _
  · simp [go_sem]
theorem nodes_New (n : Nat) (hn : n ≤ 65536) (hp : n = 0 ∨ ∃ e, e ≤ 16 ∧ n = 2 ^ e) (w : World) :
    Calls Tryz.prog 109 #[.int .i64 n] w fun e w' => e = .returned (.tuple #[.pointer (some ⟨w.heap.size + 1, 0, none⟩), .int .i64 0]) ∧ NdIn w' (w.heap.size + 1) w.heap.size (PH.new n) ∧ Below w.heap.size w w' := by
  have hmk := make_nodes n hn
  have hws : wrap64 ((n : Int) - 1) = (n : Int) - 1 := by unfold wrap64; omega
  have hand : bits .and .i64 (n : Int) (wrap64 ((n : Int) - 1)) = 0 := by rw [hws]; exact pow_and n hn hp
  have n0 : decide ((n : Int) < 0) = false := by simp
  have n1 : decide ((65536 : Int) < (n : Int)) = false := by simp; omega
  have HN := Lib.hid (NdIn.new w n)
  clear hn hp hws
  go_enter Tryz.func109, Tryz.ntmps109
  go_wp2
  go_ret2
  exact ⟨rfl, HN.out, ((Below.refl _ w).alloc (Nat.le_refl _) _).alloc (by simp [go_sem]) _⟩
end Go.Proofs.YteheolefemlcgaaGreat
