/- BoxTexts: the cases joined. -/
import Derived.Test.YtpppcoobibmlhaaDoorLaw03g1
import Derived.Test.YtpppcoobibmlhaaDoorLaw03g2
import Derived.Test.YtpppcoobibmlhaaDoorLaw03g3
import Derived.Test.YtpppcoobibmlhaaDoorLaw03g4
namespace Go.Proofs.YtpppcoobibmlhaaDoor
open Go.RowKit

theorem isText_iff (k n : Int) (s : ByteArray) : (toBx ⟨k, n, s⟩).isText = true ↔ k = 2 ∨ k = 3 := by
  unfold toBx
  simp only
  by_cases h1 : k = 1
  · rw [if_pos h1, h1]; simp [Bx.isText]
  rw [if_neg h1]
  by_cases h2 : k = 2
  · rw [if_pos h2, h2]; simp [Bx.isText]
  rw [if_neg h2]
  by_cases h3 : k = 3
  · rw [if_pos h3, h3]; simp [Bx.isText]
  rw [if_neg h3]
  by_cases h4 : k = 4
  · rw [if_pos h4, h4]; simp [Bx.isText]
  rw [if_neg h4]
  by_cases h5 : k = 5
  · rw [if_pos h5, h5]; simp [Bx.isText]
  rw [if_neg h5]
  by_cases h6 : k = 6
  · rw [if_pos h6, h6]; simp [Bx.isText]
  rw [if_neg h6]
  simp [Bx.isText, h2, h3]
theorem toBx_s (s : ByteArray) : toBx ⟨3, 0, s⟩ = .s s := rfl
theorem okV_s (s : ByteArray) (h : s.size ≤ 10000) : okV ⟨3, 0, s⟩ = true := by
  unfold okV
  simp
  omega
theorem text_of {x : Bx} (h : x.isText = true) : x.text = x.show := by unfold Bx.text; rw [if_pos h]
theorem joinE_cases (x y : Bx) : (x.isText = true ∧ y.isText = true ∧ x.text.size + y.text.size ≤ 10000 ∧ joinE x y = 0 ∧ joinV x y = ⟨3, 0, x.text ++ y.text⟩) ∨ (x.isText = true ∧ y.isText = true ∧ 10000 < x.text.size + y.text.size ∧ joinE x y = 14 ∧ joinV x y = nilV) ∨ (¬(x.isText = true ∧ y.isText = true) ∧ joinE x y = 8 ∧ joinV x y = nilV) := by
  by_cases h : x.isText = true ∧ y.isText = true
  · by_cases g : 10000 < x.text.size + y.text.size
    · right; left
      have e : joinE x y = 14 := by unfold joinE; rw [if_pos h, if_pos g]
      exact ⟨h.1, h.2, g, e, by unfold joinV; rw [e]; rfl⟩
    · left
      have e : joinE x y = 0 := by unfold joinE; rw [if_pos h, if_neg g]
      exact ⟨h.1, h.2, by omega, e, by unfold joinV; rw [e]; rfl⟩
  · right; right
    have e : joinE x y = 8 := by unfold joinE; rw [if_neg h]
    exact ⟨h, e, by unfold joinV; rw [e]; rfl⟩
theorem jn_of {a b : V} (ha : okV a = true) (hb : okV b = true) : jnE a b = joinE (toBx a) (toBx b) ∧ jnV a b = joinV (toBx a) (toBx b) := by
  unfold jnE jnV
  rw [if_pos ⟨ha, hb⟩, if_pos ⟨ha, hb⟩]; exact ⟨rfl, rfl⟩
theorem join_empty {a : V} (ha : okV a = true) (na : In64 a.n) : (a.k = 2 ∨ a.k = 3 → jnV a ⟨3, 0, ⟨#[]⟩⟩ = ⟨3, 0, Bx.show (toBx a)⟩ ∧ jnE a ⟨3, 0, ⟨#[]⟩⟩ = 0) ∧ (¬ (a.k = 2 ∨ a.k = 3) → jnV a ⟨3, 0, ⟨#[]⟩⟩ = nilV ∧ jnE a ⟨3, 0, ⟨#[]⟩⟩ = 8) := by
  have he : okV ⟨3, 0, ⟨#[]⟩⟩ = true := okV_s _ (by decide)
  obtain ⟨e1, e2⟩ := jn_of ha he
  have ht := text_size a ha na
  have hi := isText_iff a.k a.n a.s
  rw [toBx_s] at e1 e2
  have t0 : (Bx.s ⟨#[]⟩).text = ⟨#[]⟩ := rfl
  have z0 : (⟨#[]⟩ : ByteArray).size = 0 := rfl
  rcases joinE_cases (toBx a) (.s ⟨#[]⟩) with ⟨i1, i2, hs, f1, f2⟩ | ⟨i1, i2, hs, f1, f2⟩ | ⟨i1, f1, f2⟩
  · have hk := hi.1 i1
    refine ⟨fun _ => ⟨?_, e1.trans f1⟩, fun h => absurd hk h⟩
    rw [e2, f2, t0, text_of i1]
    have : ∀ s : ByteArray, s ++ ⟨#[]⟩ = s := fun s => ByteArray.append_empty
    rw [this]
  · rw [t0, z0] at hs; omega
  · refine ⟨fun h => absurd ⟨hi.2 h, rfl⟩ i1, fun _ => ⟨e2.trans f2, e1.trans f1⟩⟩
theorem rowBoxTexts (a b : Value) (ha : IsVal a) (hb : IsVal b) (w : World) (hE : Env w) : Calls Tryd.prog 6 #[a, b] w fun e w' => e = .returned (.bool true) ∧ Below w.heap.size w w' := by
  obtain ⟨ak, an, az, rfl, -, na, -⟩ := ha
  obtain ⟨bk, bn, bz, rfl, -, nb, -⟩ := hb
  cases oa : okV ⟨ak, an, az⟩ with
  | false => exact walk_BoxTexts_bad1 _ _ _ na _ _ _ nb _ _ _ rfl (by rw [oa]; rfl) rfl rfl w hE
  | true =>
  cases ob : okV ⟨bk, bn, bz⟩ with
  | false => exact walk_BoxTexts_bad2 _ _ _ na _ _ _ nb _ _ rfl (by rw [oa]; rfl) rfl (by rw [ob]; rfl) w hE
  | true =>
  obtain ⟨j1, j2⟩ := join_empty oa na
  by_cases hk : ak = bk
  · by_cases hv : (⟨ak, an, az⟩ : V) = ⟨bk, bn, bz⟩
    · cases hv
      by_cases h2 : ak = 2
      · subst h2
        obtain ⟨x, y⟩ := j1 (.inl rfl)
        exact walk_BoxTexts_eq_2 _ _ _ na oa _ rfl rfl rfl x y w hE
      · by_cases h3 : ak = 3
        · subst h3
          obtain ⟨x, y⟩ := j1 (.inr rfl)
          exact walk_BoxTexts_eq_3 _ _ _ na oa rfl rfl rfl x y w hE
        · obtain ⟨x, y⟩ := j2 (by simp only; omega)
          exact walk_BoxTexts_eq_x _ _ _ na oa _ rfl (by simpa using h3) (by simpa using h2) x y w hE
    · have dv : ¬ (ak = bk ∧ an = bn ∧ az.toList = bz.toList) := fun h => hv ((V_eq _ _ _ _ _ _).2 h)
      have ds : ((Bx.show (toBx ⟨ak, an, az⟩)).toList == (Bx.show (toBx ⟨bk, bn, bz⟩)).toList) = false := by
        simp only [beq_eq_false_iff_ne, ne_eq]
        exact fun h => hv (show_inj _ _ oa ob na nb hk (toList_inj h))
      have dk : (ak == bk) = true := by simpa using hk
      by_cases hn : an = bn
      · have dz : ¬ (az.toList = bz.toList) := fun h => dv ⟨hk, hn, h⟩
        subst hn
        by_cases h2 : ak = 2
        · subst h2
          obtain ⟨x, y⟩ := j1 (.inl rfl)
          exact walk_BoxTexts_n2_2 _ _ _ na _ _ oa ob _ _ rfl rfl rfl rfl dk ds dz x y w hE
        · by_cases h3 : ak = 3
          · subst h3
            obtain ⟨x, y⟩ := j1 (.inr rfl)
            exact walk_BoxTexts_n2_3 _ _ _ na _ _ oa ob _ rfl rfl rfl rfl dk ds dz x y w hE
          · obtain ⟨x, y⟩ := j2 (by simp only; omega)
            exact walk_BoxTexts_n2_x _ _ _ na _ _ oa ob _ _ rfl rfl (by simpa using h3) (by simpa using h2) dk ds dz x y w hE
      · by_cases h2 : ak = 2
        · subst h2
          obtain ⟨x, y⟩ := j1 (.inl rfl)
          exact walk_BoxTexts_n1_2 _ _ _ na _ _ _ nb oa ob _ _ rfl rfl rfl rfl dk ds hn x y w hE
        · by_cases h3 : ak = 3
          · subst h3
            obtain ⟨x, y⟩ := j1 (.inr rfl)
            exact walk_BoxTexts_n1_3 _ _ _ na _ _ _ nb oa ob _ rfl rfl rfl rfl dk ds hn x y w hE
          · obtain ⟨x, y⟩ := j2 (by simp only; omega)
            exact walk_BoxTexts_n1_x _ _ _ na _ _ _ nb oa ob _ _ rfl rfl (by simpa using h3) (by simpa using h2) dk ds hn x y w hE
  · have dk : (ak == bk) = false := by simpa using hk
    by_cases h2 : ak = 2
    · subst h2
      obtain ⟨x, y⟩ := j1 (.inl rfl)
      exact walk_BoxTexts_ot_2 _ _ _ na _ _ _ nb oa ob _ _ rfl rfl rfl rfl dk x y w hE
    · by_cases h3 : ak = 3
      · subst h3
        obtain ⟨x, y⟩ := j1 (.inr rfl)
        exact walk_BoxTexts_ot_3 _ _ _ na _ _ _ nb oa ob _ rfl rfl rfl rfl dk x y w hE
      · obtain ⟨x, y⟩ := j2 (by simp only; omega)
        exact walk_BoxTexts_ot_x _ _ _ na _ _ _ nb oa ob _ _ rfl rfl (by simpa using h3) (by simpa using h2) dk x y w hE
end Go.Proofs.YtpppcoobibmlhaaDoor
