/- Decimal texts read back. -/
import Derived.Test.YtpppcoobibmlhaaDoorNum
import Derived.Lib.ItoaNum
namespace Go.Proofs.YtpppcoobibmlhaaDoor
open Go.RowKit
namespace Num
theorem worth_digit (hex : Bool) (d : Nat) (h : d < 10) : worth hex ((UInt8.ofNat (48 + d)).toNat : Int) = d := by
  have : (UInt8.ofNat (48 + d)).toNat = 48 + d := by simp; omega
  rw [this]; unfold worth
  rw [if_pos (by omega)]; omega
theorem dec_induct (p : List UInt8 → Nat → Prop) (h1 : ∀ u, u < 10 → p [UInt8.ofNat (48 + u)] u) (h2 : ∀ u, ¬ u < 10 → p (Lib.decDigits (u / 10)) (u / 10) → p (Lib.decDigits (u / 10) ++ [UInt8.ofNat (48 + u % 10)]) u) (u : Nat) : p (Lib.decDigits u) u := by
  induction u using Nat.strongRecOn with
  | _ u ih =>
    rw [Lib.decDigits]
    split
    · exact h1 u (by assumption)
    · exact h2 u (by assumption) (ih (u / 10) (by omega))
theorem dec_ok (u : Nat) : okAll false (Lib.decDigits u) = true := by
  refine dec_induct (fun l _ => okAll false l = true) ?_ ?_ u
  · intro u h
    simp only [okAll, List.all_cons, List.all_nil, Bool.and_true]
    rw [worth_digit _ _ h]; simp
  · intro u h ih
    rw [okAll_snoc, ih, worth_digit _ _ (Nat.mod_lt _ (by decide))]; simp; omega
theorem dec_val (u : Nat) : val false (Lib.decDigits u) = u := by
  refine dec_induct (fun l u => val false l = u) ?_ ?_ u
  · intro u h
    simp only [val, List.foldl_cons, List.foldl_nil]
    rw [worth_digit _ _ h]; simp
  · intro u h ih
    rw [val_snoc, ih, worth_digit _ _ (Nat.mod_lt _ (by decide))]
    show u / 10 * 10 + (u % 10 : Nat) = u
    omega
theorem dec_ne (u : Nat) : Lib.decDigits u ≠ [] := by
  refine dec_induct (fun l _ => l ≠ []) ?_ ?_ u
  · intro u h; simp
  · intro u h ih; simp
theorem dec_mem (u : Nat) : ∀ c ∈ Lib.decDigits u, 48 ≤ c.toNat ∧ c.toNat ≤ 57 := by
  refine dec_induct (fun l _ => ∀ c ∈ l, 48 ≤ c.toNat ∧ c.toNat ≤ 57) ?_ ?_ u
  · intro u h c hc
    simp only [List.mem_singleton] at hc
    subst hc; simp; omega
  · intro u h ih c hc
    rw [List.mem_append] at hc
    rcases hc with hc | hc
    · exact ih c hc
    · simp only [List.mem_singleton] at hc
      subst hc; simp; omega
theorem hexOf_digits (l : List UInt8) (h : ∀ c ∈ l, 48 ≤ c.toNat ∧ c.toNat ≤ 57) : hexOf l = false := by
  match l with
  | [] => rfl
  | [c] => simp [hexOf, Lib.hasPrefix, List.isPrefixOf]
  | c :: d :: r =>
    have h2 := h d (by simp)
    have e1 : (120 == d) = false := by simp; rintro rfl; simp at h2
    have e2 : (88 == d) = false := by simp; rintro rfl; simp at h2
    simp [hexOf, Lib.hasPrefix, List.isPrefixOf, e1, e2]
theorem signed_digits (l : List UInt8) (h : ∀ c ∈ l, 48 ≤ c.toNat ∧ c.toNat ≤ 57) : signed l = false ∧ unsign l = l := by
  match l with
  | [] => exact ⟨rfl, rfl⟩
  | c :: r =>
    have h2 := h c (by simp)
    have e1 : (45 == c) = false := by simp; rintro rfl; simp at h2
    have : signed (c :: r) = false := by simp [signed, Lib.hasPrefix, List.isPrefixOf, e1]
    refine ⟨this, ?_⟩
    unfold unsign Lib.trimPrefix
    unfold signed at this
    rw [this]; rfl
theorem signed_minus (l : List UInt8) : signed (45 :: l) = true ∧ unsign (45 :: l) = l := by
  have : signed (45 :: l) = true := by simp [signed, Lib.hasPrefix, List.isPrefixOf]
  refine ⟨this, ?_⟩
  unfold unsign Lib.trimPrefix
  unfold signed at this
  rw [if_pos this]; rfl
theorem okAll_append (hx : Bool) (a b : List UInt8) : okAll hx (a ++ b) = (okAll hx a && okAll hx b) := by simp [okAll]
/-- A row of digits reads as its value, where that fits. -/
theorem read_digits (l : List UInt8) (neg : Bool) (h : ∀ c ∈ l, 48 ≤ c.toNat ∧ c.toNat ≤ 57) (hne : l ≠ []) (hok : okAll false l = true) :
    readN l neg = (if most neg < (val false l : Int) then 0 else if neg = true then -(val false l : Int) else (val false l : Int)) ∧ readE l neg = if most neg < (val false l : Int) then 14 else 0 := by
  have hx := hexOf_digits l h
  have hr : rest l = l := by simp [rest, hx]
  have hg : good l = true := by
    unfold good
    rw [hx, hr, hok]
    cases l with
    | nil => exact absurd rfl hne
    | cons a b => rfl
  exact ⟨readN_dec l neg _ hg hx (by rw [hr]), readE_dec l neg _ hg hx (by rw [hr])⟩
theorem read_itoa (n : Int) (hn : In64 n) : readN (unsign (Lib.itoa n)) (signed (Lib.itoa n)) = n ∧ readE (unsign (Lib.itoa n)) (signed (Lib.itoa n)) = 0 := by
  unfold In64 at hn
  unfold Lib.itoa
  by_cases h0 : n < 0
  · rw [if_pos h0]
    obtain ⟨h1, h2⟩ := signed_minus (Lib.decDigits n.natAbs)
    rw [h1, h2]
    obtain ⟨h3, h4⟩ := read_digits (Lib.decDigits n.natAbs) true (dec_mem _) (dec_ne _) (dec_ok _)
    rw [h3, h4, dec_val]
    have : ¬ most true < (n.natAbs : Int) := by unfold most; simp; omega
    rw [if_neg this, if_neg this]
    exact ⟨by simp; omega, rfl⟩
  · rw [if_neg h0]
    obtain ⟨h1, h2⟩ := signed_digits (Lib.decDigits n.toNat) (dec_mem _)
    rw [h1, h2]
    obtain ⟨h3, h4⟩ := read_digits (Lib.decDigits n.toNat) false (dec_mem _) (dec_ne _) (dec_ok _)
    rw [h3, h4, dec_val]
    have : ¬ most false < (n.toNat : Int) := by unfold most; simp; omega
    rw [if_neg this, if_neg this]
    exact ⟨by simp; omega, rfl⟩
theorem val_cat (hx : Bool) (a b : List UInt8) : val hx (a ++ b) = b.foldl (fun n c => n * base hx + (worth hx (c.toNat : Int)).toNat) (val hx a) := by simp [val, List.foldl_append]
theorem val_noughts (l : List UInt8) : val false ([48, 48, 48] ++ l) = val false l := by
  rw [val_cat]
  have : val false [48, 48, 48] = 0 := by decide
  rw [this]; rfl
theorem dec_small (d : Nat) (h : d < 10) : Lib.decDigits d = [UInt8.ofNat (48 + d)] := by rw [Lib.decDigits, dif_pos h]
theorem val_more (n d : Nat) (h : d < 10) : val false (Lib.decDigits n ++ Lib.decDigits d) = n * 10 + d := by
  rw [dec_small d h, val_snoc, dec_val, worth_digit _ _ h]
  show n * 10 + _ = _
  omega
theorem dec_length : ∀ (k u : Nat), u < 10 ^ (k + 1) → (Lib.decDigits u).length ≤ k + 1
  | 0, u, h => by rw [Lib.decDigits, dif_pos (by simpa using h)]; simp
  | k + 1, u, h => by
    rw [Lib.decDigits]
    split
    · simp
    · rw [List.length_append]
      have := dec_length k (u / 10) (by rw [Nat.pow_succ] at h; omega)
      simp; omega
theorem itoa_size (n : Int) (hn : In64 n) (t : ByteArray) (ht : ⟨(Lib.itoa n).toArray⟩ = t) : t.size ≤ 20 := by
  have e : t.size = (Lib.itoa n).length := by rw [← ht]; rfl
  unfold In64 at hn
  rw [e]
  unfold Lib.itoa
  split
  · have := dec_length 18 n.natAbs (by omega)
    simp; omega
  · have := dec_length 18 n.toNat (by omega)
    omega
theorem itoa_data (n : Int) (t : ByteArray) (h0 : 0 ≤ n) (ht : ⟨(Lib.itoa n).toArray⟩ = t) : t.data.toList = Lib.decDigits n.toNat := by
  rw [← ht]; unfold Lib.itoa; rw [if_neg (by omega)]
theorem append_data (a b : ByteArray) : (a ++ b).data.toList = a.data.toList ++ b.data.toList := by
  have : (a ++ b).data = a.data ++ b.data := ByteArray.data_append ..
  rw [this]; simp
theorem digits_000 (n : Int) (h0 : 0 ≤ n) (hn : In64 n) (t : ByteArray) (ht : ⟨(Lib.itoa n).toArray⟩ = t) : readN ((⟨#[48, 48, 48]⟩ : ByteArray) ++ t).data.toList false = n ∧ readE ((⟨#[48, 48, 48]⟩ : ByteArray) ++ t).data.toList false = 0 := by
  rw [append_data, itoa_data n t h0 ht]
  unfold In64 at hn
  have hm : ∀ c ∈ [48, 48, 48] ++ Lib.decDigits n.toNat, 48 ≤ c.toNat ∧ c.toNat ≤ 57 := by
    intro c hc
    rw [List.mem_append] at hc
    rcases hc with hc | hc
    · simp at hc; subst hc; decide
    · exact dec_mem _ c hc
  obtain ⟨h3, h4⟩ := read_digits ([48, 48, 48] ++ Lib.decDigits n.toNat) false hm (by simp) (by rw [okAll_append, dec_ok]; rfl)
  rw [val_noughts, dec_val] at h3 h4
  have : ¬ most false < (n.toNat : Int) := by unfold most; simp; omega
  rw [if_neg this] at h3 h4
  exact ⟨h3.trans (by simp; omega), h4⟩
theorem digits_minus (n : Int) (h0 : 0 ≤ n) (hn : In64 n) (t : ByteArray) (ht : ⟨(Lib.itoa n).toArray⟩ = t) : readN (unsign ((⟨#[45]⟩ : ByteArray) ++ t).data.toList) (signed ((⟨#[45]⟩ : ByteArray) ++ t).data.toList) = wrap64 (-n) ∧ readE (unsign ((⟨#[45]⟩ : ByteArray) ++ t).data.toList) (signed ((⟨#[45]⟩ : ByteArray) ++ t).data.toList) = 0 := by
  rw [append_data, itoa_data n t h0 ht]
  unfold In64 at hn
  obtain ⟨h1, h2⟩ := signed_minus (Lib.decDigits n.toNat)
  show readN (unsign (45 :: Lib.decDigits n.toNat)) (signed (45 :: Lib.decDigits n.toNat)) = _ ∧ readE (unsign (45 :: Lib.decDigits n.toNat)) (signed (45 :: Lib.decDigits n.toNat)) = _
  rw [h1, h2]
  obtain ⟨h3, h4⟩ := read_digits (Lib.decDigits n.toNat) true (dec_mem _) (dec_ne _) (dec_ok _)
  rw [dec_val] at h3 h4
  have : ¬ most true < (n.toNat : Int) := by unfold most; simp; omega
  rw [if_neg this] at h3 h4
  refine ⟨h3.trans ?_, h4⟩
  rw [if_pos rfl, wrap64_id (by unfold In64; omega)]; omega
theorem digits_more (n d : Int) (h0 : 0 ≤ n) (hn : In64 n) (hd0 : 0 ≤ d) (hd9 : d ≤ 9) (t u : ByteArray) (ht : ⟨(Lib.itoa n).toArray⟩ = t) (hu : ⟨(Lib.itoa d).toArray⟩ = u) :
    readN (t ++ u).data.toList false = (if 9223372036854775807 < n * 10 + d then 0 else n * 10 + d) ∧ readE (t ++ u).data.toList false = if 9223372036854775807 < n * 10 + d then 14 else 0 := by
  rw [append_data, itoa_data n t h0 ht, itoa_data d u hd0 hu]
  have hm : ∀ c ∈ Lib.decDigits n.toNat ++ Lib.decDigits d.toNat, 48 ≤ c.toNat ∧ c.toNat ≤ 57 := by
    intro c hc
    rw [List.mem_append] at hc
    rcases hc with hc | hc
    · exact dec_mem _ c hc
    · exact dec_mem _ c hc
  obtain ⟨h3, h4⟩ := read_digits (Lib.decDigits n.toNat ++ Lib.decDigits d.toNat) false hm (by simp [dec_ne]) (by rw [okAll_append, dec_ok, dec_ok]; rfl)
  rw [val_more _ _ (by omega)] at h3 h4
  rw [h3, h4]
  have e : ((n.toNat * 10 + d.toNat : Nat) : Int) = n * 10 + d := by omega
  rw [e]
  have e2 : most false = 9223372036854775807 := rfl
  rw [e2]
  simp
end Num
end Go.Proofs.YtpppcoobibmlhaaDoor
