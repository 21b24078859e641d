/- Plain functions on whole numbers that the contracts of this seat speak of: no program in sight. -/
import Derived.WalkKit
import Derived.IntWalk
import Derived.Laws.BitsLemmas
import Derived.Laws.Bits64
import Derived.Lib.BitFns
import Derived.Laws.Bits64b
namespace Go.Proofs.YteheolefemlcgaaGreat
open Go.RowKit

/-- The whole numbers of 64 bits. -/
def In64 (a : Int) : Prop := -9223372036854775808 ≤ a ∧ a ≤ 9223372036854775807

theorem wrap64_id {a : Int} (h : In64 a) : wrap64 a = a := by
  unfold In64 at h; unfold wrap64; omega
theorem wrap64_in (a : Int) : In64 (wrap64 a) := by
  unfold In64 wrap64; omega

theorem Int.fmod_neg_one (a : Int) : a.fmod (-1) = 0 := by
  have h1 := Int.mul_fdiv_add_fmod a (-1)
  have e : a.fmod (-1) = -((-a).fmod 1) := by rw [← Int.neg_fmod_neg]; simp
  rw [e]; simp [Int.fmod_one]
namespace Ws
def divQ (a b : Int) : Int := if b = 0 then 0 else wrap64 (a.fdiv b)
def divE (b : Int) : Int := if b = 0 then 7 else 0
def modR (a b : Int) : Int := if b = 0 then 0 else a.fmod b

theorem fdiv_tdiv (a b : Int) (hb : b ≠ 0) : a.fdiv b = if a.tmod b ≠ 0 ∧ (a < 0) ≠ (b < 0) then a.tdiv b - 1 else a.tdiv b := by
  rw [Int.fdiv_eq_tdiv]
  have hd : b ∣ a ↔ a.tmod b = 0 := ⟨fun h => Int.tmod_eq_zero_of_dvd h, fun h => Int.dvd_of_tmod_eq_zero h⟩
  by_cases h0 : a.tmod b = 0
  · simp [hd, h0]
  · have ha : a ≠ 0 := by rintro rfl; simp at h0
    simp only [hd, h0, if_false, ne_eq, not_false_eq_true, true_and]
    have hs : b.sign = if 0 < b then 1 else -1 := by
      split
      · exact Int.sign_eq_one_of_pos (by assumption)
      · exact Int.sign_eq_neg_one_of_neg (by omega)
    have e1 : (a < 0) = ¬ (0 ≤ a) := propext ⟨fun h => by omega, fun h => by omega⟩
    have e2 : (b < 0) = ¬ (0 < b) := propext ⟨fun h => by omega, fun h => by omega⟩
    by_cases h1 : 0 ≤ a <;> by_cases h2 : 0 < b <;> simp [h1, h2, e1, e2, hs] <;> omega
theorem divQ_of (a b : Int) (hb : b ≠ 0) : divQ a b = if a.tmod b ≠ 0 ∧ (a < 0) ≠ (b < 0) then wrap64 (wrap64 (a.tdiv b) - 1) else wrap64 (a.tdiv b) := by
  unfold divQ
  rw [if_neg hb, fdiv_tdiv a b hb]
  split
  · unfold wrap64; omega
  · rfl

theorem wrap64_cong {x y : Int} (h : ∃ k, x = y + k * 18446744073709551616) : wrap64 x = wrap64 y := by
  obtain ⟨k, rfl⟩ := h
  unfold wrap64; omega
theorem wrap64_eq (x : Int) : ∃ k, wrap64 x = x + k * 18446744073709551616 := by
  unfold wrap64
  refine ⟨- ((x + 9223372036854775808) / 18446744073709551616), ?_⟩
  omega
theorem fmod_le (a b : Int) (hb : b ≠ 0) (ha : In64 a) (hb' : In64 b) : In64 (a.fmod b) := by
  unfold In64 at *
  by_cases h : 0 < b
  · have h1 := Int.fmod_nonneg_of_pos a h
    have h2 := Int.fmod_lt_of_pos a h
    omega
  · have e : a.fmod b = -((-a).fmod (-b)) := by simp [Int.neg_fmod_neg]
    have h1 := Int.fmod_nonneg_of_pos (-a) (b := -b) (by omega)
    have h2 := Int.fmod_lt_of_pos (-a) (b := -b) (by omega)
    omega
theorem tdiv_abs (a b : Int) (ha : In64 a) (h : ¬ (a = -9223372036854775808 ∧ b = -1)) : In64 (a.tdiv b) := by
  unfold In64 at *
  have h1 : (a.tdiv b).natAbs ≤ a.natAbs := by rw [Int.natAbs_tdiv]; exact Nat.div_le_self _ _
  by_cases hm : a = -9223372036854775808
  · by_cases h0 : b = 0
    · subst h0; simp
    · by_cases h2 : b = 1
      · subst h2; simp; omega
      · have h3 : (a.tdiv b).natAbs ≤ a.natAbs / 2 := by rw [Int.natAbs_tdiv]; exact Nat.div_le_div_left (by omega) (by omega)
        omega
  · omega
theorem tdiv_mul (a b : Int) (hb : b ≠ 0) (ha : In64 a) (h : ¬ (a = -9223372036854775808 ∧ b = -1)) : wrap64 (wrap64 (a.tdiv b) * b) = a - a.tmod b := by
  rw [wrap64_id (tdiv_abs a b ha h)]
  have e := Int.tmod_def a b
  have e1 : a.tdiv b * b = a - a.tmod b := by rw [e, Int.mul_comm]; omega
  have h1 : (a.tmod b).natAbs ≤ a.natAbs := by rw [Int.natAbs_tmod]; exact Nat.mod_le _ _
  have h2 : 0 ≤ a → 0 ≤ a.tmod b := fun h => Int.tmod_nonneg _ h
  have h3 : a ≤ 0 → a.tmod b ≤ 0 := fun h => by have := Int.tmod_nonneg b (a := -a) (by omega); rw [Int.neg_tmod] at this; omega
  rw [e1]
  apply wrap64_id
  unfold In64 at *
  omega
theorem modR_eq (a b : Int) (hb : b ≠ 0) (ha : In64 a) (hb' : In64 b) : modR a b = if (a.tmod b < 0 ∧ 0 < b) ∨ (0 < a.tmod b ∧ b < 0) then wrap64 (a.tmod b + b) else a.tmod b := by
  have h := fmod_le a b hb ha hb'
  unfold modR
  rw [if_neg hb]
  have e : a.fmod b = if (a.tmod b < 0 ∧ 0 < b) ∨ (0 < a.tmod b ∧ b < 0) then a.tmod b + b else a.tmod b := by
    have h1 := Int.mul_fdiv_add_fmod a b
    have h2 := Int.mul_tdiv_add_tmod a b
    have h3 := fdiv_tdiv a b hb
    have h4 : 0 ≤ a → 0 ≤ a.tmod b := fun h => Int.tmod_nonneg _ h
    have h5 : a ≤ 0 → a.tmod b ≤ 0 := fun h => by have := Int.tmod_nonneg b (a := -a) (by omega); rw [Int.neg_tmod] at this; omega
    by_cases h0 : a.tmod b ≠ 0 ∧ (a < 0) ≠ (b < 0)
    · rw [if_pos h0] at h3
      have hx : (a.tmod b < 0 ∧ 0 < b) ∨ (0 < a.tmod b ∧ b < 0) := by
        obtain ⟨h6, h7⟩ := h0
        by_cases h8 : a < 0 <;> by_cases h9 : b < 0 <;> simp [h8, h9] at h7 <;> omega
      rw [if_pos hx]
      rw [h3, Int.mul_sub] at h1
      omega
    · rw [if_neg h0] at h3
      have hx : ¬ ((a.tmod b < 0 ∧ 0 < b) ∨ (0 < a.tmod b ∧ b < 0)) := by
        intro h6
        apply h0
        refine ⟨by omega, ?_⟩
        by_cases h8 : a < 0 <;> by_cases h9 : b < 0 <;> simp [h8, h9] <;> omega
      rw [if_neg hx]
      rw [h3] at h1
      omega
  rw [e] at h
  rw [e]
  split <;> rename_i hx
  · rw [if_pos hx] at h; rw [wrap64_id h]
  · rfl
theorem divQ_min : divQ (-9223372036854775808) (-1) = -9223372036854775808 := by
  rw [divQ_of _ _ (by decide)]
  decide +kernel
theorem modR_of (a b : Int) (hb : b ≠ 0) (ha : In64 a) (hb' : In64 b) : wrap64 (a - wrap64 (divQ a b * b)) = modR a b := by
  unfold modR divQ
  rw [if_neg hb, if_neg hb]
  have h := fmod_le a b hb ha hb'
  rw [← wrap64_id h]
  obtain ⟨k, hk⟩ := wrap64_eq (a.fdiv b)
  rw [hk]
  obtain ⟨k', hk'⟩ := wrap64_eq ((a.fdiv b + k * 18446744073709551616) * b)
  rw [hk']
  apply wrap64_cong
  refine ⟨-(k * b) - k', ?_⟩
  have := Int.mul_fdiv_add_fmod a b
  have e : (a.fdiv b + k * 18446744073709551616) * b = b * a.fdiv b + (k * b) * 18446744073709551616 := by
    rw [Int.add_mul, Int.mul_comm (a.fdiv b), Int.mul_right_comm]
  rw [e, Int.sub_mul, Int.neg_mul]
  omega
theorem u64_id (x : Int) (h0 : 0 ≤ x) (h1 : x < 2 ^ 64) : IntKind.u64.wrap x = x := by rw [IntKind.wrap_u64]; omega
theorem u64_low (x : Int) (h0 : 0 ≤ x) (h1 : x < 18446744073709551616) : bits .and .u64 x 4294967295 = x % 4294967296 := bits_mask .u64 64 (by decide) u64_id 32 (by decide) x h0 h1
theorem halves_ring (ah al bh bl ka kb c : Int) : (ah * c + al + ka * (c * c)) * (bh * c + bl + kb * (c * c)) =
      (al * bl + (ah * bl + al * bh) * c) + (ah * bh + ka * (bh * c + bl) + (ah * c + al + ka * (c * c)) * kb) * (c * c) := by
  simp only [Int.add_mul, Int.mul_add, Int.mul_assoc, Int.mul_comm, Int.mul_left_comm]
  omega
theorem mul_halves (a b : Int) : wrap64 (IntKind.u64.wrap (IntKind.u64.wrap (bits BinOp.and IntKind.u64 (IntKind.u64.wrap a) 4294967295 * bits BinOp.and IntKind.u64 (IntKind.u64.wrap b) 4294967295) +
    IntKind.u64.wrap (IntKind.u64.wrap (IntKind.u64.wrap (IntKind.u64.wrap a / 4294967296 * bits BinOp.and IntKind.u64 (IntKind.u64.wrap b) 4294967295) +
      IntKind.u64.wrap (bits BinOp.and IntKind.u64 (IntKind.u64.wrap a) 4294967295 * (IntKind.u64.wrap b / 4294967296))) * 4294967296))) = wrap64 (a * b) := by
  have hA : a % 18446744073709551616 = a % 18446744073709551616 := rfl
  rw [u64_low (IntKind.u64.wrap a) (by rw [IntKind.wrap_u64]; omega) (by rw [IntKind.wrap_u64]; omega), u64_low (IntKind.u64.wrap b) (by rw [IntKind.wrap_u64]; omega) (by rw [IntKind.wrap_u64]; omega)]
  simp only [IntKind.wrap_u64]
  obtain ⟨ka, ha⟩ : ∃ k, a = a % 18446744073709551616 + k * 18446744073709551616 := ⟨a / 18446744073709551616, by omega⟩
  obtain ⟨kb, hb⟩ : ∃ k, b = b % 18446744073709551616 + k * 18446744073709551616 := ⟨b / 18446744073709551616, by omega⟩
  generalize a % 18446744073709551616 = A at *
  generalize b % 18446744073709551616 = B at *
  obtain ⟨ah, al, rfl, e1, e2⟩ : ∃ h l, A = h * 4294967296 + l ∧ A % 4294967296 = l ∧ A / 4294967296 = h := ⟨A / 4294967296, A % 4294967296, by omega, rfl, rfl⟩
  obtain ⟨bh, bl, rfl, e3, e4⟩ : ∃ h l, B = h * 4294967296 + l ∧ B % 4294967296 = l ∧ B / 4294967296 = h := ⟨B / 4294967296, B % 4294967296, by omega, rfl, rfl⟩
  rw [e1, e2, e3, e4, ha, hb]
  have e : (ah * 4294967296 + al + ka * 18446744073709551616) * (bh * 4294967296 + bl + kb * 18446744073709551616) =
      (al * bl + (ah * bl + al * bh) * 4294967296) + (ah * bh + ka * (bh * 4294967296 + bl) + (ah * 4294967296 + al + ka * 18446744073709551616) * kb) * 18446744073709551616 := by
    exact halves_ring ah al bh bl ka kb 4294967296
  rw [e]
  generalize (ah * bh + ka * (bh * 4294967296 + bl) + (ah * 4294967296 + al + ka * 18446744073709551616) * kb) = k
  generalize al * bl = x
  generalize ah * bl = y
  generalize al * bh = z
  unfold wrap64
  omega

/-- How often a loop goes round, less one. -/
def turnsOk (a b s : Int) : Bool := decide (0 < s ∧ a ≤ b ∨ s < 0 ∧ b ≤ a)
def turnsN (a b s : Int) : Int := if turnsOk a b s = true then (if 0 < s then (b - a) / s else (a - b) / (-s)) else 0
def turnsE (s : Int) : Int := if s = 0 then 1 else 0
theorem div_form {x y d e : Int} (hx : x = d) (hy : y = e) (h0 : 0 ≤ d) (h1 : d < 18446744073709551616) (he : 0 < e) : IntKind.u64.wrap (x.tdiv y) = d / e := by
  subst hx hy
  rw [Int.tdiv_eq_ediv_of_nonneg h0, IntKind.wrap_u64]
  have h2 := Int.ediv_nonneg h0 (Int.le_of_lt he)
  have h3 := Int.ediv_le_self y h0
  omega
/-- The least k with n at most 2^k; -1 below 1. -/
def log2 (n : Int) : Int := if n < 1 then -1 else ((Lib.bitLen (n - 1).toNat : Nat) : Int)
theorem pow_wrap (k : Nat) (hk : k ≤ 62) : wrap64 ((2 : Int) ^ k) = 2 ^ k := by
  have h : (2 : Nat) ^ k ≤ 2 ^ 62 := Nat.pow_le_pow_right (by omega) hk
  have e : (2 : Int) ^ k = ((2 ^ k : Nat) : Int) := by simp
  rw [e]
  apply wrap64_id
  unfold In64
  generalize 2 ^ k = m at *
  omega
theorem pow_pos' (k : Nat) : (0 : Int) < 2 ^ k := by
  have e : (2 : Int) ^ k = ((2 ^ k : Nat) : Int) := by simp
  rw [e]; have := Nat.two_pow_pos k; omega
theorem le_pow63 {n : Int} (h : n ≤ 9223372036854775807) : n ≤ 2 ^ 63 := by
  have : (2 : Int) ^ 63 = 9223372036854775808 := by decide
  omega
theorem bitLenAux_char : ∀ (f x k : Nat), x < 2 ^ f → (∀ j, j < k → 2 ^ j ≤ x) → x < 2 ^ k → Lib.bitLenAux f x = k
  | 0, x, k, hx, h1, h2 => by
    have : x = 0 := by simpa using hx
    subst this
    cases k with
    | zero => rfl
    | succ k => have := h1 0 (by omega); simp at this
  | f + 1, x, k, hx, h1, h2 => by
    unfold Lib.bitLenAux
    split
    · subst x
      cases k with
      | zero => rfl
      | succ k => have := h1 0 (by omega); simp at this
    · cases k with
      | zero => simp at h2; omega
      | succ k =>
        rw [bitLenAux_char f (x / 2) k (by rw [Nat.pow_succ] at hx; omega) (fun j hj => by have := h1 (j + 1) (by omega); rw [Nat.pow_succ] at this; omega) (by rw [Nat.pow_succ] at h2; omega)]
        omega
theorem log2_char (n : Int) (h : 1 ≤ n) (hn : n ≤ 9223372036854775807) (k : Nat) (h1 : ∀ j, j < k → (2 : Int) ^ j < n) (h2 : n ≤ 2 ^ k) : log2 n = k := by
  unfold log2
  rw [if_neg (by omega)]
  congr 1
  obtain ⟨m, rfl⟩ := Int.eq_ofNat_of_zero_le (show 0 ≤ n by omega)
  have e : ∀ j : Nat, (2 : Int) ^ j = ((2 ^ j : Nat) : Int) := fun j => by simp
  have e2 : ((m : Int) - 1).toNat = m - 1 := by omega
  rw [e2]
  refine bitLenAux_char 64 _ _ (by omega) (fun j hj => ?_) ?_
  · have := h1 j hj; rw [e] at this; omega
  · rw [e] at h2; omega
theorem log2_spec (n : Int) (h : 1 ≤ n) (hn : n ≤ 9223372036854775807) : ∃ k : Nat, k ≤ 63 ∧ log2 n = k ∧ (∀ j, j < k → (2 : Int) ^ j < n) ∧ n ≤ 2 ^ k := by
  have e : ∀ j : Nat, (2 : Int) ^ j = ((2 ^ j : Nat) : Int) := fun j => by simp
  have ex : ∃ k : Nat, n ≤ 2 ^ k := ⟨63, le_pow63 hn⟩
  have main : ∀ d k : Nat, k + d = 63 → (∀ j, j < k → (2 : Int) ^ j < n) → ∃ k : Nat, k ≤ 63 ∧ (∀ j, j < k → (2 : Int) ^ j < n) ∧ n ≤ 2 ^ k := by
    intro d
    induction d with
    | zero => intro k hk hj; exact ⟨k, by omega, hj, by obtain rfl : k = 63 := by omega
                                                        exact le_pow63 hn⟩
    | succ d ih =>
      intro k hk hj
      by_cases h : n ≤ 2 ^ k
      · exact ⟨k, by omega, hj, h⟩
      · refine ih (k + 1) (by omega) (fun j hj' => ?_)
        by_cases e : j = k
        · subst e; omega
        · exact hj j (by omega)
  obtain ⟨k, h0, h1, h2⟩ := main 63 0 (by omega) (fun j hj => by omega)
  exact ⟨k, h0, log2_char n h hn k h1 h2, h1, h2⟩
def ceil2 (n : Int) : Int := if n ≤ 0 then 0 else if 1073741824 < n then 0 else 2 ^ (log2 n).toNat
def ceil2E (n : Int) : Int := if n < 0 then 1 else if 1073741824 < n then 14 else 0
theorem ring1 (a b : Int) (ha : In64 a) : wrap64 (wrap64 (a + b) - b) = a := by unfold In64 at ha; unfold wrap64; omega
theorem ring2 (a : Int) : wrap64 (a + wrap64 (-a)) = 0 := by unfold wrap64; omega
theorem ring3 (a b c : Int) : wrap64 (a * wrap64 (b + c)) = wrap64 (wrap64 (a * b) + wrap64 (a * c)) := by
  obtain ⟨k1, h1⟩ := wrap64_eq (b + c)
  obtain ⟨k2, h2⟩ := wrap64_eq (a * b)
  obtain ⟨k3, h3⟩ := wrap64_eq (a * c)
  rw [h1, h2, h3]
  apply wrap64_cong
  refine ⟨a * k1 - k2 - k3, ?_⟩
  rw [Int.mul_add, Int.mul_add, ← Int.mul_assoc, Int.sub_mul, Int.sub_mul]
  omega
theorem ring4 (a b : Int) (hb : b ≠ 0) (ha : In64 a) : wrap64 (wrap64 (divQ a b * b) + modR a b) = a := by
  unfold divQ modR
  rw [if_neg hb, if_neg hb]
  obtain ⟨k, hk⟩ := wrap64_eq (a.fdiv b)
  rw [hk]
  obtain ⟨k', hk'⟩ := wrap64_eq ((a.fdiv b + k * 18446744073709551616) * b)
  rw [hk']
  have e := Int.mul_fdiv_add_fmod a b
  have e2 : (a.fdiv b + k * 18446744073709551616) * b = b * a.fdiv b + (k * b) * 18446744073709551616 := by
    rw [Int.add_mul, Int.mul_comm (a.fdiv b), Int.mul_right_comm]
  rw [e2]
  rw [← wrap64_id ha]
  apply wrap64_cong
  refine ⟨k * b + k', ?_⟩
  rw [Int.add_mul, wrap64_id ha]
  omega
theorem modR_sign (a b : Int) (hb : b ≠ 0) : modR a b = 0 ∨ (0 < b ∧ 0 < modR a b ∧ modR a b < b) ∨ (b < 0 ∧ modR a b < 0 ∧ b < modR a b) := by
  unfold modR
  rw [if_neg hb]
  by_cases h : 0 < b
  · have h1 := Int.fmod_nonneg_of_pos a h
    have h2 := Int.fmod_lt_of_pos a h
    omega
  · have e : a.fmod b = -((-a).fmod (-b)) := by simp [Int.neg_fmod_neg]
    have h1 := Int.fmod_nonneg_of_pos (-a) (b := -b) (by omega)
    have h2 := Int.fmod_lt_of_pos (-a) (b := -b) (by omega)
    omega
theorem ceil2_k (n : Int) (h1 : 1 ≤ n) (h2 : n ≤ 1073741824) : ∃ k : Nat, k ≤ 30 ∧ log2 n = k ∧ ceil2 n = 2 ^ k ∧ ceil2E n = 0 ∧ n ≤ 2 ^ k ∧ ((2 : Int) ^ k).tdiv 2 < n ∧ (2 : Int) ^ k ≤ 1073741824 := by
  obtain ⟨k, hk, e, hlt, hle⟩ := log2_spec n h1 (by omega)
  have hp : ∀ j : Nat, (2 : Int) ^ j = ((2 ^ j : Nat) : Int) := fun j => by simp
  have hk30 : k ≤ 30 := by
    apply Decidable.byContradiction
    intro h
    have := hlt 30 (by omega)
    have e : (2 : Int) ^ 30 = 1073741824 := by decide
    omega
  have hpow : (2 : Nat) ^ k ≤ 2 ^ 30 := Nat.pow_le_pow_right (by omega) hk30
  refine ⟨k, hk30, e, ?_, ?_, hle, ?_, ?_⟩
  · unfold ceil2; rw [if_neg (by omega), if_neg (by omega), e]; rfl
  · unfold ceil2E; rw [if_neg (by omega), if_neg (by omega)]
  · cases k with
    | zero => simp; omega
    | succ k =>
      have := hlt k (by omega)
      rw [hp] at this ⊢
      rw [Nat.pow_succ, Int.tdiv_eq_ediv_of_nonneg (by omega)]
      generalize 2 ^ k = x at *
      omega
  · rw [hp]
    have e30 : (2 : Nat) ^ 30 = 1073741824 := by decide
    generalize 2 ^ k = x at *
    omega
theorem ceil2E_bad (n : Int) (h : n < 0 ∨ 1073741824 < n) : ceil2E n ≠ 0 := by
  unfold ceil2E
  split
  · decide
  · rw [if_pos (by omega)]; decide
theorem turns_up (a b s n : Int) (ha : In64 a) (hb : In64 b) (hs : In64 s) (h0 : 0 < s) (hab : a ≤ b) (hn : (b - a) / s = n) (i : Nat) (hi : (i : Int) ≤ n) :
    In64 (a + i * s) ∧ ((i : Int) < n → wrap64 (a + i * s + s) = a + (i + 1 : Nat) * s ∧ a + i * s < a + (i + 1 : Nat) * s ∧ a + (i + 1 : Nat) * s ≤ b) ∧
    ((i : Int) = n → wrap64 (a + i * s + s) < a + i * s ∨ b < wrap64 (a + i * s + s)) := by
  have e1 := Int.mul_ediv_add_emod (b - a) s
  have e2 := Int.emod_nonneg (b - a) (show s ≠ 0 by omega)
  have e3 := Int.emod_lt_of_pos (b - a) h0
  rw [hn] at e1
  have f1 : (i : Int) * s ≤ s * n := by rw [Int.mul_comm s n]; exact Int.mul_le_mul_of_nonneg_right hi (by omega)
  have f0 : 0 ≤ (i : Int) * s := Int.mul_nonneg (by omega) (by omega)
  have f2 : ((i + 1 : Nat) : Int) * s = i * s + s := by rw [Int.natCast_add, Int.add_mul]; simp
  have f3 : (i : Int) < n → i * s + s ≤ s * n := fun h => by rw [← f2, Int.mul_comm s n]; exact Int.mul_le_mul_of_nonneg_right (by omega) (by omega)
  have f4 : (i : Int) = n → (i : Int) * s = s * n := fun h => by rw [h, Int.mul_comm]
  unfold In64 at *
  rw [f2]
  generalize (i : Int) * s = p at *
  generalize s * n = q at *
  refine ⟨by omega, fun h => ?_, fun h => ?_⟩
  · have f3 := f3 h
    refine ⟨?_, by omega, by omega⟩
    rw [wrap64_id (by unfold In64; omega)]; omega
  · have f4 := f4 h
    unfold wrap64; omega
theorem turns_down (a b s n : Int) (ha : In64 a) (hb : In64 b) (hs : In64 s) (h0 : s < 0) (hab : b ≤ a) (hn : (a - b) / (-s) = n) (i : Nat) (hi : (i : Int) ≤ n) :
    In64 (a + i * s) ∧ ((i : Int) < n → wrap64 (a + i * s + s) = a + (i + 1 : Nat) * s ∧ a + (i + 1 : Nat) * s < a + i * s ∧ b ≤ a + (i + 1 : Nat) * s) ∧
    ((i : Int) = n → a + i * s < wrap64 (a + i * s + s) ∨ wrap64 (a + i * s + s) < b) := by
  have e1 := Int.mul_ediv_add_emod (a - b) (-s)
  have e2 := Int.emod_nonneg (a - b) (show -s ≠ 0 by omega)
  have e3 := Int.emod_lt_of_pos (a - b) (show 0 < -s by omega)
  rw [hn] at e1
  have f1 : (i : Int) * (-s) ≤ -s * n := by rw [Int.mul_comm (-s) n]; exact Int.mul_le_mul_of_nonneg_right hi (by omega)
  have f0 : 0 ≤ (i : Int) * (-s) := Int.mul_nonneg (by omega) (by omega)
  have f2 : ((i + 1 : Nat) : Int) * s = i * s + s := by rw [Int.natCast_add, Int.add_mul]; simp
  have f5 : (i : Int) * (-s) = -(i * s) := by rw [Int.mul_neg]
  have f6 : ((i + 1 : Nat) : Int) * (-s) = -(i * s + s) := by rw [Int.mul_neg, f2]
  have f3 : (i : Int) < n → -(i * s + s) ≤ -s * n := fun h => by rw [← f6, Int.mul_comm (-s) n]; exact Int.mul_le_mul_of_nonneg_right (by omega) (by omega)
  have f4 : (i : Int) = n → (i : Int) * (-s) = -s * n := fun h => by rw [h, Int.mul_comm]
  unfold In64 at *
  rw [f2]
  rw [f5] at f1 f0 f4
  clear f5 f6
  generalize (i : Int) * s = p at *
  generalize -s * n = q at *
  refine ⟨by omega, fun h => ?_, fun h => ?_⟩
  · have f3 := f3 h
    refine ⟨?_, by omega, by omega⟩
    rw [wrap64_id (by unfold In64; omega)]; omega
  · have f4 := f4 h
    unfold wrap64; omega
theorem turnsN_up {a b s n : Int} (h0 : 0 < s) (ho : turnsOk a b s = true) (hn : turnsN a b s = n) : a ≤ b ∧ (b - a) / s = n := by
  unfold turnsN at hn
  rw [if_pos ho, if_pos h0] at hn
  unfold turnsOk at ho
  simp at ho
  exact ⟨by omega, hn⟩
theorem turnsN_down {a b s n : Int} (h0 : s < 0) (ho : turnsOk a b s = true) (hn : turnsN a b s = n) : b ≤ a ∧ (a - b) / (-s) = n := by
  unfold turnsN at hn
  rw [if_pos ho, if_neg (by omega)] at hn
  unfold turnsOk at ho
  simp at ho
  exact ⟨by omega, hn⟩
theorem doubles (m : Int) (h1 : 1 ≤ m) (h2 : m ≤ 536870912) : ∃ (k : Nat) (c : Int), k ≤ 30 ∧ 1 ≤ c ∧ c ≤ 1073741824 ∧ ceil2 m = c ∧ ceil2E m = 0 ∧ ceil2 (2 * m) = 2 * c ∧ ceil2E (2 * m) = 0 ∧ ceil2 c = c ∧ ceil2E c = 0 ∧
    log2 m = k ∧ log2 (2 * m) = (k : Int) + 1 ∧ log2 c = k := by
  have hp : ∀ j : Nat, (2 : Int) ^ j = ((2 ^ j : Nat) : Int) := fun j => by simp
  obtain ⟨k, hk, e1, hlt, hle⟩ := log2_spec m h1 (by omega)
  have hk29 : k ≤ 29 := by
    apply Decidable.byContradiction
    intro h
    have := hlt 29 (by omega)
    have e : (2 : Int) ^ 29 = 536870912 := by decide
    omega
  have hpow : (2 : Nat) ^ k ≤ 2 ^ 29 := Nat.pow_le_pow_right (by omega) hk29
  have e29 : (2 : Nat) ^ 29 = 536870912 := by decide
  have hpos := pow_pos' k
  have hb : (2 : Int) ^ k ≤ 536870912 := by rw [hp]; omega
  have l2 : log2 (2 * m) = ((k + 1 : Nat) : Int) := by
    refine log2_char (2 * m) (by omega) (by omega) (k + 1) (fun j hj => ?_) ?_
    · cases j with
      | zero => simp; omega
      | succ j =>
        have := hlt j (by omega)
        rw [hp] at this ⊢
        rw [Nat.pow_succ]
        generalize 2 ^ j = x at *
        omega
    · rw [hp] at hle ⊢
      rw [Nat.pow_succ]
      generalize 2 ^ k = x at *
      omega
  have l3 : log2 ((2 : Int) ^ k) = k := by
    refine log2_char _ (by omega) (by omega) k (fun j hj => ?_) (Int.le_refl _)
    rw [hp, hp]
    have := Nat.pow_lt_pow_right (show 1 < 2 by decide) hj
    omega
  refine ⟨k, 2 ^ k, by omega, by omega, by omega, ?_, ?_, ?_, ?_, ?_, ?_, e1, by rw [l2]; simp, l3⟩
  · unfold ceil2; rw [if_neg (by omega), if_neg (by omega), e1]; rfl
  · unfold ceil2E; rw [if_neg (by omega), if_neg (by omega)]
  · unfold ceil2; rw [if_neg (by omega), if_neg (by omega), l2]
    show (2 : Int) ^ (k + 1) = _
    rw [Int.pow_succ, Int.mul_comm]
  · unfold ceil2E; rw [if_neg (by omega), if_neg (by omega)]
  · unfold ceil2; rw [if_neg (by omega), if_neg (by omega), l3]; rfl
  · unfold ceil2E; rw [if_neg (by omega), if_neg (by omega)]
end Ws
end Go.Proofs.YteheolefemlcgaaGreat
