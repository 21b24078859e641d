/- Numerals, in plain Lean: what a text reads as. -/
import Derived.Test.YteheolefemlcgaaGreatPlain
import Derived.Lib.Strings
namespace Go.Proofs.YteheolefemlcgaaGreat
open Go.RowKit
namespace Num

/-- A digit's worth; -1: it is none. -/
def worth (hex : Bool) (c : Int) : Int :=
  if 48 ≤ c ∧ c ≤ 57 then c - 48 else if hex = true ∧ 97 ≤ c ∧ c ≤ 102 then c - 87 else if hex = true ∧ 65 ≤ c ∧ c ≤ 70 then c - 55 else -1
theorem worth_lo (hex : Bool) (c : Int) : -1 ≤ worth hex c ∧ worth hex c ≤ 15 := by
  unfold worth
  repeat' split
  all_goals omega
theorem worth_dec (c : Int) : worth false c ≤ 9 := by unfold worth; simp; split <;> omega
theorem worth_dec_eq (c : Int) (h : worth true c ≤ 9) : worth false c = worth true c := by
  revert h; unfold worth; simp
  repeat' split
  all_goals omega
theorem worth_dec_none (c : Int) (h : 9 < worth true c) : worth false c = -1 := by
  revert h; unfold worth; simp
  repeat' split
  all_goals omega
theorem worth_dec_bad (c : Int) (h : worth true c < 0 ∨ 9 < worth true c) : worth false c < 0 := by
  rcases h with h | h
  · rw [worth_dec_eq c (by omega)]; exact h
  · rw [worth_dec_none c h]; decide
theorem worth_high (hex : Bool) (c : Int) (h : 128 ≤ c) : worth hex c = -1 := by
  unfold worth
  repeat' split
  all_goals omega

def base (hex : Bool) : Nat := if hex = true then 16 else 10
def okAll (hex : Bool) (l : List UInt8) : Bool := l.all fun c => decide (0 ≤ worth hex (c.toNat : Int))
def val (hex : Bool) (l : List UInt8) : Nat := l.foldl (fun n c => n * base hex + (worth hex (c.toNat : Int)).toNat) 0
theorem val_snoc (hex : Bool) (l : List UInt8) (c : UInt8) : val hex (l ++ [c]) = val hex l * base hex + (worth hex (c.toNat : Int)).toNat := by simp [val]
theorem okAll_snoc (hex : Bool) (l : List UInt8) (c : UInt8) : okAll hex (l ++ [c]) = (okAll hex l && decide (0 ≤ worth hex (c.toNat : Int))) := by simp [okAll]

def hexOf (l : List UInt8) : Bool := Lib.hasPrefix l [48, 120] || Lib.hasPrefix l [48, 88]
def rest (l : List UInt8) : List UInt8 := if hexOf l = true then l.drop 2 else l
/-- Is it a numeral? -/
def good (l : List UInt8) : Bool := !(rest l).isEmpty && okAll (hexOf l) (rest l)
/-- What 'size' makes of it. -/
def sat (hex : Bool) (n : Nat) : Int := if hex = true then ((n % 18446744073709551616 : Nat) : Int) else ((min n 18446744073709551615 : Nat) : Int)
def most (neg : Bool) : Int := if neg = true then 9223372036854775808 else 9223372036854775807
def readN (l : List UInt8) (neg : Bool) : Int :=
  if good l = true then
    (if hexOf l = true then wrap64 (if neg = true then -(val true (rest l) : Int) else (val true (rest l) : Int))
     else if most neg < (val false (rest l) : Int) then 0 else if neg = true then -(val false (rest l) : Int) else (val false (rest l) : Int))
  else 0
def readE (l : List UInt8) (neg : Bool) : Int :=
  if good l = true then (if hexOf l = true then 0 else if most neg < (val false (rest l) : Int) then 14 else 0) else 4

/-- A step of 'size'. -/
theorem sat_hex (n d : Nat) : sat true (n * 16 + d) = ((sat true n).toNat * 16 + d) % 18446744073709551616 := by
  simp only [sat, if_true]
  omega
theorem sat_bound (hex : Bool) (n : Nat) : 0 ≤ sat hex n ∧ sat hex n < 18446744073709551616 := by
  unfold sat; split <;> omega

theorem take_snoc (s : ByteArray) (k : Nat) (h : k < s.size) : s.data.toList.take (k + 1) = s.data.toList.take k ++ [s[k]] := by
  rw [List.take_succ_eq_append_getElem (by simpa using h)]; rfl
theorem hexOf_x {l : List UInt8} (h : Lib.hasPrefix l [48, 120] = true) : hexOf l = true ∧ rest l = Lib.trimPrefix l [48, 120] := by
  have e : hexOf l = true := by simp [hexOf, h]
  exact ⟨e, by simp [rest, e, Lib.trimPrefix, h]⟩
theorem hexOf_X {l : List UInt8} (h : Lib.hasPrefix l [48, 120] = false) : hexOf l = Lib.hasPrefix l [48, 88] ∧ rest l = Lib.trimPrefix l [48, 88] := by
  have e : hexOf l = Lib.hasPrefix l [48, 88] := by simp [hexOf, h]
  exact ⟨e, by simp [rest, e, Lib.trimPrefix]⟩
theorem step_hex (n d : Nat) (hd : d < 16) : bits .or .u64 (IntKind.u64.wrap (sat true n * 16)) (d : Int) = sat true (n * 16 + d) := by
  have h := sat_bound true n
  rw [bits_join .u64 64 (by decide) Ws.u64_id 4 _ _ (by rw [IntKind.wrap_u64]; omega) (by rw [IntKind.wrap_u64]; omega) (by rw [IntKind.wrap_u64]; omega) (by omega) (by omega) (by omega), IntKind.wrap_u64]
  simp only [sat, if_true]
  omega
theorem step_dec (N : Nat) {n d h l sm cy m : Int} (hn : sat false N = n) (hd0 : 0 ≤ d) (hd9 : d ≤ 9) (eh : n * 10 / 18446744073709551616 = h) (el : n * 10 % 18446744073709551616 = l)
    (es : (l + d) % 18446744073709551616 = sm) (ec : (l + d) / 18446744073709551616 = cy) (hm : m = if h + cy = 0 then sm else 18446744073709551615) : max n m = sat false (N * base false + d.toNat) := by
  have e : sat false N = ((min N 18446744073709551615 : Nat) : Int) := by simp [sat]
  have e' : sat false (N * base false + d.toNat) = ((min (N * 10 + d.toNat) 18446744073709551615 : Nat) : Int) := by simp [sat, base]
  rw [e', hm]
  rw [e] at hn
  split <;> omega
theorem okAll_bad (hx : Bool) (r : ByteArray) (pos : Nat) (hp : pos < r.size) (h : worth hx (r[pos].toNat : Int) < 0) : okAll hx r.data.toList = false := by
  unfold okAll
  rw [List.all_eq_false]
  refine ⟨r[pos], ?_, by simpa using h⟩
  show r.data[pos] ∈ _
  simp
theorem good_of {l : List UInt8} {hx : Bool} {r : ByteArray} (hf : hexOf l = hx ∧ rest l = r.data.toList) : good l = (!r.toList.isEmpty && okAll hx r.data.toList) := by
  have e : r.toList = r.data.toList := Lib.toList_data r
  simp [good, hf.1, hf.2, e]
theorem readN_bad (l : List UInt8) (neg : Bool) (h : good l = false) : readN l neg = 0 := by simp [readN, h]
theorem readE_bad (l : List UInt8) (neg : Bool) (h : good l = false) : readE l neg = 4 := by simp [readE, h]
theorem wrap64_M (x : Int) : wrap64 (x % 18446744073709551616) = wrap64 x := by unfold wrap64; omega
theorem wrap64_negM (x : Int) : wrap64 (-wrap64 (x % 18446744073709551616)) = wrap64 (-x) := by unfold wrap64; omega
theorem readN_good (l : List UInt8) (neg : Bool) (hx : Bool) (u : Int) (h : good l = true) (h1 : hexOf l = hx) (h2 : sat hx (val hx (rest l)) = u) :
    readN l neg = if hx = true then (if neg = true then wrap64 (-(wrap64 u)) else wrap64 u) else if most neg < u then 0 else if neg = true then -u else u := by
  unfold readN
  rw [if_pos h, h1]
  cases hx with
  | true =>
    simp only [sat, if_true] at h2 ⊢
    rw [← h2]
    split
    · rw [Int.natCast_emod]; exact (wrap64_negM _).symm
    · rw [Int.natCast_emod]; exact (wrap64_M _).symm
  | false =>
    simp only [sat, Bool.false_eq_true, if_false] at h2 ⊢
    rw [← h2]
    generalize val false (rest l) = v
    unfold most
    cases neg <;> simp <;> split <;> split <;> omega
theorem readE_good (l : List UInt8) (neg : Bool) (hx : Bool) (u : Int) (h : good l = true) (h1 : hexOf l = hx) (h2 : sat hx (val hx (rest l)) = u) :
    readE l neg = if hx = true then 0 else if most neg < u then 14 else 0 := by
  unfold readE
  rw [if_pos h, h1]
  cases hx with
  | true => rfl
  | false =>
    simp only [sat, Bool.false_eq_true, if_false] at h2 ⊢
    rw [← h2]
    generalize val false (rest l) = v
    unfold most
    cases neg <;> simp <;> split <;> split <;> omega
def signed (l : List UInt8) : Bool := Lib.hasPrefix l [45]
def unsign (l : List UInt8) : List UInt8 := Lib.trimPrefix l [45]
theorem signed_empty (s : ByteArray) (h : s.size = 0) : signed s.data.toList = false ∧ unsign s.data.toList = s.data.toList := by
  obtain ⟨⟨l⟩⟩ := s
  match l, h with
  | [], _ => exact ⟨rfl, rfl⟩
  | _ :: _, h => simp [ByteArray.size] at h
theorem signed_at (s : ByteArray) (h : 0 < s.size) : signed s.data.toList = (((s[0]'h).toNat : Int) == 45) := by
  obtain ⟨⟨l⟩⟩ := s
  match l, h with
  | [], h => simp [ByteArray.size] at h
  | c :: r, h =>
    have e0 : (ByteArray.mk ⟨c :: r⟩)[0]'h = c := rfl
    rw [e0]
    simp only [signed, Lib.hasPrefix, List.isPrefixOf, Bool.and_true]
    rw [Bool.eq_iff_iff]
    simp only [beq_iff_eq]
    constructor
    · rintro rfl; rfl
    · intro h
      apply UInt8.toNat_inj.mp
      show 45 = _
      omega
theorem signed_yes (s : ByteArray) (h : 0 < s.size) (hc : ((s[0]'h).toNat : Int) = 45) : signed s.data.toList = true ∧ unsign s.data.toList = List.take (s.size - 1) s.data.toList.tail := by
  have e : signed s.data.toList = true := by rw [signed_at s h, hc]; rfl
  refine ⟨e, ?_⟩
  unfold unsign Lib.trimPrefix
  unfold signed at e
  rw [if_pos e, List.take_of_length_le (by simp)]
  simp
theorem signed_no (s : ByteArray) (h : 0 < s.size) (hc : ¬ ((s[0]'h).toNat : Int) = 45) : signed s.data.toList = false ∧ unsign s.data.toList = s.data.toList := by
  have e : signed s.data.toList = false := by rw [signed_at s h]; simpa using hc
  refine ⟨e, ?_⟩
  unfold unsign Lib.trimPrefix
  unfold signed at e
  rw [e]; rfl
theorem hexOf_short (s : ByteArray) (h : s.size < 2) : hexOf s.data.toList = false := by
  obtain ⟨⟨l⟩⟩ := s
  match l, h with
  | [], _ => rfl
  | [c], _ => simp [hexOf, Lib.hasPrefix, List.isPrefixOf]
  | _ :: _ :: _, h => simp [ByteArray.size] at h; omega
theorem hexOf_at (s : ByteArray) (h : 1 < s.size) : hexOf s.data.toList = (((s[0]'(by omega)).toNat : Int) == 48 && (((s[1]'h).toNat : Int) == 120 || ((s[1]'h).toNat : Int) == 88)) := by
  obtain ⟨⟨l⟩⟩ := s
  match l, h with
  | [], h => simp [ByteArray.size] at h
  | [c], h => simp [ByteArray.size] at h
  | c :: d :: r, h =>
    have e0 : (ByteArray.mk ⟨c :: d :: r⟩)[0]'(by omega) = c := rfl
    have e1 : (ByteArray.mk ⟨c :: d :: r⟩)[1]'h = d := rfl
    rw [e0, e1]
    have f : ∀ (x : UInt8) (n : Nat) (hn : n < 256), (x == UInt8.ofNat n) = ((x.toNat : Int) == (n : Int)) := by
      intro x n hn
      rw [Bool.eq_iff_iff]
      simp only [beq_iff_eq]
      constructor
      · rintro rfl; simp; omega
      · intro h
        apply UInt8.toNat_inj.mp
        simp; omega
    have g : ∀ (x y : UInt8), (x == y) = (y == x) := fun x y => Bool.beq_comm
    simp only [hexOf, Lib.hasPrefix, List.isPrefixOf, Bool.and_true]
    have e2 := f c 48 (by decide); have e3 := f d 120 (by decide); have e4 := f d 88 (by decide)
    rw [g 48 c, g 120 d, g 88 d]
    rw [show (48 : UInt8) = UInt8.ofNat 48 from rfl, show (120 : UInt8) = UInt8.ofNat 120 from rfl, show (88 : UInt8) = UInt8.ofNat 88 from rfl, e2, e3, e4]
    cases ((c.toNat : Int) == ((48 : Nat) : Int)) <;> simp_all
theorem val_append (hx : Bool) (a b : List UInt8) : val hx a ≤ val hx (a ++ b) := by
  induction b generalizing a with
  | nil => simp
  | cons c b ih =>
    have e : a ++ c :: b = (a ++ [c]) ++ b := by simp
    rw [e]
    refine Nat.le_trans ?_ (ih _)
    rw [val_snoc]
    have : 1 ≤ base hx := by unfold base; split <;> omega
    have := Nat.mul_le_mul_left (val hx a) this
    omega
theorem val_take (hx : Bool) (l : List UInt8) (i : Nat) : val hx (l.take i) ≤ val hx l := by
  have := val_append hx (l.take i) (l.drop i)
  rwa [List.take_append_drop] at this
theorem take_all (r : ByteArray) (i : Nat) (h : ¬ i < r.size) : r.data.toList.take i = r.data.toList := by
  rw [List.take_of_length_le]
  have : r.size = r.data.size := rfl
  simp; omega
theorem good_iff {l : List UInt8} {hx : Bool} {r : ByteArray} (h1 : hexOf l = hx) (hr : r.data.toList = rest l) (h0 : r.size ≠ 0) : good l = okAll hx r.data.toList := by
  have : r.data.toList ≠ [] := by
    intro e
    apply h0
    show r.data.size = 0
    rw [← Array.length_toList, e]; rfl
  unfold good
  rw [← hr, h1]
  cases h : r.data.toList with
  | nil => exact absurd h this
  | cons a b => simp
theorem good_empty {l : List UInt8} {r : ByteArray} (hr : r.data.toList = rest l) (h0 : r.size = 0) : good l = false := by
  have : r.data.toList = [] := by
    apply List.eq_nil_of_length_eq_zero
    rw [Array.length_toList]; exact h0
  simp [good, ← hr, this]
theorem hex_step (v d : Nat) (w : Int) (hw : w = d) : wrap64 (wrap64 (wrap64 (v : Int) * 16) + w) = wrap64 ((v * base true + d : Nat) : Int) := by
  subst hw
  have e : base true = 16 := rfl
  rw [e]
  simp only [wrap64]
  omega
theorem wrap64_neg_wrap64 (x : Int) : wrap64 (-wrap64 x) = wrap64 (-x) := by simp only [wrap64]; omega
theorem readN_hex (l : List UInt8) (neg : Bool) (v : Nat) (h : good l = true) (h1 : hexOf l = true) (h2 : val true (rest l) = v) : readN l neg = if neg = true then wrap64 (-wrap64 (v : Int)) else wrap64 (v : Int) := by
  unfold readN
  rw [if_pos h, if_pos h1, h2]
  split
  · rw [wrap64_neg_wrap64]
  · rfl
theorem readE_hex (l : List UInt8) (neg : Bool) (h : good l = true) (h1 : hexOf l = true) : readE l neg = 0 := by
  unfold readE
  rw [if_pos h, if_pos h1]
theorem readN_dec (l : List UInt8) (neg : Bool) (v : Nat) (h : good l = true) (h1 : hexOf l = false) (h2 : val false (rest l) = v) : readN l neg = if most neg < (v : Int) then 0 else if neg = true then -(v : Int) else (v : Int) := by
  unfold readN
  rw [if_pos h, if_neg (by simp [h1]), h2]
theorem readE_dec (l : List UInt8) (neg : Bool) (v : Nat) (h : good l = true) (h1 : hexOf l = false) (h2 : val false (rest l) = v) : readE l neg = if most neg < (v : Int) then 14 else 0 := by
  unfold readE
  rw [if_pos h, if_neg (by simp [h1]), h2]
theorem dec_step (v d : Nat) (w : Int) (hw : w = d) (hd : d < 10) (hv : (v : Int) ≤ 9223372036854775808) :
    (-(v : Int) < Int.tdiv (-9223372036854775808 + w) 10) ↔ 9223372036854775808 < (v * base false + d : Nat) := by
  subst hw
  have e : base false = 10 := rfl
  rw [e]
  have e2 : Int.tdiv (-9223372036854775808 + (d : Int)) 10 = -((9223372036854775808 - d) / 10) := by
    rw [show -9223372036854775808 + (d : Int) = -(9223372036854775808 - (d : Int)) from by omega, Int.neg_tdiv, Int.tdiv_eq_ediv_of_nonneg (by omega)]
  rw [e2]
  omega
theorem worth_of_ok (hx : Bool) (r : ByteArray) (j : Nat) (hj : j < r.size) (h : okAll hx r.data.toList = true) : 0 ≤ worth hx (r[j].toNat : Int) := by
  apply Decidable.byContradiction
  intro h'
  rw [okAll_bad hx r j hj (by omega)] at h
  exact absurd h (by decide)
theorem dec_bound (v : Nat) (d : Int) (h0 : 0 ≤ d) (h9 : d ≤ 9) (hv : (v : Int) ≤ 9223372036854775808) : -922337203685477580 ≤ Int.tdiv (-9223372036854775808 + d) 10 ∧ Int.tdiv (-9223372036854775808 + d) 10 ≤ 0 := by
  have e2 : Int.tdiv (-9223372036854775808 + d) 10 = -((9223372036854775808 - d) / 10) := by
    rw [show -9223372036854775808 + d = -(9223372036854775808 - d) from by omega, Int.neg_tdiv, Int.tdiv_eq_ediv_of_nonneg (by omega)]
  rw [e2]; omega
theorem most_lt {v : Nat} (h : (v : Int) = 9223372036854775808) : most false < (v : Int) := by unfold most; simp; omega
theorem most_nlt {v : Nat} (h : (v : Int) ≤ 9223372036854775808) : ¬ most true < (v : Int) := by unfold most; simp; omega
theorem dec_next (v : Nat) (d : Int) (h0 : 0 ≤ d) (h : ¬ 9223372036854775808 < v * base false + d.toNat) : wrap64 (-(v : Int) * 10 - d) = -((v * base false + d.toNat : Nat) : Int) := by
  have e : base false = 10 := rfl
  rw [e] at h
  rw [e, wrap64_id (by unfold In64; omega)]
  omega
end Num
end Go.Proofs.YteheolefemlcgaaGreat
