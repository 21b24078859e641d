/- Folded of NodeM, Hash, Node1, Node2, Node3, Node4, Node5, Node6, Node7. -/
import Derived.Test.YteheolefemlcgaaGreatNodX
import Derived.Test.YteheolefemlcgaaGreatHeaA
import Derived.Laws.IdiomCopy
import Derived.Laws.IdiomStrings
import Derived.Deep.RegionHeld3
import Derived.BigQuiet
import Derived.StillTailTactics
/- The hash part as it lies in memory. -/
namespace Go.Proofs.YteheolefemlcgaaGreat
open Go.RowKit Go.Maps
set_option linter.unusedVariables false
set_option linter.unusedSimpArgs false

/-- FNV-1a, 32 bits. -/
def fnv (h : Nat) (b : UInt8) : Nat := ((h ^^^ b.toNat) * 16777619) % 4294967296
def hashOf (s : ByteArray) : Nat := s.toList.foldl fnv 2166136261
/-- The main position of a key in form that isn't nil. -/
def mpos (n : Nat) (k : V) : Nat :=
  if k.k = 2 then ((k.n % 18446744073709551616).toNat) % ((n - 1) ||| 1)
  else if k.k = 3 then hashOf k.s &&& (n - 1)
  else if k.k = 1 then k.n.toNat &&& (n - 1)
  else ((4 * (k.n % 18446744073709551616) + k.k) % 18446744073709551616).toNat % ((n - 1) ||| 1)
theorem mpos_lt (n : Nat) (k : V) (h0 : 0 < n) (h1 : n = 1 ∨ n % 2 = 0) : mpos n k < n := by
  have ho : 0 < ((n - 1) ||| 1) ∧ ((n - 1) ||| 1) ≤ n := by
    rcases h1 with rfl | h1
    · decide
    · have e : (n - 1) ||| 1 = n - 1 := by
        apply Nat.eq_of_testBit_eq
        intro i
        rw [Nat.testBit_or]
        cases i with
        | zero => simp; omega
        | succ i => simp [Nat.testBit_succ]
      rw [e]; omega
  unfold mpos
  split
  · have := Nat.mod_lt ((k.n % 18446744073709551616).toNat) ho.1
    omega
  · split
    · have := @Nat.and_le_right (hashOf k.s) (n - 1); omega
    · split
      · have := @Nat.and_le_right k.n.toNat (n - 1); omega
      · have := Nat.mod_lt ((4 * (k.n % 18446744073709551616) + k.k) % 18446744073709551616).toNat ho.1
        omega
/-- The hash part h behind the pointer to block b, its nodes in block g. -/
structure NdIn (w : World) (b g : Nat) (h : PH) : Prop where
  c0 : w.cell? ⟨b, 0, none⟩ = some (.slice (some ⟨g, 0, none⟩) h.n h.n)
  c1 : w.cell? ⟨b, 1, none⟩ = some (.int .i64 h.free)
  key : ∀ i, i < h.n → w.cell? ⟨g, i * 7, none⟩ = some (.int .i64 (h.key i).k) ∧ w.cell? ⟨g, i * 7 + 1, none⟩ = some (.int .i64 (h.key i).n) ∧ w.cell? ⟨g, i * 7 + 2, none⟩ = some (.string (h.key i).s)
  val : ∀ i, i < h.n → w.cell? ⟨g, i * 7 + 3, none⟩ = some (.int .i64 (h.val i).k) ∧ w.cell? ⟨g, i * 7 + 4, none⟩ = some (.int .i64 (h.val i).n) ∧ w.cell? ⟨g, i * 7 + 5, none⟩ = some (.string (h.val i).s)
  nx : ∀ i, i < h.n → w.cell? ⟨g, i * 7 + 6, none⟩ = some (.int .i64 (h.nxt (mpos h.n) i))
  fb : ∀ i, w.frozen? ⟨b, i, none⟩ = false
  fg : ∀ i, w.frozen? ⟨g, i, none⟩ = false
  lg : g < w.heap.size
  ne : b ≠ g
/-- The hash part is one: its size, its chains. -/
structure PH.good (h : PH) : Prop where
  ok : h.ok (mpos h.n)
  sz : h.n ≤ 65536
  pw : h.n = 0 ∨ ∃ e, e ≤ 16 ∧ h.n = 2 ^ e
theorem PH.good.even {h : PH} (H : h.good) (h0 : 0 < h.n) : h.n = 1 ∨ h.n % 2 = 0 := by
  rcases H.pw with e | ⟨e, -, h2⟩
  · omega
  · cases e with
    | zero => left; rw [h2]
    | succ e => right; rw [h2, Nat.pow_succ]; omega
theorem PH.good.lt {h : PH} (H : h.good) (h0 : 0 < h.n) (k : V) : mpos h.n k < h.n := mpos_lt _ _ h0 (H.even h0)
def NodesAt (G : Nat → Prop) (w : World) (b : Nat) (h : PH) : Prop := h.good ∧ ∃ g, NdIn w b g h ∧ G = fun q => q = b ∨ q = g
def GoesN (G : Nat → Prop) (w : World) (b : Nat) (h' : PH) (w' : World) : Prop := NodesAt G w' b h' ∧ Kp G w w'
theorem NdIn.lb {w : World} {b g : Nat} {h : PH} (H : NdIn w b g h) : b < w.heap.size := by obtain ⟨q, o, e, hl⟩ := spot_of_cell H.c0; cases e; exact hl
theorem NdIn.keep {w w' : World} {b g : Nat} {h : PH} (H : NdIn w b g h) (hb : w'.heap[b]? = w.heap[b]?) (hg : w'.heap[g]? = w.heap[g]?) : NdIn w' b g h := by
  have cb : ∀ i, w'.cell? ⟨b, i, none⟩ = w.cell? ⟨b, i, none⟩ := fun i => World.cell?_of_block (a := ⟨b, i, none⟩) hb
  have cg : ∀ i, w'.cell? ⟨g, i, none⟩ = w.cell? ⟨g, i, none⟩ := fun i => World.cell?_of_block (a := ⟨g, i, none⟩) hg
  have hlg : g < w'.heap.size := by
    have := H.lg
    apply Decidable.byContradiction
    intro hn
    rw [Array.getElem?_eq_none (by omega), Array.getElem?_eq_getElem this] at hg
    simp at hg
  refine ⟨(cb 0).trans H.c0, (cb 1).trans H.c1, fun i hi => ?_, fun i hi => ?_, fun i hi => (cg _).trans (H.nx i hi), fun i => (World.frozen?_of_block (a := ⟨b, i, none⟩) hb).trans (H.fb i), fun i => (World.frozen?_of_block (a := ⟨g, i, none⟩) hg).trans (H.fg i), hlg, H.ne⟩
  · obtain ⟨a, c, d⟩ := H.key i hi; exact ⟨(cg _).trans a, (cg _).trans c, (cg _).trans d⟩
  · obtain ⟨a, c, d⟩ := H.val i hi; exact ⟨(cg _).trans a, (cg _).trans c, (cg _).trans d⟩
theorem NodesAt.lt {G : Nat → Prop} {w : World} {b : Nat} {h : PH} (H : NodesAt G w b h) (q : Nat) (hq : G q) : q < w.heap.size := by
  obtain ⟨-, g, h1, rfl⟩ := H
  rcases hq with rfl | rfl
  · exact h1.lb
  · exact h1.lg
theorem NodesAt.kp {F G : Nat → Prop} {w w' : World} {b : Nat} {h : PH} (H : NodesAt G w b h) (hk : Kp F w w') (hF : ∀ q, G q → ¬ F q) : NodesAt G w' b h := by
  have hl := H.lt
  obtain ⟨hgd, g, h1, rfl⟩ := H
  exact ⟨hgd, g, h1.keep (hk.block b (hl b (.inl rfl)) (hF b (.inl rfl))) (hk.block g (hl g (.inr rfl)) (hF g (.inr rfl))), rfl⟩
theorem NodesAt.below {G : Nat → Prop} {w w' : World} {b : Nat} {h : PH} (H : NodesAt G w b h) (hb : Below w.heap.size w w') : NodesAt G w' b h := H.kp (F := fun _ => False) (below_kp hb) (fun _ _ h => h)
theorem GoesN.same {G : Nat → Prop} {w w' : World} {b : Nat} {h : PH} (H : NodesAt G w b h) (hb : Below w.heap.size w w') : GoesN G w b h w' := ⟨H.below hb, below_kp hb⟩
end Go.Proofs.YteheolefemlcgaaGreat
/- Contracts of the package hash. -/
namespace Go.Proofs.YteheolefemlcgaaGreat
open Go.RowKit
set_option linter.unusedVariables false
set_option linter.unusedSimpArgs false

theorem bits_xor_u32_nat (a b : Nat) (ha : a < 4294967296) (hb : b < 4294967296) : bits .xor .u32 (a : Int) (b : Int) = ((a ^^^ b : Nat) : Int) := by
  have hx : a ^^^ b < 2 ^ 32 := Nat.xor_lt_two_pow (by omega) (by omega)
  have h1 : (BitVec.ofInt 32 (a : Int)).toNat = a := by
    rw [BitVec.ofInt_natCast, BitVec.toNat_ofNat]; exact Nat.mod_eq_of_lt (by omega)
  have h2 : (BitVec.ofInt 32 (b : Int)).toNat = b := by
    rw [BitVec.ofInt_natCast, BitVec.toNat_ofNat]; exact Nat.mod_eq_of_lt (by omega)
  show IntKind.u32.wrap ((BitVec.ofInt 32 (a : Int) ^^^ BitVec.ofInt 32 (b : Int)).toNat : Int) = _
  rw [BitVec.toNat_xor, h1, h2]
  simp [IntKind.wrap, IntKind.bits, IntKind.signed]
  omega
theorem bits_and_i64_nat (a b : Nat) (ha : a < 9223372036854775808) (hb : b < 9223372036854775808) : bits .and .i64 (a : Int) (b : Int) = ((a &&& b : Nat) : Int) := by
  have hx : a &&& b ≤ b := Nat.and_le_right
  have h1 : (BitVec.ofInt 64 (a : Int)).toNat = a := by
    rw [BitVec.ofInt_natCast, BitVec.toNat_ofNat]; exact Nat.mod_eq_of_lt (by omega)
  have h2 : (BitVec.ofInt 64 (b : Int)).toNat = b := by
    rw [BitVec.ofInt_natCast, BitVec.toNat_ofNat]; exact Nat.mod_eq_of_lt (by omega)
  show IntKind.i64.wrap ((BitVec.ofInt 64 (a : Int) &&& BitVec.ofInt 64 (b : Int)).toNat : Int) = _
  rw [BitVec.toNat_and, h1, h2, IntKind.wrap_i64]
  omega
theorem bits_or_i64_nat (a b : Nat) (ha : a < 9223372036854775808) (hb : b < 9223372036854775808) : bits .or .i64 (a : Int) (b : Int) = ((a ||| b : Nat) : Int) := by
  have hx : a ||| b < 2 ^ 63 := Nat.or_lt_two_pow (by omega) (by omega)
  have h1 : (BitVec.ofInt 64 (a : Int)).toNat = a := by
    rw [BitVec.ofInt_natCast, BitVec.toNat_ofNat]; exact Nat.mod_eq_of_lt (by omega)
  have h2 : (BitVec.ofInt 64 (b : Int)).toNat = b := by
    rw [BitVec.ofInt_natCast, BitVec.toNat_ofNat]; exact Nat.mod_eq_of_lt (by omega)
  show IntKind.i64.wrap ((BitVec.ofInt 64 (a : Int) ||| BitVec.ofInt 64 (b : Int)).toNat : Int) = _
  rw [BitVec.toNat_or, h1, h2, IntKind.wrap_i64]
  omega
theorem fnv_go (h : Nat) (b : UInt8) (hh : h < 4294967296) : bits .xor .u32 (h : Int) ((b.toNat : Int) % 4294967296) * 16777619 % 4294967296 = ((fnv h b : Nat) : Int) := by
  have hb : b.toNat < 256 := b.toNat_lt
  rw [show ((b.toNat : Int) % 4294967296) = (b.toNat : Int) by omega, bits_xor_u32_nat h b.toNat hh (by omega)]
  unfold fnv
  rw [Int.natCast_emod, Int.natCast_mul]
  rfl
def hashN (s : ByteArray) (j : Nat) : Nat := (s.toList.take j).foldl fnv 2166136261
theorem fold_take {α β : Type} (f : α → β → α) (d : β) : ∀ (l : List β) (a : α) (j : Nat), j < l.length → (l.take (j + 1)).foldl f a = f ((l.take j).foldl f a) (l.getD j d)
  | [], _, j, h => by simp at h
  | x :: l, a, 0, _ => rfl
  | x :: l, a, j + 1, h => fold_take f d l (f a x) j (by simpa using h)
theorem hashN_succ (s : ByteArray) (j : Nat) (hj : j < s.toList.length) : hashN s (j + 1) = fnv (hashN s j) (s.toList.getD j 0) := fold_take fnv 0 _ _ j hj
theorem hashN_all (s : ByteArray) : hashN s s.toList.length = hashOf s := by unfold hashN hashOf; rw [List.take_length]
theorem fnv_lt (h : Nat) (b : UInt8) : fnv h b < 4294967296 := Nat.mod_lt _ (by decide)
theorem fold_lt : ∀ (l : List UInt8) (a : Nat), a < 4294967296 → l.foldl fnv a < 4294967296
  | [], a, h => h
  | x :: l, a, h => fold_lt l (fnv a x) (fnv_lt a x)
theorem hashN_lt (s : ByteArray) (j : Nat) : hashN s j < 4294967296 := fold_lt _ _ (by decide)
set_option maxRecDepth 100000 in
theorem hash_Of (s : ByteArray) (hs : s.size ≤ 10000) (w : World) : Calls Tryz.prog 141 #[.string s] w fun e w' => e = .returned (.int .i64 (hashOf s)) ∧ Below w.heap.size w w' := by
  have hcv := fun (W : World) => run_bytes_of_string (P := Tryz.prog) W 9 199 5 s Tryz.underlying9 Tryz.underlying199 Tryz.underlying5
  have hsz : s.toList.length = s.size := by rw [Lib.toList_data]; rfl
  go_enter Tryz.func141, Tryz.ntmps141
  go_wp2
  have hcell : ∀ j, j < s.size → ((w.alloc (Obj.cells (bytesRow s (grownCap w s.size 0 5)) 5 ((bytesRow s (grownCap w s.size 0 5)).size, (bytesRow s (grownCap w s.size 0 5)).size + 1))).drew).cell? ⟨w.heap.size, j, none⟩ = some (.int .u8 (((s.toList.getD j 0).toNat : Nat) : Int)) := by
    intro j h1
    have h0 : s.toList.getD j 0 = s.data[j]'h1 := by
      rw [Lib.toList_data, List.getD_eq_getElem?_getD, Array.getElem?_toList, Array.getElem?_eq_getElem h1]; rfl
    have h2 : (bytesRow s (grownCap w s.size 0 5))[j]? = some (.int .u8 (((s.toList.getD j 0).toNat : Nat) : Int)) := by
      unfold bytesRow
      rw [Array.getElem?_append_left (by simpa using h1), h0, Array.getElem?_map, Array.getElem?_eq_getElem h1]
      rfl
    generalize bytesRow s (grownCap w s.size 0 5) = row at h2 ⊢
    have hh : ((w.alloc (Obj.cells row 5 (row.size, row.size + 1))).drew).heap[w.heap.size]? = some (Obj.cells row 5 (row.size, row.size + 1)) := by
      show (w.heap.push (Obj.cells row 5 (row.size, row.size + 1)))[w.heap.size]? = _
      simp
    unfold World.cell?
    simp only [hh]
    exact h2
  have hB : Below w.heap.size w ((w.alloc (Obj.cells (bytesRow s (grownCap w s.size 0 5)) 5 ((bytesRow s (grownCap w s.size 0 5)).size, (bytesRow s (grownCap w s.size 0 5)).size + 1))).drew) := ((Below.refl _ w).alloc (Nat.le_refl _) _).drew
  generalize (w.alloc (Obj.cells (bytesRow s (grownCap w s.size 0 5)) 5 ((bytesRow s (grownCap w s.size 0 5)).size, (bytesRow s (grownCap w s.size 0 5)).size + 1))).drew = W at hcell hB ⊢
  generalize grownCap w s.size 0 5 = cp
  have HC := Lib.hid hcell; have HB := Lib.hid hB; have HSZ := Lib.hid hsz
  clear hcell hB hcv hsz
  go_loopw [3, 5, 9] (fun hv _ i wr => ∃ j : Nat, j ≤ s.size ∧ hv = .int .u32 (hashN s j) ∧ i = .int .i64 j ∧ wr = W) (fun _ _ i _ => s.size - (intOf i).toNat)
  case atStart => exact ⟨0, Nat.zero_le _, rfl, rfl, rfl⟩
  case round =>
    obtain ⟨j, hj, rfl, rfl, rfl⟩ := hrel
    by_cases hjl : j < s.size
    · have cb := HC.out j hjl
      have HS := Lib.hid (hashN_succ s j (by rw [HSZ.out]; exact hjl))
      have hlt := hashN_lt s j
      generalize hashN s j = hh at HS hlt ⊢
      generalize s.toList.getD j 0 = bv at cb HS
      have dj : decide ((j : Int) < (s.size : Int)) = true := by simp; omega
      have jl : (j : Int) < (s.size : Int) := by omega
      have HF := Lib.hid (fnv_go hh bv hlt)
      clear hlt
      go_wp2
      exact ⟨⟨j + 1, by omega, by rw [HS.out, HF.out], by go_num, trivial⟩, by simp [intOf]; omega⟩
    · obtain rfl : s.size = j := by omega
      have HE : Hid (hashN s s.size = hashOf s) := Lib.hid (by rw [← HSZ.out]; exact hashN_all s)
      have hlt := hashN_lt s s.size
      rw [HE.out] at hlt ⊢
      have wh : wrap64 (hashOf s : Int) = hashOf s := by unfold wrap64; omega
      generalize hq : hashOf s = hh at wh ⊢
      have HQ := Lib.hid hq
      clear hq hlt HE
      go_wp2
      go_ret
      refine ⟨?_, HB.out⟩
      rw [HQ.out]
      show Ending.returned (.int .i64 (wrap64 (hh : Int))) = _
      rw [wh]
theorem parts_c (n : Nat) (h0 : 0 < n) (h1 : n ≤ 65536) (hp : ∃ e, e ≤ 16 ∧ n = 2 ^ e) (w : World) : Calls Tryz.prog 130 #[.int .i64 n] w fun e w' => e = .returned (.bool true) ∧ w = w' := by
  obtain ⟨e, he, rfl⟩ := hp
  clear h0 h1
  rcases (show e = 0 ∨ e = 1 ∨ e = 2 ∨ e = 3 ∨ e = 4 ∨ e = 5 ∨ e = 6 ∨ e = 7 ∨ e = 8 ∨ e = 9 ∨ e = 10 ∨ e = 11 ∨ e = 12 ∨ e = 13 ∨ e = 14 ∨ e = 15 ∨ e = 16 by omega) with rfl | rfl | rfl | rfl | rfl | rfl | rfl | rfl | rfl | rfl | rfl | rfl | rfl | rfl | rfl | rfl | rfl
  all_goals go_enter Tryz.func130, Tryz.ntmps130
  all_goals go_wp2
  all_goals go_ret
  all_goals exact ⟨rfl, rfl⟩
theorem or_one (n : Nat) (h : n = 1 ∨ n % 2 = 0) (h0 : 0 < n) : 0 < ((n - 1) ||| 1) ∧ ((n - 1) ||| 1) ≤ n := by
  rcases h with rfl | h1
  · decide
  · have e : (n - 1) ||| 1 = n - 1 := by
      apply Nat.eq_of_testBit_eq
      intro i
      rw [Nat.testBit_or]
      cases i with
      | zero => simp; omega
      | succ i => simp [Nat.testBit_succ]
    rw [e]; omega
theorem hashOf_lt (s : ByteArray) : hashOf s < 4294967296 := by rw [← hashN_all]; exact hashN_lt s _
theorem rem_u64 (a b : Nat) (h : b < 18446744073709551616) (hb : 0 < b) : ((a : Int)).tmod (b : Int) = ((a % b : Nat) : Int) := by
  rw [Int.tmod_eq_emod_of_nonneg (by omega)]
  exact (Int.natCast_emod a b).symm
set_option maxRecDepth 100000 in
set_option maxHeartbeats 1000000 in
theorem hash_main (k : V) (hk : okV k = true) (h0k : k.k ≠ 0) (n : Nat) (h0 : 0 < n) (h1 : n ≤ 65536) (he : n = 1 ∨ n % 2 = 0) (w : World) : Calls Tryz.prog 131 #[vv k, .int .i64 n] w fun e w' => e = .returned (.int .i64 (mpos n k)) ∧ Below w.heap.size w w' := by
  obtain ⟨ho1, ho2⟩ := or_one n he h0
  have en : (n : Int) - 1 = ((n - 1 : Nat) : Int) := by omega
  have wn : wrap64 ((n : Int) - 1) = (n : Int) - 1 := by unfold wrap64; omega
  have hor : bits .or .i64 ((n : Int) - 1) 1 = (((n - 1) ||| 1 : Nat) : Int) := by rw [en]; exact bits_or_i64_nat (n - 1) 1 (by omega) (by decide)
  have hlim := hashOf_lt k.s
  have ht := mpos_lt n k h0 he
  have HMP : Hid (mpos n k = mpos n k) := Lib.hid rfl
  obtain ⟨kk, kn, ks⟩ := k
  obtain ⟨od, hod⟩ : ∃ od, (n - 1) ||| 1 = od := ⟨_, rfl⟩
  rw [hod] at hor ho1 ho2
  have wod : IntKind.u64.wrap (od : Int) = (od : Int) := by rw [IntKind.wrap_u64]; omega
  have od0 : ¬ ((od : Int) = 0) := by omega
  have od1 : ((od : Int) == 0) = false := by simp; omega
  have HOD := Lib.hid hod
  have EN := Lib.hid en
  clear hod en
  change Calls Tryz.prog 131 #[.agg #[.int .i64 kk, .int .i64 kn, .string ks], .int .i64 n] w fun e w' => e = .returned (.int .i64 (mpos n ⟨kk, kn, ks⟩)) ∧ Below w.heap.size w w'
  obtain ⟨M, hM⟩ : ∃ M, mpos n ⟨kk, kn, ks⟩ = M := ⟨_, rfl⟩
  rw [hM] at ht ⊢
  have HM := Lib.hid hM
  have wM : wrap64 (M : Int) = M := by unfold wrap64; omega
  clear hM HMP
  by_cases e3 : kk = 3
  · subst e3
    have hs : ks.size ≤ 10000 := by unfold okV at hk; simp at hk; omega
    have HS := Lib.hid hs
    have hand : bits .and .i64 (hashOf ks : Int) ((n : Int) - 1) = (M : Int) := by
      rw [EN.out, bits_and_i64_nat _ _ (by simp only at hlim; omega) (by omega), ← HM.out]; rfl
    have HAND := Lib.hid hand
    clear hs hk hand hlim
    go_enter Tryz.func131, Tryz.ntmps131
    go_wp2_with (first | (go_at_call 141; (with_reducible refine (hash_Of ks HS.out _).mono ?_); rintro e w1 ⟨rfl, hb⟩))
    go_ret
    refine ⟨?_, ((Below.refl _ w).alloc (Nat.le_refl _) _).trans (hb.mono (by simp [go_sem]))⟩
    show Ending.returned (.int .i64 (bits .and .i64 (hashOf ks : Int) ((n : Int) - 1))) = _
    rw [HAND.out]
  · by_cases e2 : kk = 2
    · subst e2
      have hx : ∃ x : Nat, kn % 18446744073709551616 = (x : Int) := ⟨(kn % 18446744073709551616).toNat, by omega⟩
      obtain ⟨x, hx⟩ := hx
      have hr : ((x : Int)).tmod (od : Int) = (M : Int) := by
        rw [rem_u64 x od (by omega) ho1, ← HM.out]
        unfold mpos
        rw [if_pos rfl]
        show _ = (((kn % 18446744073709551616).toNat % ((n - 1) ||| 1) : Nat) : Int)
        rw [hx, HOD.out]; simp
      have wk : IntKind.u64.wrap kn = (x : Int) := by rw [IntKind.wrap_u64]; exact hx
      clear hk hx hlim
      go_enter Tryz.func131, Tryz.ntmps131
      go_wp2
      go_ret
      exact ⟨rfl, (Below.refl _ w).alloc (Nat.le_refl _) _⟩
    · by_cases e1 : kk = 1
      · subst e1
        have hb : kn = 0 ∨ kn = 1 := by unfold okV at hk; simp at hk; omega
        have hand : bits .and .i64 kn ((n : Int) - 1) = (M : Int) := by
          obtain ⟨b, hbb⟩ : ∃ b : Nat, kn = (b : Int) := ⟨kn.toNat, by omega⟩
          subst hbb
          rw [EN.out, bits_and_i64_nat _ _ (by omega) (by omega), ← HM.out]; rfl
        clear hk hb hlim
        have HAND := Lib.hid hand
        clear hand
        go_enter Tryz.func131, Tryz.ntmps131
        go_wp2
        go_ret
        refine ⟨?_, (Below.refl _ w).alloc (Nat.le_refl _) _⟩
        show Ending.returned (.int .i64 (bits .and .i64 kn ((n : Int) - 1))) = _
        rw [HAND.out]
      · have e456 : kk = 4 ∨ kk = 5 ∨ kk = 6 := by
          unfold okV at hk
          simp only [if_neg h0k, if_neg e1, if_neg e2, if_neg e3] at hk
          by_cases e : kk = 4 ∨ kk = 5 ∨ kk = 6
          · exact e
          · rw [if_neg e] at hk; simp at hk
        have hx : ∃ x : Nat, kn % 18446744073709551616 = (x : Int) := ⟨(kn % 18446744073709551616).toNat, by omega⟩
        obtain ⟨x, hx⟩ := hx
        have hy : ∃ y : Nat, (4 * kn + kk) % 18446744073709551616 = (y : Int) := ⟨((4 * kn + kk) % 18446744073709551616).toNat, by omega⟩
        obtain ⟨y, hy⟩ := hy
        have hr : ((y : Int)).tmod (od : Int) = (M : Int) := by
          rw [rem_u64 y od (by omega) ho1, ← HM.out]
          unfold mpos
          simp only [if_neg e1, if_neg e2, if_neg e3]
          rw [show (4 * (kn % 18446744073709551616) + kk) % 18446744073709551616 = (y : Int) by omega, HOD.out]
          simp
        have wk : IntKind.u64.wrap kn = (x : Int) := by rw [IntKind.wrap_u64]; exact hx
        have HX := Lib.hid hx; have HY := Lib.hid hy
        clear hk hlim hx hy h0k e1 e2 e3
        have HY2 : Hid (IntKind.u64.wrap (IntKind.u64.wrap (4 * (x : Int)) + kk) = (y : Int)) := Lib.hid (by
          have h1 := HX.out; have h2 := HY.out
          rw [IntKind.wrap_u64, IntKind.wrap_u64]; omega)
        have HR := Lib.hid hr; have WM := Lib.hid wM
        clear hr wM
        rcases e456 with rfl | rfl | rfl
        · go_enter Tryz.func131, Tryz.ntmps131
          go_wp2
          go_ret
          refine ⟨?_, (Below.refl _ w).alloc (Nat.le_refl _) _⟩
          show Ending.returned (.int .i64 (wrap64 ((IntKind.u64.wrap (IntKind.u64.wrap (4 * (x : Int)) + 4)).tmod (od : Int)))) = _
          rw [HY2.out, HR.out, WM.out]
        · go_enter Tryz.func131, Tryz.ntmps131
          go_wp2
          go_ret
          refine ⟨?_, (Below.refl _ w).alloc (Nat.le_refl _) _⟩
          show Ending.returned (.int .i64 (wrap64 ((IntKind.u64.wrap (IntKind.u64.wrap (4 * (x : Int)) + 5)).tmod (od : Int)))) = _
          rw [HY2.out, HR.out, WM.out]
        · go_enter Tryz.func131, Tryz.ntmps131
          go_wp2
          go_ret
          refine ⟨?_, (Below.refl _ w).alloc (Nat.le_refl _) _⟩
          show Ending.returned (.int .i64 (wrap64 ((IntKind.u64.wrap (IntKind.u64.wrap (4 * (x : Int)) + 6)).tmod (od : Int)))) = _
          rw [HY2.out, HR.out, WM.out]
theorem mpos_bound (n : Nat) (k : V) (h0 : 0 < n) (he : n = 1 ∨ n % 2 = 0) : mpos n k < n := mpos_lt n k h0 he
/-- hash.Main of a key in form, among so many nodes. -/
theorem hash_Main (k : V) (hk : okV k = true) (h0k : k.k ≠ 0) (n : Nat) (h0 : 0 < n) (h1 : n ≤ 65536) (hp : ∃ e, e ≤ 16 ∧ n = 2 ^ e) (w : World) : Calls Tryz.prog 116 #[vv k, .int .i64 n] w fun e w' => e = .returned (.tuple #[.int .i64 (mpos n k), .int .i64 0]) ∧ Below w.heap.size w w' := by
  have he : n = 1 ∨ n % 2 = 0 := by
    obtain ⟨e, -, rfl⟩ := hp
    cases e with
    | zero => left; rfl
    | succ e => right; rw [Nat.pow_succ]; omega
  have HK := Lib.hid hk; have H0K := Lib.hid h0k; have HP := Lib.hid hp; have HE := Lib.hid he
  obtain ⟨kk, kn, ks⟩ := k
  have e0 : (kk == 0) = false := by simpa using h0k
  change Calls Tryz.prog 116 #[.agg #[.int .i64 kk, .int .i64 kn, .string ks], .int .i64 n] w fun e w' => e = .returned (.tuple #[.int .i64 (mpos n ⟨kk, kn, ks⟩), .int .i64 0]) ∧ Below w.heap.size w w'
  have HC : Hid ((w.alloc (.cells #[.int .i64 kk, .int .i64 kn, .string ks] 35)).cell? ⟨w.heap.size, 0, none⟩ = some (.int .i64 kk) ∧ (w.alloc (.cells #[.int .i64 kk, .int .i64 kn, .string ks] 35)).cell? ⟨w.heap.size, 1, none⟩ = some (.int .i64 kn) ∧ (w.alloc (.cells #[.int .i64 kk, .int .i64 kn, .string ks] 35)).cell? ⟨w.heap.size, 2, none⟩ = some (.string ks)) := Lib.hid (by refine ⟨?_, ?_, ?_⟩ <;> simp [go_sem])
  have ef : errForm true = 0 := rfl
  clear hk h0k hp he
  go_enter Tryz.func116, Tryz.ntmps116
  go_wp2_with (first
    | (go_at_call 52; (refine (box_Check ⟨kk, kn, ks⟩ _).mono ?_); rintro e w1 ⟨rfl, hb1⟩; rw [HK.out]; have c0 := (hb1.cell (p := ⟨w.heap.size, 0, none⟩) (by simp [go_sem])).trans HC.out.1; have c1 := (hb1.cell (p := ⟨w.heap.size, 1, none⟩) (by simp [go_sem])).trans HC.out.2.1; have c2 := (hb1.cell (p := ⟨w.heap.size, 2, none⟩) (by simp [go_sem])).trans HC.out.2.2)
    | (go_at_call 130; (with_reducible refine (parts_c n h0 h1 HP.out _).mono ?_); rintro e w2 ⟨rfl, rfl⟩)
    | (go_at_call 131; (refine (hash_main ⟨kk, kn, ks⟩ HK.out H0K.out n h0 h1 HE.out _).mono ?_); rintro e w3 ⟨rfl, hb3⟩))
  go_ret2
  exact ⟨rfl, ((((Below.refl _ w).alloc (Nat.le_refl _) _).trans (hb1.mono (by simp [go_sem]))).trans (hb3.mono (by have := hb1.size; simp [go_sem] at this; omega)))⟩
/-- hash.Main of a value that is no key. -/
theorem hash_Main_form (kk kn : Int) (ks : ByteArray) (hk : okV ⟨kk, kn, ks⟩ = false) (n : Nat) (w : World) : Calls Tryz.prog 116 #[.agg #[.int .i64 kk, .int .i64 kn, .string ks], .int .i64 n] w fun e w' => e = .returned (.tuple #[.int .i64 0, .int .i64 2]) ∧ Below w.heap.size w w' := by
  have HK := Lib.hid hk
  have ef : errForm false = 2 := rfl
  clear hk
  go_enter Tryz.func116, Tryz.ntmps116
  go_wp2_with (first
    | (go_at_call 52; (refine (box_Check ⟨kk, kn, ks⟩ _).mono ?_); rintro e w1 ⟨rfl, hb1⟩; rw [HK.out]))
  go_ret2
  exact ⟨rfl, ((Below.refl _ w).alloc (Nat.le_refl _) _).trans (hb1.mono (by simp [go_sem]))⟩
theorem hash_Main_nil (kn : Int) (ks : ByteArray) (hk : okV ⟨0, kn, ks⟩ = true) (n : Nat) (h0 : 0 < n) (h1 : n ≤ 65536) (hp : ∃ e, e ≤ 16 ∧ n = 2 ^ e) (w : World) : Calls Tryz.prog 116 #[.agg #[.int .i64 0, .int .i64 kn, .string ks], .int .i64 n] w fun e w' => e = .returned (.tuple #[.int .i64 0, .int .i64 9]) ∧ Below w.heap.size w w' := by
  have HK := Lib.hid hk; have HP := Lib.hid hp
  have HC : Hid ((w.alloc (.cells #[.int .i64 0, .int .i64 kn, .string ks] 35)).cell? ⟨w.heap.size, 0, none⟩ = some (.int .i64 0)) := Lib.hid (by simp [go_sem])
  have ef : errForm true = 0 := rfl
  clear hk hp
  go_enter Tryz.func116, Tryz.ntmps116
  go_wp2_with (first
    | (go_at_call 52; (refine (box_Check ⟨0, kn, ks⟩ _).mono ?_); rintro e w1 ⟨rfl, hb1⟩; rw [HK.out]; have c0 := (hb1.cell (p := ⟨w.heap.size, 0, none⟩) (by simp [go_sem])).trans HC.out)
    | (go_at_call 130; (with_reducible refine (parts_c n h0 h1 HP.out _).mono ?_); rintro e w2 ⟨rfl, rfl⟩))
  go_ret2
  exact ⟨rfl, ((Below.refl _ w).alloc (Nat.le_refl _) _).trans (hb1.mono (by simp [go_sem]))⟩
end Go.Proofs.YteheolefemlcgaaGreat
/- Contracts of the package nodes: Size, Free, empty, main. -/
namespace Go.Proofs.YteheolefemlcgaaGreat
open Go.RowKit
set_option linter.unusedVariables false
set_option linter.unusedSimpArgs false

theorem Nd_SizeI (b g : Nat) (h : PH) (w : World) (hin : NdIn w b g h) : Calls Tryz.prog 68 #[.pointer (some ⟨b, 0, none⟩)] w fun e w' => e = .returned (.int .i64 h.n) ∧ w' = w := by
  have c0 := hin.c0
  generalize h.n = n at c0
  clear hin
  go_enter Tryz.func68, Tryz.ntmps68
  go_wp2
  go_ret
  exact ⟨rfl, rfl⟩
theorem NdIn.belowM {w w' : World} {b g : Nat} {h : PH} (H : NdIn w b g h) (hb : Below w.heap.size w w') : NdIn w' b g h := H.keep (hb.block b H.lb) (hb.block g H.lg)
theorem Nd_Size (G : Nat → Prop) (b : Nat) (h : PH) (w : World) (H : NodesAt G w b h) : Calls Tryz.prog 68 #[.pointer (some ⟨b, 0, none⟩)] w fun e w' => e = .returned (.int .i64 h.n) ∧ w' = w := by
  obtain ⟨-, g, hin, -⟩ := H
  have c0 := hin.c0
  generalize h.n = n at c0
  clear hin
  go_enter Tryz.func68, Tryz.ntmps68
  go_wp2
  go_ret
  exact ⟨rfl, rfl⟩
theorem Nd_Free (G : Nat → Prop) (b : Nat) (h : PH) (w : World) (H : NodesAt G w b h) : Calls Tryz.prog 69 #[.pointer (some ⟨b, 0, none⟩)] w fun e w' => e = .returned (.int .i64 h.free) ∧ w' = w := by
  obtain ⟨-, g, hin, -⟩ := H
  have c1 := hin.c1
  generalize h.free = n at c1
  clear hin
  go_enter Tryz.func69, Tryz.ntmps69
  go_wp2
  go_ret
  exact ⟨rfl, rfl⟩
theorem Nd_FreeI (b g : Nat) (h : PH) (w : World) (hin : NdIn w b g h) : Calls Tryz.prog 69 #[.pointer (some ⟨b, 0, none⟩)] w fun e w' => e = .returned (.int .i64 h.free) ∧ w' = w := by
  have c1 := hin.c1
  generalize h.free = n at c1
  clear hin
  go_enter Tryz.func69, Tryz.ntmps69
  go_wp2
  go_ret
  exact ⟨rfl, rfl⟩
theorem Nd_Size_nil (w : World) : Calls Tryz.prog 68 #[.pointer none] w fun e w' => e = .returned (.int .i64 0) ∧ w' = w := by
  go_enter Tryz.func68, Tryz.ntmps68
  go_wp2
  go_ret
  exact ⟨rfl, rfl⟩
/-- A node's value. -/
def nodeV (k v : V) (x : Int) : Value := .agg #[.int .i64 k.k, .int .i64 k.n, .string k.s, .int .i64 v.k, .int .i64 v.n, .string v.s, .int .i64 x]
theorem Nd_empty (kk kn : Int) (ks : ByteArray) (vk vn : Int) (vs : ByteArray) (x : Int) (q : Bool) (hq : (kk == 0) = q) (w : World) : Calls Tryz.prog 118 #[.agg #[.int .i64 kk, .int .i64 kn, .string ks, .int .i64 vk, .int .i64 vn, .string vs, .int .i64 x]] w fun e w' => e = .returned (.bool q) ∧ Below w.heap.size w w' := by
  go_enter Tryz.func118, Tryz.ntmps118
  go_wp2
  go_ret
  exact ⟨rfl, (Below.refl _ w).alloc (Nat.le_refl _) _⟩
theorem pw_of {h : PH} (hg : h.good) (h0 : 0 < h.n) : ∃ e, e ≤ 16 ∧ h.n = 2 ^ e := by rcases hg.pw with e | e; omega; exact e
set_option maxHeartbeats 1000000 in
theorem Nd_main_none (G : Nat → Prop) (b : Nat) (h : PH) (kk kn : Int) (ks : ByteArray) (h0 : h.n = 0) (w : World) (H : NodesAt G w b h) : Calls Tryz.prog 105 #[.pointer (some ⟨b, 0, none⟩), .agg #[.int .i64 kk, .int .i64 kn, .string ks]] w fun e w' => e = .returned (.tuple #[.int .i64 0, .bool false]) ∧ Below w.heap.size w w' := by
  have HH := Lib.hid H
  have H0 := Lib.hid h0
  clear H h0
  go_enter Tryz.func105, Tryz.ntmps105
  go_wp2_with (first | (go_at_call 68; (with_reducible refine (Nd_Size G b h _ (HH.out.below ((Below.refl _ w).alloc (Nat.le_refl _) _))).mono ?_); rintro e w1 ⟨rfl, rfl⟩; rw [H0.out]))
  go_ret2
  exact ⟨rfl, (Below.refl _ w).alloc (Nat.le_refl _) _⟩
set_option maxHeartbeats 1000000 in
theorem Nd_mainI (b g : Nat) (h : PH) (hz : h.n ≤ 65536) (hpw : ∃ e, e ≤ 16 ∧ h.n = 2 ^ e) (kk kn : Int) (ks : ByteArray) (hk : okV ⟨kk, kn, ks⟩ = true) (h0k : kk ≠ 0) (h0 : 0 < h.n) (w : World) (hin : NdIn w b g h) : Calls Tryz.prog 105 #[.pointer (some ⟨b, 0, none⟩), .agg #[.int .i64 kk, .int .i64 kn, .string ks]] w fun e w' => e = .returned (.tuple #[.int .i64 (mpos h.n ⟨kk, kn, ks⟩), .bool true]) ∧ Below w.heap.size w w' := by
  have HH := Lib.hid hin
  have C0 := Lib.hid hin.c0
  have LB := Lib.hid hin.lb
  have HP := Lib.hid hpw; have SZ := Lib.hid hz
  have HK := Lib.hid hk; have H0K := Lib.hid h0k
  obtain ⟨n, hnn⟩ : ∃ n, h.n = n := ⟨_, rfl⟩
  rw [hnn] at C0 HP SZ h0 ⊢
  have HNN := Lib.hid hnn
  have n0 : ((n : Int) == 0) = false := by simp; omega
  have HBa : Hid (Below w.heap.size w (w.alloc (.cells #[.int .i64 kk, .int .i64 kn, .string ks] 35))) := Lib.hid ((Below.refl _ w).alloc (Nat.le_refl _) _)
  have c0 := (HBa.out.cell (p := ⟨b, 0, none⟩) LB.out).trans C0.out
  clear hin hpw hz hk h0k hnn
  go_enter Tryz.func105, Tryz.ntmps105
  go_wp2_with (first | (go_at_call 68; (with_reducible refine (Nd_SizeI b g h _ (HH.out.belowM HBa.out)).mono ?_); rintro e w1 ⟨rfl, rfl⟩; rw [HNN.out]))
  have S0 : ((w.alloc (.cells #[.int .i64 kk, .int .i64 kn, .string ks] 35)).drew).cell? ⟨b, 0, none⟩ = some (.slice (some ⟨g, 0, none⟩) n n) ∧ ((w.alloc (.cells #[.int .i64 kk, .int .i64 kn, .string ks] 35)).drew).cell? ⟨w.heap.size, 0, none⟩ = some (.int .i64 kk) ∧ ((w.alloc (.cells #[.int .i64 kk, .int .i64 kn, .string ks] 35)).drew).cell? ⟨w.heap.size, 1, none⟩ = some (.int .i64 kn) ∧ ((w.alloc (.cells #[.int .i64 kk, .int .i64 kn, .string ks] 35)).drew).cell? ⟨w.heap.size, 2, none⟩ = some (.string ks) ∧ Below (w.heap.size + 1) (w.alloc (.cells #[.int .i64 kk, .int .i64 kn, .string ks] 35)) ((w.alloc (.cells #[.int .i64 kk, .int .i64 kn, .string ks] 35)).drew) :=
    ⟨c0, by simp [go_sem], by simp [go_sem], by simp [go_sem], (Below.refl _ _).drew⟩
  go_region_held3 (fun wq => wq.cell? ⟨b, 0, none⟩ = some (.slice (some ⟨g, 0, none⟩) n n) ∧ wq.cell? ⟨w.heap.size, 0, none⟩ = some (.int .i64 kk) ∧ wq.cell? ⟨w.heap.size, 1, none⟩ = some (.int .i64 kn) ∧ wq.cell? ⟨w.heap.size, 2, none⟩ = some (.string ks) ∧ Below (w.heap.size + 1) (w.alloc (.cells #[.int .i64 kk, .int .i64 kn, .string ks] 35)) wq)
    (first | exact S0 | assumption | exact ⟨(hb3.cell (p := ⟨b, 0, none⟩) (by have := LB.out; simp [go_sem]; omega)).trans S0.1, (hb3.cell (p := ⟨w.heap.size, 0, none⟩) (by simp [go_sem])).trans S0.2.1, (hb3.cell (p := ⟨w.heap.size, 1, none⟩) (by simp [go_sem])).trans S0.2.2.1, (hb3.cell (p := ⟨w.heap.size, 2, none⟩) (by simp [go_sem])).trans S0.2.2.2.1, S0.2.2.2.2.trans (hb3.mono (by simp [go_sem]))⟩)
    (first | (go_at_call 116; (refine (hash_Main ⟨kk, kn, ks⟩ HK.out H0K.out n h0 SZ.out HP.out ((w.alloc (.cells #[.int .i64 kk, .int .i64 kn, .string ks] 35)).drew)).mono ?_); rintro e w3 ⟨rfl, hb3⟩))
  go_wp2
  go_ret2
  exact ⟨rfl, (HBa.out.drew).trans (hb3.mono (by simp [go_sem]))⟩
theorem Nd_main (G : Nat → Prop) (b : Nat) (h : PH) (kk kn : Int) (ks : ByteArray) (hk : okV ⟨kk, kn, ks⟩ = true) (h0k : kk ≠ 0) (h0 : 0 < h.n) (w : World) (H : NodesAt G w b h) : Calls Tryz.prog 105 #[.pointer (some ⟨b, 0, none⟩), .agg #[.int .i64 kk, .int .i64 kn, .string ks]] w fun e w' => e = .returned (.tuple #[.int .i64 (mpos h.n ⟨kk, kn, ks⟩), .bool true]) ∧ Below w.heap.size w w' := by
  obtain ⟨hg, g, hin, -⟩ := H
  exact Nd_mainI b g h hg.sz (pw_of hg h0) kk kn ks hk h0k h0 w hin
/-- Has k a main position? -/
def PH.has (h : PH) (k : V) : Prop := 0 < h.n ∧ okV k = true ∧ k.k ≠ 0
instance (h : PH) (k : V) : Decidable (h.has k) := inferInstanceAs (Decidable (0 < h.n ∧ okV k = true ∧ k.k ≠ 0))
set_option maxHeartbeats 1000000 in
theorem Nd_main_bad (G : Nat → Prop) (b : Nat) (h : PH) (kk kn : Int) (ks : ByteArray) (er : Int) (he : okV ⟨kk, kn, ks⟩ = false ∧ er = 2 ∨ okV ⟨kk, kn, ks⟩ = true ∧ kk = 0 ∧ er = 9) (h0 : 0 < h.n) (w : World) (H : NodesAt G w b h) : Calls Tryz.prog 105 #[.pointer (some ⟨b, 0, none⟩), .agg #[.int .i64 kk, .int .i64 kn, .string ks]] w fun e w' => e = .returned (.tuple #[.int .i64 0, .bool false]) ∧ Below w.heap.size w w' := by
  have HH := Lib.hid H
  obtain ⟨hg, g, hin, -⟩ := H
  have C0 := Lib.hid hin.c0
  have LB := Lib.hid hin.lb
  have HP := Lib.hid (pw_of hg h0); have SZ := Lib.hid hg.sz
  obtain ⟨n, hnn⟩ : ∃ n, h.n = n := ⟨_, rfl⟩
  rw [hnn] at C0 HP SZ h0
  have HNN := Lib.hid hnn
  have n0 : ((n : Int) == 0) = false := by simp; omega
  have HBa : Hid (Below w.heap.size w (w.alloc (.cells #[.int .i64 kk, .int .i64 kn, .string ks] 35))) := Lib.hid ((Below.refl _ w).alloc (Nat.le_refl _) _)
  have c0 := (HBa.out.cell (p := ⟨b, 0, none⟩) LB.out).trans C0.out
  have HM : Hid (∀ W : World, Calls Tryz.prog 116 #[.agg #[.int .i64 kk, .int .i64 kn, .string ks], .int .i64 n] W fun e w' => e = .returned (.tuple #[.int .i64 0, .int .i64 er]) ∧ Below W.heap.size W w') := Lib.hid (fun W => by
    rcases he with ⟨h1, rfl⟩ | ⟨h1, rfl, rfl⟩
    · exact hash_Main_form kk kn ks h1 n W
    · exact hash_Main_nil kn ks h1 n h0 SZ.out HP.out W)
  have her : (er == 0) = false := by rcases he with ⟨-, rfl⟩ | ⟨-, -, rfl⟩ <;> rfl
  clear hin hg hnn he
  go_enter Tryz.func105, Tryz.ntmps105
  go_wp2_with (first | (go_at_call 68; (with_reducible refine (Nd_Size G b h _ (HH.out.below HBa.out)).mono ?_); rintro e w1 ⟨rfl, rfl⟩; rw [HNN.out]))
  have S0 : ((w.alloc (.cells #[.int .i64 kk, .int .i64 kn, .string ks] 35)).drew).cell? ⟨b, 0, none⟩ = some (.slice (some ⟨g, 0, none⟩) n n) ∧ ((w.alloc (.cells #[.int .i64 kk, .int .i64 kn, .string ks] 35)).drew).cell? ⟨w.heap.size, 0, none⟩ = some (.int .i64 kk) ∧ ((w.alloc (.cells #[.int .i64 kk, .int .i64 kn, .string ks] 35)).drew).cell? ⟨w.heap.size, 1, none⟩ = some (.int .i64 kn) ∧ ((w.alloc (.cells #[.int .i64 kk, .int .i64 kn, .string ks] 35)).drew).cell? ⟨w.heap.size, 2, none⟩ = some (.string ks) ∧ Below (w.heap.size + 1) (w.alloc (.cells #[.int .i64 kk, .int .i64 kn, .string ks] 35)) ((w.alloc (.cells #[.int .i64 kk, .int .i64 kn, .string ks] 35)).drew) :=
    ⟨c0, by simp [go_sem], by simp [go_sem], by simp [go_sem], (Below.refl _ _).drew⟩
  go_region_held3 (fun wq => wq.cell? ⟨b, 0, none⟩ = some (.slice (some ⟨g, 0, none⟩) n n) ∧ wq.cell? ⟨w.heap.size, 0, none⟩ = some (.int .i64 kk) ∧ wq.cell? ⟨w.heap.size, 1, none⟩ = some (.int .i64 kn) ∧ wq.cell? ⟨w.heap.size, 2, none⟩ = some (.string ks) ∧ Below (w.heap.size + 1) (w.alloc (.cells #[.int .i64 kk, .int .i64 kn, .string ks] 35)) wq)
    (first | exact S0 | assumption | exact ⟨(hb3.cell (p := ⟨b, 0, none⟩) (by have := LB.out; simp [go_sem]; omega)).trans S0.1, (hb3.cell (p := ⟨w.heap.size, 0, none⟩) (by simp [go_sem])).trans S0.2.1, (hb3.cell (p := ⟨w.heap.size, 1, none⟩) (by simp [go_sem])).trans S0.2.2.1, (hb3.cell (p := ⟨w.heap.size, 2, none⟩) (by simp [go_sem])).trans S0.2.2.2.1, S0.2.2.2.2.trans (hb3.mono (by simp [go_sem]))⟩)
    (first | (go_at_call 116; (refine (HM.out ((w.alloc (.cells #[.int .i64 kk, .int .i64 kn, .string ks] 35)).drew)).mono ?_); rintro e w3 ⟨rfl, hb3⟩))
  go_wp2
  go_ret2
  exact ⟨rfl, (HBa.out.drew).trans (hb3.mono (by simp [go_sem]))⟩
/-- A value without a main position. -/
theorem Nd_main_no (G : Nat → Prop) (b : Nat) (h : PH) (kk kn : Int) (ks : ByteArray) (hno : ¬ h.has ⟨kk, kn, ks⟩) (w : World) (H : NodesAt G w b h) : Calls Tryz.prog 105 #[.pointer (some ⟨b, 0, none⟩), .agg #[.int .i64 kk, .int .i64 kn, .string ks]] w fun e w' => e = .returned (.tuple #[.int .i64 0, .bool false]) ∧ Below w.heap.size w w' := by
  by_cases h0 : h.n = 0
  · exact Nd_main_none G b h kk kn ks h0 w H
  · cases e : okV ⟨kk, kn, ks⟩ with
    | false => exact Nd_main_bad G b h kk kn ks 2 (.inl ⟨e, rfl⟩) (by omega) w H
    | true =>
      by_cases e0 : kk = 0
      · exact Nd_main_bad G b h kk kn ks 9 (.inr ⟨e, e0, rfl⟩) (by omega) w H
      · exact absurd ⟨by omega, e, e0⟩ hno
end Go.Proofs.YteheolefemlcgaaGreat
/- Contracts of the package nodes: Find. -/
namespace Go.Proofs.YteheolefemlcgaaGreat
open Go.RowKit
set_option linter.unusedVariables false
set_option linter.unusedSimpArgs false

theorem V_ext {a b : V} (h1 : a.k = b.k) (h2 : a.n = b.n) (h3 : a.s = b.s) : a = b := by cases a; cases b; simp at h1 h2 h3; subst h1 h2 h3; rfl
theorem seek_at {f : Nat → V} {k : V} : ∀ {l : List Nat} {t : Nat} (ht : t < l.length), f l[t] = k → (∀ s (hs : s < t), f (l[s]'(by omega)) ≠ k) → PH.seek f k l = some t
  | [], t, ht, _, _ => by simp at ht
  | a :: l, 0, ht, h, _ => by unfold PH.seek; exact if_pos h
  | a :: l, t + 1, ht, h, hn => by
    unfold PH.seek
    have h0 : f a ≠ k := hn 0 (by omega)
    rw [if_neg h0, seek_at (t := t) (by simpa using ht) h (fun s hs => hn (s + 1) (by omega))]
    rfl
theorem seek_no {f : Nat → V} {k : V} : ∀ {l : List Nat}, (∀ s (hs : s < l.length), f l[s] ≠ k) → PH.seek f k l = none
  | [], _ => rfl
  | a :: l, h => by
    unfold PH.seek
    have h0 : f a ≠ k := h 0 (by simp)
    rw [if_neg h0, seek_no (fun s hs => h (s + 1) (by simpa using hs))]
    rfl
theorem toList_inj {a b : ByteArray} (h : a.toList = b.toList) : a = b := by
  rw [Lib.toList_data, Lib.toList_data] at h
  cases a with
  | mk x => cases b with
    | mk y =>
      have : x = y := Array.toList_inj.1 h
      rw [this]
/-- The node's number that a search comes to, -1: none. -/
def atI (o : Option Nat) : Int := match o with | some i => (i : Int) | none => -1
set_option maxRecDepth 100000 in
set_option maxHeartbeats 1600000 in
theorem Nd_Find (G : Nat → Prop) (b : Nat) (h : PH) (kk kn : Int) (ks : ByteArray) (hk : okV ⟨kk, kn, ks⟩ = true) (h0k : kk ≠ 0) (h0 : 0 < h.n) (w : World) (H : NodesAt G w b h) (at' : Int) (rd : Nat) (ha : atI (h.find (mpos h.n) ⟨kk, kn, ks⟩).1 = at') (hr : (h.find (mpos h.n) ⟨kk, kn, ks⟩).2 = rd) :
    Calls Tryz.prog 76 #[.pointer (some ⟨b, 0, none⟩), .agg #[.int .i64 kk, .int .i64 kn, .string ks]] w fun e w' => e = .returned (.tuple #[.int .i64 at', .int .i64 rd]) ∧ Below w.heap.size w w' := by
  have HH := Lib.hid H
  obtain ⟨hg, g, hin, -⟩ := H
  have HG := Lib.hid hg; have HIN := Lib.hid hin
  have HK := Lib.hid hk; have H0K := Lib.hid h0k; have H0 := Lib.hid h0
  have HBa : Hid (Below w.heap.size w (w.alloc (.cells #[.int .i64 kk, .int .i64 kn, .string ks] 35))) := Lib.hid ((Below.refl _ w).alloc (Nat.le_refl _) _)
  have HC : Hid ((w.alloc (.cells #[.int .i64 kk, .int .i64 kn, .string ks] 35)).cell? ⟨w.heap.size, 0, none⟩ = some (.int .i64 kk) ∧ (w.alloc (.cells #[.int .i64 kk, .int .i64 kn, .string ks] 35)).cell? ⟨w.heap.size, 1, none⟩ = some (.int .i64 kn) ∧ (w.alloc (.cells #[.int .i64 kk, .int .i64 kn, .string ks] 35)).cell? ⟨w.heap.size, 2, none⟩ = some (.string ks)) := Lib.hid (by refine ⟨?_, ?_, ?_⟩ <;> simp [go_sem])
  have hmlt := hg.lt h0 ⟨kk, kn, ks⟩
  have hpnd := PH.path_nodup hg.ok ⟨kk, kn, ks⟩
  have hplen := PH.path_len hg.ok ⟨kk, kn, ks⟩ hmlt
  have hplt := PH.path_lt hg.ok ⟨kk, kn, ks⟩ hmlt
  obtain ⟨r, hhead⟩ := PH.path_head hg.ok ⟨kk, kn, ks⟩
  have HSZ := Lib.hid hg.sz
  have HNX : Hid (∀ t (ht : t < (h.path (mpos h.n) ⟨kk, kn, ks⟩).length), h.nxt (mpos h.n) (h.path (mpos h.n) ⟨kk, kn, ks⟩)[t] = PH.lnk ((h.path (mpos h.n) ⟨kk, kn, ks⟩)[t + 1]?) (h.path (mpos h.n) ⟨kk, kn, ks⟩)[t]) := Lib.hid (PH.path_next hg.ok ⟨kk, kn, ks⟩)
  unfold PH.find at ha hr
  generalize hp : h.path (mpos h.n) ⟨kk, kn, ks⟩ = p at hplen hplt hhead HNX ha hr hpnd
  have HND := Lib.hid hpnd
  have HPLT := Lib.hid hplt; have HPL := Lib.hid hplen
  have hp0 : 0 < p.length := by rw [hhead]; simp
  have HE0 : Hid (p[0]'hp0 = mpos h.n ⟨kk, kn, ks⟩) := Lib.hid (by simp [hhead])
  have HA := Lib.hid ha; have HR := Lib.hid hr
  clear hp hk h0k hin hg ha hr hplt hhead hmlt hpnd
  go_enter Tryz.func76, Tryz.ntmps76
  go_wp2_with (first | (go_at_call 105; (refine (Nd_main G b h kk kn ks HK.out H0K.out H0.out _ (HH.out.below HBa.out)).mono ?_); rintro e w1 ⟨rfl, hb1⟩; have HB1 := Lib.hid hb1; clear hb1))
  have HBw1 := Lib.hid (HBa.out.trans (HB1.out.mono (by simp [go_sem])))
  have HB1' : Hid (Below (w.heap.size + 1) (w.alloc (.cells #[.int .i64 kk, .int .i64 kn, .string ks] 35)) w1) := Lib.hid (HB1.out.mono (by simp [go_sem]))
  rw [← HE0.out]
  go_loopw [6, 8] (fun a rds wr => ∃ (t : Nat) (ht : t < p.length), a = .int .i64 ((p[t] : Nat) : Int) ∧ rds = .int .i64 ((t : Int) + 1) ∧ Hid (∀ s (hs : s < t), h.key (p[s]'(by omega)) ≠ ⟨kk, kn, ks⟩) ∧ Hid (Below (w.heap.size + 1) (w.alloc (.cells #[.int .i64 kk, .int .i64 kn, .string ks] 35)) wr)) (fun _ rds _ => p.length + 1 - (intOf rds).toNat)
  case atStart => exact ⟨0, hp0, rfl, rfl, Lib.hid (fun s hs => by omega), HB1'⟩
  case round =>
    obtain ⟨t, ht, rfl, rfl, HNK, HBR⟩ := hrel
    have hBw : Below w.heap.size w wr := HBa.out.trans (HBR.out.mono (by omega))
    have c0 := (hBw.cell (p := ⟨b, 0, none⟩) HIN.out.lb).trans HIN.out.c0
    have x0 := (HBR.out.cell (p := ⟨w.heap.size, 0, none⟩) (by simp)).trans HC.out.1
    have x1 := (HBR.out.cell (p := ⟨w.heap.size, 1, none⟩) (by simp)).trans HC.out.2.1
    have x2 := (HBR.out.cell (p := ⟨w.heap.size, 2, none⟩) (by simp)).trans HC.out.2.2
    have hin := HPLT.out p[t] (List.getElem_mem ht)
    obtain ⟨k0, k1, k2⟩ := HIN.out.key p[t] hin
    obtain ⟨v0, v1, v2⟩ := HIN.out.val p[t] hin
    have nx := HIN.out.nx p[t] hin
    rw [HNX.out t ht] at nx
    replace k0 := (hBw.cell (p := ⟨g, _, none⟩) HIN.out.lg).trans k0
    replace k1 := (hBw.cell (p := ⟨g, _, none⟩) HIN.out.lg).trans k1
    replace k2 := (hBw.cell (p := ⟨g, _, none⟩) HIN.out.lg).trans k2
    replace v0 := (hBw.cell (p := ⟨g, _, none⟩) HIN.out.lg).trans v0
    replace v1 := (hBw.cell (p := ⟨g, _, none⟩) HIN.out.lg).trans v1
    replace v2 := (hBw.cell (p := ⟨g, _, none⟩) HIN.out.lg).trans v2
    replace nx := (hBw.cell (p := ⟨g, _, none⟩) HIN.out.lg).trans nx
    have hwl : w.heap.size < wr.heap.size := by have := HBR.out.size; simp [go_sem] at this; omega
    have hgl : g < wr.heap.size := Nat.lt_of_lt_of_le HIN.out.lg hBw.size
    have hbl : b < wr.heap.size := Nat.lt_of_lt_of_le HIN.out.lb hBw.size
    have hgw : ¬ (g = wr.heap.size) := by omega
    have hww : ¬ (w.heap.size = wr.heap.size) := by omega
    obtain ⟨n, hnn⟩ : ∃ n, h.n = n := ⟨_, rfl⟩
    rw [hnn] at c0 hin
    have hnI : ((p[t] : Nat) : Int) < (n : Int) := by omega
    obtain ⟨i, hi⟩ : ∃ i, p[t] = i := ⟨_, rfl⟩
    rw [hi] at k0 k1 k2 v0 v1 v2 nx hnI hin ⊢
    have HI := Lib.hid hi
    clear hi
    generalize (h.val i).k = vk at v0
    generalize (h.val i).n = vn at v1
    generalize (h.val i).s = vs at v2
    by_cases hkey : h.key i = ⟨kk, kn, ks⟩
    · rw [hkey] at k0 k1 k2
      have HKEY := Lib.hid hkey
      clear hkey
      generalize PH.lnk p[t + 1]? i = nn at nx
      simp only at k0 k1 k2
      go_wp2
      go_ret2
      have hsk := seek_at ht (by rw [HI.out]; exact HKEY.out) HNK.out
      have h1 := HA.out; have h2 := HR.out
      rw [hsk] at h1 h2
      simp only at h1 h2
      rw [List.getElem?_eq_getElem ht, HI.out] at h1
      refine ⟨?_, (hBw.alloc hBw.size _)⟩
      rw [← h1, ← h2]
      rfl
    · have HNK2 : Hid (∀ s (hs : s < t + 1), h.key (p[s]'(by omega)) ≠ ⟨kk, kn, ks⟩) := Lib.hid (fun s hs => by
        by_cases e : s = t
        · subst e; rw [HI.out]; exact hkey
        · exact HNK.out s (by omega))
      have hk3 : ¬ ((h.key i).k = kk ∧ (h.key i).n = kn ∧ (h.key i).s = ks) := fun e => hkey (V_ext e.1 e.2.1 e.2.2)
      generalize (h.key i).k = ik at k0 hk3
      generalize (h.key i).n = inn at k1 hk3
      generalize (h.key i).s = is at k2 hk3
      clear hkey
      have h3 : ((ik == kk) = false) ∨ (kk = ik ∧ (inn == kn) = false) ∨ (kk = ik ∧ kn = inn ∧ ¬ is.toList = ks.toList ∧ (is.toList == ks.toList) = false) := by
        by_cases e1 : ik = kk
        · by_cases e2 : inn = kn
          · have e3 : ¬ is = ks := fun e3 => hk3 ⟨e1, e2, e3⟩
            exact .inr (.inr ⟨e1.symm, e2.symm, fun e => e3 (toList_inj e), by simpa using fun e => e3 (toList_inj e)⟩)
          · exact .inr (.inl ⟨e1.symm, by simpa using e2⟩)
        · exact .inl (by simpa using e1)
      have MEA : Hid (p.length + 1 - (intOf (Value.int .i64 ((t : Int) + 1 + 1))).toNat < p.length + 1 - (intOf (Value.int .i64 ((t : Int) + 1))).toNat) := Lib.hid (by simp [intOf]; omega)
      have RDS : Hid (Value.int .i64 ((t : Int) + 1 + 1) = Value.int .i64 (((t + 1 : Nat) : Int) + 1)) := Lib.hid (by simp)
      clear hk3
      rcases h3 with e1 | ⟨rfl, e1⟩ | ⟨rfl, rfl, e1, e2⟩
      · cases hnx : p[t + 1]? with
        | none =>
          rw [hnx] at nx
          have nx2 : wr.cell? ⟨g, i * 7 + 6, none⟩ = some (.int .i64 0) := nx
          have HLE : Hid (p.length = t + 1) := Lib.hid (by have := List.getElem?_eq_none_iff.1 hnx; omega)
          clear nx hnx
          go_wp2
          go_ret2
          have hsk := seek_no (f := h.key) (k := ⟨kk, kn, ks⟩) (l := p) (fun s hs => HNK2.out s (by have := HLE.out; omega))
          have h1 := HA.out
          have h2 := HR.out
          rw [hsk] at h1 h2
          simp only [HLE.out] at h1 h2
          refine ⟨?_, (hBw.alloc hBw.size _)⟩
          rw [← h1, ← h2]
          rfl
        | some jn =>
          obtain ⟨ht1, hj1⟩ := List.getElem?_eq_some_iff.1 hnx
          rw [hnx] at nx
          have nx2 : wr.cell? ⟨g, i * 7 + 6, none⟩ = some (.int .i64 ((jn : Int) - i)) := nx
          have hji : jn ≠ i := by
            have hpw := List.pairwise_iff_getElem.1 (List.nodup_iff_pairwise_ne.1 HND.out) t (t + 1) ht ht1 (by omega)
            rw [HI.out, hj1] at hpw
            exact fun e => hpw e.symm
          have hjlt := HPLT.out jn (by rw [← hj1]; exact List.getElem_mem ht1)
          have hsz := HSZ.out
          obtain ⟨dx, hdx⟩ : ∃ dx : Int, (jn : Int) - i = dx := ⟨_, rfl⟩
          rw [hdx] at nx2
          have d1 : (dx == 0) = false := by simp; omega
          have wa : wrap64 ((i : Int) + dx) = (jn : Int) := by unfold wrap64; omega
          have wt : wrap64 ((t : Int) + 1 + 1) = (t : Int) + 1 + 1 := by unfold wrap64; omega
          have HT1 := Lib.hid ht1; have HJ1 := Lib.hid hj1
          have HBN := Lib.hid (fun o : Obj => HBR.out.alloc (by have := HBR.out.size; simp [go_sem] at this; omega) o)
          clear nx hnx hji hsz hjlt hj1 hdx
          have HWT := Lib.hid wt; have HWA := Lib.hid wa
          go_wp2
          rw [HWA.out, HWT.out]
          have hm : p.length + 1 - (intOf (Value.int .i64 ((t : Int) + 1 + 1))).toNat < p.length + 1 - (intOf (Value.int .i64 ((t : Int) + 1))).toNat := MEA.out
          have hr : Value.int .i64 ((t : Int) + 1 + 1) = Value.int .i64 (((t + 1 : Nat) : Int) + 1) := RDS.out
          exact ⟨⟨t + 1, ht1, congrArg (fun n : Nat => Value.int .i64 (n : Int)) HJ1.out.symm, hr, HNK2, Lib.hid (HBN.out _)⟩, hm⟩
      · cases hnx : p[t + 1]? with
        | none =>
          rw [hnx] at nx
          have nx2 : wr.cell? ⟨g, i * 7 + 6, none⟩ = some (.int .i64 0) := nx
          have HLE : Hid (p.length = t + 1) := Lib.hid (by have := List.getElem?_eq_none_iff.1 hnx; omega)
          clear nx hnx
          go_wp2
          go_ret2
          have hsk := seek_no (f := h.key) (k := ⟨kk, kn, ks⟩) (l := p) (fun s hs => HNK2.out s (by have := HLE.out; omega))
          have h1 := HA.out
          have h2 := HR.out
          rw [hsk] at h1 h2
          simp only [HLE.out] at h1 h2
          refine ⟨?_, (hBw.alloc hBw.size _)⟩
          rw [← h1, ← h2]
          rfl
        | some jn =>
          obtain ⟨ht1, hj1⟩ := List.getElem?_eq_some_iff.1 hnx
          rw [hnx] at nx
          have nx2 : wr.cell? ⟨g, i * 7 + 6, none⟩ = some (.int .i64 ((jn : Int) - i)) := nx
          have hji : jn ≠ i := by
            have hpw := List.pairwise_iff_getElem.1 (List.nodup_iff_pairwise_ne.1 HND.out) t (t + 1) ht ht1 (by omega)
            rw [HI.out, hj1] at hpw
            exact fun e => hpw e.symm
          have hjlt := HPLT.out jn (by rw [← hj1]; exact List.getElem_mem ht1)
          have hsz := HSZ.out
          obtain ⟨dx, hdx⟩ : ∃ dx : Int, (jn : Int) - i = dx := ⟨_, rfl⟩
          rw [hdx] at nx2
          have d1 : (dx == 0) = false := by simp; omega
          have wa : wrap64 ((i : Int) + dx) = (jn : Int) := by unfold wrap64; omega
          have wt : wrap64 ((t : Int) + 1 + 1) = (t : Int) + 1 + 1 := by unfold wrap64; omega
          have HT1 := Lib.hid ht1; have HJ1 := Lib.hid hj1
          have HBN := Lib.hid (fun o : Obj => HBR.out.alloc (by have := HBR.out.size; simp [go_sem] at this; omega) o)
          clear nx hnx hji hsz hjlt hj1 hdx
          have HWT := Lib.hid wt; have HWA := Lib.hid wa
          go_wp2
          rw [HWA.out, HWT.out]
          have hm : p.length + 1 - (intOf (Value.int .i64 ((t : Int) + 1 + 1))).toNat < p.length + 1 - (intOf (Value.int .i64 ((t : Int) + 1))).toNat := MEA.out
          have hr : Value.int .i64 ((t : Int) + 1 + 1) = Value.int .i64 (((t + 1 : Nat) : Int) + 1) := RDS.out
          exact ⟨⟨t + 1, ht1, congrArg (fun n : Nat => Value.int .i64 (n : Int)) HJ1.out.symm, hr, HNK2, Lib.hid (HBN.out _)⟩, hm⟩
      · cases hnx : p[t + 1]? with
        | none =>
          rw [hnx] at nx
          have nx2 : wr.cell? ⟨g, i * 7 + 6, none⟩ = some (.int .i64 0) := nx
          have HLE : Hid (p.length = t + 1) := Lib.hid (by have := List.getElem?_eq_none_iff.1 hnx; omega)
          clear nx hnx
          go_wp2
          go_ret2
          have hsk := seek_no (f := h.key) (k := ⟨kk, kn, ks⟩) (l := p) (fun s hs => HNK2.out s (by have := HLE.out; omega))
          have h1 := HA.out
          have h2 := HR.out
          rw [hsk] at h1 h2
          simp only [HLE.out] at h1 h2
          refine ⟨?_, (hBw.alloc hBw.size _)⟩
          rw [← h1, ← h2]
          rfl
        | some jn =>
          obtain ⟨ht1, hj1⟩ := List.getElem?_eq_some_iff.1 hnx
          rw [hnx] at nx
          have nx2 : wr.cell? ⟨g, i * 7 + 6, none⟩ = some (.int .i64 ((jn : Int) - i)) := nx
          have hji : jn ≠ i := by
            have hpw := List.pairwise_iff_getElem.1 (List.nodup_iff_pairwise_ne.1 HND.out) t (t + 1) ht ht1 (by omega)
            rw [HI.out, hj1] at hpw
            exact fun e => hpw e.symm
          have hjlt := HPLT.out jn (by rw [← hj1]; exact List.getElem_mem ht1)
          have hsz := HSZ.out
          obtain ⟨dx, hdx⟩ : ∃ dx : Int, (jn : Int) - i = dx := ⟨_, rfl⟩
          rw [hdx] at nx2
          have d1 : (dx == 0) = false := by simp; omega
          have wa : wrap64 ((i : Int) + dx) = (jn : Int) := by unfold wrap64; omega
          have wt : wrap64 ((t : Int) + 1 + 1) = (t : Int) + 1 + 1 := by unfold wrap64; omega
          have HT1 := Lib.hid ht1; have HJ1 := Lib.hid hj1
          have HBN := Lib.hid (fun o : Obj => HBR.out.alloc (by have := HBR.out.size; simp [go_sem] at this; omega) o)
          clear nx hnx hji hsz hjlt hj1 hdx
          have HWT := Lib.hid wt; have HWA := Lib.hid wa
          go_wp2
          rw [HWA.out, HWT.out]
          have hm : p.length + 1 - (intOf (Value.int .i64 ((t : Int) + 1 + 1))).toNat < p.length + 1 - (intOf (Value.int .i64 ((t : Int) + 1))).toNat := MEA.out
          have hr : Value.int .i64 ((t : Int) + 1 + 1) = Value.int .i64 (((t + 1 : Nat) : Int) + 1) := RDS.out
          exact ⟨⟨t + 1, ht1, congrArg (fun n : Nat => Value.int .i64 (n : Int)) HJ1.out.symm, hr, HNK2, Lib.hid (HBN.out _)⟩, hm⟩
theorem Nd_Find_no (G : Nat → Prop) (b : Nat) (h : PH) (kk kn : Int) (ks : ByteArray) (hno : ¬ h.has ⟨kk, kn, ks⟩) (w : World) (H : NodesAt G w b h) :
    Calls Tryz.prog 76 #[.pointer (some ⟨b, 0, none⟩), .agg #[.int .i64 kk, .int .i64 kn, .string ks]] w fun e w' => e = .returned (.tuple #[.int .i64 (-1), .int .i64 0]) ∧ Below w.heap.size w w' := by
  have HH := Lib.hid H
  have HNO := Lib.hid hno
  have HBa : Hid (Below w.heap.size w (w.alloc (.cells #[.int .i64 kk, .int .i64 kn, .string ks] 35))) := Lib.hid ((Below.refl _ w).alloc (Nat.le_refl _) _)
  clear H hno
  go_enter Tryz.func76, Tryz.ntmps76
  go_wp2_with (first | (go_at_call 105; (refine (Nd_main_no G b h kk kn ks HNO.out _ (HH.out.below HBa.out)).mono ?_); rintro e w1 ⟨rfl, hb1⟩))
  go_ret2
  exact ⟨rfl, HBa.out.trans (hb1.mono (by simp [go_sem]))⟩
/-- What Find answers for any value. -/
def PH.findA (h : PH) (k : V) : Option Nat × Nat := if h.has k then h.find (mpos h.n) k else (none, 0)
theorem Nd_FindA (G : Nat → Prop) (b : Nat) (h : PH) (kk kn : Int) (ks : ByteArray) (w : World) (H : NodesAt G w b h) (at' : Int) (rd : Nat) (ha : atI (h.findA ⟨kk, kn, ks⟩).1 = at') (hr : (h.findA ⟨kk, kn, ks⟩).2 = rd) :
    Calls Tryz.prog 76 #[.pointer (some ⟨b, 0, none⟩), .agg #[.int .i64 kk, .int .i64 kn, .string ks]] w fun e w' => e = .returned (.tuple #[.int .i64 at', .int .i64 rd]) ∧ Below w.heap.size w w' := by
  unfold PH.findA at ha hr
  by_cases hh : h.has ⟨kk, kn, ks⟩
  · rw [if_pos hh] at ha hr
    exact Nd_Find G b h kk kn ks hh.2.1 hh.2.2 hh.1 w H at' rd ha hr
  · rw [if_neg hh] at ha hr
    subst ha hr
    exact Nd_Find_no G b h kk kn ks hh w H
end Go.Proofs.YteheolefemlcgaaGreat
/- Contracts of the package nodes: Get. -/
namespace Go.Proofs.YteheolefemlcgaaGreat
open Go.RowKit
set_option linter.unusedVariables false
set_option linter.unusedSimpArgs false

/-- What a search for k finds. -/
def PH.get (h : PH) (k : V) : V := match (h.findA k).1 with | some i => h.val i | none => nilV
theorem find_lt {h : PH} (hg : h.good) (h0 : 0 < h.n) (k : V) (i : Nat) (hf : (h.find (mpos h.n) k).1 = some i) : i < h.n := by
  unfold PH.find at hf
  cases e : PH.seek h.key k (h.path (mpos h.n) k) with
  | none => rw [e] at hf; simp at hf
  | some t =>
    rw [e] at hf
    simp only at hf
    exact PH.path_lt hg.ok k (hg.lt h0 k) i (List.mem_of_getElem? hf)
theorem findA_lt {h : PH} (hg : h.good) (k : V) (i : Nat) (hf : (h.findA k).1 = some i) : i < h.n := by
  unfold PH.findA at hf
  by_cases hh : h.has k
  · rw [if_pos hh] at hf; exact find_lt hg hh.1 k i hf
  · rw [if_neg hh] at hf; simp at hf
set_option maxRecDepth 100000 in
set_option maxHeartbeats 1600000 in
theorem Nd_Get (G : Nat → Prop) (b : Nat) (h : PH) (kk kn : Int) (ks : ByteArray) (w : World) (H : NodesAt G w b h) (vk vn : Int) (vs : ByteArray) (rd : Nat) (hv : h.get ⟨kk, kn, ks⟩ = ⟨vk, vn, vs⟩) (hr : (h.findA ⟨kk, kn, ks⟩).2 = rd) :
    Calls Tryz.prog 65 #[.pointer (some ⟨b, 0, none⟩), .agg #[.int .i64 kk, .int .i64 kn, .string ks]] w fun e w' => e = .returned (.tuple #[.agg #[.int .i64 vk, .int .i64 vn, .string vs], .int .i64 rd]) ∧ Below w.heap.size w w' := by
  have HH := Lib.hid H
  obtain ⟨hg, g, hin, -⟩ := H
  have HG := Lib.hid hg; have HIN := Lib.hid hin
  have HR := Lib.hid hr
  have HBa : Hid (Below w.heap.size w ((w.alloc (.cells #[.int .i64 kk, .int .i64 kn, .string ks] 35)).alloc (.cells #[.int .i64 0, .int .i64 0, .string ByteArray.empty] 35))) := Lib.hid (((Below.refl _ w).alloc (Nat.le_refl _) _).alloc (by simp [go_sem]) _)
  have HZ : Hid (((w.alloc (.cells #[.int .i64 kk, .int .i64 kn, .string ks] 35)).alloc (.cells #[.int .i64 0, .int .i64 0, .string ByteArray.empty] 35)).cell? ⟨w.heap.size + 1, 0, none⟩ = some (.int .i64 0) ∧ ((w.alloc (.cells #[.int .i64 kk, .int .i64 kn, .string ks] 35)).alloc (.cells #[.int .i64 0, .int .i64 0, .string ByteArray.empty] 35)).cell? ⟨w.heap.size + 1, 1, none⟩ = some (.int .i64 0) ∧ ((w.alloc (.cells #[.int .i64 kk, .int .i64 kn, .string ks] 35)).alloc (.cells #[.int .i64 0, .int .i64 0, .string ByteArray.empty] 35)).cell? ⟨w.heap.size + 1, 2, none⟩ = some (.string ByteArray.empty) ∧ (∀ i, ((w.alloc (.cells #[.int .i64 kk, .int .i64 kn, .string ks] 35)).alloc (.cells #[.int .i64 0, .int .i64 0, .string ByteArray.empty] 35)).frozen? ⟨w.heap.size + 1, i, none⟩ = false) ∧ w.heap.size + 1 < ((w.alloc (.cells #[.int .i64 kk, .int .i64 kn, .string ks] 35)).alloc (.cells #[.int .i64 0, .int .i64 0, .string ByteArray.empty] 35)).heap.size) := Lib.hid (by refine ⟨?_, ?_, ?_, fun i => ?_, ?_⟩ <;> simp [go_sem])
  unfold PH.get at hv
  cases hf : (h.findA ⟨kk, kn, ks⟩).1 with
  | none =>
    rw [hf] at hv
    have HA : Hid (atI (h.findA ⟨kk, kn, ks⟩).1 = -1) := Lib.hid (by rw [hf]; rfl)
    obtain ⟨rfl, rfl, rfl⟩ : 0 = vk ∧ 0 = vn ∧ (⟨#[]⟩ : ByteArray) = vs := by simpa [nilV] using hv
    clear hin hg hr hv hf
    go_enter Tryz.func65, Tryz.ntmps65
    go_wp2_with (first | (go_at_call 76; (refine (Nd_FindA G b h kk kn ks _ (HH.out.below HBa.out) (-1) rd HA.out HR.out).mono ?_); rintro e w1 ⟨rfl, hb1⟩; obtain ⟨y0, y1, y2, y3, y4⟩ := HZ.out; have z0 := (hb1.cell (p := ⟨w.heap.size + 1, 0, none⟩) y4).trans y0; have z1 := (hb1.cell (p := ⟨w.heap.size + 1, 1, none⟩) y4).trans y1; have z2 := (hb1.cell (p := ⟨w.heap.size + 1, 2, none⟩) y4).trans y2; have z3 := (hb1.frozen (p := ⟨w.heap.size + 1, 0, none⟩) y4).trans (y3 0); have z4 := (hb1.frozen (p := ⟨w.heap.size + 1, 1, none⟩) y4).trans (y3 1); have z5 := (hb1.frozen (p := ⟨w.heap.size + 1, 2, none⟩) y4).trans (y3 2); have HB1 := Lib.hid hb1; clear hb1 y0 y1 y2 y3 y4; have HBw := Lib.hid (HBa.out.trans (HB1.out.mono (by simp [go_sem]; omega)))))
    exact bodyPost_ret (v := .tuple #[.agg #[.int .i64 0, .int .i64 0, .string ⟨#[]⟩], .int .i64 rd]) (by simp [results, Tryz.results65, go_sem, cell_set_self, *]) rfl ⟨rfl, (((HBw.out.setCell (by simp) _).setCell (by simp) _).setCell (by simp) _)⟩
  | some i =>
    rw [hf] at hv
    have hv2 : h.val i = ⟨vk, vn, vs⟩ := hv
    have HA : Hid (atI (h.findA ⟨kk, kn, ks⟩).1 = (i : Int)) := Lib.hid (by rw [hf]; rfl)
    have hi := findA_lt hg ⟨kk, kn, ks⟩ i hf
    obtain ⟨q0, q1, q2⟩ := hin.val i hi
    rw [hv2] at q0 q1 q2
    have q3 := hin.c0
    obtain ⟨n, hnn⟩ : ∃ n, h.n = n := ⟨_, rfl⟩
    rw [hnn] at q3 hi
    have hiI : (i : Int) < (n : Int) := by omega
    have HQ := Lib.hid q0; have HQ1 := Lib.hid q1; have HQ2 := Lib.hid q2; have HQ3 := Lib.hid q3
    have LG := Lib.hid hin.lg; have LB := Lib.hid hin.lb
    have d0 : decide ((i : Int) < 0) = false := by simp
    clear hin hg hr hv hf hv2 q0 q1 q2 q3 hnn
    go_enter Tryz.func65, Tryz.ntmps65
    go_wp2_with (first | (go_at_call 76; (refine (Nd_FindA G b h kk kn ks _ (HH.out.below HBa.out) (i : Int) rd HA.out HR.out).mono ?_); rintro e w1 ⟨rfl, hb1⟩; obtain ⟨y0, y1, y2, y3, y4⟩ := HZ.out; have z0 := (hb1.cell (p := ⟨w.heap.size + 1, 0, none⟩) y4).trans y0; have z1 := (hb1.cell (p := ⟨w.heap.size + 1, 1, none⟩) y4).trans y1; have z2 := (hb1.cell (p := ⟨w.heap.size + 1, 2, none⟩) y4).trans y2; have z3 := (hb1.frozen (p := ⟨w.heap.size + 1, 0, none⟩) y4).trans (y3 0); have z4 := (hb1.frozen (p := ⟨w.heap.size + 1, 1, none⟩) y4).trans (y3 1); have z5 := (hb1.frozen (p := ⟨w.heap.size + 1, 2, none⟩) y4).trans (y3 2); have HB1 := Lib.hid hb1; clear hb1 y0 y1 y2 y3 y4; have HBw := Lib.hid (HBa.out.trans (HB1.out.mono (by simp [go_sem]; omega))); have c0 := (HBw.out.cell (p := ⟨b, 0, none⟩) LB.out).trans HQ3.out; have v0 := (HBw.out.cell (p := ⟨g, i * 7 + 3, none⟩) LG.out).trans HQ.out; have v1 := (HBw.out.cell (p := ⟨g, i * 7 + 4, none⟩) LG.out).trans HQ1.out; have v2 := (HBw.out.cell (p := ⟨g, i * 7 + 5, none⟩) LG.out).trans HQ2.out))
    exact bodyPost_ret (v := .tuple #[.agg #[.int .i64 vk, .int .i64 vn, .string vs], .int .i64 rd]) (by simp [results, Tryz.results65, go_sem, cell_set_self, *]) rfl ⟨rfl, (((HBw.out.setCell (by simp) _).setCell (by simp) _).setCell (by simp) _)⟩
end Go.Proofs.YteheolefemlcgaaGreat
/- Contracts of the package nodes: room. -/
namespace Go.Proofs.YteheolefemlcgaaGreat
open Go.RowKit
set_option linter.unusedVariables false
set_option linter.unusedSimpArgs false

theorem NdIn.freed {w : World} {b g : Nat} {h : PH} (H : NdIn w b g h) (f : Nat) : NdIn (w.setCell ⟨b, 1, none⟩ (.int .i64 (f : Int))) b g { h with free := f } := by
  have cg : ∀ i, (w.setCell ⟨b, 1, none⟩ (.int .i64 (f : Int))).cell? ⟨g, i, none⟩ = w.cell? ⟨g, i, none⟩ := fun i => World.cell?_of_block (a := ⟨g, i, none⟩) (Below.heap_setCell _ _ _ _ H.ne.symm)
  refine ⟨?_, ?_, fun i hi => ?_, fun i hi => ?_, fun i hi => (cg _).trans (H.nx i hi), fun i => (frozen_set _ _ _ _).trans (H.fb i), fun i => (frozen_set _ _ _ _).trans (H.fg i), by rw [sz_set]; exact H.lg, H.ne⟩
  · rw [cell_other _ _ _ _ _ (by decide)]; exact H.c0
  · rw [cell_set_self, H.c1]; rfl
  · obtain ⟨a, c, d⟩ := H.key i hi; exact ⟨(cg _).trans a, (cg _).trans c, (cg _).trans d⟩
  · obtain ⟨a, c, d⟩ := H.val i hi; exact ⟨(cg _).trans a, (cg _).trans c, (cg _).trans d⟩
theorem NdIn.below {w w' : World} {b g : Nat} {h : PH} (H : NdIn w b g h) (hb : Below w.heap.size w w') : NdIn w' b g h := H.keep (hb.block b H.lb) (hb.block g H.lg)
/-- What room answers. -/
def PH.roomI (h : PH) : Int := atI (h.roomF h.free)
theorem roomF_step (h : PH) (f : Nat) (ho : h.occ f) : h.roomF (f + 1) = h.roomF f := by unfold PH.roomF; rw [if_pos ho]; cases f <;> rfl
theorem roomF_here (h : PH) (f : Nat) (ho : ¬ h.occ f) : h.roomF (f + 1) = some f := by unfold PH.roomF; rw [if_neg ho]
def freeOf (w : World) (b : Nat) : Nat := match w.cell? ⟨b, 1, none⟩ with | some (.int _ n) => n.toNat | _ => 0
theorem freeOf_eq {w : World} {b g : Nat} {h : PH} (H : NdIn w b g h) : freeOf w b = h.free := by unfold freeOf; rw [H.c1]; rfl
set_option maxRecDepth 100000 in
set_option maxHeartbeats 1600000 in
theorem Nd_room (b g : Nat) (h : PH) (hf : h.free ≤ h.n) (hs : h.n ≤ 65536) (w : World) (H : NdIn w b g h) :
    Calls Tryz.prog 119 #[.pointer (some ⟨b, 0, none⟩)] w fun e w' => e = .returned (.int .i64 h.roomI) ∧ NdIn w' b g { h with free := (h.roomF h.free).getD 0 } ∧ Kp (fun q => q = b) w w' := by
  have H0 := Lib.hid H
  unfold PH.roomI
  obtain ⟨o, ho⟩ : ∃ o, h.roomF h.free = o := ⟨_, rfl⟩
  rw [ho]
  have HO := Lib.hid ho
  obtain ⟨r, hr⟩ : ∃ r : Int, atI o = r := ⟨_, rfl⟩
  rw [hr]
  have HR := Lib.hid hr
  clear H ho hr
  go_enter Tryz.func119, Tryz.ntmps119
  go_wp2
  go_loopw [] (fun wr => ∃ f : Nat, f ≤ h.free ∧ Hid (h.roomF f = o) ∧ Hid (NdIn wr b g { h with free := f }) ∧ Hid (Kp (fun q => q = b) w wr)) (fun wr => freeOf wr b)
  case atStart => exact ⟨h.free, Nat.le_refl _, HO, H0, Lib.hid (Kp.refl _ _)⟩
  case round =>
    obtain ⟨f, hff, HRF, HI, HK⟩ := hrel
    have c0 := HI.out.c0
    have c1 := HI.out.c1
    have fb := HI.out.fb 1
    change wr.cell? ⟨b, 0, none⟩ = some (.slice (some ⟨g, 0, none⟩) h.n h.n) at c0
    change wr.cell? ⟨b, 1, none⟩ = some (.int .i64 (f : Int)) at c1
    cases f with
    | zero =>
      have hn : o = none := by rw [← HRF.out]; rfl
      have hr2 : (-1 : Int) = r := by rw [← HR.out, hn]; rfl
      have HHE := Lib.hid hn; have HR2 := Lib.hid hr2
      clear hn hr2
      go_wp2
      go_ret
      exact ⟨by rw [← HR2.out]; rfl, by rw [HHE.out]; exact HI.out, HK.out⟩
    | succ f =>
      have HI2 := Lib.hid (HI.out.freed f)
      have ws : wrap64 (((f + 1 : Nat) : Int) - 1) = (f : Int) := by unfold wrap64; omega
      have hpos : decide ((0 : Int) < ((f + 1 : Nat) : Int)) = true := by simp
      have wf : wrap64 (f : Int) = f := by unfold wrap64; omega
      go_wp2
      have hfn : f < h.n := by omega
      have hK2 := Lib.hid (HK.out.set ⟨b, 1, none⟩ (.inl rfl) (.int .i64 (f : Int)))
      clear c0 c1 fb
      generalize wr.setCell ⟨b, 1, none⟩ (.int .i64 (f : Int)) = W at HI2 hK2 ⊢
      have c0 := HI2.out.c0
      have c1 := HI2.out.c1
      obtain ⟨k0, k1, k2⟩ := HI2.out.key f hfn
      obtain ⟨v0, v1, v2⟩ := HI2.out.val f hfn
      have nx := HI2.out.nx f hfn
      change W.cell? ⟨b, 0, none⟩ = some (.slice (some ⟨g, 0, none⟩) h.n h.n) at c0
      change W.cell? ⟨b, 1, none⟩ = some (.int .i64 (f : Int)) at c1
      change W.cell? ⟨g, f * 7, none⟩ = some (.int .i64 (h.key f).k) at k0
      change W.cell? ⟨g, f * 7 + 1, none⟩ = some (.int .i64 (h.key f).n) at k1
      change W.cell? ⟨g, f * 7 + 2, none⟩ = some (.string (h.key f).s) at k2
      change W.cell? ⟨g, f * 7 + 3, none⟩ = some (.int .i64 (h.val f).k) at v0
      change W.cell? ⟨g, f * 7 + 4, none⟩ = some (.int .i64 (h.val f).n) at v1
      change W.cell? ⟨g, f * 7 + 5, none⟩ = some (.string (h.val f).s) at v2
      obtain ⟨n, hnn⟩ : ∃ n, h.n = n := ⟨_, rfl⟩
      rw [hnn] at c0
      have hfI : (f : Int) < (n : Int) := by omega
      obtain ⟨kk, hkk⟩ : ∃ kk, (h.key f).k = kk := ⟨_, rfl⟩
      rw [hkk] at k0
      generalize (h.key f).n = kn at k1
      generalize (h.key f).s = ks at k2
      generalize (h.val f).k = vk at v0
      generalize (h.val f).n = vn at v1
      generalize (h.val f).s = vs at v2
      generalize PH.nxt _ _ _ = xx at nx
      have HKK := Lib.hid hkk
      clear hkk hnn
      obtain ⟨qq, hqq⟩ : ∃ qq, (kk == 0) = qq := ⟨_, rfl⟩
      have HQQ := Lib.hid hqq
      clear hqq
      go_still_tail 10, (by kernel_rfl)
      change wpList _ _ _ _ _ W.drew
      have HID := Lib.hid (HI2.out.below ((Below.refl _ W).drew))
      have HKD := Lib.hid (hK2.out.below ((Below.refl _ W).drew))
      clear c0 c1 k0 k1 k2 v0 v1 v2 nx HI2 hK2
      generalize W.drew = WD at HID HKD ⊢
      cases qq with
      | true =>
        have ho : ¬ h.occ f := by unfold PH.occ; rw [HKK.out]; have := HQQ.out; simpa using this
        have ho2 : some f = o := by rw [← HRF.out, roomF_here h f ho]
        have hr2 : (f : Int) = r := by rw [← HR.out, ← ho2]; rfl
        have HO2 := Lib.hid ho2; have HR2 := Lib.hid hr2
        clear ho ho2 hr2
        go_wp2_with (first | (go_at_call 118; (with_reducible refine (Nd_empty kk kn ks vk vn vs xx true HQQ.out _).mono ?_); rintro e w2 ⟨rfl, hb2⟩; have HI3 := Lib.hid (HID.out.below hb2); have HK3 := Lib.hid (HKD.out.below hb2); have c1 : w2.cell? ⟨b, 1, none⟩ = some (.int .i64 (f : Int)) := HI3.out.c1; clear hb2))
        go_ret
        exact ⟨by rw [← HR2.out]; rfl, by rw [← HO2.out]; exact HI3.out, HK3.out⟩
      | false =>
        have ho : h.occ f := by unfold PH.occ; rw [HKK.out]; have := HQQ.out; simpa using this
        have ho2 : h.roomF f = o := by rw [← HRF.out, roomF_step h f ho]
        have HO2 := Lib.hid ho2
        have HFR := Lib.hid (freeOf_eq HI.out)
        clear ho ho2
        go_wp2_with (first | (go_at_call 118; (with_reducible refine (Nd_empty kk kn ks vk vn vs xx false HQQ.out _).mono ?_); rintro e w2 ⟨rfl, hb2⟩; have HI3 := Lib.hid (HID.out.below hb2); have HK3 := Lib.hid (HKD.out.below hb2); clear hb2))
        go_roundw
        case rel => exact ⟨f, by omega, HO2, HI3, HK3⟩
        case measure => rw [freeOf_eq HI3.out, HFR.out]; exact Nat.lt_succ_self _
end Go.Proofs.YteheolefemlcgaaGreat
/- Contracts of the package nodes: link. -/
namespace Go.Proofs.YteheolefemlcgaaGreat
open Go.RowKit
set_option linter.unusedVariables false
set_option linter.unusedSimpArgs false

/-- Of block g only the seven cells of node f have turned; new blocks. -/
structure NdPut (w w' : World) (g f : Nat) (k v : V) (x : Int) : Prop where
  kp : Kp (fun q => q = g) w w'
  new : w'.cell? ⟨g, f * 7, none⟩ = some (.int .i64 k.k) ∧ w'.cell? ⟨g, f * 7 + 1, none⟩ = some (.int .i64 k.n) ∧ w'.cell? ⟨g, f * 7 + 2, none⟩ = some (.string k.s) ∧ w'.cell? ⟨g, f * 7 + 3, none⟩ = some (.int .i64 v.k) ∧ w'.cell? ⟨g, f * 7 + 4, none⟩ = some (.int .i64 v.n) ∧ w'.cell? ⟨g, f * 7 + 5, none⟩ = some (.string v.s) ∧ w'.cell? ⟨g, f * 7 + 6, none⟩ = some (.int .i64 x)
  old : ∀ j, j < f * 7 ∨ f * 7 + 7 ≤ j → w'.cell? ⟨g, j, none⟩ = w.cell? ⟨g, j, none⟩
  fg : ∀ j, w'.frozen? ⟨g, j, none⟩ = w.frozen? ⟨g, j, none⟩
theorem NdPut.below {w w1 w' : World} {g f : Nat} {k v : V} {x : Int} (H : NdPut w w1 g f k v x) (hb : Below w1.heap.size w1 w') (hg : g < w1.heap.size) : NdPut w w' g f k v x := by
  obtain ⟨a, c, d, e, i, j, l⟩ := H.new
  have hc : ∀ o, w'.cell? ⟨g, o, none⟩ = w1.cell? ⟨g, o, none⟩ := fun o => hb.cell (p := ⟨g, o, none⟩) hg
  exact ⟨H.kp.below hb, ⟨(hc _).trans a, (hc _).trans c, (hc _).trans d, (hc _).trans e, (hc _).trans i, (hc _).trans j, (hc _).trans l⟩, fun o ho => (hc o).trans (H.old o ho), fun o => (hb.frozen (p := ⟨g, o, none⟩) hg).trans (H.fg o)⟩
theorem ndput7 (w : World) (g f : Nat) (k v : V) (x : Int) (hc : ∀ j, j < 7 → (w.cell? ⟨g, f * 7 + j, none⟩).isSome = true) :
    NdPut w (((((((w.setCell ⟨g, f * 7, none⟩ (.int .i64 k.k)).setCell ⟨g, f * 7 + 1, none⟩ (.int .i64 k.n)).setCell ⟨g, f * 7 + 2, none⟩ (.string k.s)).setCell ⟨g, f * 7 + 3, none⟩ (.int .i64 v.k)).setCell ⟨g, f * 7 + 4, none⟩ (.int .i64 v.n)).setCell ⟨g, f * 7 + 5, none⟩ (.string v.s)).setCell ⟨g, f * 7 + 6, none⟩ (.int .i64 x)) g f k v x := by
  have e : (((((((w.setCell ⟨g, f * 7, none⟩ (.int .i64 k.k)).setCell ⟨g, f * 7 + 1, none⟩ (.int .i64 k.n)).setCell ⟨g, f * 7 + 2, none⟩ (.string k.s)).setCell ⟨g, f * 7 + 3, none⟩ (.int .i64 v.k)).setCell ⟨g, f * 7 + 4, none⟩ (.int .i64 v.n)).setCell ⟨g, f * 7 + 5, none⟩ (.string v.s)).setCell ⟨g, f * 7 + 6, none⟩ (.int .i64 x)) = w.setCells g (f * 7) [.int .i64 k.k, .int .i64 k.n, .string k.s, .int .i64 v.k, .int .i64 v.n, .string v.s, .int .i64 x] := rfl
  rw [e]
  have hin := World.cell?_setCells_in g [.int .i64 k.k, .int .i64 k.n, .string k.s, .int .i64 v.k, .int .i64 v.n, .string v.s, .int .i64 x] (f * 7) w (fun j hj => hc j (by simpa using hj))
  refine ⟨?_, ⟨hin 0 (by simp), hin 1 (by simp), hin 2 (by simp), hin 3 (by simp), hin 4 (by simp), hin 5 (by simp), hin 6 (by simp)⟩, fun j hj => World.cell?_setCells_out g _ _ _ ⟨g, j, none⟩ (fun _ _ => by simpa using hj), fun j => World.frozen?_setCells g _ _ _ _⟩
  rw [← e]
  have h0 : Kp (fun q => q = g) w w := Kp.refl _ _
  have h1 := h0.set ⟨g, f * 7, none⟩ (.inl rfl) (.int .i64 k.k)
  have h2 := h1.set ⟨g, f * 7 + 1, none⟩ (.inl rfl) (.int .i64 k.n)
  have h3 := h2.set ⟨g, f * 7 + 2, none⟩ (.inl rfl) (.string k.s)
  have h4 := h3.set ⟨g, f * 7 + 3, none⟩ (.inl rfl) (.int .i64 v.k)
  have h5 := h4.set ⟨g, f * 7 + 4, none⟩ (.inl rfl) (.int .i64 v.n)
  have h6 := h5.set ⟨g, f * 7 + 5, none⟩ (.inl rfl) (.string v.s)
  exact h6.set ⟨g, f * 7 + 6, none⟩ (.inl rfl) (.int .i64 x)
/-- The seven cells of a node in a block. -/
structure C7 (w : World) (a o : Nat) (k v : V) (x : Int) : Prop where
  c0 : w.cell? ⟨a, o, none⟩ = some (.int .i64 k.k)
  c1 : w.cell? ⟨a, o + 1, none⟩ = some (.int .i64 k.n)
  c2 : w.cell? ⟨a, o + 2, none⟩ = some (.string k.s)
  c3 : w.cell? ⟨a, o + 3, none⟩ = some (.int .i64 v.k)
  c4 : w.cell? ⟨a, o + 4, none⟩ = some (.int .i64 v.n)
  c5 : w.cell? ⟨a, o + 5, none⟩ = some (.string v.s)
  c6 : w.cell? ⟨a, o + 6, none⟩ = some (.int .i64 x)
  fz : ∀ i, w.frozen? ⟨a, i, none⟩ = false
  lt : a < w.heap.size
theorem C7.below {w w' : World} {B a o : Nat} {k v : V} {x : Int} (H : C7 w a o k v x) (hb : Below B w w') (hB : a < B) : C7 w' a o k v x := by
  have hc : ∀ o, w'.cell? ⟨a, o, none⟩ = w.cell? ⟨a, o, none⟩ := fun o => hb.cell (p := ⟨a, o, none⟩) hB
  exact ⟨(hc _).trans H.c0, (hc _).trans H.c1, (hc _).trans H.c2, (hc _).trans H.c3, (hc _).trans H.c4, (hc _).trans H.c5, (hc _).trans H.c6, fun i => (hb.frozen (p := ⟨a, i, none⟩) hB).trans (H.fz i), Nat.lt_of_lt_of_le H.lt hb.size⟩
theorem C7.kp {F : Nat → Prop} {w w' : World} {a o : Nat} {k v : V} {x : Int} (H : C7 w a o k v x) (hk : Kp F w w') (hF : ¬ F a) : C7 w' a o k v x := by
  have hh := hk.block a H.lt hF
  have hc : ∀ o, w'.cell? ⟨a, o, none⟩ = w.cell? ⟨a, o, none⟩ := fun o => World.cell?_of_block (a := ⟨a, o, none⟩) hh
  exact ⟨(hc _).trans H.c0, (hc _).trans H.c1, (hc _).trans H.c2, (hc _).trans H.c3, (hc _).trans H.c4, (hc _).trans H.c5, (hc _).trans H.c6, fun i => (World.frozen?_of_block (a := ⟨a, i, none⟩) hh).trans (H.fz i), Nat.lt_of_lt_of_le H.lt hk.size⟩
theorem C7.new (w : World) (k v : V) (x : Int) : C7 (w.alloc (.cells #[.int .i64 k.k, .int .i64 k.n, .string k.s, .int .i64 v.k, .int .i64 v.n, .string v.s, .int .i64 x] 44)) w.heap.size 0 k v x := by
  refine ⟨?_, ?_, ?_, ?_, ?_, ?_, ?_, fun i => ?_, ?_⟩ <;> simp [go_sem]
theorem NdIn.c7 {w : World} {b g : Nat} {h : PH} (H : NdIn w b g h) (i : Nat) (hi : i < h.n) : C7 w g (i * 7) (h.key i) (h.val i) (h.nxt (mpos h.n) i) := by
  obtain ⟨k0, k1, k2⟩ := H.key i hi
  obtain ⟨v0, v1, v2⟩ := H.val i hi
  exact ⟨k0, k1, k2, v0, v1, v2, H.nx i hi, fun j => H.fg j, H.lg⟩
theorem C7.some {w : World} {a m : Nat} {k v : V} {x : Int} (H : C7 w a (m * 7) k v x) (j : Nat) (hj : j < 7) : (w.cell? ⟨a, m * 7 + j, none⟩).isSome = true := by
  match j, hj with
  | 0, _ => exact Option.isSome_iff_exists.2 ⟨_, H.c0⟩
  | 1, _ => exact Option.isSome_iff_exists.2 ⟨_, H.c1⟩
  | 2, _ => exact Option.isSome_iff_exists.2 ⟨_, H.c2⟩
  | 3, _ => exact Option.isSome_iff_exists.2 ⟨_, H.c3⟩
  | 4, _ => exact Option.isSome_iff_exists.2 ⟨_, H.c4⟩
  | 5, _ => exact Option.isSome_iff_exists.2 ⟨_, H.c5⟩
  | 6, _ => exact Option.isSome_iff_exists.2 ⟨_, H.c6⟩
set_option maxRecDepth 100000 in
set_option maxHeartbeats 1600000 in
theorem Nd_linkC (b g n : Nat) (hs : n ≤ 65536) (f m : Nat) (hf : f < n) (hm : m < n) (nk nn : Int) (ns : ByteArray) (vk vn : Int) (vs : ByteArray) (nx : Int) (lk ln : Int) (ls : ByteArray) (lvk lvn : Int) (lvs : ByteArray) (lx : Int) (hlx : -70000 ≤ lx ∧ lx ≤ 70000) (x : Int) (hx : (if lx = 0 then 0 else (m : Int) + lx - f) = x) (w : World) (c0 : w.cell? ⟨b, 0, none⟩ = some (.slice (some ⟨g, 0, none⟩) n n)) (lb : b < w.heap.size) (ne : b ≠ g) (ok ov : V) (ox : Int) (H : C7 w g (f * 7) ok ov ox) :
    Calls Tryz.prog 120 #[.pointer (some ⟨b, 0, none⟩), .int .i64 f, .agg #[.int .i64 nk, .int .i64 nn, .string ns, .int .i64 vk, .int .i64 vn, .string vs, .int .i64 nx], .agg #[.int .i64 lk, .int .i64 ln, .string ls, .int .i64 lvk, .int .i64 lvn, .string lvs, .int .i64 lx], .int .i64 m] w fun e w' => e = .returned (.tuple #[]) ∧ NdPut w w' g f ⟨nk, nn, ns⟩ ⟨vk, vn, vs⟩ x := by
  have HSOME : Hid (∀ j, j < 7 → (w.cell? ⟨g, f * 7 + j, none⟩).isSome = true) := Lib.hid H.some
  have fg0 := H.fz (f * 7); have fg1 := H.fz (f * 7 + 1); have fg2 := H.fz (f * 7 + 2); have fg3 := H.fz (f * 7 + 3); have fg4 := H.fz (f * 7 + 4); have fg5 := H.fz (f * 7 + 5); have fg6 := H.fz (f * 7 + 6)
  obtain ⟨k0, k1, k2, v0, v1, v2, q6, -, lg⟩ := H
  have gb : ¬ (g = b) := fun e => ne e.symm
  generalize ok.k = a0 at k0
  generalize ok.n = a1 at k1
  generalize ok.s = a2 at k2
  generalize ov.k = a3 at v0
  generalize ov.n = a4 at v1
  generalize ov.s = a5 at v2
  have hfI : (f : Int) < (n : Int) := by omega
  have gne : ¬ (g = w.heap.size) := by omega
  have gne1 : ¬ (g = w.heap.size + 1) := by omega
  have bne : ¬ (b = w.heap.size) := by omega
  have bne1 : ¬ (b = w.heap.size + 1) := by omega
  by_cases e0 : lx = 0
  · rw [if_pos e0] at hx
    subst hx e0
    clear hlx ne
    go_enter Tryz.func120, Tryz.ntmps120
    go_wp2
    go_region
    all_goals have hP := ndput7 w g f ⟨nk, nn, ns⟩ ⟨vk, vn, vs⟩ 0 HSOME.out
    all_goals exact bodyPost_end (results_none rfl _ _ _) rfl ⟨rfl, hP.below (((Below.refl _ _).alloc (Nat.le_refl _) _).alloc (by simp [go_sem]) _).drew (by simp [go_sem]; omega)⟩
  · rw [if_neg e0] at hx
    have d0 : (lx == 0) = false := by simpa using e0
    have w1 : wrap64 ((m : Int) + lx) = (m : Int) + lx := by unfold wrap64; omega
    have w2 : wrap64 ((m : Int) + lx - f) = x := by unfold wrap64; omega
    clear hlx e0 hx ne
    go_enter Tryz.func120, Tryz.ntmps120
    go_wp2
    go_region
    all_goals have hP := ndput7 w g f ⟨nk, nn, ns⟩ ⟨vk, vn, vs⟩ x HSOME.out
    all_goals exact bodyPost_end (results_none rfl _ _ _) rfl ⟨rfl, hP.below (((Below.refl _ _).alloc (Nat.le_refl _) _).alloc (by simp [go_sem]) _).drew (by simp [go_sem]; omega)⟩
theorem Nd_link (b g : Nat) (h : PH) (hs : h.n ≤ 65536) (f m : Nat) (hf : f < h.n) (hm : m < h.n) (nk nn : Int) (ns : ByteArray) (vk vn : Int) (vs : ByteArray) (nx : Int) (lk ln : Int) (ls : ByteArray) (lvk lvn : Int) (lvs : ByteArray) (lx : Int) (hlx : -70000 ≤ lx ∧ lx ≤ 70000) (x : Int) (hx : (if lx = 0 then 0 else (m : Int) + lx - f) = x) (w : World) (H : NdIn w b g h) :
    Calls Tryz.prog 120 #[.pointer (some ⟨b, 0, none⟩), .int .i64 f, .agg #[.int .i64 nk, .int .i64 nn, .string ns, .int .i64 vk, .int .i64 vn, .string vs, .int .i64 nx], .agg #[.int .i64 lk, .int .i64 ln, .string ls, .int .i64 lvk, .int .i64 lvn, .string lvs, .int .i64 lx], .int .i64 m] w fun e w' => e = .returned (.tuple #[]) ∧ NdPut w w' g f ⟨nk, nn, ns⟩ ⟨vk, vn, vs⟩ x :=
  Nd_linkC b g h.n hs f m hf hm nk nn ns vk vn vs nx lk ln ls lvk lvn lvs lx hlx x hx w H.c0 H.lb H.ne _ _ _ (H.c7 f hf)
end Go.Proofs.YteheolefemlcgaaGreat
/- A node is laid: what the hash part has become. -/
namespace Go.Proofs.YteheolefemlcgaaGreat
open Go.RowKit
set_option linter.unusedVariables false
set_option linter.unusedSimpArgs false

/-- One node laid anew: the part whose keys, values and links are just so. -/
theorem NdIn.put {w w' : World} {b g f : Nat} {h h' : PH} {k v : V} {x : Int} (H : NdIn w b g h) (P : NdPut w w' g f k v x) (hn : h'.n = h.n) (hfr : h'.free = h.free)
    (hk : ∀ i, i < h.n → h'.key i = if i = f then k else h.key i) (hv : ∀ i, i < h.n → h'.val i = if i = f then v else h.val i) (hx : ∀ i, i < h.n → h'.nxt (mpos h'.n) i = if i = f then x else h.nxt (mpos h.n) i) : NdIn w' b g h' := by
  have hb := P.kp.block b H.lb H.ne
  have cb : ∀ i, w'.cell? ⟨b, i, none⟩ = w.cell? ⟨b, i, none⟩ := fun i => World.cell?_of_block (a := ⟨b, i, none⟩) hb
  obtain ⟨n0, n1, n2, n3, n4, n5, n6⟩ := P.new
  refine ⟨by rw [hn]; exact (cb 0).trans H.c0, by rw [hfr]; exact (cb 1).trans H.c1, fun i hi => ?_, fun i hi => ?_, fun i hi => ?_, fun i => (World.frozen?_of_block (a := ⟨b, i, none⟩) hb).trans (H.fb i), fun i => (P.fg i).trans (H.fg i), Nat.lt_of_lt_of_le H.lg P.kp.size, H.ne⟩
  · rw [hn] at hi
    rw [hk i hi]
    by_cases e : i = f
    · subst e; rw [if_pos rfl]; exact ⟨n0, n1, n2⟩
    · rw [if_neg e]
      obtain ⟨a, c, d⟩ := H.key i hi
      exact ⟨(P.old _ (by omega)).trans a, (P.old _ (by omega)).trans c, (P.old _ (by omega)).trans d⟩
  · rw [hn] at hi
    rw [hv i hi]
    by_cases e : i = f
    · subst e; rw [if_pos rfl]; exact ⟨n3, n4, n5⟩
    · rw [if_neg e]
      obtain ⟨a, c, d⟩ := H.val i hi
      exact ⟨(P.old _ (by omega)).trans a, (P.old _ (by omega)).trans c, (P.old _ (by omega)).trans d⟩
  · rw [hn] at hi
    rw [hx i hi]
    by_cases e : i = f
    · subst e; rw [if_pos rfl]; exact n6
    · rw [if_neg e]; exact (P.old _ (by omega)).trans (H.nx i hi)
/-- A new key at its empty main position. -/
theorem NdIn.placed {w w' : World} {b g m : Nat} {h : PH} {k v : V} (H : NdIn w b g h) (hg : h.ok (mpos h.n)) (hmp : mpos h.n k = m) (ho : ¬ h.occ m) (hk : k.k ≠ 0) (P : NdPut w w' g m k v 0) : NdIn w' b g (h.place m k v) :=
  H.put P rfl rfl (fun i _ => rfl) (fun i _ => rfl) (fun i _ => PH.nxt_place hg m k v hmp ho hk i)
/-- k at f behind m: the node laid, then m's link. -/
theorem NdIn.linkedX {w w1 : World} {b g m f : Nat} {h : PH} {k v : V} {x : Int} (H : NdIn w b g h) (hmf : m ≠ f) (hmn : m < h.n) (hnx : ∀ i, (h.link m f k v).nxt (mpos h.n) i = if i = m then (f : Int) - m else if i = f then x else h.nxt (mpos h.n) i) (P : NdPut w w1 g f k v x) :
    NdIn (w1.setCell ⟨g, m * 7 + 6, none⟩ (.int .i64 ((f : Int) - m))) b g (h.link m f k v) := by
  have hb := P.kp.block b H.lb H.ne
  obtain ⟨n0, n1, n2, n3, n4, n5, n6⟩ := P.new
  have hbb : (w1.setCell ⟨g, m * 7 + 6, none⟩ (.int .i64 ((f : Int) - m))).heap[b]? = w.heap[b]? := (Below.heap_setCell _ _ _ _ H.ne).trans hb
  have cb : ∀ i, (w1.setCell ⟨g, m * 7 + 6, none⟩ (.int .i64 ((f : Int) - m))).cell? ⟨b, i, none⟩ = w.cell? ⟨b, i, none⟩ := fun i => World.cell?_of_block (a := ⟨b, i, none⟩) hbb
  have cg : ∀ j, j ≠ m * 7 + 6 → (w1.setCell ⟨g, m * 7 + 6, none⟩ (.int .i64 ((f : Int) - m))).cell? ⟨g, j, none⟩ = w1.cell? ⟨g, j, none⟩ := fun j hj => cell_other _ _ _ _ _ hj
  refine ⟨(cb 0).trans H.c0, (cb 1).trans H.c1, fun i hi => ?_, fun i hi => ?_, fun i hi => ?_, fun i => (World.frozen?_of_block (a := ⟨b, i, none⟩) hbb).trans (H.fb i), fun i => (frozen_set _ _ _ _).trans ((P.fg i).trans (H.fg i)), by rw [sz_set]; exact Nat.lt_of_lt_of_le H.lg P.kp.size, H.ne⟩
  · have hi' : i < h.n := hi
    show _ = some (Value.int .i64 (PH.upd h.key f k i).k) ∧ _ = some (Value.int .i64 (PH.upd h.key f k i).n) ∧ _ = some (Value.string (PH.upd h.key f k i).s)
    rw [cg _ (by omega), cg _ (by omega), cg _ (by omega)]
    by_cases e : i = f
    · subst e; rw [PH.upd_same]; exact ⟨n0, n1, n2⟩
    · rw [PH.upd_other _ _ _ e]
      obtain ⟨a, c, d⟩ := H.key i hi'
      exact ⟨(P.old _ (by omega)).trans a, (P.old _ (by omega)).trans c, (P.old _ (by omega)).trans d⟩
  · have hi' : i < h.n := hi
    show _ = some (Value.int .i64 (PH.upd h.val f v i).k) ∧ _ = some (Value.int .i64 (PH.upd h.val f v i).n) ∧ _ = some (Value.string (PH.upd h.val f v i).s)
    rw [cg _ (by omega), cg _ (by omega), cg _ (by omega)]
    by_cases e : i = f
    · subst e; rw [PH.upd_same]; exact ⟨n3, n4, n5⟩
    · rw [PH.upd_other _ _ _ e]
      obtain ⟨a, c, d⟩ := H.val i hi'
      exact ⟨(P.old _ (by omega)).trans a, (P.old _ (by omega)).trans c, (P.old _ (by omega)).trans d⟩
  · have hi' : i < h.n := hi
    show _ = some (Value.int .i64 ((h.link m f k v).nxt (mpos h.n) i))
    rw [hnx i]
    by_cases e : i = m
    · subst e
      rw [if_pos rfl, cell_set_self, P.old _ (by omega), H.nx i hi']; rfl
    · rw [if_neg e, cg _ (by omega)]
      by_cases e2 : i = f
      · subst e2; rw [if_pos rfl]; exact n6
      · rw [if_neg e2]; exact (P.old _ (by omega)).trans (H.nx i hi')
theorem NdIn.linked {w w1 : World} {b g m f f0 : Nat} {h : PH} {k v : V} {x : Int} (H : NdIn w b g { h with free := f0 }) (hg : h.ok (mpos h.n)) (hmp : mpos h.n k = m) (ho : h.occ m) (hmo : mpos h.n (h.key m) = m) (hfo : ¬ h.occ f) (hk : k.k ≠ 0) (P : NdPut w w1 g f k v x) (hx : (if h.nxt (mpos h.n) m = 0 then 0 else (m : Int) + h.nxt (mpos h.n) m - f) = x) :
    NdIn (w1.setCell ⟨g, m * 7 + 6, none⟩ (.int .i64 ((f : Int) - m))) b g (({ h with free := f0 } : PH).link m f k v) :=
  H.linkedX (fun e => hfo (e ▸ ho)) (hg.occ_lt ho) (fun i => by
    show (h.link m f k v).nxt (mpos h.n) i = if i = m then (f : Int) - m else if i = f then x else h.nxt (mpos h.n) i
    rw [PH.nxt_link hg m f k v hmp ho hmo hfo hk i, hx]) P
/-- The node at m goes to f (its predecessor p's link first), k takes its place. -/
theorem NdIn.movedX {w w2 w3 : World} {b g m f o p : Nat} {h : PH} {k v : V} {x : Int} (H : NdIn w b g h) (hmf : m ≠ f) (hmn : m < h.n) (hpn : p < h.n) (hpf : p ≠ f) (hpm2 : m ≠ p) (hnx : ∀ i, (h.move m f o k v).nxt (mpos h.n) i = if i = m then 0 else if i = f then x else if i = p then (f : Int) - p else h.nxt (mpos h.n) i)
    (P : NdPut (w.setCell ⟨g, p * 7 + 6, none⟩ (.int .i64 ((f : Int) - p))) w2 g f (h.key m) (h.val m) x) (P2 : NdPut w2 w3 g m k v 0) : NdIn w3 b g (h.move m f o k v) := by
  have hb1 : (w.setCell ⟨g, p * 7 + 6, none⟩ (.int .i64 ((f : Int) - p))).heap[b]? = w.heap[b]? := Below.heap_setCell _ _ _ _ H.ne
  have hb2 := P.kp.block b (by rw [sz_set]; exact H.lb) H.ne
  have hb3 := P2.kp.block b (Nat.lt_of_lt_of_le (by rw [sz_set]; exact H.lb) P.kp.size) H.ne
  have hbb := (hb3.trans hb2).trans hb1
  have cb : ∀ i, w3.cell? ⟨b, i, none⟩ = w.cell? ⟨b, i, none⟩ := fun i => World.cell?_of_block (a := ⟨b, i, none⟩) hbb
  obtain ⟨n0, n1, n2, n3, n4, n5, n6⟩ := P.new
  obtain ⟨r0, r1, r2, r3, r4, r5, r6⟩ := P2.new
  have km : (h.move m f o k v).key m = k := PH.upd_same _ _ _
  have kf : (h.move m f o k v).key f = h.key m := by
    show PH.upd (PH.upd h.key f (h.key m)) m k f = _
    rw [PH.upd_other _ _ _ hmf.symm, PH.upd_same]
  have ko : ∀ i, i ≠ m → i ≠ f → (h.move m f o k v).key i = h.key i := fun i a b => by
    show PH.upd (PH.upd h.key f (h.key m)) m k i = _
    rw [PH.upd_other _ _ _ a, PH.upd_other _ _ _ b]
  have vm : (h.move m f o k v).val m = v := PH.upd_same _ _ _
  have vf : (h.move m f o k v).val f = h.val m := by
    show PH.upd (PH.upd h.val f (h.val m)) m v f = _
    rw [PH.upd_other _ _ _ hmf.symm, PH.upd_same]
  have vo : ∀ i, i ≠ m → i ≠ f → (h.move m f o k v).val i = h.val i := fun i a b => by
    show PH.upd (PH.upd h.val f (h.val m)) m v i = _
    rw [PH.upd_other _ _ _ a, PH.upd_other _ _ _ b]
  have c1 : ∀ j, j ≠ p * 7 + 6 → (w.setCell ⟨g, p * 7 + 6, none⟩ (.int .i64 ((f : Int) - p))).cell? ⟨g, j, none⟩ = w.cell? ⟨g, j, none⟩ := fun j hj => cell_other _ _ _ _ _ hj
  refine ⟨(cb 0).trans H.c0, (cb 1).trans H.c1, fun i hi => ?_, fun i hi => ?_, fun i hi => ?_, fun i => (World.frozen?_of_block (a := ⟨b, i, none⟩) hbb).trans (H.fb i), fun i => ((P2.fg i).trans (P.fg i)).trans ((frozen_set _ _ _ _).trans (H.fg i)), Nat.lt_of_lt_of_le (Nat.lt_of_lt_of_le (by rw [sz_set]; exact H.lg) P.kp.size) P2.kp.size, H.ne⟩
  · have hi' : i < h.n := hi
    by_cases e : i = m
    · subst e; rw [km]; exact ⟨r0, r1, r2⟩
    · by_cases e2 : i = f
      · subst e2; rw [kf, P2.old _ (by omega), P2.old _ (by omega), P2.old _ (by omega)]; exact ⟨n0, n1, n2⟩
      · rw [ko i e e2, P2.old _ (by omega), P2.old _ (by omega), P2.old _ (by omega), P.old _ (by omega), P.old _ (by omega), P.old _ (by omega), c1 _ (by omega), c1 _ (by omega), c1 _ (by omega)]
        exact H.key i hi'
  · have hi' : i < h.n := hi
    by_cases e : i = m
    · subst e; rw [vm]; exact ⟨r3, r4, r5⟩
    · by_cases e2 : i = f
      · subst e2; rw [vf, P2.old _ (by omega), P2.old _ (by omega), P2.old _ (by omega)]; exact ⟨n3, n4, n5⟩
      · rw [vo i e e2, P2.old _ (by omega), P2.old _ (by omega), P2.old _ (by omega), P.old _ (by omega), P.old _ (by omega), P.old _ (by omega), c1 _ (by omega), c1 _ (by omega), c1 _ (by omega)]
        exact H.val i hi'
  · have hi' : i < h.n := hi
    show _ = some (Value.int .i64 ((h.move m f o k v).nxt (mpos h.n) i))
    rw [hnx i]
    by_cases e : i = m
    · subst e; rw [if_pos rfl]; exact r6
    · rw [if_neg e, P2.old _ (by omega)]
      by_cases e2 : i = f
      · subst e2; rw [if_pos rfl]; exact n6
      · rw [if_neg e2, P.old _ (by omega)]
        by_cases e3 : i = p
        · subst e3; rw [if_pos rfl, cell_set_self, H.nx i hi']; rfl
        · rw [if_neg e3, c1 _ (by omega)]; exact H.nx i hi'
theorem NdIn.moved {w w2 w3 : World} {b g m f o p f0 : Nat} {h : PH} {k v : V} {x : Int} (H : NdIn w b g { h with free := f0 }) (hg : h.ok (mpos h.n)) (hmp : mpos h.n k = m) (ho : h.occ m) (hmo : mpos h.n (h.key m) = o) (hom : o ≠ m) (hfo : ¬ h.occ f) (hk : k.k ≠ 0) (hp : p ∈ h.ch o) (hpm : PH.succL (h.ch o) p = some m) (hx : (if h.nxt (mpos h.n) m = 0 then 0 else (m : Int) + h.nxt (mpos h.n) m - f) = x)
    (P : NdPut (w.setCell ⟨g, p * 7 + 6, none⟩ (.int .i64 ((f : Int) - p))) w2 g f (h.key m) (h.val m) x) (P2 : NdPut w2 w3 g m k v 0) : NdIn w3 b g (({ h with free := f0 } : PH).move m f o k v) :=
  H.movedX (fun e => hfo (e ▸ ho)) (hg.occ_lt ho) (hg.mem o p hp).1 (fun e => hfo (e ▸ (hg.mem o p hp).2.1)) (PH.succL_ne (hg.nd o) hpm) (fun i => by
    show (h.move m f o k v).nxt (mpos h.n) i = if i = m then 0 else if i = f then x else if i = p then (f : Int) - p else h.nxt (mpos h.n) i
    rw [PH.nxt_move hg m f o p k v hmp ho hmo hom hfo hk hp hpm i, hx]) P P2
end Go.Proofs.YteheolefemlcgaaGreat
/- Contracts of the package nodes: insert. -/
namespace Go.Proofs.YteheolefemlcgaaGreat
open Go.RowKit
set_option linter.unusedVariables false
set_option linter.unusedSimpArgs false

theorem NdIn.nodes {w : World} {b g : Nat} {h : PH} (H : NdIn w b g h) (hg : h.good) : NodesAt (fun q => q = b ∨ q = g) w b h := ⟨hg, g, H, rfl⟩
/-- insert: no main position. -/
theorem Nd_insert_no (b g : Nat) (h : PH) (hg : h.good) (kk kn : Int) (ks : ByteArray) (vk vn : Int) (vs : ByteArray) (hno : ¬ h.has ⟨kk, kn, ks⟩) (w : World) (H : NdIn w b g h) :
    Calls Tryz.prog 111 #[.pointer (some ⟨b, 0, none⟩), .agg #[.int .i64 kk, .int .i64 kn, .string ks, .int .i64 vk, .int .i64 vn, .string vs, .int .i64 0]] w fun e w' => e = .returned (.int .i64 12) ∧ Below w.heap.size w w' := by
  have HI := Lib.hid H; have HG := Lib.hid hg
  have HNO := Lib.hid hno
  have HBa : Hid (Below w.heap.size w (w.alloc (.cells #[.int .i64 kk, .int .i64 kn, .string ks, .int .i64 vk, .int .i64 vn, .string vs, .int .i64 0] 44))) := Lib.hid ((Below.refl _ w).alloc (Nat.le_refl _) _)
  clear H hg hno
  go_enter Tryz.func111, Tryz.ntmps111
  go_wp2_with (first | (go_at_call 105; (refine (Nd_main_no _ b h kk kn ks HNO.out _ ((HI.out.below HBa.out).nodes HG.out)).mono ?_); rintro e w1 ⟨rfl, hb1⟩))
  go_ret
  exact ⟨rfl, HBa.out.trans (hb1.mono (by simp [go_sem]))⟩
set_option maxRecDepth 100000 in
set_option maxHeartbeats 1600000 in
/-- insert: the main position is empty. -/
theorem Nd_insert_place (b g : Nat) (h : PH) (hg : h.good) (kk kn : Int) (ks : ByteArray) (vk vn : Int) (vs : ByteArray) (hh : h.has ⟨kk, kn, ks⟩) (m : Nat) (hm : mpos h.n ⟨kk, kn, ks⟩ = m) (ho : ¬ h.occ m) (w : World) (H : NdIn w b g h) :
    Calls Tryz.prog 111 #[.pointer (some ⟨b, 0, none⟩), .agg #[.int .i64 kk, .int .i64 kn, .string ks, .int .i64 vk, .int .i64 vn, .string vs, .int .i64 0]] w fun e w' => e = .returned (.int .i64 0) ∧ NdIn w' b g (h.place m ⟨kk, kn, ks⟩ ⟨vk, vn, vs⟩) ∧ Kp (fun q => q = b ∨ q = g) w w' := by
  have HI := Lib.hid H; have HG := Lib.hid hg; have HH := Lib.hid hh; have HM := Lib.hid hm; have HO := Lib.hid ho
  have hml : m < h.n := by rw [← hm]; exact hg.lt hh.1 _
  have HML := Lib.hid hml
  have HBa : Hid (Below w.heap.size w (w.alloc (.cells #[.int .i64 kk, .int .i64 kn, .string ks, .int .i64 vk, .int .i64 vn, .string vs, .int .i64 0] 44))) := Lib.hid ((Below.refl _ w).alloc (Nat.le_refl _) _)
  have HX : Hid (C7 (w.alloc (.cells #[.int .i64 kk, .int .i64 kn, .string ks, .int .i64 vk, .int .i64 vn, .string vs, .int .i64 0] 44)) w.heap.size 0 ⟨kk, kn, ks⟩ ⟨vk, vn, vs⟩ 0) := Lib.hid (C7.new w ⟨kk, kn, ks⟩ ⟨vk, vn, vs⟩ 0)
  have HEMP := Lib.hid (hg.ok.emp m ho)
  obtain ⟨n, hnn⟩ : ∃ n, h.n = n := ⟨_, rfl⟩
  have HNN := Lib.hid hnn
  have hmI : (m : Int) < (n : Int) := by omega
  have e0 : ((0 : Int) == 0) = true := rfl
  clear H hg hh hm ho hml hnn
  go_enter Tryz.func111, Tryz.ntmps111
  go_wp2_with (first
    | (go_at_call 105; (refine (Nd_main _ b h kk kn ks HH.out.2.1 HH.out.2.2 HH.out.1 _ ((HI.out.below HBa.out).nodes HG.out)).mono ?_); rintro e w1 ⟨rfl, hb1⟩; rw [HM.out]; have HB1 := Lib.hid hb1; clear hb1; have HBw := Lib.hid (HBa.out.trans (HB1.out.mono (by simp [go_sem]))); have HI1 := Lib.hid (HI.out.below HBw.out); have HX1 := Lib.hid (HX.out.below HB1.out (by simp [go_sem])); have c0 := HI1.out.c0; rw [HNN.out] at c0; have q := HI1.out.c7 m HML.out; rw [HEMP.out.1, HEMP.out.2] at q; obtain ⟨q0, q1, q2, q3, q4, q5, q6, -, -⟩ := q; generalize PH.nxt _ _ _ = xx at q6; simp only [nilV] at q0 q1 q2 q3 q4 q5)
    | (go_at_call 118; (with_reducible refine (Nd_empty 0 0 _ 0 0 _ xx true e0 _).mono ?_); rintro e w2 ⟨rfl, hb2⟩; clear c0 q0 q1 q2 q3 q4 q5 q6; have HBw2 := Lib.hid (HBw.out.trans (hb2.mono (HBw.out.size))); have HI2 := Lib.hid (HI.out.below HBw2.out); have HX2 := Lib.hid (HX1.out.below hb2 (HX1.out.lt)); have c0 := HI2.out.c0; rw [HNN.out] at c0; obtain ⟨q0, q1, q2, q3, q4, q5, q6, -, lg⟩ := HI2.out.c7 m HML.out; obtain ⟨x0, x1, x2, x3, x4, x5, x6, -, lx⟩ := HX2.out; simp only at x0 x1 x2 x3 x4 x5; simp only [Nat.zero_add] at x0 x1 x2 x3 x4 x5 x6; have fg0 := HI2.out.fg (m * 7); have fg1 := HI2.out.fg (m * 7 + 1); have fg2 := HI2.out.fg (m * 7 + 2); have fg3 := HI2.out.fg (m * 7 + 3); have fg4 := HI2.out.fg (m * 7 + 4); have fg5 := HI2.out.fg (m * 7 + 5); have fg6 := HI2.out.fg (m * 7 + 6); have gb : ¬ (g = b) := fun e => HI2.out.ne e.symm; have gw : ¬ (g = w.heap.size) := fun e => absurd HI.out.lg (by omega); clear hb2))
  go_region
  all_goals have P := ndput7 w2 g m ⟨kk, kn, ks⟩ ⟨vk, vn, vs⟩ 0 (HI2.out.c7 m HML.out).some
  all_goals have HP := Lib.hid P
  all_goals clear P c0 q0 q1 q2 q3 q4 q5 q6
  all_goals go_wp2
  all_goals go_ret
  all_goals exact ⟨rfl, (HI2.out.placed HG.out.ok HM.out HO.out HH.out.2.2 HP.out).below ((Below.refl _ _).drew), ((below_kp HBw2.out : Kp (fun q => q = b ∨ q = g) w w2).trans HP.out.kp (fun q hq => .inl (.inr hq))).below ((Below.refl _ _).drew)⟩
end Go.Proofs.YteheolefemlcgaaGreat
