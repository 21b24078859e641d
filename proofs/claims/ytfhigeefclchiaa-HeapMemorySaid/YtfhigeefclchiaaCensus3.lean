/- Contracts of the package census: Sizes. -/
import Derived.Test.YtfhigeefclchiaaCensus2
import Derived.Test.YtfhigeefclchiaaIter
import Derived.Lib.SlKeysI
namespace Go.Proofs.Ytfhigeefclchiaa
open Go.RowKit Go.Sort Go.Maps
set_option linter.unusedVariables false
set_option linter.unusedSimpArgs false

def srt (zs : List Int) : List Int := zs.mergeSort fun x y => decide (x ≤ y)
theorem srt_perm (zs : List Int) : (srt zs).Perm zs := List.mergeSort_perm _ _
theorem srt_length (zs : List Int) : (srt zs).length = zs.length := (srt_perm zs).length_eq
theorem srt_sorted (zs : List Int) : (srt zs).Pairwise fun x y => x ≤ y := by
  have := List.pairwise_mergeSort (le := fun x y : Int => decide (x ≤ y)) (by intro a b c; simp; omega) (by intro a b; simp; omega) zs
  exact this.imp (by intro a b h; simpa using h)
theorem keeps_iff (s : List Int) (j : Nat) (h0 : 0 < j) (hj : j < s.length) : Lib.keeps s.toArray j = true ↔ s[j]'hj ≠ s[j - 1]'(by omega) := by
  unfold Lib.keeps
  rw [getElem!_pos s.toArray j (by simpa using hj), getElem!_pos s.toArray (j - 1) (by simp; omega)]
  simp
  omega
/-- What a sorted list is compacted to is shorter just where a number stands twice. -/
theorem compact_iff (zs : List Int) : (Lib.compact (srt zs)).length = zs.length ↔ zs.Nodup := by
  have hs := srt_sorted zs
  rw [List.pairwise_iff_getElem] at hs
  rw [← srt_length zs, ← (srt_perm zs).nodup_iff]
  generalize srt zs = s at hs ⊢
  constructor
  · intro h
    have h1 : ((List.range s.length).filter (Lib.keeps s.toArray)).length = (List.range s.length).length := by
      unfold Lib.compact Lib.compactUpTo at h
      rw [List.length_map] at h
      rw [h, List.length_range]
    rw [List.length_filter_eq_length_iff] at h1
    rw [List.nodup_iff_pairwise_ne, List.pairwise_iff_getElem]
    intro i j hi hj hij
    have hk := (keeps_iff s j (by omega) hj).1 (h1 j (List.mem_range.2 hj))
    have h2 := hs (j - 1) j (by omega) hj (by omega)
    by_cases e : i = j - 1
    · subst e; exact fun h => hk h.symm
    · have h3 := hs i (j - 1) hi (by omega) (by omega)
      intro h; omega
  · intro h
    rw [List.nodup_iff_pairwise_ne, List.pairwise_iff_getElem] at h
    rw [Lib.compact_all]
    intro j hj
    by_cases e : j = 0
    · subst e; exact Lib.keeps_lt_one _ _ (by omega)
    · rw [keeps_iff s j (by omega) hj]
      exact fun h2 => h (j - 1) j (by omega) hj (by omega) h2.symm
theorem compact_le (s : List Int) : (Lib.compact s).length ≤ s.length := by
  unfold Lib.compact Lib.compactUpTo
  rw [List.length_map]
  exact Nat.le_trans (List.length_filter_le _ _) (by simp)
theorem slices_Sorted (Bs : Nat) (sv : Value) (zs : List Int) (hreach : zs.length * 8 ≤ 140737488351232) (w : World) (hBs : Bs < w.heap.size) (hc : w.cell? ⟨Bs, 0, none⟩ = some sv) (hI : IntsIn w.heap.size w sv zs) :
    Calls Try.prog 50 #[.func (.func 64) #[] #[.pointer (some ⟨Bs, 0, none⟩)]] w fun e W' => ∃ v, e = .returned v ∧ W'.ownsRow w.heap.size 3 1 v zs.length ((srt zs).map (Value.int .i64)) ∧ (v = .slice none 0 0 ↔ zs = []) ∧ Below w.heap.size w W' := by
  have HI := Lib.hid hI
  have HC := Lib.hid hc
  clear hI hc
  go_enter Try.func50, Try.ntmps50
  go_wp2_with (first | (go_at_call 62; refine (slices_Collect Bs sv zs hreach _ hBs HC.out HI.out).mono ?_; rintro e W ⟨v, rfl, ho, hn, hb⟩))
  rcases ho.2 with ⟨rfl, hz⟩ | ⟨gb, cap, cur, rfl, hbase, hgb, r1, r2, r3, r4⟩
  · have hz0 : zs = [] := List.eq_nil_of_length_eq_zero hz
    subst hz0
    go_wp2_with (first | (go_at_call 63; refine (Try.slices_Sort_int_none none 0 W).mono ?_; rintro e w' ⟨rfl, rfl⟩))
    go_ret
    exact ⟨.slice none 0 0, rfl, by rw [show srt [] = [] by simp [srt]]; exact ho, by simp, hb⟩
  · have hH : Holds encZ W gb 0 zs.toArray := holds_of_block_i hgb (by simpa using r4)
    have hgl : gb < W.heap.size := (Array.getElem?_eq_some_iff.1 hgb).1
    have hsz : zs.length < 4611686018427387904 := by omega
    have cS := Try.slices_Sort_int gb 0 cap zs W hH hgl hsz
    have R1 := Lib.hid r1; have HG := Lib.hid hgb; have HO := Lib.hid ho; have HH := Lib.hid hH; have R4 := Lib.hid r4
    clear r1 hgb ho hH r4
    go_wp2_with (first | (go_at_call 63; refine cS.mono ?_; rintro e w' ⟨rfl, nn, os, rfl⟩))
    go_ret
    exact ⟨_, rfl, ownsRow_sorted_i (ss := zs) (ts := srt zs) (srt_length zs) hbase HG.out R1.out r2 r3, hn, hb.grown (grownBy_sorted_i _) hb.size (fun j hj => by cases hj; exact hbase)⟩
end Go.Proofs.Ytfhigeefclchiaa
