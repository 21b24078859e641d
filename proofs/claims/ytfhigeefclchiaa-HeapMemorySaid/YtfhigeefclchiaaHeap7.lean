/- The program's heap: Blocks. -/
import Derived.Test.YtfhigeefclchiaaHeap6
import Derived.Shelf.SlIterI.Nil
import Derived.Shelf.SortM.Plain
import Derived.Shelf.SortM.SortNone
import Derived.Ground.GgzProg
import Derived.Ground.SlgmProg
namespace Go.Proofs.Ytfhigeefclchiaa
open Go.RowKit Go.Maps Go.Sort Go.Shelf
set_option linter.unusedVariables false
set_option linter.unusedSimpArgs false

shelf_lay_g SlLaysZI.n7 Ggz 7 at Try 58 as Try.hKeys
shelf_lay_g SlLaysZI.n6 Ggz 6 at Try 50 as Try.hSorted
shelf_lay_g SlLaysM.n5 Slgm 5 at Try 63 as Try.hSort
theorem Try.hSorts (m : Nat) : AnyZI.SortsIn Try.prog Try.hSorted_ren Fence.wide m :=
  ⟨fun blk off cap ss W hH hblk hsz => callsIn_wide.2 (AnyM.slices_Sort_int Try.hSort blk off cap ss W hH hblk hsz),
   fun p cap W => callsIn_wide.2 (AnyM.slices_Sort_int_none Try.hSort p cap W)⟩
set_option maxHeartbeats 1000000 in
theorem Blocks_w (p b nn : Nat) (D0 : DataW Value) (w : World) (hown : w.ownsMap Try.prog 3 tokR b nn D0) (hmax : Maps.size D0 ≤ maxLen) (hbytes : Maps.size D0 * 8 ≤ 140737488355328) (c4 : w.cell? ⟨p, 4, none⟩ = some (.map (some b))) :
    Calls Try.prog 37 #[.pointer (some ⟨p, 0, none⟩)] w fun e w' => ∃ (v : Value) (ss : List Int), e = .returned v ∧ ss.Perm (intKeys D0) ∧
      w'.ownsRow w.heap.size 3 1 v ss.length ((ss.mergeSort (fun x y => decide (x ≤ y))).map encZ) ∧ Below w.heap.size w w' := by
  refine (callsIn_wide (n := 6)).1 ?_
  have hbl := hown.lt
  have hseq : SeqGives Fence.wide 2 Try.prog 66 #[.pointer (some ⟨w.heap.size, 0, none⟩)] encZ (fun ss => ss.Perm (intKeys D0)) (Maps.size D0) (w.alloc (.cells #[.map (some b)] 74)) :=
    AnyZI.keys_gives (ρ := Try.hKeys_ren) { Try.hKeys with } Fence.wide _ trivial rfl (by omega) w.heap.size b nn D0 _ (by simp) (by simp) (by
      obtain ⟨es, clock, hb, Ft, hs, hD⟩ := hown
      exact ⟨es, clock, (Below.heap_alloc _ _ b hbl).trans hb, Ft, hs, hD⟩)
  have cK : ∀ mb W, CallsIn Fence.wide 5 Try.prog 58 #[.map mb] W fun e w' => e = .returned (.func (.func 66) #[] #[.pointer (some ⟨W.heap.size, 0, none⟩)]) ∧ w' = W.alloc (.cells #[.map mb] 74) := fun mb W => AnyZI.keys_in Try.hKeys Fence.wide 5 trivial rfl mb W
  have cS := AnyZI.sorted_in Try.hSorted Fence.wide 5 trivial trivial trivial trivial rfl (by omega) (Try.hSorts _) (enters_of Try.func63 (by kernel_rfl) rfl) 66 #[.pointer (some ⟨w.heap.size, 0, none⟩)] trivial (enters_of Try.func66 (by kernel_rfl) rfl) _ _ hmax hbytes _ hseq
  change CallsIn _ _ Try.prog 50 _ _ _ at cS
  have hfK : Fence.wide.fn 58 := trivial
  have hfS : Fence.wide.fn 50 := trivial
  refine callsIn_of_wp Try.func37 rfl trivial ?_ rfl
  simp only [Try.ntmps37, List.size_toArray, List.length_cons, List.length_nil, Nat.reduceAdd, Nat.reduceSub, Array.replicate_succ, Array.replicate_zero, List.push_toArray, List.append_toArray, List.nil_append, List.cons_append]
  gi_wp2_with (first
    | (gi_at_call 58; refine (cK _ _).mono ?_; rintro e w' ⟨rfl, rfl⟩)
    | (gi_at_call 50; refine cS.mono ?_; rintro e w' ⟨v, ss, rfl, hS, hrow, hnil, hb⟩))
  go_ret
  exact ⟨v, ss, rfl, hS, ownsRow_base_a hrow (by simp), ((Below.refl _ w).alloc (Nat.le_refl _) _).trans (hb.mono (by simp))⟩
theorem sorted_unique (a b : List Int) (hp : a.Perm b) (ha : a.Pairwise (· ≤ ·)) (hb : b.Pairwise (· ≤ ·)) : a = b := hp.eq_of_pairwise (fun x y _ _ h1 h2 => Int.le_antisymm h1 h2) ha hb
theorem up_sorted (n : Nat) : (Cs.up n).Pairwise (· < ·) := by
  unfold Cs.up
  rw [List.pairwise_map]
  exact List.pairwise_lt_range.imp (by intro a b h; omega)
theorem HS.blocks_sorted (h : HS) : h.blocks.Pairwise (· < ·) := (up_sorted _).sublist List.filter_sublist
theorem HS.blocks_mem (h : HS) (k : h.ok) (x : Int) : x ∈ h.blocks ↔ (h.tk x).isSome = true := by
  unfold HS.blocks
  rw [List.mem_filter, Cs.up_mem]
  constructor
  · exact fun h => h.2
  · intro hs
    refine ⟨?_, hs⟩
    cases e : h.tk x with
    | none => rw [e] at hs; simp at hs
    | some n => have := k.tk _ _ e; omega
theorem HS.blocks_len (h : HS) : h.blocks.length ≤ h.sizes.length := by
  unfold HS.blocks
  exact Nat.le_trans (List.length_filter_le _ _) (by rw [Cs.up_length]; omega)
theorem Blocks_c (F : Nat → Prop) (p : Nat) (h : HS) (bl : List Int) (hbl : h.blocks = bl) (hsz : h.sizes.length ≤ 1000000) (w : World) (H : HeapAt F w p h) :
    Calls Try.prog 37 #[.pointer (some ⟨p, 0, none⟩)] w fun e w' => ∃ v, e = .returned v ∧ w'.ownsRow w.heap.size 3 1 v bl.length (bl.map (Value.int .i64)) ∧ Below w.heap.size w w' := by
  subst hbl
  obtain ⟨k, bt, br, sv, rv, hin, -, -⟩ := H
  have hl := h.blocks_len
  obtain ⟨D, hD, hs, hp⟩ := hin.mt.keys h.blocks (h.blocks_sorted.imp (by intro a b h; omega)) (fun x hx => by
    rw [h.blocks_mem k] at hx
    cases e : h.tk x with
    | none => rw [e] at hx; simp at hx
    | some n => have := k.tk _ _ e; unfold In64; omega) (fun x _ => by rw [h.blocks_mem k]; simp)
  refine (Blocks_w p bt _ D w hD (by rw [hs]; unfold maxLen; omega) (by rw [hs]; omega) hin.c4).mono ?_
  rintro e w' ⟨v, ss, rfl, hS, hrow, hb⟩
  refine ⟨v, rfl, ?_, hb⟩
  have hperm : ss.Perm h.blocks := hS.trans hp.symm
  have hss : srt ss = h.blocks := sorted_unique _ _ ((srt_perm ss).trans hperm) (srt_sorted ss) (h.blocks_sorted.imp (by intro a b h; omega))
  rw [hperm.length_eq] at hrow
  change w'.ownsRow w.heap.size 3 1 v h.blocks.length ((srt ss).map encZ) at hrow
  rw [hss] at hrow
  exact hrow
theorem Blocks_nil (w : World) : Calls Try.prog 37 #[.pointer none] w fun e w' => e = .returned (.slice none 0 0) ∧ w = w' := by
  go_enter Try.func37, Try.ntmps37
  go_wp2
  go_ret
  exact ⟨rfl, rfl⟩
theorem Live_nil (w : World) : Calls Try.prog 35 #[.pointer none] w fun e w' => e = .returned (.int .i64 0) ∧ w = w' := by
  go_enter Try.func35, Try.ntmps35
  go_wp2
  go_ret
  exact ⟨rfl, rfl⟩
theorem Laid_nil (w : World) : Calls Try.prog 36 #[.pointer none] w fun e w' => e = .returned (.int .i64 0) ∧ w = w' := by
  go_enter Try.func36, Try.ntmps36
  go_wp2
  go_ret
  exact ⟨rfl, rfl⟩
theorem Give_nil (id : Int) (w : World) : Calls Try.prog 38 #[.pointer none, .int .i64 id] w fun e w' => e = .returned (.int .i64 1) ∧ w = w' := by
  go_enter Try.func38, Try.ntmps38
  go_wp2
  go_ret
  exact ⟨rfl, rfl⟩
theorem room_nil (n : Int) (w : World) : Calls Try.prog 59 #[.pointer none, .int .i64 n] w fun e w' => e = .returned (.int .i64 1) ∧ w = w' := by
  go_enter Try.func59, Try.ntmps59
  go_wp2
  go_ret
  exact ⟨rfl, rfl⟩
theorem Spend_nil (n : Int) (w : World) : Calls Try.prog 39 #[.pointer none, .int .i64 n] w fun e w' => e = .returned (.int .i64 1) ∧ w = w' := by
  go_enter Try.func39, Try.ntmps39
  go_wp2_with (first | (go_at_call 59; (with_reducible refine (room_nil n _).mono ?_); rintro e w1 ⟨rfl, rfl⟩))
  go_ret
  exact ⟨rfl, rfl⟩
end Go.Proofs.Ytfhigeefclchiaa
