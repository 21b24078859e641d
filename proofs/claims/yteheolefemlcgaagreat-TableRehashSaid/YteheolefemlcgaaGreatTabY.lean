/- Folded of Tab1, Tab2, Tab3, Tab4, NodeD, Tab5, Tab6. -/
import Derived.Test.YteheolefemlcgaaGreatNodZ
import Derived.Test.YteheolefemlcgaaGreatTabX
import Derived.Test.YteheolefemlcgaaGreatHeaB
import Derived.Test.YteheolefemlcgaaGreatCenA
import Derived.Deep.QuietTactic
import Derived.Lib.SliceRun
import Derived.Maps.AppendAt
/- A table's parts in memory; slot. -/
namespace Go.Proofs.YteheolefemlcgaaGreat
open Go.RowKit
set_option linter.unusedVariables false
set_option linter.unusedSimpArgs false

/-- The parts p in block a: slots in s, the hash part behind b, its nodes in g. -/
structure PartIn (w : World) (a s b g : Nat) (p : PT) : Prop where
  c0 : w.cell? ⟨a, 0, none⟩ = some (.slice (some ⟨s, 0, none⟩) p.sn p.sn)
  c1 : w.cell? ⟨a, 1, none⟩ = some (.pointer (some ⟨b, 0, none⟩))
  c2 : w.cell? ⟨a, 2, none⟩ = some (.int .i64 p.sAt)
  c3 : w.cell? ⟨a, 3, none⟩ = some (.int .i64 p.nAt)
  fa : ∀ i, w.frozen? ⟨a, i, none⟩ = false
  sl : ∀ i, i < p.sn → C3 w s (i * 3) (p.sv i)
  fs : ∀ i, w.frozen? ⟨s, i, none⟩ = false
  ls : s < w.heap.size
  nd : NdIn w b g p.h
  ne : a ≠ s ∧ a ≠ b ∧ a ≠ g ∧ s ≠ b ∧ s ≠ g
/-- The blocks. -/
def PB (a s b g q : Nat) : Prop := q = a ∨ q = s ∨ q = b ∨ q = g
section
variable {w w' : World} {a s b g : Nat} {p : PT}
theorem PartIn.la (H : PartIn w a s b g p) : a < w.heap.size := by obtain ⟨q, o, e, hl⟩ := spot_of_cell H.c0; cases e; exact hl
theorem PartIn.lt (H : PartIn w a s b g p) {q : Nat} (hq : PB a s b g q) : q < w.heap.size := by
  rcases hq with rfl | rfl | rfl | rfl
  · exact H.la
  · exact H.ls
  · exact H.nd.lb
  · exact H.nd.lg
theorem lt_of_block {w w' : World} {q : Nat} (h : w'.heap[q]? = w.heap[q]?) (hl : q < w.heap.size) : q < w'.heap.size := by
  apply Decidable.byContradiction
  intro hn
  rw [Array.getElem?_eq_none (by omega), Array.getElem?_eq_getElem hl] at h
  simp at h
theorem C3.keep {o : Nat} {k : V} (H : C3 w a o k) (hb : w'.heap[a]? = w.heap[a]?) : C3 w' a o k := by
  have hc : ∀ o, w'.cell? ⟨a, o, none⟩ = w.cell? ⟨a, o, none⟩ := fun o => World.cell?_of_block (a := ⟨a, o, none⟩) hb
  exact ⟨(hc _).trans H.c0, (hc _).trans H.c1, (hc _).trans H.c2, fun i => (World.frozen?_of_block (a := ⟨a, i, none⟩) hb).trans (H.fz i), lt_of_block hb H.lt⟩
theorem C3.drew {o : Nat} {k : V} (H : C3 w a o k) : C3 w.drew a o k := H.keep rfl
theorem PartIn.keep (H : PartIn w a s b g p) (hk : ∀ q, PB a s b g q → w'.heap[q]? = w.heap[q]?) : PartIn w' a s b g p := by
  have ha := hk a (.inl rfl); have hs := hk s (.inr (.inl rfl)); have hb := hk b (.inr (.inr (.inl rfl))); have hg := hk g (.inr (.inr (.inr rfl)))
  have ca : ∀ i, w'.cell? ⟨a, i, none⟩ = w.cell? ⟨a, i, none⟩ := fun i => World.cell?_of_block (a := ⟨a, i, none⟩) ha
  exact ⟨(ca _).trans H.c0, (ca _).trans H.c1, (ca _).trans H.c2, (ca _).trans H.c3, fun i => (World.frozen?_of_block (a := ⟨a, i, none⟩) ha).trans (H.fa i), fun i hi => (H.sl i hi).keep hs, fun i => (World.frozen?_of_block (a := ⟨s, i, none⟩) hs).trans (H.fs i), lt_of_block hs H.ls, H.nd.keep hb hg, H.ne⟩
theorem PartIn.below (H : PartIn w a s b g p) (hb : Below w.heap.size w w') : PartIn w' a s b g p := H.keep fun q hq => hb.block q (H.lt hq)
theorem PartIn.kp {F : Nat → Prop} (H : PartIn w a s b g p) (hk : Kp F w w') (hF : ∀ q, PB a s b g q → ¬ F q) : PartIn w' a s b g p := H.keep fun q hq => hk.block q (H.lt hq) (hF q hq)
end
set_option maxHeartbeats 800000 in
/-- slot: not in the array part. -/
theorem part_slot_no (a s b g : Nat) (p : PT) (kk kn : Int) (ks : ByteArray) (hz : p.sn ≤ 65536) (hb : ¬ p.inB ⟨kk, kn, ks⟩) (w : World) (H : PartIn w a s b g p) :
    Calls Tryz.prog 64 #[.pointer (some ⟨a, 0, none⟩), .agg #[.int .i64 kk, .int .i64 kn, .string ks]] w fun e w' => e = .returned (.tuple #[.pointer none, .bool false]) ∧ Below w.heap.size w w' := by
  have hI := H.c0
  have la := H.la
  have HBa := Lib.hid ((Below.refl _ w).alloc (Nat.le_refl _) (.cells #[.int .i64 kk, .int .i64 kn, .string ks] 35))
  have c0 := (HBa.out.cell (p := ⟨a, 0, none⟩) la).trans hI
  have h4 : ((kk == 2) = false ∧ (kk != 2) = true) ∨ (kk = 2 ∧ ¬ ks.toList = [] ∧ ks.toList.isEmpty = false ∧ (!ks.toList.isEmpty) = true) ∨ (kk = 2 ∧ ks.toList = [] ∧ decide (kn < 1) = true) ∨ (kk = 2 ∧ ks.toList = [] ∧ decide (kn < 1) = false ∧ decide ((p.sn : Int) < kn) = true) := by
    by_cases e1 : kk = 2
    · by_cases e2 : ks.toList = []
      · by_cases e3 : kn < 1
        · exact .inr (.inr (.inl ⟨e1, e2, by simpa using e3⟩))
        · refine .inr (.inr (.inr ⟨e1, e2, by simpa using e3, ?_⟩))
          have : ¬ kn ≤ p.sn := fun h => hb ⟨e1, e2, by show 1 ≤ kn; omega, h⟩
          simp; omega
      · exact .inr (.inl ⟨e1, e2, by simpa using e2, by simpa using e2⟩)
    · exact .inl ⟨by simpa using e1, by simpa using e1⟩
  generalize p.sn = n at c0 h4
  clear hI H hb la hz
  rcases h4 with ⟨h1, h1'⟩ | ⟨rfl, h2, h3, h3'⟩ | ⟨rfl, h2, h3⟩ | ⟨rfl, h2, h3, h5⟩
  · go_enter Tryz.func64, Tryz.ntmps64
    go_wp2
    go_region
    all_goals go_wp2
    all_goals go_ret2
    all_goals exact ⟨rfl, HBa.out.drew⟩
  · go_enter Tryz.func64, Tryz.ntmps64
    go_wp2
    go_region
    all_goals go_wp2
    all_goals go_ret2
    all_goals exact ⟨rfl, HBa.out.drew⟩
  · go_enter Tryz.func64, Tryz.ntmps64
    go_wp2
    go_region
    all_goals go_wp2
    all_goals go_ret2
    all_goals exact ⟨rfl, HBa.out.drew⟩
  · go_enter Tryz.func64, Tryz.ntmps64
    go_wp2
    go_region
    all_goals go_wp2
    all_goals go_ret2
    all_goals exact ⟨rfl, HBa.out.drew⟩
set_option maxHeartbeats 800000 in
/-- slot: the slot's address. -/
theorem part_slot_yes (a s b g : Nat) (p : PT) (i : Nat) (ks : ByteArray) (hs : ks.toList = []) (hz : p.sn ≤ 65536) (hi : i < p.sn) (w : World) (H : PartIn w a s b g p) :
    Calls Tryz.prog 64 #[.pointer (some ⟨a, 0, none⟩), .agg #[.int .i64 2, .int .i64 ((i : Int) + 1), .string ks]] w fun e w' => e = .returned (.tuple #[.pointer (some ⟨s, i * 3, none⟩), .bool true]) ∧ Below w.heap.size w w' := by
  have hI := H.c0
  have la := H.la
  have HBa := Lib.hid ((Below.refl _ w).alloc (Nat.le_refl _) (.cells #[.int .i64 2, .int .i64 ((i : Int) + 1), .string ks] 35))
  have c0 := (HBa.out.cell (p := ⟨a, 0, none⟩) la).trans hI
  generalize p.sn = n at c0 hi hz
  clear hI H la
  have h1 : decide ((i : Int) + 1 < 1) = false := by simp; omega
  have h2 : decide ((n : Int) < (i : Int) + 1) = false := by simp; omega
  have h3 : wrap64 (i : Int) = (i : Int) := by unfold wrap64; omega
  have h4 : (i : Int) < (n : Int) := by omega
  have h5 : (0 : Int) ≤ (i : Int) := by omega
  have h6 : IntKind.i64.wrap (i : Int) = (i : Int) := by rw [IntKind.wrap_i64]; omega
  clear hi hz
  go_enter Tryz.func64, Tryz.ntmps64
  go_wp2
  go_region
  all_goals go_wp2
  go_region
  all_goals go_wp2
  all_goals go_ret2
  all_goals exact ⟨rfl, HBa.out.drew.drew⟩
end Go.Proofs.YteheolefemlcgaaGreat
/- A table's parts: put. -/
namespace Go.Proofs.YteheolefemlcgaaGreat
open Go.RowKit
set_option linter.unusedVariables false
set_option linter.unusedSimpArgs false

/-- The blocks of slots and nodes. -/
def PS (s b g q : Nat) : Prop := q = s ∨ q = b ∨ q = g
/-- A slot is set. -/
theorem PartIn.slotted {w : World} {a s b g : Nat} {p : PT} (H : PartIn w a s b g p) (i : Nat) (hi : i < p.sn) (v : V) :
    PartIn (((w.setCell ⟨s, i * 3, none⟩ (.int .i64 v.k)).setCell ⟨s, i * 3 + 1, none⟩ (.int .i64 v.n)).setCell ⟨s, i * 3 + 2, none⟩ (.string v.s)) a s b g { p with sv := PH.upd p.sv i v } ∧ Kp (fun q => q = s) w (((w.setCell ⟨s, i * 3, none⟩ (.int .i64 v.k)).setCell ⟨s, i * 3 + 1, none⟩ (.int .i64 v.n)).setCell ⟨s, i * 3 + 2, none⟩ (.string v.s)) := by
  have hK : Kp (fun q => q = s) w (((w.setCell ⟨s, i * 3, none⟩ (.int .i64 v.k)).setCell ⟨s, i * 3 + 1, none⟩ (.int .i64 v.n)).setCell ⟨s, i * 3 + 2, none⟩ (.string v.s)) := (((Kp.refl (fun q => q = s) w).set ⟨s, i * 3, none⟩ (.inl rfl) _).set ⟨s, i * 3 + 1, none⟩ (.inl rfl) _).set ⟨s, i * 3 + 2, none⟩ (.inl rfl) _
  refine ⟨?_, hK⟩
  have e : (((w.setCell ⟨s, i * 3, none⟩ (.int .i64 v.k)).setCell ⟨s, i * 3 + 1, none⟩ (.int .i64 v.n)).setCell ⟨s, i * 3 + 2, none⟩ (.string v.s)) = w.setCells s (i * 3) [.int .i64 v.k, .int .i64 v.n, .string v.s] := rfl
  have hv := H.sl i hi
  have hin := World.cell?_setCells_in s [.int .i64 v.k, .int .i64 v.n, .string v.s] (i * 3) w (fun j hj => by
    match j, (show j < 3 by simpa using hj) with
    | 0, _ => exact Option.isSome_iff_exists.2 ⟨_, hv.c0⟩
    | 1, _ => exact Option.isSome_iff_exists.2 ⟨_, hv.c1⟩
    | 2, _ => exact Option.isSome_iff_exists.2 ⟨_, hv.c2⟩)
  obtain ⟨n1, n2, n3, n4, n5⟩ := H.ne
  have ha := hK.block a H.la n1
  have hb := hK.block b H.nd.lb (Ne.symm n4)
  have hg := hK.block g H.nd.lg (Ne.symm n5)
  have ca : ∀ j, (((w.setCell ⟨s, i * 3, none⟩ (.int .i64 v.k)).setCell ⟨s, i * 3 + 1, none⟩ (.int .i64 v.n)).setCell ⟨s, i * 3 + 2, none⟩ (.string v.s)).cell? ⟨a, j, none⟩ = w.cell? ⟨a, j, none⟩ := fun j => World.cell?_of_block (a := ⟨a, j, none⟩) ha
  have co : ∀ j, j < i * 3 ∨ i * 3 + 3 ≤ j → (((w.setCell ⟨s, i * 3, none⟩ (.int .i64 v.k)).setCell ⟨s, i * 3 + 1, none⟩ (.int .i64 v.n)).setCell ⟨s, i * 3 + 2, none⟩ (.string v.s)).cell? ⟨s, j, none⟩ = w.cell? ⟨s, j, none⟩ := fun j hj => by
    rw [e]; exact World.cell?_setCells_out s _ _ _ ⟨s, j, none⟩ (fun _ _ => by simpa using hj)
  have cf : ∀ j, (((w.setCell ⟨s, i * 3, none⟩ (.int .i64 v.k)).setCell ⟨s, i * 3 + 1, none⟩ (.int .i64 v.n)).setCell ⟨s, i * 3 + 2, none⟩ (.string v.s)).frozen? ⟨s, j, none⟩ = false := fun j => by rw [e, World.frozen?_setCells]; exact H.fs j
  have hl := Nat.lt_of_lt_of_le H.ls hK.size
  refine ⟨(ca 0).trans H.c0, (ca 1).trans H.c1, (ca 2).trans H.c2, (ca 3).trans H.c3, fun j => (World.frozen?_of_block (a := ⟨a, j, none⟩) ha).trans (H.fa j), fun j hj => ?_, cf, hl, H.nd.keep hb hg, H.ne⟩
  show C3 _ s (j * 3) (PH.upd p.sv i v j)
  by_cases e2 : j = i
  · subst e2
    rw [PH.upd_same]
    exact ⟨by rw [e]; exact hin 0 (by simp), by rw [e]; exact hin 1 (by simp), by rw [e]; exact hin 2 (by simp), cf, hl⟩
  · rw [PH.upd_other _ _ _ e2]
    have hj := H.sl j hj
    exact ⟨(co _ (by omega)).trans hj.c0, (co _ (by omega)).trans hj.c1, (co _ (by omega)).trans hj.c2, cf, hl⟩
theorem Kp.cell_far {F : Nat → Prop} {w w' : World} {q o : Nat} (h : Kp F w w') (hl : q < w.heap.size) (hF : ¬ F q) : w'.cell? ⟨q, o, none⟩ = w.cell? ⟨q, o, none⟩ := World.cell?_of_block (a := ⟨q, o, none⟩) (h.block q hl hF)
/-- The hash part has turned. -/
theorem PartIn.hashed {w w' : World} {a s b g : Nat} {p : PT} (H : PartIn w a s b g p) {h' : PH} (hn : NdIn w' b g h') (hk : Kp (fun q => q = b ∨ q = g) w w') : PartIn w' a s b g { p with h := h' } := by
  obtain ⟨n1, n2, n3, n4, n5⟩ := H.ne
  have ha := hk.block a H.la (fun e => e.elim n2 n3)
  have hs := hk.block s H.ls (fun e => e.elim n4 n5)
  have ca : ∀ i, w'.cell? ⟨a, i, none⟩ = w.cell? ⟨a, i, none⟩ := fun i => World.cell?_of_block (a := ⟨a, i, none⟩) ha
  exact ⟨(ca _).trans H.c0, (ca _).trans H.c1, (ca _).trans H.c2, (ca _).trans H.c3, fun i => (World.frozen?_of_block (a := ⟨a, i, none⟩) ha).trans (H.fa i), fun i hi => (H.sl i hi).keep hs, fun i => (World.frozen?_of_block (a := ⟨s, i, none⟩) hs).trans (H.fs i), lt_of_block hs H.ls, hn, H.ne⟩
theorem inB_form {p : PT} {kk kn : Int} {ks : ByteArray} (h : p.inB ⟨kk, kn, ks⟩) : ∃ i : Nat, i < p.sn ∧ kk = 2 ∧ ks.toList = [] ∧ kn = (i : Int) + 1 ∧ PT.ix ⟨kk, kn, ks⟩ = i := by
  obtain ⟨h1, h2, h3, h4⟩ := h
  simp only at h1 h2 h3 h4
  exact ⟨(kn - 1).toNat, by omega, h1, h2, by omega, rfl⟩
section
variable (a s b g : Nat) (p : PT) (kk kn : Int) (ks : ByteArray) (vk vn : Int) (vs : ByteArray)
set_option maxHeartbeats 800000 in
theorem part_put_in (i : Nat) (ks : ByteArray) (hs : ks.toList = []) (hz : p.sn ≤ 65536) (hi : i < p.sn) (w : World) (H : PartIn w a s b g p) :
    Calls Tryz.prog 53 #[.pointer (some ⟨a, 0, none⟩), .agg #[.int .i64 2, .int .i64 ((i : Int) + 1), .string ks], .agg #[.int .i64 vk, .int .i64 vn, .string vs]] w fun e w' => e = .returned (.tuple #[.int .i64 0, .int .i64 0]) ∧ PartIn w' a s b g { p with sv := PH.upd p.sv i ⟨vk, vn, vs⟩ } ∧ Kp (PS s b g) w w' := by
  have HI := Lib.hid H; have HS := Lib.hid hs; have HZ := Lib.hid hz; have HIL := Lib.hid hi
  have HBa : Hid (Below w.heap.size w ((w.alloc (.cells #[.int .i64 2, .int .i64 ((i : Int) + 1), .string ks] 35)).alloc (.cells #[.int .i64 vk, .int .i64 vn, .string vs] 35))) := Lib.hid (((Below.refl _ w).alloc (Nat.le_refl _) _).alloc (by simp [go_sem]) _)
  have HV := Lib.hid (C3.new (w.alloc (.cells #[.int .i64 2, .int .i64 ((i : Int) + 1), .string ks] 35)) vk vn vs)
  clear H hs hz hi
  go_enter Tryz.func53, Tryz.ntmps53
  go_wp2_with fail
  (with_reducible refine (part_slot_yes a s b g p i ks HS.out HZ.out HIL.out _ (HI.out.below HBa.out)).mono ?_)
  rintro e w1 ⟨rfl, hb1⟩
  have HV1 := Lib.hid (HV.out.below hb1 HV.out.lt)
  have HB1 := Lib.hid (HBa.out.trans (hb1.mono (HBa.out.size)))
  have HI1 := Lib.hid (HI.out.below HB1.out)
  obtain ⟨y0, y1, y2, -, -⟩ := HV1.out
  simp only [World.size_alloc, Nat.zero_add] at y0 y1 y2
  obtain ⟨z0, z1, z2, -, -⟩ := HI1.out.sl i HIL.out
  have f0 := HI1.out.fs (i * 3); have f1 := HI1.out.fs (i * 3 + 1); have f2 := HI1.out.fs (i * 3 + 2)
  generalize V.k _ = o0 at z0
  generalize V.n _ = o1 at z1
  generalize V.s _ = o2 at z2
  clear hb1
  go_wp2
  have P := HI1.out.slotted i HIL.out ⟨vk, vn, vs⟩
  have HP := Lib.hid P
  clear P y0 y1 y2 z0 z1 z2
  go_ret2
  exact ⟨rfl, HP.out.1, (below_kp HB1.out : Kp (PS s b g) w w1).trans HP.out.2 (fun q hq => .inl (.inl hq))⟩
set_option maxRecDepth 100000 in
set_option maxHeartbeats 800000 in
theorem part_put_out (hg : p.h.good) (hz : p.sn ≤ 65536) (hb : ¬ p.inB ⟨kk, kn, ks⟩) (rd : Nat) (er : Int) (hr : (p.h.put ⟨kk, kn, ks⟩ ⟨vk, vn, vs⟩).2.1 = rd) (he : (p.h.put ⟨kk, kn, ks⟩ ⟨vk, vn, vs⟩).2.2 = er) (w : World) (H : PartIn w a s b g p) :
    Calls Tryz.prog 53 #[.pointer (some ⟨a, 0, none⟩), .agg #[.int .i64 kk, .int .i64 kn, .string ks], .agg #[.int .i64 vk, .int .i64 vn, .string vs]] w fun e w' => e = .returned (.tuple #[.int .i64 rd, .int .i64 er]) ∧ PartIn w' a s b g { p with h := (p.h.put ⟨kk, kn, ks⟩ ⟨vk, vn, vs⟩).1 } ∧ Kp (PS s b g) w w' := by
  have HI := Lib.hid H; have HG := Lib.hid hg; have HZ := Lib.hid hz; have HB := Lib.hid hb; have HR := Lib.hid hr; have HE := Lib.hid he
  have HBa : Hid (Below w.heap.size w ((w.alloc (.cells #[.int .i64 kk, .int .i64 kn, .string ks] 35)).alloc (.cells #[.int .i64 vk, .int .i64 vn, .string vs] 35))) := Lib.hid (((Below.refl _ w).alloc (Nat.le_refl _) _).alloc (by simp [go_sem]) _)
  have HK := Lib.hid ((C3.new w kk kn ks).alloc (.cells #[.int .i64 vk, .int .i64 vn, .string vs] 35))
  have HV := Lib.hid (C3.new (w.alloc (.cells #[.int .i64 kk, .int .i64 kn, .string ks] 35)) vk vn vs)
  clear H hg hz hb hr he
  go_enter Tryz.func53, Tryz.ntmps53
  go_wp2_with fail
  (with_reducible refine (part_slot_no a s b g p kk kn ks HZ.out HB.out _ (HI.out.below HBa.out)).mono ?_)
  rintro e w1 ⟨rfl, hb1⟩
  have HV1 := Lib.hid (HV.out.below hb1 HV.out.lt)
  have HK1 := Lib.hid (HK.out.below hb1 HK.out.lt)
  have HB1 := Lib.hid (HBa.out.trans (hb1.mono (HBa.out.size)))
  have HI1 := Lib.hid (HI.out.below HB1.out)
  obtain ⟨y0, y1, y2, -, -⟩ := HV1.out
  simp only [World.size_alloc, Nat.zero_add] at y0 y1 y2
  obtain ⟨x0, x1, x2, -, -⟩ := HK1.out
  simp only [Nat.zero_add] at x0 x1 x2
  have c1 := HI1.out.c1
  clear hb1
  go_wp2
  have S0 : w1.drew.cell? ⟨a, 1, none⟩ = some (.pointer (some ⟨b, 0, none⟩)) ∧ w1.drew.cell? ⟨w.heap.size, 0, none⟩ = some (.int .i64 kk) ∧ w1.drew.cell? ⟨w.heap.size, 1, none⟩ = some (.int .i64 kn) ∧ w1.drew.cell? ⟨w.heap.size, 2, none⟩ = some (.string ks) ∧ w1.drew.cell? ⟨w.heap.size + 1, 0, none⟩ = some (.int .i64 vk) ∧ w1.drew.cell? ⟨w.heap.size + 1, 1, none⟩ = some (.int .i64 vn) ∧ w1.drew.cell? ⟨w.heap.size + 1, 2, none⟩ = some (.string vs) :=
    ⟨c1, x0, x1, x2, y0, y1, y2⟩
  have HS0 := Lib.hid S0
  have n1 : ¬ (a = b ∨ a = g) := fun e => e.elim HI.out.ne.2.1 HI.out.ne.2.2.1
  have n2 : ¬ (w.heap.size = b ∨ w.heap.size = g) := fun e => e.elim (fun e => absurd HI.out.nd.lb (by omega)) (fun e => absurd HI.out.nd.lg (by omega))
  have n3 : ¬ (w.heap.size + 1 = b ∨ w.heap.size + 1 = g) := fun e => e.elim (fun e => absurd HI.out.nd.lb (by omega)) (fun e => absurd HI.out.nd.lg (by omega))
  have N1 := Lib.hid n1; have N2 := Lib.hid n2; have N3 := Lib.hid n3
  clear n1 n2 n3
  go_region_held3 (fun wq => wq.cell? ⟨a, 1, none⟩ = some (.pointer (some ⟨b, 0, none⟩)) ∧ wq.cell? ⟨w.heap.size, 0, none⟩ = some (.int .i64 kk) ∧ wq.cell? ⟨w.heap.size, 1, none⟩ = some (.int .i64 kn) ∧ wq.cell? ⟨w.heap.size, 2, none⟩ = some (.string ks) ∧ wq.cell? ⟨w.heap.size + 1, 0, none⟩ = some (.int .i64 vk) ∧ wq.cell? ⟨w.heap.size + 1, 1, none⟩ = some (.int .i64 vn) ∧ wq.cell? ⟨w.heap.size + 1, 2, none⟩ = some (.string vs))
    (first | exact HS0.out | assumption | exact ⟨(H3.out.cell_far HI1.out.la N1.out).trans HS0.out.1, (H3.out.cell_far HK1.out.lt N2.out).trans HS0.out.2.1, (H3.out.cell_far HK1.out.lt N2.out).trans HS0.out.2.2.1, (H3.out.cell_far HK1.out.lt N2.out).trans HS0.out.2.2.2.1, (H3.out.cell_far (by have := HV1.out.lt; simpa using this) N3.out).trans HS0.out.2.2.2.2.1, (H3.out.cell_far (by have := HV1.out.lt; simpa using this) N3.out).trans HS0.out.2.2.2.2.2.1, (H3.out.cell_far (by have := HV1.out.lt; simpa using this) N3.out).trans HS0.out.2.2.2.2.2.2⟩)
    (first | (go_at_call 96; (with_reducible refine (Nd_Put b g p.h HG.out kk kn ks vk vn vs rd er HR.out HE.out w1.drew (HI1.out.nd.below ((Below.refl _ w1).drew))).mono ?_); rintro e w2 ⟨rfl, h2, h3⟩; have H2 := Lib.hid h2; have H3 := Lib.hid h3; clear h2 h3))
  go_wp2
  go_ret2
  have H4 := ((Kp.refl (fun q => q = b ∨ q = g) w1).below ((Below.refl _ w1).drew)).trans H3.out (fun q hq => .inl hq)
  exact ⟨rfl, HI1.out.hashed H2.out H4, (below_kp HB1.out : Kp (PS s b g) w w1).trans H4 (fun q hq => .inl (.inr hq))⟩
/-- put. -/
theorem part_putS (hok : p.ok) (rd : Nat) (er : Int) (hr : (p.put ⟨kk, kn, ks⟩ ⟨vk, vn, vs⟩).2.1 = rd) (he : (p.put ⟨kk, kn, ks⟩ ⟨vk, vn, vs⟩).2.2 = er) (w : World) (H : PartIn w a s b g p) :
    Calls Tryz.prog 53 #[.pointer (some ⟨a, 0, none⟩), .agg #[.int .i64 kk, .int .i64 kn, .string ks], .agg #[.int .i64 vk, .int .i64 vn, .string vs]] w fun e w' => e = .returned (.tuple #[.int .i64 rd, .int .i64 er]) ∧ PartIn w' a s b g (p.put ⟨kk, kn, ks⟩ ⟨vk, vn, vs⟩).1 ∧ Kp (PS s b g) w w' := by
  by_cases hb : p.inB ⟨kk, kn, ks⟩
  · rw [PT.put_in hb] at hr he ⊢
    subst hr he
    obtain ⟨i, hi, rfl, h2, rfl, h3⟩ := inB_form hb
    rw [h3]
    exact part_put_in a s b g p vk vn vs i ks h2 hok.sz hi w H
  · rw [PT.put_out hb] at hr he ⊢
    exact part_put_out a s b g p kk kn ks vk vn vs hok.hg hok.sz hb rd er hr he w H
theorem part_put (hok : p.ok) (rd : Nat) (er : Int) (hr : (p.put ⟨kk, kn, ks⟩ ⟨vk, vn, vs⟩).2.1 = rd) (he : (p.put ⟨kk, kn, ks⟩ ⟨vk, vn, vs⟩).2.2 = er) (w : World) (H : PartIn w a s b g p) :
    Calls Tryz.prog 53 #[.pointer (some ⟨a, 0, none⟩), .agg #[.int .i64 kk, .int .i64 kn, .string ks], .agg #[.int .i64 vk, .int .i64 vn, .string vs]] w fun e w' => e = .returned (.tuple #[.int .i64 rd, .int .i64 er]) ∧ PartIn w' a s b g (p.put ⟨kk, kn, ks⟩ ⟨vk, vn, vs⟩).1 ∧ Kp (PB a s b g) w w' :=
  (part_putS a s b g p kk kn ks vk vn vs hok rd er hr he w H).mono fun e w' ⟨h1, h2, h3⟩ => ⟨h1, h2, h3.mono (fun q hq => .inl (.inr hq))⟩
end
end Go.Proofs.YteheolefemlcgaaGreat
/- A table in memory; Get. -/
namespace Go.Proofs.YteheolefemlcgaaGreat
open Go.RowKit
set_option linter.unusedVariables false
set_option linter.unusedSimpArgs false

/-- The table t in block a, on the heap in block hp. -/
structure TabIn (w : World) (a s b g hp : Nat) (t : Tbl) : Prop where
  pt : PartIn w a s b g t.p
  c4 : w.cell? ⟨a, 4, none⟩ = some (.pointer (some ⟨hp, 0, none⟩))
  c5 : w.cell? ⟨a, 5, none⟩ = some (.int .i64 t.hint)
  c6 : w.cell? ⟨a, 6, none⟩ = some (.int .i64 t.pr)
section
variable {w w' : World} {a s b g hp : Nat} {t : Tbl}
theorem TabIn.keep (H : TabIn w a s b g hp t) (hk : ∀ q, PB a s b g q → w'.heap[q]? = w.heap[q]?) : TabIn w' a s b g hp t := by
  have ca : ∀ i, w'.cell? ⟨a, i, none⟩ = w.cell? ⟨a, i, none⟩ := fun i => World.cell?_of_block (a := ⟨a, i, none⟩) (hk a (.inl rfl))
  exact ⟨H.pt.keep hk, (ca _).trans H.c4, (ca _).trans H.c5, (ca _).trans H.c6⟩
theorem TabIn.below (H : TabIn w a s b g hp t) (hb : Below w.heap.size w w') : TabIn w' a s b g hp t := H.keep fun q hq => hb.block q (H.pt.lt hq)
theorem TabIn.kp {F : Nat → Prop} (H : TabIn w a s b g hp t) (hk : Kp F w w') (hF : ∀ q, PB a s b g q → ¬ F q) : TabIn w' a s b g hp t := H.keep fun q hq => hk.block q (H.pt.lt hq) (hF q hq)
/-- A cell of the table's own block is set, beyond its parts. -/
theorem PartIn.aside {p : PT} (H : PartIn w a s b g p) (i : Nat) (hi : 4 ≤ i) (v : Value) : PartIn (w.setCell ⟨a, i, none⟩ v) a s b g p := by
  obtain ⟨n1, n2, n3, n4, n5⟩ := H.ne
  have co : ∀ j, j < 4 → (w.setCell ⟨a, i, none⟩ v).cell? ⟨a, j, none⟩ = w.cell? ⟨a, j, none⟩ := fun j hj => cell_other _ _ _ _ _ (by omega)
  have hs : (w.setCell ⟨a, i, none⟩ v).heap[s]? = w.heap[s]? := Below.heap_setCell _ _ _ _ (Ne.symm n1)
  have hb : (w.setCell ⟨a, i, none⟩ v).heap[b]? = w.heap[b]? := Below.heap_setCell _ _ _ _ (Ne.symm n2)
  have hg : (w.setCell ⟨a, i, none⟩ v).heap[g]? = w.heap[g]? := Below.heap_setCell _ _ _ _ (Ne.symm n3)
  exact ⟨(co 0 (by omega)).trans H.c0, (co 1 (by omega)).trans H.c1, (co 2 (by omega)).trans H.c2, (co 3 (by omega)).trans H.c3, fun j => (frozen_set _ _ _ _).trans (H.fa j), fun j hj => (H.sl j hj).keep hs, fun j => (World.frozen?_of_block (a := ⟨s, j, none⟩) hs).trans (H.fs j), lt_of_block hs H.ls, H.nd.keep hb hg, H.ne⟩
theorem TabIn.probed (H : TabIn w a s b g hp t) (x : Int) : TabIn (w.setCell ⟨a, 6, none⟩ (.int .i64 x)) a s b g hp { t with pr := x } := by
  refine ⟨H.pt.aside 6 (by omega) _, (cell_other _ _ _ _ _ (by omega)).trans H.c4, (cell_other _ _ _ _ _ (by omega)).trans H.c5, ?_⟩
  rw [cell_set_self, H.c6]; rfl
theorem TabIn.hinted (H : TabIn w a s b g hp t) (x : Int) : TabIn (w.setCell ⟨a, 5, none⟩ (.int .i64 x)) a s b g hp { t with hint := x } := by
  refine ⟨H.pt.aside 5 (by omega) _, (cell_other _ _ _ _ _ (by omega)).trans H.c4, ?_, (cell_other _ _ _ _ _ (by omega)).trans H.c6⟩
  rw [cell_set_self, H.c5]; rfl
end
/-- A value's cells are set anew. -/
theorem C3.over {w : World} {a : Nat} {k : V} (H : C3 w a 0 k) (vk vn : Int) (vs : ByteArray) : C3 (((w.setCell ⟨a, 0, none⟩ (.int .i64 vk)).setCell ⟨a, 1, none⟩ (.int .i64 vn)).setCell ⟨a, 2, none⟩ (.string vs)) a 0 ⟨vk, vn, vs⟩ := by
  have h0 := H.c0; have h1 := H.c1; have h2 := H.c2
  simp only [Nat.zero_add] at h1 h2
  refine ⟨?_, ?_, ?_, fun i => by rw [frozen_set, frozen_set, frozen_set]; exact H.fz i, by rw [sz_set, sz_set, sz_set]; exact H.lt⟩
  · rw [cell_other _ _ _ _ _ (by omega), cell_other _ _ _ _ _ (by omega), cell_set_self, h0]; rfl
  · show World.cell? _ ⟨a, 1, none⟩ = _
    rw [cell_other _ _ _ _ _ (by omega), cell_set_self, cell_other _ _ _ _ _ (by omega), h1]; rfl
  · show World.cell? _ ⟨a, 2, none⟩ = _
    rw [cell_set_self, cell_other _ _ _ _ _ (by omega), cell_other _ _ _ _ _ (by omega), h2]; rfl
/-- Reading a key: the probes. -/
def Tbl.read (t : Tbl) (k : V) : Tbl := if t.p.inB k then t else { t with pr := wrap64 (t.pr + ((t.p.h.findA k).2 : Nat)) }
section
variable (a s b g hp : Nat) (t : Tbl) (kk kn : Int) (ks : ByteArray)
set_option maxRecDepth 100000 in
set_option maxHeartbeats 800000 in
theorem tab_Get_in (i : Nat) (hs : ks.toList = []) (hz : t.p.sn ≤ 65536) (hi : i < t.p.sn) (vk vn : Int) (vs : ByteArray) (hv : t.p.sv i = ⟨vk, vn, vs⟩) (w : World) (H : TabIn w a s b g hp t) :
    Calls Tryz.prog 18 #[.pointer (some ⟨a, 0, none⟩), .agg #[.int .i64 2, .int .i64 ((i : Int) + 1), .string ks]] w fun e w' => e = .returned (.agg #[.int .i64 vk, .int .i64 vn, .string vs]) ∧ Below w.heap.size w w' := by
  have HI := Lib.hid H; have HS := Lib.hid hs; have HZ := Lib.hid hz; have HIL := Lib.hid hi; have HV := Lib.hid hv
  have HBa : Hid (Below w.heap.size w ((w.alloc (.cells #[.int .i64 2, .int .i64 ((i : Int) + 1), .string ks] 35)).alloc (.cells #[.int .i64 0, .int .i64 0, .string ⟨#[]⟩] 35))) := Lib.hid (((Below.refl _ w).alloc (Nat.le_refl _) _).alloc (by simp [go_sem]) _)
  have HK := Lib.hid ((C3.new w 2 ((i : Int) + 1) ks).alloc (.cells #[.int .i64 0, .int .i64 0, .string ⟨#[]⟩] 35))
  have HR := Lib.hid (C3.new (w.alloc (.cells #[.int .i64 2, .int .i64 ((i : Int) + 1), .string ks] 35)) 0 0 ⟨#[]⟩)
  clear H hs hz hi hv
  go_enter Tryz.func18, Tryz.ntmps18
  go_wp2
  have S0 : (((w.alloc (.cells #[.int .i64 2, .int .i64 ((i : Int) + 1), .string ks] 35)).alloc (.cells #[.int .i64 0, .int .i64 0, .string ⟨#[]⟩] 35)).drew).cell? ⟨w.heap.size, 0, none⟩ = some (.int .i64 2) ∧ (((w.alloc (.cells #[.int .i64 2, .int .i64 ((i : Int) + 1), .string ks] 35)).alloc (.cells #[.int .i64 0, .int .i64 0, .string ⟨#[]⟩] 35)).drew).cell? ⟨w.heap.size, 1, none⟩ = some (.int .i64 ((i : Int) + 1)) ∧ (((w.alloc (.cells #[.int .i64 2, .int .i64 ((i : Int) + 1), .string ks] 35)).alloc (.cells #[.int .i64 0, .int .i64 0, .string ⟨#[]⟩] 35)).drew).cell? ⟨w.heap.size, 2, none⟩ = some (.string ks) := ⟨HK.out.c0, HK.out.c1, HK.out.c2⟩
  have HS0 := Lib.hid S0
  go_region_held3 (fun wq => wq.cell? ⟨w.heap.size, 0, none⟩ = some (.int .i64 2) ∧ wq.cell? ⟨w.heap.size, 1, none⟩ = some (.int .i64 ((i : Int) + 1)) ∧ wq.cell? ⟨w.heap.size, 2, none⟩ = some (.string ks))
    (first | exact HS0.out | assumption | exact ⟨(HB1.out.cell (p := ⟨w.heap.size, 0, none⟩) (by simp [go_sem])).trans HS0.out.1, (HB1.out.cell (p := ⟨w.heap.size, 1, none⟩) (by simp [go_sem])).trans HS0.out.2.1, (HB1.out.cell (p := ⟨w.heap.size, 2, none⟩) (by simp [go_sem])).trans HS0.out.2.2⟩)
    (first | (go_at_call 64; (with_reducible refine (part_slot_yes a s b g t.p i ks HS.out HZ.out HIL.out _ (HI.out.pt.below HBa.out.drew)).mono ?_); rintro e w1 ⟨rfl, hb1⟩; have HB1 := Lib.hid hb1; clear hb1))
  have HBw := Lib.hid (HBa.out.drew.trans (HB1.out.mono (by simp [go_sem]; omega)))
  have HI1 := Lib.hid (HI.out.below HBw.out)
  have HR1 := Lib.hid (HR.out.drew.below HB1.out (by simp [go_sem]))
  have v := HI1.out.pt.sl i HIL.out
  rw [HV.out] at v
  obtain ⟨z0, z1, z2, -, -⟩ := v
  obtain ⟨r0, r1, r2, rf, -⟩ := HR1.out
  simp only [World.size_alloc, Nat.zero_add] at z0 z1 z2 r0 r1 r2
  have rf0 := rf 0; have rf1 := rf 1; have rf2 := rf 2
  simp only [World.size_alloc] at rf0 rf1 rf2
  clear rf S0
  go_wp2
  exact bodyPost_ret (v := .agg #[.int .i64 vk, .int .i64 vn, .string vs]) (by simp [results, Tryz.results18, go_sem, cell_set_self, *]) rfl ⟨rfl, (((HBw.out.setCell (by simp) _).setCell (by simp) _).setCell (by simp) _)⟩
set_option maxRecDepth 100000 in
set_option maxHeartbeats 800000 in
theorem tab_Get_out (hg : t.p.h.good) (hz : t.p.sn ≤ 65536) (hb : ¬ t.p.inB ⟨kk, kn, ks⟩) (vk vn : Int) (vs : ByteArray) (hv : t.p.h.get ⟨kk, kn, ks⟩ = ⟨vk, vn, vs⟩) (rd : Nat) (hr : (t.p.h.findA ⟨kk, kn, ks⟩).2 = rd) (w : World) (H : TabIn w a s b g hp t) :
    Calls Tryz.prog 18 #[.pointer (some ⟨a, 0, none⟩), .agg #[.int .i64 kk, .int .i64 kn, .string ks]] w fun e w' => e = .returned (.agg #[.int .i64 vk, .int .i64 vn, .string vs]) ∧ TabIn w' a s b g hp { t with pr := wrap64 (t.pr + rd) } ∧ Kp (fun q => q = a) w w' := by
  have HI := Lib.hid H; have HZ := Lib.hid hz; have HG := Lib.hid hg; have HV := Lib.hid hv; have HB := Lib.hid hb; have HRD := Lib.hid hr
  have HBa : Hid (Below w.heap.size w ((w.alloc (.cells #[.int .i64 kk, .int .i64 kn, .string ks] 35)).alloc (.cells #[.int .i64 0, .int .i64 0, .string ⟨#[]⟩] 35))) := Lib.hid (((Below.refl _ w).alloc (Nat.le_refl _) _).alloc (by simp [go_sem]) _)
  have HK := Lib.hid ((C3.new w kk kn ks).alloc (.cells #[.int .i64 0, .int .i64 0, .string ⟨#[]⟩] 35))
  have HR := Lib.hid (C3.new (w.alloc (.cells #[.int .i64 kk, .int .i64 kn, .string ks] 35)) 0 0 ⟨#[]⟩)
  clear H hz hg hv hb hr
  go_enter Tryz.func18, Tryz.ntmps18
  go_wp2
  have HS0 := Lib.hid (show (((w.alloc (.cells #[.int .i64 kk, .int .i64 kn, .string ks] 35)).alloc (.cells #[.int .i64 0, .int .i64 0, .string ⟨#[]⟩] 35)).drew).cell? ⟨w.heap.size, 0, none⟩ = some (.int .i64 kk) ∧ (((w.alloc (.cells #[.int .i64 kk, .int .i64 kn, .string ks] 35)).alloc (.cells #[.int .i64 0, .int .i64 0, .string ⟨#[]⟩] 35)).drew).cell? ⟨w.heap.size, 1, none⟩ = some (.int .i64 kn) ∧ (((w.alloc (.cells #[.int .i64 kk, .int .i64 kn, .string ks] 35)).alloc (.cells #[.int .i64 0, .int .i64 0, .string ⟨#[]⟩] 35)).drew).cell? ⟨w.heap.size, 2, none⟩ = some (.string ks) from ⟨HK.out.c0, HK.out.c1, HK.out.c2⟩)
  go_region_held3 (fun wq => wq.cell? ⟨w.heap.size, 0, none⟩ = some (.int .i64 kk) ∧ wq.cell? ⟨w.heap.size, 1, none⟩ = some (.int .i64 kn) ∧ wq.cell? ⟨w.heap.size, 2, none⟩ = some (.string ks))
    (first | exact HS0.out | assumption | exact ⟨(HB1.out.cell (p := ⟨w.heap.size, 0, none⟩) (by simp [go_sem])).trans HS0.out.1, (HB1.out.cell (p := ⟨w.heap.size, 1, none⟩) (by simp [go_sem])).trans HS0.out.2.1, (HB1.out.cell (p := ⟨w.heap.size, 2, none⟩) (by simp [go_sem])).trans HS0.out.2.2⟩)
    (first | (go_at_call 64; (with_reducible refine (part_slot_no a s b g t.p kk kn ks HZ.out HB.out _ (HI.out.pt.below HBa.out.drew)).mono ?_); rintro e w1 ⟨rfl, hb1⟩; have HB1 := Lib.hid hb1; clear hb1))
  have HBw := Lib.hid (HBa.out.drew.trans (HB1.out.mono (by simp [go_sem]; omega)))
  have HI1 := Lib.hid (HI.out.below HBw.out)
  have HR1 := Lib.hid (HR.out.drew.below HB1.out (by simp [go_sem]))
  have HK1 := Lib.hid (HK.out.drew.below HB1.out (by simp [go_sem]))
  go_wp2
  have HS1 := Lib.hid (show w1.drew.cell? ⟨a, 1, none⟩ = some (.pointer (some ⟨b, 0, none⟩)) ∧ w1.drew.cell? ⟨w.heap.size, 0, none⟩ = some (.int .i64 kk) ∧ w1.drew.cell? ⟨w.heap.size, 1, none⟩ = some (.int .i64 kn) ∧ w1.drew.cell? ⟨w.heap.size, 2, none⟩ = some (.string ks) from ⟨HI1.out.pt.c1, HK1.out.c0, HK1.out.c1, HK1.out.c2⟩)
  have HLA := Lib.hid HI1.out.pt.la
  have STP : Hid (∀ u : World, Below w1.heap.size w1 u → u.cell? ⟨a, 1, none⟩ = some (.pointer (some ⟨b, 0, none⟩)) ∧ u.cell? ⟨w.heap.size, 0, none⟩ = some (.int .i64 kk) ∧ u.cell? ⟨w.heap.size, 1, none⟩ = some (.int .i64 kn) ∧ u.cell? ⟨w.heap.size, 2, none⟩ = some (.string ks)) := Lib.hid (fun u hu => ⟨(hu.cell (p := ⟨a, 1, none⟩) HLA.out).trans HS1.out.1, (hu.cell (p := ⟨w.heap.size, 0, none⟩) HK1.out.lt).trans HS1.out.2.1, (hu.cell (p := ⟨w.heap.size, 1, none⟩) HK1.out.lt).trans HS1.out.2.2.1, (hu.cell (p := ⟨w.heap.size, 2, none⟩) HK1.out.lt).trans HS1.out.2.2.2⟩)
  have HD : Hid (Below w1.heap.size w1 w1.drew) := Lib.hid ((Below.refl _ w1).drew)
  have HDA : Hid (∀ o, Below w1.heap.size w1 (w1.alloc o).drew) := Lib.hid (fun o => ((Below.refl _ w1).alloc (Nat.le_refl _) o).drew)
  go_region_held3 (fun wq => wq.cell? ⟨a, 1, none⟩ = some (.pointer (some ⟨b, 0, none⟩)) ∧ wq.cell? ⟨w.heap.size, 0, none⟩ = some (.int .i64 kk) ∧ wq.cell? ⟨w.heap.size, 1, none⟩ = some (.int .i64 kn) ∧ wq.cell? ⟨w.heap.size, 2, none⟩ = some (.string ks))
    (first | exact HS1.out | assumption | exact STP.out _ (HDA.out _) | exact STP.out _ HB2.out | exact STP.out _ (HB2.out.alloc HB2.out.size _) | exact STP.out _ (((HB2.out.setCell (by simp) _).setCell (by simp) _).setCell (by simp) _))
    (first
      | (go_at_call 65; (with_reducible refine (Nd_Get _ b t.p.h kk kn ks w1.drew ((HI1.out.pt.nd.below HD.out).nodes HG.out) vk vn vs rd HV.out HRD.out).mono ?_); rintro e w2 ⟨rfl, hb2⟩; have HB2 := Lib.hid (HD.out.trans hb2); clear hb2)
      | (go_at_call 65; (with_reducible refine (Nd_Get _ b t.p.h kk kn ks (w1.alloc _).drew ((HI1.out.pt.nd.below (HDA.out _)).nodes HG.out) vk vn vs rd HV.out HRD.out).mono ?_); rintro e w2 ⟨rfl, hb2⟩; have HB2 := Lib.hid ((HDA.out _).trans (hb2.mono (HDA.out _).size)); have PC := Lib.hid ((C3.new w1 0 0 ⟨#[]⟩).drew.below hb2 (by simp [go_sem])); obtain ⟨p0, p1, p2, pf, -⟩ := PC.out; simp only [Nat.zero_add] at p0 p1 p2; have pf0 := pf 0; have pf1 := pf 1; have pf2 := pf 2; clear hb2 pf))
  · have HB3 := Lib.hid (HB2.out.alloc HB2.out.size (.cells #[.int .i64 vk, .int .i64 vn, .string vs] 35))
    have HC3 := Lib.hid (C3.new w2 vk vn vs)
    have HQ : Hid (w1.heap.size ≤ w2.heap.size) := Lib.hid HB2.out.size
    generalize (w2.alloc (.cells #[.int .i64 vk, .int .i64 vn, .string vs] 35)) = X at HB3 HC3 ⊢
    generalize w2.heap.size = q at HC3 HQ ⊢
    have hq : w1.heap.size ≤ q := HQ.out
    have HI3 := Lib.hid (HI1.out.below HB3.out)
    have HR3 := Lib.hid (HR1.out.below HB3.out HR1.out.lt)
    have c6 := HI3.out.c6
    have f6 := HI3.out.pt.fa 6
    obtain ⟨r0, r1, r2, rf, -⟩ := HR3.out
    simp only [World.size_alloc, Nat.zero_add] at r0 r1 r2
    have rf0 := rf 0; have rf1 := rf 1; have rf2 := rf 2
    simp only [World.size_alloc] at rf0 rf1 rf2
    obtain ⟨v0, v1, v2, -, -⟩ := HC3.out
    simp only [Nat.zero_add] at v0 v1 v2
    have qa : ¬ (q = a) := fun e => absurd HI1.out.pt.la (by omega)
    have ra : ¬ (w.heap.size + 1 = a) := fun e => absurd HI.out.pt.la (by omega)
    have aq : ¬ (a = q) := fun e => qa e.symm
    have ar : ¬ (a = w.heap.size + 1) := fun e => ra e.symm
    clear rf hq
    go_wp2
    refine bodyPost_ret (v := .agg #[.int .i64 vk, .int .i64 vn, .string vs]) (by simp [results, Tryz.results18, go_sem, cell_set_self, *]) rfl ⟨rfl, ?_, ?_⟩
    · have hk : Kp (fun z => z = w.heap.size + 1) (X.setCell ⟨a, 6, none⟩ (.int .i64 (wrap64 (t.pr + rd)))) ((((X.setCell ⟨a, 6, none⟩ (.int .i64 (wrap64 (t.pr + rd)))).setCell ⟨w.heap.size + 1, 0, none⟩ (.int .i64 vk)).setCell ⟨w.heap.size + 1, 1, none⟩ (.int .i64 vn)).setCell ⟨w.heap.size + 1, 2, none⟩ (.string vs)) := (((Kp.refl (fun z => z = w.heap.size + 1) _).set ⟨w.heap.size + 1, 0, none⟩ (.inl rfl) _).set ⟨w.heap.size + 1, 1, none⟩ (.inl rfl) _).set ⟨w.heap.size + 1, 2, none⟩ (.inl rfl) _
      exact (HI3.out.probed (wrap64 (t.pr + rd))).kp hk (fun z hz e => absurd (HI.out.pt.lt hz) (by omega))
    · exact (((((below_kp (HBw.out.trans (HB3.out.mono HBw.out.size)) : Kp (fun q => q = a) w X).set ⟨a, 6, none⟩ (.inl rfl) _).set ⟨w.heap.size + 1, 0, none⟩ (.inr (by simp)) _).set ⟨w.heap.size + 1, 1, none⟩ (.inr (by simp)) _).set ⟨w.heap.size + 1, 2, none⟩ (.inr (by simp)) _)
  · have HB3 := Lib.hid (((HB2.out.setCell (p := ⟨w1.heap.size, 0, none⟩) (by simp) (.int .i64 vk)).setCell (p := ⟨w1.heap.size, 1, none⟩) (by simp) (.int .i64 vn)).setCell (p := ⟨w1.heap.size, 2, none⟩) (by simp) (.string vs))
    have HC3 := Lib.hid (C3.over PC.out vk vn vs)
    have HQ : Hid (w1.heap.size ≤ w1.heap.size) := Lib.hid (Nat.le_refl _)
    obtain ⟨q, hqq⟩ : ∃ q, w1.heap.size = q := ⟨_, rfl⟩
    clear p0 p1 p2 pf0 pf1 pf2
    generalize (((w2.setCell ⟨w1.heap.size, 0, none⟩ (.int .i64 vk)).setCell ⟨w1.heap.size, 1, none⟩ (.int .i64 vn)).setCell ⟨w1.heap.size, 2, none⟩ (.string vs)) = X at HB3 HC3 ⊢
    rw [hqq] at HC3 ⊢
    replace HQ : Hid (w1.heap.size ≤ q) := Lib.hid (by rw [hqq]; exact Nat.le_refl _)
    clear hqq
    have hq : w1.heap.size ≤ q := HQ.out
    have HI3 := Lib.hid (HI1.out.below HB3.out)
    have HR3 := Lib.hid (HR1.out.below HB3.out HR1.out.lt)
    have c6 := HI3.out.c6
    have f6 := HI3.out.pt.fa 6
    obtain ⟨r0, r1, r2, rf, -⟩ := HR3.out
    simp only [World.size_alloc, Nat.zero_add] at r0 r1 r2
    have rf0 := rf 0; have rf1 := rf 1; have rf2 := rf 2
    simp only [World.size_alloc] at rf0 rf1 rf2
    obtain ⟨v0, v1, v2, -, -⟩ := HC3.out
    simp only [Nat.zero_add] at v0 v1 v2
    have qa : ¬ (q = a) := fun e => absurd HI1.out.pt.la (by omega)
    have ra : ¬ (w.heap.size + 1 = a) := fun e => absurd HI.out.pt.la (by omega)
    have aq : ¬ (a = q) := fun e => qa e.symm
    have ar : ¬ (a = w.heap.size + 1) := fun e => ra e.symm
    clear rf hq
    go_wp2
    refine bodyPost_ret (v := .agg #[.int .i64 vk, .int .i64 vn, .string vs]) (by simp [results, Tryz.results18, go_sem, cell_set_self, *]) rfl ⟨rfl, ?_, ?_⟩
    · have hk : Kp (fun z => z = w.heap.size + 1) (X.setCell ⟨a, 6, none⟩ (.int .i64 (wrap64 (t.pr + rd)))) ((((X.setCell ⟨a, 6, none⟩ (.int .i64 (wrap64 (t.pr + rd)))).setCell ⟨w.heap.size + 1, 0, none⟩ (.int .i64 vk)).setCell ⟨w.heap.size + 1, 1, none⟩ (.int .i64 vn)).setCell ⟨w.heap.size + 1, 2, none⟩ (.string vs)) := (((Kp.refl (fun z => z = w.heap.size + 1) _).set ⟨w.heap.size + 1, 0, none⟩ (.inl rfl) _).set ⟨w.heap.size + 1, 1, none⟩ (.inl rfl) _).set ⟨w.heap.size + 1, 2, none⟩ (.inl rfl) _
      exact (HI3.out.probed (wrap64 (t.pr + rd))).kp hk (fun z hz e => absurd (HI.out.pt.lt hz) (by omega))
    · exact (((((below_kp (HBw.out.trans (HB3.out.mono HBw.out.size)) : Kp (fun q => q = a) w X).set ⟨a, 6, none⟩ (.inl rfl) _).set ⟨w.heap.size + 1, 0, none⟩ (.inr (by simp)) _).set ⟨w.heap.size + 1, 1, none⟩ (.inr (by simp)) _).set ⟨w.heap.size + 1, 2, none⟩ (.inr (by simp)) _)
/-- Get. -/
theorem tab_Get (hok : t.p.ok) (vk vn : Int) (vs : ByteArray) (hv : t.get ⟨kk, kn, ks⟩ = ⟨vk, vn, vs⟩) (w : World) (H : TabIn w a s b g hp t) :
    Calls Tryz.prog 18 #[.pointer (some ⟨a, 0, none⟩), .agg #[.int .i64 kk, .int .i64 kn, .string ks]] w fun e w' => e = .returned (.agg #[.int .i64 vk, .int .i64 vn, .string vs]) ∧ TabIn w' a s b g hp (t.read ⟨kk, kn, ks⟩) ∧ Kp (fun q => q = a) w w' := by
  unfold Tbl.get at hv
  unfold Tbl.read
  by_cases hb : t.p.inB ⟨kk, kn, ks⟩
  · rw [PT.get_in hb] at hv
    rw [if_pos hb]
    obtain ⟨i, hi, rfl, h2, rfl, h3⟩ := inB_form hb
    rw [h3] at hv
    exact (tab_Get_in a s b g hp t ks i h2 hok.sz hi vk vn vs hv w H).mono fun e w' ⟨h4, h5⟩ => ⟨h4, H.below h5, below_kp h5⟩
  · rw [PT.get_out hb] at hv
    rw [if_neg hb]
    exact tab_Get_out a s b g hp t kk kn ks hok.hg hok.sz hb vk vn vs hv _ rfl w H
end
end Go.Proofs.YteheolefemlcgaaGreat
/- A table: lay. -/
namespace Go.Proofs.YteheolefemlcgaaGreat
open Go.RowKit
set_option linter.unusedVariables false
set_option linter.unusedSimpArgs false

/-- Four cells in a block of its own. -/
structure C4 (w : World) (a : Nat) (v0 v1 v2 v3 : Value) : Prop where
  c0 : w.cell? ⟨a, 0, none⟩ = some v0
  c1 : w.cell? ⟨a, 1, none⟩ = some v1
  c2 : w.cell? ⟨a, 2, none⟩ = some v2
  c3 : w.cell? ⟨a, 3, none⟩ = some v3
  fz : ∀ i, w.frozen? ⟨a, i, none⟩ = false
  lt : a < w.heap.size
section
variable {w w' : World} {a : Nat} {v0 v1 v2 v3 : Value}
theorem C4.keep (H : C4 w a v0 v1 v2 v3) (hb : w'.heap[a]? = w.heap[a]?) : C4 w' a v0 v1 v2 v3 := by
  have hc : ∀ o, w'.cell? ⟨a, o, none⟩ = w.cell? ⟨a, o, none⟩ := fun o => World.cell?_of_block (a := ⟨a, o, none⟩) hb
  exact ⟨(hc _).trans H.c0, (hc _).trans H.c1, (hc _).trans H.c2, (hc _).trans H.c3, fun i => (World.frozen?_of_block (a := ⟨a, i, none⟩) hb).trans (H.fz i), lt_of_block hb H.lt⟩
theorem C4.below {B : Nat} (H : C4 w a v0 v1 v2 v3) (hb : Below B w w') (hB : a < B) : C4 w' a v0 v1 v2 v3 := H.keep (hb.block a hB)
theorem C4.kp {F : Nat → Prop} (H : C4 w a v0 v1 v2 v3) (hk : Kp F w w') (hF : ¬ F a) : C4 w' a v0 v1 v2 v3 := H.keep (hk.block a H.lt hF)
theorem C4.new (w : World) (v0 v1 v2 v3 : Value) (T : TypeId) : C4 (w.alloc (.cells #[v0, v1, v2, v3] T)) w.heap.size v0 v1 v2 v3 := by
  refine ⟨?_, ?_, ?_, ?_, fun i => ?_, ?_⟩ <;> simp [go_sem]
end
/-- A heap that this call has turned since w0: all that it owned then, F0, or new blocks. -/
structure Hp (F0 : Nat → Prop) (w0 : World) (hp : Nat) (F : Nat → Prop) (hs : HS) (w : World) : Prop where
  at_ : HeapAt F w hp hs
  kp : Kp F0 w0 w
  sub : ∀ q, F q → F0 q ∨ w0.heap.size ≤ q
section
variable {F0 F : Nat → Prop} {w0 w w' : World} {hp : Nat} {hs hs' : HS}
theorem Hp.start (H : HeapAt F w hp hs) : Hp F w hp F hs w := ⟨H, Kp.refl _ _, fun _ h => .inl h⟩
theorem Hp.goes (H : Hp F0 w0 hp F hs w) : Goes F0 w0 hp hs w := ⟨F, H.at_, H.kp, H.sub⟩
theorem Hp.call (H : Hp F0 w0 hp F hs w) (hg : Goes F w hp hs' w') : ∃ F', Hp F0 w0 hp F' hs' w' ∧ (∀ q, F' q → F q ∨ w.heap.size ≤ q) ∧ Kp F w w' := by
  obtain ⟨F', h1, h2, h3⟩ := hg
  exact ⟨F', ⟨h1, H.kp.trans h2 H.sub, fun q hq => (h3 q hq).elim (H.sub q) (fun h => .inr (Nat.le_trans H.kp.size h))⟩, h3, h2⟩
theorem Hp.below (H : Hp F0 w0 hp F hs w) (hb : Below w.heap.size w w') : Hp F0 w0 hp F hs w' := ⟨H.at_.below hb, H.kp.below hb, H.sub⟩
theorem Hp.side {G : Nat → Prop} (H : Hp F0 w0 hp F hs w) (hk : Kp G w w') (hG : ∀ q, G q → ¬ F q ∧ (F0 q ∨ w0.heap.size ≤ q)) : Hp F0 w0 hp F hs w' :=
  ⟨H.at_.kp hk (fun q hq e => (hG q e).1 hq), H.kp.trans hk (fun q hq => (hG q hq).2), H.sub⟩
end
theorem C3.made (w : World) (a : Nat) (i : Nat) (hi : i < a) : C3 (w.alloc (.cells (madeCells #[.int .i64 0, .int .i64 0, .string ByteArray.empty] (a * 3)) 35)) w.heap.size (i * 3) nilV := by
  have hm : ∀ j, j < 3 → (w.alloc (.cells (madeCells #[.int .i64 0, .int .i64 0, .string ByteArray.empty] (a * 3)) 35)).cell? ⟨w.heap.size, i * 3 + j, none⟩ = some ((#[.int .i64 0, .int .i64 0, .string ByteArray.empty] : Array Value)[j]!) := fun j hj => by
    rw [cell_made _ _ _ _ _ (by omega)]
    show some ((#[.int .i64 0, .int .i64 0, .string ByteArray.empty] : Array Value)[(i * 3 + j) % 3]!) = _
    rw [show (i * 3 + j) % 3 = j by omega]
  exact ⟨hm 0 (by omega), hm 1 (by omega), hm 2 (by omega), fun j => frozen_made _ _ _ _, by rw [World.size_alloc]; omega⟩
/-- What lay gives back for cells that are refused. -/
def noPart : Value := .agg #[.slice none 0 0, .pointer none, .int .i64 0, .int .i64 0]
section
variable (F : Nat → Prop) (hp : Nat) (hs : HS) (a n : Nat)
set_option maxHeartbeats 800000 in
theorem lay_no1 (hsz : hs.sizes.length ≤ 900000) (er : Int) (he : hs.roomE a = er) (h0 : er ≠ 0) (w : World) (H : HeapAt F w hp hs) :
    Calls Tryz.prog 89 #[.pointer (some ⟨hp, 0, none⟩), .int .i64 a, .int .i64 n] w fun e w' => e = .returned (.tuple #[noPart, .int .i64 er]) ∧ Goes F w hp hs w' := by
  have HH := Lib.hid H; have HE := Lib.hid he; have HSZ := Lib.hid (show hs.sizes.length ≤ 1000000 by omega)
  have e0 : (er == 0) = false := by simpa using h0
  have e0' : (er != 0) = true := by simpa using h0
  have hno := HS.take_no (h := hs) (n := a) (by rw [he]; exact h0)
  have HT := Lib.hid hno.1; have HID := Lib.hid hno.2
  have HBa := Lib.hid ((Below.refl _ w).alloc (Nat.le_refl _) (.cells #[.slice none 0 0, .pointer none, .int .i64 0, .int .i64 0] 108))
  have HZ := Lib.hid (C4.new w (.slice none 0 0) (.pointer none) (.int .i64 0) (.int .i64 0) 108)
  have HF : Hid (¬ F w.heap.size) := Lib.hid (fun h => by have := H.lt _ h; omega)
  clear H he h0 hsz hno
  go_enter Tryz.func89, Tryz.ntmps89
  go_wp2_with fail
  (with_reducible refine (Take_c F hp hs a 0 er HID.out HE.out HSZ.out _ (HH.out.below HBa.out)).mono ?_)
  rintro e w1 ⟨rfl, hg⟩
  rw [HT.out] at hg
  have HG := Lib.hid hg
  obtain ⟨F', hF', hk, hFF⟩ := hg
  have HZ1 := Lib.hid (HZ.out.kp hk HF.out)
  have HK := Lib.hid hk; have HF' := Lib.hid hF'; have HFF := Lib.hid hFF
  obtain ⟨z0, z1, z2, z3, zf, -⟩ := HZ1.out
  have zf0 := zf 0; have zf1 := zf 1; have zf2 := zf 2; have zf3 := zf 3
  clear HG hF' hk hFF zf
  go_wp2
  refine bodyPost_ret (v := .tuple #[noPart, .int .i64 er]) (by simp [noPart, results, Tryz.results89, go_sem, cell_set_self, *]) rfl ⟨rfl, F', ?_, ?_, ?_⟩
  · have hk2 : Kp (fun q => q = w.heap.size) w1 ((((w1.setCell ⟨w.heap.size, 0, none⟩ (.slice none 0 0)).setCell ⟨w.heap.size, 1, none⟩ (.pointer none)).setCell ⟨w.heap.size, 2, none⟩ (.int .i64 0)).setCell ⟨w.heap.size, 3, none⟩ (.int .i64 0)) := ((((Kp.refl (fun q => q = w.heap.size) _).set ⟨w.heap.size, 0, none⟩ (.inl rfl) _).set ⟨w.heap.size, 1, none⟩ (.inl rfl) _).set ⟨w.heap.size, 2, none⟩ (.inl rfl) _).set ⟨w.heap.size, 3, none⟩ (.inl rfl) _
    refine HF'.out.kp hk2 (fun q hq e => ?_)
    subst e
    rcases HFF.out _ hq with h | h
    · exact HF.out h
    · rw [World.size_alloc] at h; omega
  · exact (((((below_kp HBa.out : Kp F w _).trans HK.out (fun q hq => .inl hq)).set ⟨w.heap.size, 0, none⟩ (.inr (by simp)) _).set ⟨w.heap.size, 1, none⟩ (.inr (by simp)) _).set ⟨w.heap.size, 2, none⟩ (.inr (by simp)) _).set ⟨w.heap.size, 3, none⟩ (.inr (by simp)) _
  · intro q hq
    refine (HFF.out q hq).imp id fun h => ?_
    rw [World.size_alloc] at h; omega
set_option maxHeartbeats 800000 in
theorem lay_no2 (hsz : hs.sizes.length ≤ 900000) (hn : n ≤ 65536) (er : Int) (he : hs.roomE a = 0) (he2 : (hs.take a).roomE (3 * n) = er) (h0 : er ≠ 0) (w : World) (H : HeapAt F w hp hs) :
    Calls Tryz.prog 89 #[.pointer (some ⟨hp, 0, none⟩), .int .i64 a, .int .i64 n] w fun e w' => e = .returned (.tuple #[noPart, .int .i64 er]) ∧ Goes F w hp ((hs.take a).give (hs.takeId a)) w' := by
  have HH := Lib.hid H; have HE := Lib.hid he; have HE2 := Lib.hid he2
  have hs1 := HS.take_sizes hs a
  have HSZ := Lib.hid (show hs.sizes.length ≤ 1000000 by omega)
  have HSZ1 := Lib.hid (show (hs.take a).sizes.length ≤ 1000000 by omega)
  have e0 : (er == 0) = false := by simpa using h0
  have e0' : (er != 0) = true := by simpa using h0
  obtain ⟨id, hid⟩ : ∃ id, hs.takeId a = id := ⟨_, rfl⟩
  have hin : In64 id := by
    have k : hs.ok := by obtain ⟨k, -⟩ := H; exact k
    rw [← hid]
    by_cases ha : (a : Int) = 0
    · rw [ha, HS.take_zero.2]; unfold In64; omega
    · obtain ⟨-, h2, -, -, -, -, h7⟩ := HS.take_is k he ha
      unfold In64; omega
  have HIN := Lib.hid hin
  have HID := Lib.hid hid
  have HT2 := Lib.hid (HS.take_no (h := hs.take a) (n := 3 * n) (by rw [he2]; exact h0)).1
  have HID2 := Lib.hid (HS.take_no (h := hs.take a) (n := 3 * n) (by rw [he2]; exact h0)).2
  have w3 : wrap64 (3 * (n : Int)) = 3 * (n : Int) := by unfold wrap64; omega
  have HBa := Lib.hid ((Below.refl _ w).alloc (Nat.le_refl _) (.cells #[.slice none 0 0, .pointer none, .int .i64 0, .int .i64 0] 108))
  have HZ := Lib.hid (C4.new w (.slice none 0 0) (.pointer none) (.int .i64 0) (.int .i64 0) 108)
  have HF : Hid (¬ F w.heap.size) := Lib.hid (fun h => by have := H.lt _ h; omega)
  have HP0 := Lib.hid ((Hp.start H).below HBa.out)
  rw [hid]
  clear H he he2 h0 hsz hin hid hs1 hn
  go_enter Tryz.func89, Tryz.ntmps89
  go_wp2_with fail
  (with_reducible refine (Take_c F hp hs a id 0 HID.out HE.out HSZ.out _ HP0.out.at_).mono ?_)
  rintro e w1 ⟨rfl, hg⟩
  obtain ⟨F1, hP1, hs1, hk1⟩ := HP0.out.call hg
  have HP1 := Lib.hid hP1; have HS1 := Lib.hid hs1
  have HZ1 := Lib.hid (HZ.out.kp hk1 HF.out)
  have HF1 : Hid (¬ F1 w.heap.size) := Lib.hid (fun h => (hs1 _ h).elim HF.out (fun h => by rw [World.size_alloc] at h; omega))
  clear hg hP1 hs1 hk1
  go_wp2_with fail
  (with_reducible refine (Take_c F1 hp (hs.take a) (3 * n) 0 er HID2.out HE2.out HSZ1.out _ HP1.out.at_).mono ?_)
  rintro e w2 ⟨rfl, hg⟩
  rw [HT2.out] at hg
  obtain ⟨F2, hP2, hs2, hk2⟩ := HP1.out.call hg
  have HP2 := Lib.hid hP2
  have HZ2 := Lib.hid (HZ1.out.kp hk2 HF1.out)
  have HF2 : Hid (¬ F2 w.heap.size) := Lib.hid (fun h => (hs2 _ h).elim HF1.out (fun h => by have := HZ1.out.lt; omega))
  clear hg hP2 hs2 hk2
  go_wp2_with fail
  (with_reducible refine (Give_c F2 hp (hs.take a) id _ HIN.out rfl HSZ1.out _ HP2.out.at_).mono ?_)
  rintro e w4 ⟨rfl, hg⟩
  obtain ⟨F3, hP3, hs3, hk3⟩ := HP2.out.call hg
  have HP3 := Lib.hid hP3
  have HZ3 := Lib.hid (HZ2.out.kp hk3 HF2.out)
  have HF3 : Hid (¬ F3 w.heap.size) := Lib.hid (fun h => (hs3 _ h).elim HF2.out (fun h => by have := HZ2.out.lt; omega))
  clear hg hP3 hs3 hk3
  obtain ⟨z0, z1, z2, z3, zf, -⟩ := HZ3.out
  have zf0 := zf 0; have zf1 := zf 1; have zf2 := zf 2; have zf3 := zf 3
  clear zf
  go_wp2
  refine bodyPost_ret (v := .tuple #[noPart, .int .i64 er]) (by simp [noPart, results, Tryz.results89, go_sem, cell_set_self, *]) rfl ⟨rfl, ?_⟩
  have hk2 : Kp (fun q => q = w.heap.size) w4 ((((w4.setCell ⟨w.heap.size, 0, none⟩ (.slice none 0 0)).setCell ⟨w.heap.size, 1, none⟩ (.pointer none)).setCell ⟨w.heap.size, 2, none⟩ (.int .i64 0)).setCell ⟨w.heap.size, 3, none⟩ (.int .i64 0)) := ((((Kp.refl (fun q => q = w.heap.size) _).set ⟨w.heap.size, 0, none⟩ (.inl rfl) _).set ⟨w.heap.size, 1, none⟩ (.inl rfl) _).set ⟨w.heap.size, 2, none⟩ (.inl rfl) _).set ⟨w.heap.size, 3, none⟩ (.inl rfl) _
  exact (HP3.out.side hk2 (fun q hq => by subst hq; exact ⟨HF3.out, .inr (Nat.le_refl _)⟩)).goes
set_option maxHeartbeats 800000 in
theorem lay_yes (hsz : hs.sizes.length ≤ 900000) (ha : a ≤ 65536) (hn : n ≤ 65536) (hpw : n = 0 ∨ ∃ e, e ≤ 16 ∧ n = 2 ^ e) (he : hs.roomE a = 0) (he2 : (hs.take a).roomE (3 * n) = 0) (x y : Int) (hx : hs.takeId a = x) (hy : (hs.take a).takeId (3 * n) = y) (w : World) (H : HeapAt F w hp hs) :
    Calls Tryz.prog 89 #[.pointer (some ⟨hp, 0, none⟩), .int .i64 a, .int .i64 n] w fun e w' => ∃ s b g F', e = .returned (.tuple #[.agg #[.slice (some ⟨s, 0, none⟩) a a, .pointer (some ⟨b, 0, none⟩), .int .i64 x, .int .i64 y], .int .i64 0]) ∧ Hp F w hp F' ((hs.take a).take (3 * n)) w' ∧ w.heap.size ≤ s ∧ w.heap.size ≤ b ∧ w.heap.size ≤ g ∧ ¬ F' s ∧ ¬ F' b ∧ ¬ F' g ∧ s ≠ b ∧ s ≠ g ∧ NdIn w' b g (PH.new n) ∧ (∀ i, i < a → C3 w' s (i * 3) nilV) ∧ (∀ i, w'.frozen? ⟨s, i, none⟩ = false) ∧ s < w'.heap.size := by
  have HE := Lib.hid he; have HE2 := Lib.hid he2
  have hs1 := HS.take_sizes hs a
  have HSZ := Lib.hid (show hs.sizes.length ≤ 1000000 by omega)
  have HSZ1 := Lib.hid (show (hs.take a).sizes.length ≤ 1000000 by omega)
  have HX := Lib.hid hx; have HY := Lib.hid hy
  have w3 : wrap64 (3 * (n : Int)) = 3 * (n : Int) := by unfold wrap64; omega
  have HBa := Lib.hid ((Below.refl _ w).alloc (Nat.le_refl _) (.cells #[.slice none 0 0, .pointer none, .int .i64 0, .int .i64 0] 108))
  have HZ := Lib.hid (C4.new w (.slice none 0 0) (.pointer none) (.int .i64 0) (.int .i64 0) 108)
  have HF : Hid (¬ F w.heap.size) := Lib.hid (fun h => by have := H.lt _ h; omega)
  have HP0 := Lib.hid ((Hp.start H).below HBa.out)
  have HN := Lib.hid hn; have HPW := Lib.hid hpw
  have hmk := make_vals a ha
  clear H he he2 hsz hs1 hn hpw hx hy ha
  go_enter Tryz.func89, Tryz.ntmps89
  go_wp2_with fail
  (with_reducible refine (Take_c F hp hs a x 0 HX.out HE.out HSZ.out _ HP0.out.at_).mono ?_)
  rintro e w1 ⟨rfl, hg⟩
  obtain ⟨F1, hP1, hs1, hk1⟩ := HP0.out.call hg
  have HP1 := Lib.hid hP1
  have HZ1 := Lib.hid (HZ.out.kp hk1 HF.out)
  have HF1 : Hid (¬ F1 w.heap.size) := Lib.hid (fun h => (hs1 _ h).elim HF.out (fun h => by rw [World.size_alloc] at h; omega))
  clear hg hP1 hs1 hk1
  go_wp2_with fail
  (with_reducible refine (Take_c F1 hp (hs.take a) (3 * n) y 0 HY.out HE2.out HSZ1.out _ HP1.out.at_).mono ?_)
  rintro e w2 ⟨rfl, hg⟩
  obtain ⟨F2, hP2, hs2, hk2⟩ := HP1.out.call hg
  have HP2 := Lib.hid hP2
  have HZ2 := Lib.hid (HZ1.out.kp hk2 HF1.out)
  have HF2 : Hid (¬ F2 w.heap.size) := Lib.hid (fun h => (hs2 _ h).elim HF1.out (fun h => by have := HZ1.out.lt; omega))
  clear hg hP2 hs2 hk2
  go_wp2_with fail
  (with_reducible refine (nodes_New n HN.out HPW.out _).mono ?_)
  rintro e w4 ⟨rfl, hn4, hb4⟩
  have HN4 := Lib.hid hn4; have HB4 := Lib.hid hb4
  have HZ4 := Lib.hid (HZ2.out.below hb4 HZ2.out.lt)
  clear hn4 hb4
  have HM : Hid (∀ i, i < a → C3 (w4.alloc (.cells (madeCells #[.int .i64 0, .int .i64 0, .string ByteArray.empty] (a * 3)) 35)) w4.heap.size (i * 3) nilV) := Lib.hid (C3.made w4 a)
  have HMF : Hid (∀ i, (w4.alloc (.cells (madeCells #[.int .i64 0, .int .i64 0, .string ByteArray.empty] (a * 3)) 35)).frozen? ⟨w4.heap.size, i, none⟩ = false) := Lib.hid (fun i => frozen_made _ _ _ _)
  have HA : Hid (Below w4.heap.size w4 (w4.alloc (.cells (madeCells #[.int .i64 0, .int .i64 0, .string ByteArray.empty] (a * 3)) 35))) := Lib.hid ((Below.refl _ w4).alloc (Nat.le_refl _) _)
  obtain ⟨z0, z1, z2, z3, zf, -⟩ := HZ4.out.below HA.out HZ4.out.lt
  have zf0 := zf 0; have zf1 := zf 1; have zf2 := zf 2; have zf3 := zf 3
  clear zf
  go_wp2
  have hk2 : Kp (fun q => q = w.heap.size) (w4.alloc (.cells (madeCells #[.int .i64 0, .int .i64 0, .string ByteArray.empty] (a * 3)) 35)) (((((w4.alloc (.cells (madeCells #[.int .i64 0, .int .i64 0, .string ByteArray.empty] (a * 3)) 35)).setCell ⟨w.heap.size, 0, none⟩ (.slice (some ⟨w4.heap.size, 0, none⟩) a a)).setCell ⟨w.heap.size, 1, none⟩ (.pointer (some ⟨w2.heap.size + 1, 0, none⟩))).setCell ⟨w.heap.size, 2, none⟩ (.int .i64 x)).setCell ⟨w.heap.size, 3, none⟩ (.int .i64 y)) := ((((Kp.refl (fun q => q = w.heap.size) _).set ⟨w.heap.size, 0, none⟩ (.inl rfl) _).set ⟨w.heap.size, 1, none⟩ (.inl rfl) _).set ⟨w.heap.size, 2, none⟩ (.inl rfl) _).set ⟨w.heap.size, 3, none⟩ (.inl rfl) _
  have h24 := HB4.out.size
  have hw2 := HZ2.out.lt
  have hg4 := HN4.out.lg
  have hb4 := HN4.out.lb
  have hsz5 : (w4.alloc (.cells (madeCells #[.int .i64 0, .int .i64 0, .string ByteArray.empty] (a * 3)) 35)).heap.size = w4.heap.size + 1 := World.size_alloc _ _
  have hlt2 : ∀ q, F2 q → q < w2.heap.size := HP2.out.at_.lt
  refine bodyPost_ret (v := .tuple #[.agg #[.slice (some ⟨w4.heap.size, 0, none⟩) a a, .pointer (some ⟨w2.heap.size + 1, 0, none⟩), .int .i64 x, .int .i64 y], .int .i64 0]) (by clear hk2 hsz5 hlt2 h24 hw2 hg4 hb4; simp [results, Tryz.results89, go_sem, cell_set_self, *]) rfl ⟨w4.heap.size, w2.heap.size + 1, w2.heap.size, F2, rfl, ?_, by omega, by omega, by omega, fun h => absurd (hlt2 _ h) (by omega), fun h => absurd (hlt2 _ h) (by omega), fun h => absurd (hlt2 _ h) (by omega), by omega, by omega, ?_, fun i hi => ?_, fun i => ?_, ?_⟩
  · exact ((HP2.out.below HB4.out).below HA.out).side hk2 (fun q hq => by subst hq; exact ⟨HF2.out, .inr (Nat.le_refl _)⟩)
  · exact (HN4.out.below HA.out).keep (hk2.block _ (by omega) (by omega)) (hk2.block _ (by omega) (by omega))
  · exact (HM.out i hi).kp hk2 (by omega)
  · exact (World.frozen?_of_block (a := ⟨w4.heap.size, i, none⟩) (hk2.block w4.heap.size (by omega) (by omega))).trans (HMF.out i)
  · have := hk2.size; omega
end
end Go.Proofs.YteheolefemlcgaaGreat
/- Contracts of the package nodes: At, Dump; slices.Clone of nodes and of values. -/
namespace Go.Proofs.YteheolefemlcgaaGreat
open Go.RowKit
set_option linter.unusedVariables false
set_option linter.unusedSimpArgs false

theorem row_cells {w : World} {base n size : Nat} {e : TypeId} {v : Value} {xs : List Value} (h : w.ownsRow base e size v n xs) (hv : v ≠ .slice none 0 0) :
    ∃ g cp, v = .slice (some ⟨g, 0, none⟩) n cp ∧ base ≤ g ∧ g < w.heap.size ∧ n ≤ cp ∧ (∀ j u, xs[j]? = some u → w.cell? ⟨g, j, none⟩ = some u) ∧ ∀ i, w.frozen? ⟨g, i, none⟩ = false := by
  rcases h.2 with ⟨e, -⟩ | ⟨g, cap, cur, e, hb, hg, hn, hc, hs, ht⟩
  · exact absurd e hv
  · refine ⟨g, cap, e, hb, (Array.getElem?_eq_some_iff.1 hg).1, hn, fun j u hj => ?_, fun i => ?_⟩
    · have hj2 : cur[j]? = some u := by
        rw [← ht] at hj
        have h3 := List.getElem?_take (l := cur.toList) (i := n * size) (j := j)
        rw [hj] at h3
        split at h3
        · rw [Array.getElem?_toList] at h3; exact h3.symm
        · simp at h3
      simp [World.cell?, hg, hj2, go_sem]
    · simp [World.frozen?, hg, go_sem]
theorem clone_nodes (g n c : Nat) (cs : List Value) (hcs : cs.length = n * 7) (h1 : ∀ u ∈ cs, u.oneCell' = true) (hn : n ≤ 65536) (w : World) (hc : ∀ j u, cs[j]? = some u → w.cell? ⟨g, j, none⟩ = some u) :
    Calls Tryz.prog 102 #[.slice (some ⟨g, 0, none⟩) n c] w fun e w' => ∃ gd cp, e = .returned (.slice (some ⟨gd, 0, none⟩) n cp) ∧ w.heap.size ≤ gd ∧ gd < w'.heap.size ∧ n ≤ cp ∧ (∀ j u, cs[j]? = some u → w'.cell? ⟨gd, j, none⟩ = some u) ∧ (∀ i, w'.frozen? ⟨gd, i, none⟩ = false) ∧ Below w.heap.size w w' := by
  have q22 : ∀ (w : World) (a : Option Addr) (n c n' c' : Nat), (binOp .eql 39 (.slice a n c) (.slice none n' c')).run Tryz.prog w = .ok (.bool a.isNone) w := fun w a n c n' c' => Lib.run_eql_slice_nil w _ _ a n c n' c' Tryz.underlying39
  obtain ⟨i0, hi, hz0, hz1, hz2⟩ := info_parts infoNode
  have HC := Lib.hid hc; have H1 := Lib.hid h1; have HCS := Lib.hid hcs
  clear hc h1 hcs
  go_enter Tryz.func102, Tryz.ntmps102
  go_wp2_with (at_builtin; refine wpList_append_own_at _ rfl _ _ 39 rfl w.heap.size 44 i0 _ 7 72 Tryz.underlying39 hi hz0 hz1 hz2 rfl (by decide) _ _ _ rfl (World.ownsRow_made w #[] 0 (Nat.le_refl _) (Nat.zero_le _) rfl) ⟨g, 0, none⟩ n c cs rfl HCS.out ?qc2 H1.out ?qc4 ?qc5 ?qc6 ?_)
  case qc2 =>
    intro j u hj
    rw [addr_add, Nat.zero_add]
    exact Lib.cell?_alloc_some _ (HC.out j u hj)
  case qc4 => unfold maxLen; omega
  case qc5 => omega
  case qc6 => simp
  intro v' w1 hown hgrow hnil hat
  go_wp2
  go_ret
  have hv : v' ≠ .slice none 0 0 := hnil
  obtain ⟨gd, cp, e1, e2, e3, e4, e5, e6⟩ := row_cells hown hv
  subst e1
  refine ⟨gd, cp, rfl, e2, e3, e4, e5, e6, ((Below.refl _ w).alloc (Nat.le_refl _) _).grown hgrow (by simp) (by intro k hk; simp [Value.ownBlock] at hk; omega)⟩
theorem clone_vals (g n c : Nat) (cs : List Value) (hcs : cs.length = n * 3) (h1 : ∀ u ∈ cs, u.oneCell' = true) (hn : n ≤ 65536) (w : World) (hc : ∀ j u, cs[j]? = some u → w.cell? ⟨g, j, none⟩ = some u) :
    Calls Tryz.prog 59 #[.slice (some ⟨g, 0, none⟩) n c] w fun e w' => ∃ gd cp, e = .returned (.slice (some ⟨gd, 0, none⟩) n cp) ∧ w.heap.size ≤ gd ∧ gd < w'.heap.size ∧ n ≤ cp ∧ (∀ j u, cs[j]? = some u → w'.cell? ⟨gd, j, none⟩ = some u) ∧ (∀ i, w'.frozen? ⟨gd, i, none⟩ = false) ∧ Below w.heap.size w w' := by
  have q22 : ∀ (w : World) (a : Option Addr) (n c n' c' : Nat), (binOp .eql 38 (.slice a n c) (.slice none n' c')).run Tryz.prog w = .ok (.bool a.isNone) w := fun w a n c n' c' => Lib.run_eql_slice_nil w _ _ a n c n' c' Tryz.underlying38
  obtain ⟨i0, hi, hz0, hz1, hz2⟩ := info_parts infoVal
  have HC := Lib.hid hc; have H1 := Lib.hid h1; have HCS := Lib.hid hcs
  clear hc h1 hcs
  go_enter Tryz.func59, Tryz.ntmps59
  go_wp2_with (at_builtin; refine wpList_append_own_at _ rfl _ _ 38 rfl w.heap.size 35 i0 _ 3 32 Tryz.underlying38 hi hz0 hz1 hz2 rfl (by decide) _ _ _ rfl (World.ownsRow_made w #[] 0 (Nat.le_refl _) (Nat.zero_le _) rfl) ⟨g, 0, none⟩ n c cs rfl HCS.out ?qc2 H1.out ?qc4 ?qc5 ?qc6 ?_)
  case qc2 =>
    intro j u hj
    rw [addr_add, Nat.zero_add]
    exact Lib.cell?_alloc_some _ (HC.out j u hj)
  case qc4 => unfold maxLen; omega
  case qc5 => omega
  case qc6 => simp
  intro v' w1 hown hgrow hnil hat
  go_wp2
  go_ret
  have hv : v' ≠ .slice none 0 0 := hnil
  obtain ⟨gd, cp, e1, e2, e3, e4, e5, e6⟩ := row_cells hown hv
  subst e1
  refine ⟨gd, cp, rfl, e2, e3, e4, e5, e6, ((Below.refl _ w).alloc (Nat.le_refl _) _).grown hgrow (by simp) (by intro k hk; simp [Value.ownBlock] at hk; omega)⟩
/-- The cells of the nodes, one behind the other. -/
def PH.cell (h : PH) (j : Nat) : Value :=
  if j % 7 = 0 then .int .i64 (h.key (j / 7)).k else if j % 7 = 1 then .int .i64 (h.key (j / 7)).n else if j % 7 = 2 then .string (h.key (j / 7)).s
  else if j % 7 = 3 then .int .i64 (h.val (j / 7)).k else if j % 7 = 4 then .int .i64 (h.val (j / 7)).n else if j % 7 = 5 then .string (h.val (j / 7)).s else .int .i64 (h.nxt (mpos h.n) (j / 7))
def PH.cells (h : PH) : List Value := (List.range (h.n * 7)).map h.cell
theorem cells_get (h : PH) (j : Nat) (u : Value) (hj : h.cells[j]? = some u) : j < h.n * 7 ∧ u = h.cell j := by
  unfold PH.cells at hj
  rw [List.getElem?_map] at hj
  by_cases hl : j < h.n * 7
  · rw [List.getElem?_range hl] at hj
    exact ⟨hl, by simpa using hj.symm⟩
  · rw [List.getElem?_eq_none (by simp; omega)] at hj
    simp at hj
theorem cells_at (h : PH) (j : Nat) (hl : j < h.n * 7) : h.cells[j]? = some (h.cell j) := by
  unfold PH.cells
  rw [List.getElem?_map, List.getElem?_range hl]; rfl
theorem NdIn.cell {w : World} {b g : Nat} {h : PH} (H : NdIn w b g h) (j : Nat) (hj : j < h.n * 7) : w.cell? ⟨g, j, none⟩ = some (h.cell j) := by
  have hi : j / 7 < h.n := by omega
  obtain ⟨k0, k1, k2⟩ := H.key (j / 7) hi
  obtain ⟨v0, v1, v2⟩ := H.val (j / 7) hi
  have nx := H.nx (j / 7) hi
  unfold PH.cell
  rcases (show j % 7 = 0 ∨ j % 7 = 1 ∨ j % 7 = 2 ∨ j % 7 = 3 ∨ j % 7 = 4 ∨ j % 7 = 5 ∨ j % 7 = 6 by omega) with e | e | e | e | e | e | e <;> simp only [e, if_true, if_false, Nat.reduceEqDiff]
  · rw [show j = j / 7 * 7 by omega] ; rw [show j / 7 * 7 / 7 = j / 7 by omega]; exact k0
  · rw [show j = j / 7 * 7 + 1 by omega] ; rw [show (j / 7 * 7 + 1) / 7 = j / 7 by omega]; exact k1
  · rw [show j = j / 7 * 7 + 2 by omega] ; rw [show (j / 7 * 7 + 2) / 7 = j / 7 by omega]; exact k2
  · rw [show j = j / 7 * 7 + 3 by omega] ; rw [show (j / 7 * 7 + 3) / 7 = j / 7 by omega]; exact v0
  · rw [show j = j / 7 * 7 + 4 by omega] ; rw [show (j / 7 * 7 + 4) / 7 = j / 7 by omega]; exact v1
  · rw [show j = j / 7 * 7 + 5 by omega] ; rw [show (j / 7 * 7 + 5) / 7 = j / 7 by omega]; exact v2
  · rw [show j = j / 7 * 7 + 6 by omega] ; rw [show (j / 7 * 7 + 6) / 7 = j / 7 by omega]; exact nx
theorem cell_one (h : PH) (j : Nat) : (h.cell j).oneCell' = true := by
  unfold PH.cell; (repeat' split) <;> rfl
/-- A copy of the nodes, in memory of its own. -/
def DumpAt (w : World) (gd : Nat) (h : PH) : Prop := ∀ i, i < h.n → C7 w gd (i * 7) (h.key i) (h.val i) (h.nxt (mpos h.n) i)
theorem DumpAt.keep {w w' : World} {gd : Nat} {h : PH} (H : DumpAt w gd h) (hb : w'.heap[gd]? = w.heap[gd]?) : DumpAt w' gd h := fun i hi => by
  have hh := H i hi
  have hc : ∀ o, w'.cell? ⟨gd, o, none⟩ = w.cell? ⟨gd, o, none⟩ := fun o => World.cell?_of_block (a := ⟨gd, o, none⟩) hb
  exact ⟨(hc _).trans hh.c0, (hc _).trans hh.c1, (hc _).trans hh.c2, (hc _).trans hh.c3, (hc _).trans hh.c4, (hc _).trans hh.c5, (hc _).trans hh.c6, fun i => (World.frozen?_of_block (a := ⟨gd, i, none⟩) hb).trans (hh.fz i), lt_of_block hb hh.lt⟩
theorem Nd_Dump (b g : Nat) (h : PH) (hz : h.n ≤ 65536) (w : World) (H : NdIn w b g h) :
    Calls Tryz.prog 60 #[.pointer (some ⟨b, 0, none⟩)] w fun e w' => ∃ gd cp, e = .returned (.slice (some ⟨gd, 0, none⟩) h.n cp) ∧ w.heap.size ≤ gd ∧ gd < w'.heap.size ∧ DumpAt w' gd h ∧ h.n ≤ cp ∧ Below w.heap.size w w' := by
  have HI := Lib.hid H; have HZ := Lib.hid hz
  have c0 := H.c0
  clear H hz
  go_enter Tryz.func60, Tryz.ntmps60
  go_wp2_with fail
  (refine (clone_nodes g h.n h.n h.cells (by unfold PH.cells; simp) (fun u hu => ?_) HZ.out _ (fun j u hj => ?_)).mono ?_)
  · obtain ⟨j, -, rfl⟩ := List.mem_map.1 hu
    exact cell_one h j
  · obtain ⟨h1, rfl⟩ := cells_get h j u hj
    exact HI.out.cell j h1
  rintro e w1 ⟨gd, cp, rfl, h1, h2, h3, h4, h5, h6⟩
  have HP : Hid (w.heap.size ≤ gd ∧ gd < w1.heap.size ∧ DumpAt w1 gd h ∧ h.n ≤ cp ∧ Below w.heap.size w w1) := Lib.hid ⟨h1, h2, fun i hi => by
    have hc : ∀ j, j < 7 → w1.cell? ⟨gd, i * 7 + j, none⟩ = some (h.cell (i * 7 + j)) := fun j hj => h4 _ _ (cells_at h _ (by omega))
    have hv : ∀ j, j < 7 → (i * 7 + j) % 7 = j ∧ (i * 7 + j) / 7 = i := fun j hj => by omega
    have g0 := hc 0 (by omega); have g1 := hc 1 (by omega); have g2 := hc 2 (by omega); have g3 := hc 3 (by omega); have g4 := hc 4 (by omega); have g5 := hc 5 (by omega); have g6 := hc 6 (by omega)
    unfold PH.cell at g0 g1 g2 g3 g4 g5 g6
    rw [(hv 0 (by omega)).1, (hv 0 (by omega)).2] at g0
    rw [(hv 1 (by omega)).1, (hv 1 (by omega)).2] at g1
    rw [(hv 2 (by omega)).1, (hv 2 (by omega)).2] at g2
    rw [(hv 3 (by omega)).1, (hv 3 (by omega)).2] at g3
    rw [(hv 4 (by omega)).1, (hv 4 (by omega)).2] at g4
    rw [(hv 5 (by omega)).1, (hv 5 (by omega)).2] at g5
    rw [(hv 6 (by omega)).1, (hv 6 (by omega)).2] at g6
    exact ⟨g0, g1, g2, g3, g4, g5, g6, h5, h2⟩, h3, h6⟩
  clear h1 h2 h3 h4 h5 h6
  go_wp2
  go_ret
  exact ⟨gd, cp, rfl, HP.out⟩
end Go.Proofs.YteheolefemlcgaaGreat
/- A table: the keys for the census; present. -/
namespace Go.Proofs.YteheolefemlcgaaGreat
open Go.RowKit
set_option linter.unusedVariables false
set_option linter.unusedSimpArgs false

/-- What is counted: the whole numbers l behind the cell K, the count o in the cell O; blocks S are left alone (but for these two cells). -/
structure KO (w0 : World) (S : Nat → Prop) (K O : Nat) (l : List Int) (o : Int) (w : World) : Prop where
  ex : ∃ v, w.cell? ⟨K, 0, none⟩ = some v ∧ w.ownsRow w0.heap.size 3 1 v l.length (l.map (Value.int .i64)) ∧ ∀ q, v.ownBlock = some q → ¬ S q
  co : w.cell? ⟨O, 0, none⟩ = some (.int .i64 o)
  fK : ∀ i, w.frozen? ⟨K, i, none⟩ = false
  fO : ∀ i, w.frozen? ⟨O, i, none⟩ = false
  ne : K ≠ O
  sK : S K ∧ w0.heap.size ≤ K
  sO : S O ∧ w0.heap.size ≤ O
  res : ∀ q, S q → q < w.heap.size
  bel : Below w0.heap.size w0 w
section
variable {w0 w w' : World} {S : Nat → Prop} {K O : Nat} {l : List Int} {o : Int}
theorem KO.below (H : KO w0 S K O l o w) (hb : Below w.heap.size w w') : KO w0 S K O l o w' := by
  have lK := H.res K H.sK.1; have lO := H.res O H.sO.1
  obtain ⟨v, h1, h2, h3⟩ := H.ex
  exact ⟨⟨v, (hb.cell (p := ⟨K, 0, none⟩) lK).trans h1, ownsRow_below h2 hb, h3⟩, (hb.cell (p := ⟨O, 0, none⟩) lO).trans H.co, fun i => (hb.frozen (p := ⟨K, i, none⟩) lK).trans (H.fK i), fun i => (hb.frozen (p := ⟨O, i, none⟩) lO).trans (H.fO i), H.ne, H.sK, H.sO, fun q hq => Nat.lt_of_lt_of_le (H.res q hq) hb.size, below_step H.bel hb⟩
/-- More blocks are reserved: new ones. -/
theorem KO.reserve {S' : Nat → Prop} (H : KO w0 S K O l o w) (hb : Below w.heap.size w w') (h1 : ∀ q, S q → S' q) (h2 : ∀ q, S' q → q < w'.heap.size ∧ (S q ∨ w.heap.size ≤ q)) : KO w0 S' K O l o w' := by
  have H' := H.below hb
  obtain ⟨v, a, b, c⟩ := H.ex
  obtain ⟨v', a', b', c'⟩ := H'.ex
  have e : v' = v := by
    have := (hb.cell (p := ⟨K, 0, none⟩) (H.res K H.sK.1)).trans a
    rw [a'] at this
    simpa using this
  subst e
  refine ⟨⟨v', a', b', fun q hq hS => ?_⟩, H'.co, H'.fK, H'.fO, H.ne, ⟨h1 _ H.sK.1, H.sK.2⟩, ⟨h1 _ H.sO.1, H.sO.2⟩, fun q hq => (h2 q hq).1, H'.bel⟩
  rcases (h2 q hS).2 with h | h
  · exact c q hq h
  · have := (b.lt q hq).2; omega
/-- A number more: the row has grown, its value is laid into the cell. -/
theorem KO.add {w1 w2 : World} {v v2 : Value} {n : Int} (H : KO w0 S K O l o w) (hb : Below w.heap.size w w1) (hv : w.cell? ⟨K, 0, none⟩ = some v) (hown : w2.ownsRow w0.heap.size 3 1 v2 (l.length + 1) (l.map (Value.int .i64) ++ [.int .i64 n])) (hg : w1.grownBy w2 v.ownBlock) (hat : v2.ownBlock = v.ownBlock ∨ v2.ownBlock = some w1.heap.size) :
    KO w0 S K O (l ++ [n]) o (w2.setCell ⟨K, 0, none⟩ v2) ∧ ∀ q, S q → q ≠ K → (w2.setCell ⟨K, 0, none⟩ v2).heap[q]? = w.heap[q]? := by
  have H1 := H.below hb
  obtain ⟨v', h1, h2, h3⟩ := H1.ex
  have e : v' = v := by
    have := (hb.cell (p := ⟨K, 0, none⟩) (H.res K H.sK.1)).trans hv
    rw [h1] at this
    simpa using this
  subst e
  have hfar : ∀ q, S q → w2.heap[q]? = w1.heap[q]? := fun q hq => hg.block q (H1.res q hq) (fun e => h3 q e.symm hq)
  have hK := hfar K H.sK.1; have hO := hfar O H.sO.1
  have hlt : ∀ q, S q → q < w2.heap.size := fun q hq => lt_of_block (hfar q hq) (H1.res q hq)
  have hn2 : ∀ q, v2.ownBlock = some q → ¬ S q := fun q hq hS => by
    rcases hat with h | h
    · rw [hq] at h; exact h3 q h.symm hS
    · rw [hq] at h; simp at h; have := H1.res q hS; omega
  have hset : ∀ q, q ≠ K → (w2.setCell ⟨K, 0, none⟩ v2).heap[q]? = w2.heap[q]? := fun q hq => Below.heap_setCell _ _ _ _ hq
  refine ⟨⟨⟨v2, ?_, ?_, hn2⟩, ?_, fun i => ?_, fun i => ?_, H.ne, H.sK, H.sO, fun q hq => ?_, ?_⟩, fun q hq hne => ?_⟩
  · rw [cell_set_self, World.cell?_of_block (a := ⟨K, 0, none⟩) hK, h1]; rfl
  · rw [List.length_append, List.map_append]
    refine ownsRow_of_block hown (fun q hq => hset q (fun e => ?_))
    subst e; exact hn2 q hq H.sK.1
  · rw [World.cell?_of_block (a := ⟨O, 0, none⟩) (hset O (Ne.symm H.ne)), World.cell?_of_block (a := ⟨O, 0, none⟩) hO]; exact H1.co
  · rw [frozen_set, World.frozen?_of_block (a := ⟨K, i, none⟩) hK]; exact H1.fK i
  · rw [frozen_set, World.frozen?_of_block (a := ⟨O, i, none⟩) hO]; exact H1.fO i
  · rw [sz_set]; exact hlt q hq
  · exact (H1.bel.grown hg H1.bel.size (fun q e => (h2.lt q e).1)).setCell (by exact H.sK.2) _
  · rw [hset q hne, hfar q hq]
    exact hb.block q (H.res q hq)
/-- One more of the others. -/
theorem KO.count (H : KO w0 S K O l o w) (x : Int) : KO w0 S K O l x (w.setCell ⟨O, 0, none⟩ (.int .i64 x)) ∧ ∀ q, S q → q ≠ O → (w.setCell ⟨O, 0, none⟩ (.int .i64 x)).heap[q]? = w.heap[q]? := by
  have hset : ∀ q, q ≠ O → (w.setCell ⟨O, 0, none⟩ (.int .i64 x)).heap[q]? = w.heap[q]? := fun q hq => Below.heap_setCell _ _ _ _ hq
  obtain ⟨v, h1, h2, h3⟩ := H.ex
  refine ⟨⟨⟨v, ?_, ?_, h3⟩, ?_, fun i => (frozen_set _ _ _ _).trans (H.fK i), fun i => (frozen_set _ _ _ _).trans (H.fO i), H.ne, H.sK, H.sO, fun q hq => by rw [sz_set]; exact H.res q hq, H.bel.setCell (by exact H.sO.2) _⟩, fun q _ hq => hset q hq⟩
  · rw [World.cell?_of_block (a := ⟨K, 0, none⟩) (hset K H.ne)]; exact h1
  · exact ownsRow_of_block h2 (fun q hq => hset q (fun e => by subst e; exact h3 q hq H.sO.1))
  · rw [cell_set_self, H.co]; rfl
end
theorem table_present (kk kn : Int) (ks : ByteArray) (q : Bool) (hq : (kk != 0) = q) (w : World) : Calls Tryz.prog 98 #[.agg #[.int .i64 kk, .int .i64 kn, .string ks]] w fun e w' => e = .returned (.bool q) ∧ Below w.heap.size w w' := by
  go_enter Tryz.func98, Tryz.ntmps98
  go_wp2
  go_ret
  exact ⟨rfl, (Below.refl _ w).alloc (Nat.le_refl _) _⟩
set_option maxHeartbeats 800000 in
/-- count: a key of another kind. -/
theorem count_other (w0 : World) (S : Nat → Prop) (K O : Nat) (l : List Int) (o : Int) (kk kn : Int) (ks : ByteArray) (h2 : kk ≠ 2) (ho : 0 ≤ o ∧ o ≤ 1000000) (w : World) (H : KO w0 S K O l o w) :
    Calls Tryz.prog 112 #[.agg #[.int .i64 kk, .int .i64 kn, .string ks], .pointer (some ⟨K, 0, none⟩), .pointer (some ⟨O, 0, none⟩)] w fun e w' => e = .returned (.tuple #[]) ∧ KO w0 S K O l (o + 1) w' ∧ ∀ q, S q → q ≠ K → q ≠ O → w'.heap[q]? = w.heap[q]? := by
  have k2 : (kk == 2) = false := by simpa using h2
  have lO := H.res O H.sO.1
  have HBa := Lib.hid ((Below.refl _ w).alloc (Nat.le_refl _) (.cells #[.int .i64 kk, .int .i64 kn, .string ks] 35))
  have HH := Lib.hid H
  have HK := Lib.hid (H.below HBa.out)
  have HR := Lib.hid H.res
  have co := HK.out.co; have f0 := HK.out.fO 0
  have wo : wrap64 (o + 1) = o + 1 := by unfold wrap64; omega
  have WO := Lib.hid wo
  have ne1 : ¬ (O = w.heap.size) := by omega
  clear H h2 wo
  go_enter Tryz.func112, Tryz.ntmps112
  go_wp2
  have hc := HH.out.count (o + 1)
  have hba := (Below.refl (w.setCell ⟨O, 0, none⟩ (.int .i64 (o + 1))).heap.size (w.setCell ⟨O, 0, none⟩ (.int .i64 (o + 1)))).alloc (Nat.le_refl _) (.cells #[.int .i64 kk, .int .i64 kn, .string ks] 35)
  refine bodyPost_end (results_none rfl _ _ _) rfl ⟨rfl, hc.1.below hba, ?_⟩
  intro q hq h3 h4
  rw [hba.block q (hc.1.res q hq)]
  exact hc.2 q hq h4
set_option maxRecDepth 100000 in
set_option maxHeartbeats 800000 in
/-- count: a whole number. -/
theorem count_int (w0 : World) (S : Nat → Prop) (K O : Nat) (l : List Int) (o : Int) (kn : Int) (ks : ByteArray) (hl : l.length ≤ 1000000) (w : World) (H : KO w0 S K O l o w) :
    Calls Tryz.prog 112 #[.agg #[.int .i64 2, .int .i64 kn, .string ks], .pointer (some ⟨K, 0, none⟩), .pointer (some ⟨O, 0, none⟩)] w fun e w' => e = .returned (.tuple #[]) ∧ KO w0 S K O (l ++ [kn]) o w' ∧ ∀ q, S q → q ≠ K → q ≠ O → w'.heap[q]? = w.heap[q]? := by
  obtain ⟨i0, hi, hz0, hz1, hz2⟩ := info_parts Tryz.infoInt
  have lK := H.res K H.sK.1
  have HR := Lib.hid H.res
  have HBa := Lib.hid ((Below.refl _ w).alloc (Nat.le_refl _) (.cells #[.int .i64 2, .int .i64 kn, .string ks] 35))
  have HH := Lib.hid H
  have HK := Lib.hid (H.below HBa.out)
  obtain ⟨v, h1, h2, h3⟩ := HK.out.ex
  have H2 := Lib.hid h2; have H3 := Lib.hid h3; have H1 := Lib.hid h1
  have f0 := HK.out.fK 0
  have HBS : Hid (w0.heap.size ≤ w.heap.size) := Lib.hid H.bel.size
  have HL := Lib.hid hl
  have ne1 : ¬ (K = w.heap.size) := by omega
  have ne2 : ¬ (K = w.heap.size + 1) := by omega
  have HAL : Hid (Below (w.alloc (.cells #[.int .i64 2, .int .i64 kn, .string ks] 35)).heap.size (w.alloc (.cells #[.int .i64 2, .int .i64 kn, .string ks] 35)) ((w.alloc (.cells #[.int .i64 2, .int .i64 kn, .string ks] 35)).alloc (.cells #[.int .i64 kn] 3))) := Lib.hid ((Below.refl _ _).alloc (Nat.le_refl _) _)
  have LK1 := Lib.hid (HK.out.res K HK.out.sK.1)
  clear H h2 h3 hl
  go_enter Tryz.func112, Tryz.ntmps112
  go_wp2_with (at_builtin; refine wpList_append_own_at _ rfl (Operand.tmp 7) (Operand.tmp 10) 128 rfl w0.heap.size 3 i0 (.int .i64 0) 1 8 Tryz.underlying128 hi hz0 hz1 hz2 rfl (by decide) v l.length (l.map (Value.int .i64)) (by simp [Act.eval, Act.put]) (H2.out.alloc _) ⟨w.heap.size + 1, 0, none⟩ 1 1 [.int .i64 kn] (by simp [Act.eval, Act.put]) rfl (fun q u hq => by match q, hq with | 0, hq => simp at hq; subst hq; simp [Addr.add, go_sem]) (fun u hu => by simp at hu; subst hu; rfl) (by have := HL.out; unfold maxLen; omega) (by have := HL.out; omega) (by have := HBS.out; simp; omega) ?_; intro v2 w2 hown2 hg2 hn2 hat2; obtain ⟨g2, cc, rfl, -⟩ := row_form hown2; have HO2 := Lib.hid hown2; have HG2 := Lib.hid hg2; have HA2 := Lib.hid hat2; have HADD := Lib.hid (HK.out.add ((Below.refl _ _).alloc (Nat.le_refl _) _) H1.out hown2 hg2 (by simpa using hat2)); have hKK := World.cell?_of_block (a := ⟨K, 0, none⟩) (hg2.block K (by simp; omega) (fun e => H3.out K e.symm HK.out.sK.1)); have hKF := World.frozen?_of_block (a := ⟨K, 0, none⟩) (hg2.block K (by simp; omega) (fun e => H3.out K e.symm HK.out.sK.1)); have c1 : w2.cell? ⟨K, 0, none⟩ = some v := hKK.trans ((HAL.out.cell (p := ⟨K, 0, none⟩) LK1.out).trans H1.out); have f1 : w2.frozen? ⟨K, 0, none⟩ = false := hKF.trans ((HAL.out.frozen (p := ⟨K, 0, none⟩) LK1.out).trans (HK.out.fK 0)); clear hown2 hg2 hn2 hat2 hKK hKF)
  refine bodyPost_ret (v := .tuple #[]) (results_none rfl _ _ _) rfl ⟨rfl, HADD.out.1, ?_⟩
  intro q hq h3 h4
  rw [HADD.out.2 q hq h3]
  exact HBa.out.block q (HR.out q hq)
end Go.Proofs.YteheolefemlcgaaGreat
/- A table: sizes. -/
namespace Go.Proofs.YteheolefemlcgaaGreat
open Go.RowKit
set_option linter.unusedVariables false
set_option linter.unusedSimpArgs false

namespace PT
def slIj (p : PT) (j : Nat) : List Int := ((List.range j).filter fun i => decide ((p.sv i).k ≠ 0)).map fun i : Nat => (i : Int) + 1
def ndLj (p : PT) (j : Nat) : List Nat := (List.range j).filter fun i => decide ((p.h.val i).k ≠ 0)
def ndIj (p : PT) (j : Nat) : List Int := ((p.ndLj j).filter fun i => decide ((p.h.key i).k = 2)).map fun i => (p.h.key i).n
def ndOj (p : PT) (j : Nat) : Nat := ((p.ndLj j).filter fun i => decide (¬ (p.h.key i).k = 2)).length
theorem slIj_yes (p : PT) (j : Nat) (h : (p.sv j).k ≠ 0) : p.slIj (j + 1) = p.slIj j ++ [(j : Int) + 1] := by
  unfold slIj; rw [List.range_succ, List.filter_append, List.map_append, List.filter_cons_of_pos (by simpa using h)]; rfl
theorem slIj_no (p : PT) (j : Nat) (h : (p.sv j).k = 0) : p.slIj (j + 1) = p.slIj j := by
  unfold slIj; rw [List.range_succ, List.filter_append, List.map_append, List.filter_cons_of_neg (by simpa using h)]; simp
theorem ndLj_yes (p : PT) (j : Nat) (h : (p.h.val j).k ≠ 0) : p.ndLj (j + 1) = p.ndLj j ++ [j] := by
  unfold ndLj; rw [List.range_succ, List.filter_append, List.filter_cons_of_pos (by simpa using h)]; rfl
theorem ndLj_no (p : PT) (j : Nat) (h : (p.h.val j).k = 0) : p.ndLj (j + 1) = p.ndLj j := by
  unfold ndLj; rw [List.range_succ, List.filter_append, List.filter_cons_of_neg (by simpa using h)]; simp
theorem nd_no (p : PT) (j : Nat) (h : (p.h.val j).k = 0) : p.ndIj (j + 1) = p.ndIj j ∧ p.ndOj (j + 1) = p.ndOj j := by unfold ndIj ndOj; rw [ndLj_no p j h]; exact ⟨rfl, rfl⟩
theorem nd_int (p : PT) (j : Nat) (h : (p.h.val j).k ≠ 0) (h2 : (p.h.key j).k = 2) : p.ndIj (j + 1) = p.ndIj j ++ [(p.h.key j).n] ∧ p.ndOj (j + 1) = p.ndOj j := by
  unfold ndIj ndOj; rw [ndLj_yes p j h, List.filter_append, List.map_append, List.filter_cons_of_pos (by simpa using h2), List.filter_append, List.filter_cons_of_neg (by simpa using h2)]; simp
theorem nd_other (p : PT) (j : Nat) (h : (p.h.val j).k ≠ 0) (h2 : (p.h.key j).k ≠ 2) : p.ndIj (j + 1) = p.ndIj j ∧ p.ndOj (j + 1) = p.ndOj j + 1 := by
  unfold ndIj ndOj; rw [ndLj_yes p j h, List.filter_append, List.map_append, List.filter_cons_of_neg (by simpa using h2), List.filter_append, List.filter_cons_of_pos (by simpa using h2)]; simp
theorem slIj_len (p : PT) (j : Nat) : (p.slIj j).length ≤ j := by unfold slIj; rw [List.length_map]; exact Nat.le_trans (List.length_filter_le _ _) (by simp)
theorem ndLj_len (p : PT) (j : Nat) : (p.ndLj j).length ≤ j := by unfold ndLj; exact Nat.le_trans (List.length_filter_le _ _) (by simp)
theorem ndIj_len (p : PT) (j : Nat) : (p.ndIj j).length ≤ j := by unfold ndIj; rw [List.length_map]; exact Nat.le_trans (List.length_filter_le _ _) (p.ndLj_len j)
theorem ndOj_len (p : PT) (j : Nat) : p.ndOj j ≤ j := by unfold ndOj; exact Nat.le_trans (List.length_filter_le _ _) (p.ndLj_len j)
end PT
/-- The key's block. -/
def kW (w : World) (kk kn : Int) (ks : ByteArray) : World := w.alloc (.cells #[.int .i64 kk, .int .i64 kn, .string ks] 35)
theorem kW_size (w : World) (kk kn : Int) (ks : ByteArray) : (kW w kk kn ks).heap.size = w.heap.size + 1 := World.size_alloc _ _
theorem kW_below (w : World) (kk kn : Int) (ks : ByteArray) : Below w.heap.size w (kW w kk kn ks) := (Below.refl _ w).alloc (Nat.le_refl _) _
/-- The three blocks that sizes makes first. -/
def szW (w : World) (kk kn : Int) (ks : ByteArray) : World := ((w.alloc (.cells #[.int .i64 kk, .int .i64 kn, .string ks] 35)).alloc (.cells #[.slice none 0 0] 128)).alloc (.cells #[.int .i64 0] 3)
theorem szW_below (w : World) (kk kn : Int) (ks : ByteArray) : Below w.heap.size w (szW w kk kn ks) := (((Below.refl _ w).alloc (Nat.le_refl _) _).alloc (by simp [go_sem]) _).alloc (by simp [go_sem]; omega) _
theorem szW_key (w : World) (kk kn : Int) (ks : ByteArray) : C3 (szW w kk kn ks) w.heap.size 0 ⟨kk, kn, ks⟩ := ((C3.new w kk kn ks).alloc _).alloc _
def szS (w : World) (q : Nat) : Prop := q = w.heap.size + 1 ∨ q = w.heap.size + 2
theorem szW_ko (w : World) (kk kn : Int) (ks : ByteArray) : KO (kW w kk kn ks) (szS w) (w.heap.size + 1) (w.heap.size + 2) [] 0 (szW w kk kn ks) := by
  have e := kW_size w kk kn ks
  refine ⟨⟨.slice none 0 0, ?_, World.ownsRow_nil _ _ _ _, fun q hq => by simp [Value.ownBlock] at hq⟩, ?_, fun i => ?_, fun i => ?_, by omega, ⟨.inl rfl, by omega⟩, ⟨.inr rfl, by omega⟩, fun q hq => ?_, ?_⟩
  · simp [szW, go_sem]
  · simp [szW, go_sem]
  · simp [szW, go_sem]
  · simp [szW, go_sem]
  · rcases hq with rfl | rfl <;> simp [szW, go_sem]
  · exact ((Below.refl _ (kW w kk kn ks)).alloc (Nat.le_refl _) _).alloc (by simp [go_sem]) _
section
variable (a s b g hp : Nat) (t : Tbl) (kk kn : Int) (ks : ByteArray)
set_option maxRecDepth 100000 in
set_option maxHeartbeats 1600000 in
theorem tab_sizes (hok : t.p.ok) (h64 : In64 kn) (x y er : Int) (hx : Cs.sizesA (t.p.ints ⟨kk, kn, ks⟩) (t.p.oth ⟨kk, kn, ks⟩) = x) (hy : Cs.sizesH (t.p.ints ⟨kk, kn, ks⟩) (t.p.oth ⟨kk, kn, ks⟩) = y) (he : Cs.sizesE (t.p.ints ⟨kk, kn, ks⟩) (t.p.oth ⟨kk, kn, ks⟩) = er) (w : World) (H : TabIn w a s b g hp t) :
    Calls Tryz.prog 97 #[.pointer (some ⟨a, 0, none⟩), .agg #[.int .i64 kk, .int .i64 kn, .string ks]] w fun e w' => e = .returned (.tuple #[.int .i64 x, .int .i64 y, .int .i64 er]) ∧ Below w.heap.size w w' := by
  have HI := Lib.hid H
  have HOK := Lib.hid hok; have H64 := Lib.hid h64; have HX := Lib.hid hx; have HY := Lib.hid hy; have HE := Lib.hid he
  have HB0 := Lib.hid (szW_below w kk kn ks)
  have HK0 := Lib.hid (szW_ko w kk kn ks)
  have HC0 := Lib.hid (C3.new w kk kn ks)
  have HI1 := Lib.hid (H.below (kW_below w kk kn ks))
  have c0 := (HB0.out.cell (p := ⟨a, 0, none⟩) H.pt.la).trans H.pt.c0
  obtain ⟨n, hn⟩ : ∃ n, t.p.sn = n := ⟨_, rfl⟩
  rw [hn] at c0
  have hz := hok.sz
  have HN := Lib.hid hn
  have HNZ : Hid (n ≤ 65536) := Lib.hid (by rw [← hn]; exact hz)
  unfold szW at c0
  obtain ⟨i0, hi, hz0, hz1, hz2⟩ := info_parts Tryz.infoInt
  clear H hok h64 hx hy he hn hz
  go_enter Tryz.func97, Tryz.ntmps97
  go_wp2
  change Code.wp _ _ _ _ (szW w kk kn ks)
  go_loopw [21] (fun i wr => ∃ j : Nat, j ≤ n ∧ i = .int .i64 (j : Int) ∧ Hid (KO (kW w kk kn ks) (szS w) (w.heap.size + 1) (w.heap.size + 2) (t.p.slIj j) 0 wr)) (fun i _ => n - (intOf i).toNat)
  case atStart => exact ⟨0, Nat.zero_le _, rfl, HK0⟩
  case round =>
    obtain ⟨j, hj, rfl, HK⟩ := hrel
    by_cases hlt : j < n
    · have HP := Lib.hid (HI1.out.below HK.out.bel)
      have c0 := HP.out.pt.c0
      rw [HN.out] at c0
      obtain ⟨xk, xn, xs, hv⟩ : ∃ xk xn xs, t.p.sv j = ⟨xk, xn, xs⟩ := ⟨_, _, _, rfl⟩
      have HC := HP.out.pt.sl j (by rw [HN.out]; exact hlt)
      rw [hv] at HC
      obtain ⟨v0, v1, v2, -, lsw⟩ := HC
      simp only at v0 v1 v2
      have HVV := Lib.hid hv
      have hjI : (j : Int) < (n : Int) := by omega
      have hj0 : (0 : Int) ≤ (j : Int) := by omega
      have hjn : (j : Int) ≤ 65536 := by have := HNZ.out; omega
      have HA := Lib.hid ((Below.refl _ wr).alloc (Nat.le_refl _) (.cells #[.int .i64 xk, .int .i64 xn, .string xs] 35))
      have HLT := Lib.hid hlt
      clear hv hlt
      by_cases e0 : xk = 0
      · have q0 : (xk != 0) = false := by simpa using e0
        have HNO := Lib.hid (t.p.slIj_no j (by rw [HVV.out]; exact e0))
        clear e0
        go_wp2_with fail
        (with_reducible refine (table_present xk xn xs false q0 _).mono ?_)
        rintro e w1 ⟨rfl, hb1⟩
        have HK1 := Lib.hid ((HK.out.below HA.out).below hb1)
        clear hb1 c0 v0 v1 v2
        go_wp2
        go_roundw
        case rel => exact ⟨j + 1, HLT.out, by go_num, by rw [HNO.out]; exact HK1⟩
        case measure => have := HLT.out; simp [intOf]; omega
      · have q0 : (xk != 0) = true := by simpa using e0
        have HYES := Lib.hid (t.p.slIj_yes j (by rw [HVV.out]; exact e0))
        clear e0
        go_wp2_with fail
        (with_reducible refine (table_present xk xn xs true q0 _).mono ?_)
        rintro e w1 ⟨rfl, hb1⟩
        have HK1 := Lib.hid ((HK.out.below HA.out).below hb1)
        obtain ⟨v, h1, h2, h3⟩ := HK1.out.ex
        have H2 := Lib.hid h2; have H3 := Lib.hid h3; have H1 := Lib.hid h1
        have HLEN := Lib.hid (t.p.slIj_len j)
        have HAL : Hid (Below w1.heap.size w1 (w1.alloc (.cells #[.int .i64 ((j : Int) + 1)] 3))) := Lib.hid ((Below.refl _ _).alloc (Nat.le_refl _) _)
        have LK1 := Lib.hid (HK1.out.res _ HK1.out.sK.1)
        have HBS : Hid ((kW w kk kn ks).heap.size ≤ w1.heap.size) := Lib.hid HK1.out.bel.size
        clear hb1 c0 v0 v1 v2 h2 h3
        go_wp2_with (at_builtin; refine wpList_append_own_at _ rfl (Operand.tmp 28) (Operand.tmp 31) 128 rfl (kW w kk kn ks).heap.size 3 i0 (.int .i64 0) 1 8 Tryz.underlying128 hi hz0 hz1 hz2 rfl (by decide) v (t.p.slIj j).length ((t.p.slIj j).map (Value.int .i64)) (by simp [Act.eval, Act.put]) (H2.out.alloc _) ⟨w1.heap.size, 0, none⟩ 1 1 [.int .i64 ((j : Int) + 1)] (by simp [Act.eval, Act.put]) rfl (fun q u hq => by match q, hq with | 0, hq => simp at hq; subst hq; simp [Addr.add, go_sem]) (fun u hu => by simp at hu; subst hu; rfl) (by have := HLEN.out; unfold maxLen; omega) (by have := HLEN.out; omega) (by have := HBS.out; simp; omega) ?_; intro v2 w2 hown2 hg2 hn2 hat2; obtain ⟨g2, cc, rfl, -⟩ := row_form hown2; have HADD := Lib.hid (HK1.out.add HAL.out H1.out hown2 hg2 hat2); have hKK := World.cell?_of_block (a := ⟨w.heap.size + 1, 0, none⟩) (hg2.block (w.heap.size + 1) (by have := LK1.out; simp; omega) (fun e => H3.out _ e.symm HK1.out.sK.1)); have hKF := World.frozen?_of_block (a := ⟨w.heap.size + 1, 0, none⟩) (hg2.block (w.heap.size + 1) (by have := LK1.out; simp; omega) (fun e => H3.out _ e.symm HK1.out.sK.1)); have c1 : w2.cell? ⟨w.heap.size + 1, 0, none⟩ = some v := hKK.trans ((HAL.out.cell (p := ⟨w.heap.size + 1, 0, none⟩) LK1.out).trans H1.out); have f1 : w2.frozen? ⟨w.heap.size + 1, 0, none⟩ = false := hKF.trans ((HAL.out.frozen (p := ⟨w.heap.size + 1, 0, none⟩) LK1.out).trans (HK1.out.fK 0)); clear hown2 hg2 hn2 hat2 hKK hKF h1)
        go_roundw
        case rel => exact ⟨j + 1, HLT.out, by go_num, by rw [HYES.out]; exact Lib.hid HADD.out.1⟩
        case measure => have := HLT.out; simp [intOf]; omega
    · have hjn : j = n := by omega
      subst hjn
      have HP := Lib.hid (HI1.out.below HK.out.bel)
      have c1 := HP.out.pt.c1
      have HGD := Lib.hid HOK.out.hg.sz
      go_wp2_with fail
      (with_reducible refine (Nd_Dump b g t.p.h HGD.out _ HP.out.pt.nd).mono ?_)
      rintro e w1 ⟨gd, cp, rfl, h1, h2, h3, h4, h5⟩
      have HSL : Hid (t.p.slIj j = t.p.slI) := Lib.hid (by unfold PT.slIj PT.slI; rw [HN.out])
      have HK1 : Hid (KO (kW w kk kn ks) (fun q => szS w q ∨ q = gd) (w.heap.size + 1) (w.heap.size + 2) (t.p.slI ++ t.p.ndIj 0) (t.p.ndOj 0 : Nat) w1) := Lib.hid (by
        have := HK.out.reserve (S' := fun q => szS w q ∨ q = gd) h5 (fun q hq => .inl hq) (fun q hq => by
          rcases hq with hq | rfl
          · exact ⟨Nat.lt_of_lt_of_le (HK.out.res q hq) h5.size, .inl hq⟩
          · exact ⟨h2, .inr h1⟩)
        rw [HSL.out] at this
        simpa [PT.ndIj, PT.ndOj, PT.ndLj] using this)
      have HD1 := Lib.hid h3
      have HG1 : Hid (gd ≠ w.heap.size + 1) := Lib.hid (by have := HK.out.res _ HK.out.sK.1; omega)
      have HG2 : Hid (gd ≠ w.heap.size + 2) := Lib.hid (by have := HK.out.res _ HK.out.sO.1; omega)
      clear h1 h2 h3 h4 h5 c0 c1
      go_wp2
      obtain ⟨m, hm⟩ : ∃ m, t.p.h.n = m := ⟨_, rfl⟩
      have HM := Lib.hid hm
      have HMZ : Hid (m ≤ 65536) := Lib.hid (by rw [← hm]; exact HGD.out)
      rw [hm]
      clear hm
      go_loopw [41] (fun i wq => ∃ i' : Nat, i' ≤ m ∧ i = .int .i64 (i' : Int) ∧ Hid (KO (kW w kk kn ks) (fun q => szS w q ∨ q = gd) (w.heap.size + 1) (w.heap.size + 2) (t.p.slI ++ t.p.ndIj i') (t.p.ndOj i' : Nat) wq) ∧ Hid (DumpAt wq gd t.p.h)) (fun i _ => m - (intOf i).toNat)
      case atStart => exact ⟨0, Nat.zero_le _, rfl, HK1, HD1⟩
      case round =>
        clear HK1 HD1 HK HP
        obtain ⟨i, hi', rfl, HK, HD⟩ := hrel
        by_cases hlt : i < m
        · have HCI := HD.out i (by rw [HM.out]; exact hlt)
          have HGL : Hid (gd < wr.heap.size) := Lib.hid (HK.out.res gd (.inr rfl))
          obtain ⟨xk, xn, xs, hv⟩ : ∃ xk xn xs, t.p.h.val i = ⟨xk, xn, xs⟩ := ⟨_, _, _, rfl⟩
          obtain ⟨yk, yn, ys, hk⟩ : ∃ yk yn ys, t.p.h.key i = ⟨yk, yn, ys⟩ := ⟨_, _, _, rfl⟩
          rw [hv, hk] at HCI
          generalize PH.nxt _ _ _ = xx at HCI
          obtain ⟨d0, d1, d2, d3, d4, d5, d6, -, lgd⟩ := HCI
          simp only at d0 d1 d2 d3 d4 d5
          have HVV := Lib.hid hv; have HKK := Lib.hid hk
          have hiI : (i : Int) < (m : Int) := by omega
          have hi0 : (0 : Int) ≤ (i : Int) := by omega
          have hin : (i : Int) ≤ 65536 := by have := HMZ.out; omega
          have HA := Lib.hid ((Below.refl _ wr).alloc (Nat.le_refl _) (.cells #[.int .i64 yk, .int .i64 yn, .string ys, .int .i64 xk, .int .i64 xn, .string xs, .int .i64 xx] 44))
          have HT := Lib.hid (C7.new wr ⟨yk, yn, ys⟩ ⟨xk, xn, xs⟩ xx)
          have HLT := Lib.hid hlt
          have HL1 := Lib.hid (show t.p.slI.length ≤ j by have := t.p.slI_length; rw [HN.out] at this; exact this)
          have HL2 := Lib.hid (t.p.ndIj_len i); have HL3 := Lib.hid (t.p.ndOj_len i)
          clear hv hk hlt
          by_cases e0 : xk = 0
          · have q0 : (xk != 0) = false := by simpa using e0
            have HNO := Lib.hid (t.p.nd_no i (by rw [HVV.out]; exact e0))
            clear e0
            go_wp2_with fail
            (with_reducible refine (table_present xk xn xs false q0 _).mono ?_)
            rintro e w3 ⟨rfl, hb1⟩
            have HK1 := Lib.hid ((HK.out.below HA.out).below hb1)
            have HD1 := Lib.hid ((HD.out.keep (HA.out.block gd HGL.out)).keep (hb1.block gd (by have := HGL.out; simp; omega)))
            clear hb1 d0 d1 d2 d3 d4 d5 d6
            go_wp2
            go_roundw
            case rel => exact ⟨i + 1, HLT.out, by go_num, by rw [HNO.out.1, HNO.out.2]; exact HK1, HD1⟩
            case measure => have := HLT.out; simp [intOf]; omega
          · have q0 : (xk != 0) = true := by simpa using e0
            by_cases e2 : yk = 2
            · subst e2
              have HST := Lib.hid (t.p.nd_int i (by rw [HVV.out]; exact e0) (by rw [HKK.out]))
              clear e0
              go_wp2_with fail
              (with_reducible refine (table_present xk xn xs true q0 _).mono ?_)
              rintro e w3 ⟨rfl, hb1⟩
              have HK1 := Lib.hid ((HK.out.below HA.out).below hb1)
              have HT1 := Lib.hid (HT.out.below hb1 (by simp [go_sem]))
              have HD1 := Lib.hid ((HD.out.keep (HA.out.block gd HGL.out)).keep (hb1.block gd (by have := HGL.out; simp; omega)))
              obtain ⟨t0, t1, t2, -, -, -, -, -, -⟩ := HT1.out
              simp only at t0 t1 t2
              simp only [Nat.zero_add] at t0 t1 t2
              clear hb1 d0 d1 d2 d3 d4 d5 d6
              go_wp2_with fail
              (with_reducible refine (count_int (kW w kk kn ks) (fun q => szS w q ∨ q = gd) (w.heap.size + 1) (w.heap.size + 2) (t.p.slI ++ t.p.ndIj i) (t.p.ndOj i) yn ys (by have := HL1.out; have := HL2.out; have := HNZ.out; have := HMZ.out; rw [List.length_append]; omega) _ HK1.out).mono ?_)
              rintro e w4 ⟨rfl, hk4, hf4⟩
              have HK3 := Lib.hid hk4
              have HD3 := Lib.hid (HD1.out.keep (hf4 gd (.inr rfl) HG1.out HG2.out))
              clear hk4 hf4 t0 t1 t2
              go_wp2
              go_roundw
              case rel => exact ⟨i + 1, HLT.out, by go_num, by rw [HST.out.1, HST.out.2, ← List.append_assoc, HKK.out]; exact HK3, HD3⟩
              case measure => have := HLT.out; simp [intOf]; omega
            · have K2 := Lib.hid e2
              have HST := Lib.hid (t.p.nd_other i (by rw [HVV.out]; exact e0) (by rw [HKK.out]; exact K2.out))
              clear e0 e2
              go_wp2_with fail
              (with_reducible refine (table_present xk xn xs true q0 _).mono ?_)
              rintro e w3 ⟨rfl, hb1⟩
              have HK1 := Lib.hid ((HK.out.below HA.out).below hb1)
              have HT1 := Lib.hid (HT.out.below hb1 (by simp [go_sem]))
              have HD1 := Lib.hid ((HD.out.keep (HA.out.block gd HGL.out)).keep (hb1.block gd (by have := HGL.out; simp; omega)))
              obtain ⟨t0, t1, t2, -, -, -, -, -, -⟩ := HT1.out
              simp only at t0 t1 t2
              simp only [Nat.zero_add] at t0 t1 t2
              clear hb1 d0 d1 d2 d3 d4 d5 d6
              go_wp2_with fail
              (with_reducible refine (count_other (kW w kk kn ks) (fun q => szS w q ∨ q = gd) (w.heap.size + 1) (w.heap.size + 2) (t.p.slI ++ t.p.ndIj i) (t.p.ndOj i) yk yn ys K2.out (by have := HL3.out; have := HMZ.out; omega) _ HK1.out).mono ?_)
              rintro e w4 ⟨rfl, hk4, hf4⟩
              have HK3 := Lib.hid hk4
              have HD3 := Lib.hid (HD1.out.keep (hf4 gd (.inr rfl) HG1.out HG2.out))
              clear hk4 hf4 t0 t1 t2
              go_wp2
              go_roundw
              case rel => exact ⟨i + 1, HLT.out, by go_num, by rw [HST.out.1, HST.out.2]; exact HK3, HD3⟩
              case measure => have := HLT.out; simp [intOf]; omega
        · have him : i = m := by omega
          subst him
          have HKE : Hid (KO (kW w kk kn ks) (fun q => szS w q ∨ q = gd) (w.heap.size + 1) (w.heap.size + 2) (t.p.slI ++ t.p.ndI) (t.p.ndO.length : Nat) wr) := Lib.hid (by
            have := HK.out
            have e1 : t.p.ndIj i = t.p.ndI := by unfold PT.ndIj PT.ndLj PT.ndI PT.ndL; rw [HM.out]
            have e2 : t.p.ndOj i = t.p.ndO.length := by unfold PT.ndOj PT.ndLj PT.ndO PT.ndL; rw [HM.out]
            rw [e1, e2] at this
            exact this)
          have HCK := Lib.hid (HC0.out.below HK.out.bel (by rw [kW_size]; omega))
          obtain ⟨k0, k1, k2, -, -⟩ := HCK.out
          simp only [Nat.zero_add] at k0 k1 k2
          clear HK HD
          by_cases e2 : kk = 2
          · subst e2
            have HIE : Hid (t.p.ints ⟨2, kn, ks⟩ = (t.p.slI ++ t.p.ndI ++ [kn]) ∧ t.p.oth ⟨2, kn, ks⟩ = (t.p.ndO.length : Nat)) := Lib.hid (by unfold PT.ints PT.oth; simp)
            go_wp2_with fail
            (with_reducible refine (count_int (kW w 2 kn ks) (fun q => szS w q ∨ q = gd) (w.heap.size + 1) (w.heap.size + 2) (t.p.slI ++ t.p.ndI) (t.p.ndO.length : Nat) kn ks (by have := t.p.slI_length; have := t.p.ndI_length; have := HOK.out.sz; have := HOK.out.hg.sz; rw [List.length_append]; omega) _ HKE.out).mono ?_)
            rintro e w4 ⟨rfl, hk4, hf4⟩
            obtain ⟨v, h1, h2, h3⟩ := hk4.ex
            have h4 := hk4.co
            have HBE := Lib.hid hk4.bel
            have HIS := Lib.hid (IS.of_row h2)
            clear hf4 k0 k1 k2 h2 h3 hk4
            go_wp2_with fail
            (with_reducible refine (Sizes_c v (t.p.slI ++ t.p.ndI ++ [kn]) (t.p.ndO.length : Nat) _ (by have := PT.ints_length HOK.out ⟨2, kn, ks⟩; rw [HIE.out.1] at this; omega) (by have := PT.ints_in HOK.out (k := ⟨2, kn, ks⟩) H64.out; rw [HIE.out.1] at this; exact this) (by have := PT.oth_range HOK.out ⟨2, kn, ks⟩; rw [HIE.out.2] at this; unfold In64; omega) HIS.out x y er (by rw [← HIE.out.1, ← HIE.out.2]; exact HX.out) (by rw [← HIE.out.1, ← HIE.out.2]; exact HY.out) (by rw [← HIE.out.1, ← HIE.out.2]; exact HE.out)).mono ?_)
            rintro e w5 ⟨rfl, hb5⟩
            have HB5 := Lib.hid hb5
            clear hb5 h1 h4
            go_wp2
            go_ret3
            exact ⟨rfl, ((kW_below w 2 kn ks).trans (HBE.out.mono (by rw [kW_size]; omega))).trans (HB5.out.mono (Nat.le_trans (by rw [kW_size]; omega) HBE.out.size))⟩
          · have K2 := Lib.hid e2
            clear e2
            have HIE : Hid (t.p.ints ⟨kk, kn, ks⟩ = (t.p.slI ++ t.p.ndI) ∧ t.p.oth ⟨kk, kn, ks⟩ = ((t.p.ndO.length : Nat) + 1)) := Lib.hid (by unfold PT.ints PT.oth; simp [K2.out])
            go_wp2_with fail
            (with_reducible refine (count_other (kW w kk kn ks) (fun q => szS w q ∨ q = gd) (w.heap.size + 1) (w.heap.size + 2) (t.p.slI ++ t.p.ndI) (t.p.ndO.length : Nat) kk kn ks K2.out (by have := t.p.ndO_length; have := HOK.out.hg.sz; omega) _ HKE.out).mono ?_)
            rintro e w4 ⟨rfl, hk4, hf4⟩
            obtain ⟨v, h1, h2, h3⟩ := hk4.ex
            have h4 := hk4.co
            have HBE := Lib.hid hk4.bel
            have HIS := Lib.hid (IS.of_row h2)
            clear hf4 k0 k1 k2 h2 h3 hk4
            go_wp2_with fail
            (with_reducible refine (Sizes_c v (t.p.slI ++ t.p.ndI) ((t.p.ndO.length : Nat) + 1) _ (by have := PT.ints_length HOK.out ⟨kk, kn, ks⟩; rw [HIE.out.1] at this; omega) (by have := PT.ints_in HOK.out (k := ⟨kk, kn, ks⟩) H64.out; rw [HIE.out.1] at this; exact this) (by have := PT.oth_range HOK.out ⟨kk, kn, ks⟩; rw [HIE.out.2] at this; unfold In64; omega) HIS.out x y er (by rw [← HIE.out.1, ← HIE.out.2]; exact HX.out) (by rw [← HIE.out.1, ← HIE.out.2]; exact HY.out) (by rw [← HIE.out.1, ← HIE.out.2]; exact HE.out)).mono ?_)
            rintro e w5 ⟨rfl, hb5⟩
            have HB5 := Lib.hid hb5
            clear hb5 h1 h4
            go_wp2
            go_ret3
            exact ⟨rfl, ((kW_below w kk kn ks).trans (HBE.out.mono (by rw [kW_size]; omega))).trans (HB5.out.mono (Nat.le_trans (by rw [kW_size]; omega) HBE.out.size))⟩
end
end Go.Proofs.YteheolefemlcgaaGreat
