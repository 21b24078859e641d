/- walk.behind: the pairs behind a place, as an iterator. -/
import Derived.Test.YteheolefemlcgaaGreatWkP
import Derived.Test.YteheolefemlcgaaGreatTabZ
namespace Go.Proofs.YteheolefemlcgaaGreat
open Go.RowKit
set_option linter.unusedVariables false
set_option linter.unusedSimpArgs false

/-- A pair as it is handed to a round. -/
def pairX (x : V × V) : Value := .agg #[.int .i64 x.1.k, .int .i64 x.1.n, .string x.1.s, .int .i64 x.2.k, .int .i64 x.2.n, .string x.2.s]
/-- Some blocks are as they were. -/
def KeepG (G : Nat → Prop) (A B : World) : Prop := ∀ q, G q → B.heap[q]? = A.heap[q]?
theorem KeepG.refl (G : Nat → Prop) (A : World) : KeepG G A A := fun _ _ => rfl
theorem KeepG.trans {G : Nat → Prop} {A B C : World} (h : KeepG G A B) (k : KeepG G B C) : KeepG G A C := fun q hq => (k q hq).trans (h q hq)
theorem keepG_b {G : Nat → Prop} {w : World} (h1 : ∀ q, G q → q < w.heap.size) (W : World) (l : Nat) (o o' : Obj) (hl : w.heap.size ≤ l) (h : W.heap[l]? = some o) (_ : o.isCells = false) (_ : o.isWalk = false) : KeepG G W (W.putObj l o') :=
  fun q hq => (grownBy_putObj' W l o').block q (by have := (Array.getElem?_eq_some_iff.1 h).1; have := h1 q hq; omega) (fun e => by have := h1 q hq; simp at e; omega)
theorem keepG_below {G : Nat → Prop} {B : Nat} {A W : World} (hb : Below B A W) (hG : ∀ q, G q → q < B) : KeepG G A W := fun q hq => hb.block q (hG q hq)
theorem below_abides {B : Nat} {β : Type} {J : β → World → Prop} (hJ : AbidesFrom B J) {s : β} {X Y : World} (h : J s X) (hb : Below X.heap.size X Y) : J s Y :=
  hJ s X Y none h ⟨hb.os, hb.tape, hb.output, hb.size, fun z hz _ => hb.block z hz⟩ (fun r e => by cases e)
theorem lt_cell {w : World} {b i : Nat} {v : Value} (h : w.cell? ⟨b, i, none⟩ = some v) : b < w.heap.size := by obtain ⟨q, o, e, hl⟩ := spot_of_cell h; cases e; exact hl
theorem walk_behind (P : Option Addr) (pl : Int) (w : World) :
    Calls Tryz.prog 71 #[.pointer P, .int .i64 pl] w fun e w' => e = .returned (.func (.func 104) #[] #[.pointer (some ⟨w.heap.size + 1, 0, none⟩), .pointer (some ⟨w.heap.size, 0, none⟩)]) ∧ w' = (w.alloc (.cells #[.pointer P] 27)).alloc (.cells #[.int .i64 pl] 3) := by
  go_enter Tryz.func71, Tryz.ntmps71
  go_wp2
  go_ret
  exact ⟨by simp, rfl⟩
set_option maxRecDepth 100000 in
set_option maxHeartbeats 2000000 in
theorem behind_in (n : Nat) (hn : 1 ≤ n) (l Bp Bt a s b g hp : Nat) (t : Tbl) (hok : t.p.ok) (lo tot : Nat) (hlo : lo + tot = t.p.tot) (J Jx : List Nat → World → Prop) (Bs : Nat) (hJ : AbidesFrom Bs J)
    (hY : ∀ pre x W, J pre W → pre.length < tot → YieldAt Fence.wide (n - 1) Tryz.prog l #[pairX (t.p.pair (x : Nat))] W fun e W' =>
      (e = .returned (.bool true) ∧ J (pre ++ [x]) W' ∧ KeepG (fun q => PB a s b g q ∨ q = Bp ∨ q = Bt) W W') ∨ (e = .returned (.bool false) ∧ Jx (pre ++ [x]) W'))
    (W : World) (hBp : W.cell? ⟨Bp, 0, none⟩ = some (.int .i64 lo)) (hBt : W.cell? ⟨Bt, 0, none⟩ = some (.pointer (some ⟨a, 0, none⟩))) (hlp : Bp < W.heap.size) (hlt : Bt < W.heap.size) (hT : TabIn W a s b g hp t) (h0 : J [] W) :
    CallsIn Fence.wide n Tryz.prog 104 #[.func (.yield l) #[] #[], .pointer (some ⟨Bp, 0, none⟩), .pointer (some ⟨Bt, 0, none⟩)] W fun e W' => (∃ v, e = .returned v) ∧
      ((∃ ys, ys = t.p.pos lo tot ∧ J ys W') ∨ (∃ pre, (∃ k, k < tot ∧ t.p.full (lo + 1 + k) ∧ pre = t.p.pos lo k ++ [lo + 1 + k]) ∧ Jx pre W')) := by
  refine callsIn_of_wp Tryz.func104 rfl trivial ?_ rfl
  simp only [Tryz.ntmps104, List.size_toArray, List.length_cons, List.length_nil, Nat.reduceAdd, Nat.reduceSub, Array.replicate_succ, Array.replicate_zero, List.push_toArray, List.append_toArray, List.nil_append, List.cons_append]
  have HOK := Lib.hid hok
  have HY := Lib.hid hY
  have HP := Lib.hid hBp
  have HT := Lib.hid hBt
  have HTB := Lib.hid hT
  have HL := Lib.hid (And.intro hlp hlt)
  have hz := hok.sz
  have hy := hok.hg.sz
  unfold PT.tot at hlo
  have HTOT := Lib.hid hlo
  have HSM := Lib.hid (show lo + tot ≤ 131072 by omega)
  have hw1 : wrap64 ((lo : Int) + 1) = (lo : Int) + 1 := wrap64_id (by unfold In64; omega)
  clear hY hlo hz hy hT hBt hlp hlt hok
  gi_wp2
  rw [hw1]
  clear hw1
  gi_loopw [4] (fun i wr => ∃ k : Nat, k ≤ tot ∧ i = .int .i64 ((lo : Int) + 1 + k) ∧ J (t.p.pos lo k) wr ∧ KeepG (fun q => PB a s b g q ∨ q = Bp ∨ q = Bt) W wr)
    (fun i _ => ((lo : Int) + 1 + tot - intOf i).toNat)
  case atStart => exact ⟨0, Nat.zero_le _, by simp, h0, KeepG.refl _ _⟩
  case round =>
    obtain ⟨k, hk, rfl, hJs, hnx⟩ := hrel
    have HNX := Lib.hid hnx; have HJ := Lib.hid hJs
    have HBT := Lib.hid ((World.cell?_of_block (a := ⟨Bt, 0, none⟩) (hnx Bt (.inr (.inr rfl)))).trans HT.out)
    have HTI := Lib.hid (HTB.out.keep (fun q hq => hnx q (.inl hq)))
    have hbt := HBT.out
    have HGL : Hid (∀ q, (PB a s b g q ∨ q = Bp ∨ q = Bt) → q < wr.heap.size) := Lib.hid (fun q hq => by
      rcases hq with h | rfl | rfl
      · exact HTI.out.pt.lt h
      · exact lt_cell ((World.cell?_of_block (a := ⟨q, 0, none⟩) (hnx q (.inr (.inl rfl)))).trans HP.out)
      · exact lt_cell HBT.out)
    clear hJs hnx hBp h0
    gi_wp2_with fail
    refine ⟨trivial, ?_⟩
    (refine (callsIn_wide.2 (tab_Places a s b g hp t _ _ rfl rfl HOK.out.sz HOK.out.hg.sz wr HTI.out)).mono ?_)
    rintro e w1 ⟨rfl, hb⟩
    rw [← HTOT.out, show ((lo + tot : Nat) : Int) = (lo : Int) + tot by omega]
    have HNX1 := Lib.hid (HNX.out.trans (keepG_below hb HGL.out))
    have HJ1 := Lib.hid (below_abides hJ HJ.out hb)
    have HTI1 := Lib.hid (HTI.out.below hb)
    have HGL1 : Hid (∀ q, (PB a s b g q ∨ q = Bp ∨ q = Bt) → q < w1.heap.size) := Lib.hid (fun q hq => Nat.lt_of_lt_of_le (HGL.out q hq) hb.size)
    have HBT1 := Lib.hid ((hb.cell (p := ⟨Bt, 0, none⟩) (HGL.out Bt (.inr (.inr rfl)))).trans HBT.out)
    clear hb hbt
    have hbt := HBT1.out
    by_cases hlt : k < tot
    · have d1 : decide ((lo : Int) + 1 + k ≤ (lo : Int) + tot) = true := by simp; omega
      obtain ⟨x, hx⟩ : ∃ x, t.p.pair ((lo + 1 + k : Nat) : Int) = x := ⟨_, rfl⟩
      have HX := Lib.hid hx
      have HLT := Lib.hid hlt
      obtain ⟨⟨kk, kn, ks⟩, ⟨vk, vn, vs⟩⟩ := x
      have HPR : Hid (∀ w, TabIn w a s b g hp t → Calls Tryz.prog 21 #[.pointer (some ⟨a, 0, none⟩), .int .i64 ((lo : Int) + 1 + k)] w fun e w' => e = .returned (.tuple #[.agg #[.int .i64 kk, .int .i64 kn, .string ks], .agg #[.int .i64 vk, .int .i64 vn, .string vs]]) ∧ Below w.heap.size w w') := Lib.hid (fun w h => by
        have := tab_Pair a s b g hp t HOK.out ((lo : Int) + 1 + k) (by have := HSM.out; omega) w h
        rw [show (lo : Int) + 1 + k = ((lo + 1 + k : Nat) : Int) by omega, HX.out] at this
        rw [show (lo : Int) + 1 + k = ((lo + 1 + k : Nat) : Int) by omega]
        exact this)
      clear hlt hk hx
      gi_wp2_with fail
      refine ⟨trivial, ?_⟩
      (refine (callsIn_wide.2 (HPR.out _ HTI1.out)).mono ?_)
      rintro e w2 ⟨rfl, hb⟩
      have HNX2 := Lib.hid (HNX1.out.trans (keepG_below hb HGL1.out))
      have HJ2 := Lib.hid (below_abides hJ HJ1.out hb)
      have HGL2 : Hid (∀ q, (PB a s b g q ∨ q = Bp ∨ q = Bt) → q < w2.heap.size) := Lib.hid (fun q hq => Nat.lt_of_lt_of_le (HGL1.out q hq) hb.size)
      clear hb hbt
      have HB3 : Hid (Below w2.heap.size w2 ((w2.alloc (.cells #[.int .i64 kk, .int .i64 kn, .string ks] 35)).alloc (.cells #[.int .i64 vk, .int .i64 vn, .string vs] 35))) := Lib.hid (((Below.refl w2.heap.size w2).alloc (Nat.le_refl _) _).alloc (by rw [World.size_alloc]; omega) _)
      have HNX3 := Lib.hid (HNX2.out.trans (keepG_below HB3.out HGL2.out))
      have HJ3 := Lib.hid (below_abides hJ HJ2.out HB3.out)
      have m9 : wrap64 ((lo : Int) + 1 + k + 1) = (lo : Int) + 1 + k + 1 := wrap64_id (by have := HSM.out; have := HLT.out; unfold In64; omega)
      have HE9 : Hid (Value.int .i64 ((lo : Int) + 1 + k + 1) = .int .i64 ((lo : Int) + 1 + ((k + 1 : Nat) : Int))) := Lib.hid (congrArg (Value.int .i64) (by omega))
      have HME : Hid (((lo : Int) + 1 + tot - intOf (Value.int .i64 ((lo : Int) + 1 + k + 1))).toNat < ((lo : Int) + 1 + tot - intOf (Value.int .i64 ((lo : Int) + 1 + k))).toNat) := Lib.hid (by have := HLT.out; simp only [intOf]; omega)
      have HE9' : Hid (Value.int .i64 (wrap64 ((lo : Int) + 1 + k + 1)) = .int .i64 ((lo : Int) + 1 + ((k + 1 : Nat) : Int))) := Lib.hid (by rw [m9]; exact HE9.out)
      have HME' : Hid (((lo : Int) + 1 + tot - intOf (Value.int .i64 (wrap64 ((lo : Int) + 1 + k + 1)))).toNat < ((lo : Int) + 1 + tot - intOf (Value.int .i64 ((lo : Int) + 1 + k))).toNat) := Lib.hid (by rw [m9]; exact HME.out)
      by_cases hvk : vk = 0
      · have d2 : (vk != 0) = false := by simpa using hvk
        have HNO := Lib.hid (pos_no t.p lo k (by unfold PT.full; rw [HX.out]; simpa using hvk))
        clear hvk
        have HZ : Hid (J (t.p.pos lo (k + 1)) ((w2.alloc (.cells #[.int .i64 kk, .int .i64 kn, .string ks] 35)).alloc (.cells #[.int .i64 vk, .int .i64 vn, .string vs] 35))) := Lib.hid (by rw [HNO.out]; exact HJ3.out)
        gi_wp2_with fail
        refine ⟨fun f e => (by cases e), ?_⟩
        gi_wp2
        go_roundw
        case rel => exact ⟨k + 1, HLT.out, (by first | exact HE9.out | exact HE9'.out), HZ.out, HNX3.out⟩
        case measure => first | exact HME.out | exact HME'.out
      · have d2 : (vk != 0) = true := by simpa using hvk
        have HF : Hid (t.p.full (lo + 1 + k)) := Lib.hid (by unfold PT.full; rw [HX.out]; exact hvk)
        have HYES := Lib.hid (pos_yes t.p lo k HF.out)
        have hR := HY.out _ (lo + 1 + k) _ HJ3.out (Nat.lt_of_le_of_lt (pos_len t.p lo k) HLT.out)
        rw [HX.out] at hR
        unfold pairX at hR
        dsimp only at hR
        obtain ⟨fn, tmps, assign, body, hyy, hR2⟩ := hR
        have HRR := Lib.hid hR2
        clear hvk hR2
        gi_wp2
        refine HRR.out.mono ?_
        rintro e W3 (⟨rfl, hJ4, hk4⟩ | ⟨rfl, hJx4⟩)
        · have HJ4 := Lib.hid hJ4; have HK4 := Lib.hid hk4
          have HZ : Hid (J (t.p.pos lo (k + 1)) W3) := Lib.hid (by rw [HYES.out]; exact HJ4.out)
          clear hJ4 hk4 hyy HRR
          gi_wp2
          go_roundw
          case rel => exact ⟨k + 1, HLT.out, (by first | exact HE9.out | exact HE9'.out), HZ.out, HNX3.out.trans HK4.out⟩
          case measure => first | exact HME.out | exact HME'.out
        · have HJx := Lib.hid hJx4
          clear hJx4 hyy HRR
          gi_wp2
          refine bodyPost_ret (results_none rfl _ _ _) rfl ?_
          exact ⟨⟨_, rfl⟩, .inr ⟨_, ⟨k, HLT.out, HF.out, rfl⟩, HJx.out⟩⟩
    · obtain rfl : k = tot := by omega
      have d1 : decide ((lo : Int) + 1 + k ≤ (lo : Int) + k) = false := by simp; omega
      gi_wp2
      go_end0
      exact ⟨⟨_, rfl⟩, .inl ⟨_, rfl, HJ1.out⟩⟩
/-- The iterator, for a range over it. -/
theorem behind_stops (n : Nat) (hn : 1 ≤ n) (Bp Bt a s b g hp : Nat) (t : Tbl) (hok : t.p.ok) (lo tot : Nat) (hlo : lo + tot = t.p.tot) (w : World) (hBp : w.cell? ⟨Bp, 0, none⟩ = some (.int .i64 lo)) (hBt : w.cell? ⟨Bt, 0, none⟩ = some (.pointer (some ⟨a, 0, none⟩))) (hlp : Bp < w.heap.size) (hlt : Bt < w.heap.size) (hT : TabIn w a s b g hp t) :
    SeqStopsK Fence.wide n Tryz.prog 104 #[.pointer (some ⟨Bp, 0, none⟩), .pointer (some ⟨Bt, 0, none⟩)] (fun x : Nat => #[pairX (t.p.pair (x : Nat))]) (KeepG (fun q => PB a s b g q ∨ q = Bp ∨ q = Bt)) (fun ys => ys = t.p.pos lo tot) (fun pre => ∃ k, k < tot ∧ t.p.full (lo + 1 + k) ∧ pre = t.p.pos lo k ++ [lo + 1 + k]) tot w := fun l J Jx W hW hJ _ hY h0 =>
  behind_in n hn l Bp Bt a s b g hp t hok lo tot hlo J Jx W.heap.size hJ hY W ((hW.cell (p := ⟨Bp, 0, none⟩) hlp).trans hBp) ((hW.cell (p := ⟨Bt, 0, none⟩) hlt).trans hBt) (Nat.lt_of_lt_of_le hlp hW.size) (Nat.lt_of_lt_of_le hlt hW.size) (hT.below hW) h0
end Go.Proofs.YteheolefemlcgaaGreat
