/- Folded of Tab7, Tab8, Tab9, TabR. -/
import Derived.Test.YteheolefemlcgaaGreatTabY
import Derived.RangeFuncNested
import Derived.RangeFuncCalls
import Derived.Laws.CopyOwn
/- slices.Backward over a copy of the nodes. -/
namespace Go.Proofs.YteheolefemlcgaaGreat
open Go.RowKit
set_option linter.unusedVariables false
set_option linter.unusedSimpArgs false

/-- A node as it is handed to a round. -/
def nodeX (h : PH) (i : Nat) : Value := .agg #[.int .i64 (h.key i).k, .int .i64 (h.key i).n, .string (h.key i).s, .int .i64 (h.val i).k, .int .i64 (h.val i).n, .string (h.val i).s, .int .i64 (h.nxt (mpos h.n) i)]
/-- The numbers from n - 1 on down, k of them. -/
def downto (n k : Nat) : List Nat := (List.range k).map fun j => n - 1 - j
theorem downto_succ (n k : Nat) : downto n (k + 1) = downto n k ++ [n - 1 - k] := by simp [downto, List.range_succ]
theorem downto_length (n k : Nat) : (downto n k).length = k := by simp [downto]
theorem downto_all (n : Nat) : downto n n = (List.range n).reverse := by
  apply List.ext_getElem
  · simp [downto]
  · intro i h1 h2
    simp [downto]
/-- Two blocks are as they were. -/
def Keep2 (Bs gd : Nat) (A B : World) : Prop := B.heap[Bs]? = A.heap[Bs]? ∧ B.heap[gd]? = A.heap[gd]?
theorem Keep2.refl (Bs gd : Nat) (A : World) : Keep2 Bs gd A A := ⟨rfl, rfl⟩
theorem Keep2.trans {Bs gd : Nat} {A B C : World} (h : Keep2 Bs gd A B) (k : Keep2 Bs gd B C) : Keep2 Bs gd A C := ⟨k.1.trans h.1, k.2.trans h.2⟩
theorem keep2_b {Bs gd : Nat} {w : World} (h1 : Bs < w.heap.size) (h2 : gd < w.heap.size) (W : World) (l : Nat) (o o' : Obj) (hl : w.heap.size ≤ l) (h : W.heap[l]? = some o) (_ : o.isCells = false) (_ : o.isWalk = false) : Keep2 Bs gd W (W.putObj l o') :=
  ⟨(grownBy_putObj' W l o').block Bs (by have := (Array.getElem?_eq_some_iff.1 h).1; omega) (fun e => by cases e; omega), (grownBy_putObj' W l o').block gd (by have := (Array.getElem?_eq_some_iff.1 h).1; omega) (fun e => by cases e; omega)⟩
set_option maxRecDepth 100000 in
set_option maxHeartbeats 2000000 in
theorem back_in (n : Nat) (hn : 1 ≤ n) (l Bs gd cp : Nat) (h : PH) (hz : h.n ≤ 65536) (J Jx : List Nat → World → Prop)
    (hY : ∀ pre x W, J pre W → pre.length < h.n → YieldAt Fence.wide (n - 1) Tryz.prog l #[.int .i64 (x : Nat), nodeX h x] W fun e W' =>
      (e = .returned (.bool true) ∧ J (pre ++ [x]) W' ∧ Keep2 Bs gd W W') ∨ (e = .returned (.bool false) ∧ Jx (pre ++ [x]) W'))
    (W : World) (hBs : W.cell? ⟨Bs, 0, none⟩ = some (.slice (some ⟨gd, 0, none⟩) h.n cp)) (hD : DumpAt W gd h) (h0 : J [] W) :
    CallsIn Fence.wide n Tryz.prog 114 #[.func (.yield l) #[] #[], .pointer (some ⟨Bs, 0, none⟩)] W fun e W' => (∃ v, e = .returned v) ∧
      ((∃ ys, ys = downto h.n h.n ∧ J ys W') ∨ (∃ pre, True ∧ Jx pre W')) := by
  refine callsIn_of_wp Tryz.func114 rfl trivial ?_ rfl
  simp only [Tryz.ntmps114, List.size_toArray, List.length_cons, List.length_nil, Nat.reduceAdd, Nat.reduceSub, Array.replicate_succ, Array.replicate_zero, List.push_toArray, List.append_toArray, List.nil_append, List.cons_append]
  have HY := Lib.hid hY
  have HBS := Lib.hid hBs
  have HD := Lib.hid hD
  obtain ⟨m, hm⟩ : ∃ m, h.n = m := ⟨_, rfl⟩
  rw [hm] at hBs hz
  have HM := Lib.hid hm
  rw [hm]
  have hw1 : wrap64 ((m : Int) - 1) = (m : Int) - 1 := by unfold wrap64; omega
  clear hY hD hm
  gi_wp2
  gi_loopw [3] (fun i wr => ∃ k : Nat, k ≤ m ∧ i = .int .i64 ((m : Int) - 1 - k) ∧ J (downto m k) wr ∧ Keep2 Bs gd W wr)
    (fun i _ => (intOf i + 1).toNat)
  case atStart => exact ⟨0, Nat.zero_le _, by simp, h0, Keep2.refl _ _ _⟩
  case round =>
    obtain ⟨k, hk, rfl, hJs, hnx⟩ := hrel
    have HNX := Lib.hid hnx; have HJ := Lib.hid hJs
    have hBs := (World.cell?_of_block (a := ⟨Bs, 0, none⟩) hnx.1).trans HBS.out
    rw [HM.out] at hBs
    by_cases hlt : k < m
    · obtain ⟨i, hi⟩ : ∃ i, m - 1 - k = i := ⟨_, rfl⟩
      have hii : (m : Int) - 1 - k = (i : Int) := by omega
      have him : i < m := by omega
      have hCI := (HD.out.keep hnx.2) i (by rw [HM.out]; exact him)
      have hR := HY.out _ i wr hJs (by rw [downto_length, HM.out]; exact hlt)
      rw [hii]
      unfold nodeX at hR
      obtain ⟨d0, d1, d2, d3, d4, d5, d6, -, -⟩ := hCI
      generalize V.k _ = a0 at d0 hR
      generalize V.n _ = a1 at d1 hR
      generalize V.s _ = a2 at d2 hR
      generalize V.k _ = a3 at d3 hR
      generalize V.n _ = a4 at d4 hR
      generalize V.s _ = a5 at d5 hR
      generalize PH.nxt _ _ _ = a6 at d6 hR
      obtain ⟨fn, tmps, assign, body, hy, hR⟩ := hR
      have i0 : (0 : Int) ≤ (i : Int) := by omega
      have imI : (i : Int) < (m : Int) := by omega
      have ws : wrap64 ((i : Int) - 1) = (i : Int) - 1 := by unfold wrap64; omega
      have HLT := Lib.hid hlt; have HII := Lib.hid hi
      clear hi hii hlt hnx hJs hk
      have HRR := Lib.hid hR
      clear hR
      gi_wp2
      refine HRR.out.mono ?_
      rintro e W3 (⟨rfl, hJ3, hk3⟩ | ⟨rfl, hJx3⟩)
      · have HJ3 := Lib.hid hJ3; have HK3 := Lib.hid hk3
        clear hJ3 hk3 d0 d1 d2 d3 d4 d5 d6
        gi_wp2
        go_roundw
        case rel => exact ⟨k + 1, HLT.out, by have := HLT.out; have := HII.out; congr 1; omega, by rw [downto_succ, HII.out]; exact HJ3.out, HNX.out.trans HK3.out⟩
        case measure => have := HLT.out; have := HII.out; simp [intOf]
      · have HJx := Lib.hid hJx3
        clear hJx3 d0 d1 d2 d3 d4 d5 d6
        gi_wp2
        refine bodyPost_ret (results_none rfl _ _ _) rfl ?_
        exact ⟨⟨_, rfl⟩, .inr ⟨_, trivial, HJx.out⟩⟩
    · obtain rfl : k = m := by omega
      have hii : (k : Int) - 1 - k = -1 := by omega
      rw [hii]
      clear hlt hnx hJs hk hii
      gi_wp2
      go_end0
      exact ⟨⟨_, rfl⟩, .inl ⟨_, rfl, HJ.out⟩⟩
theorem back_stops (n : Nat) (hn : 1 ≤ n) (Bs gd cp : Nat) (h : PH) (hz : h.n ≤ 65536) (w : World) (hl : Bs < w.heap.size) (hg : gd < w.heap.size) (hBs : w.cell? ⟨Bs, 0, none⟩ = some (.slice (some ⟨gd, 0, none⟩) h.n cp)) (hD : DumpAt w gd h) :
    SeqStopsK Fence.wide n Tryz.prog 114 #[.pointer (some ⟨Bs, 0, none⟩)] (fun x : Nat => #[.int .i64 (x : Nat), nodeX h x]) (Keep2 Bs gd) (fun ys => ys = (List.range h.n).reverse) (fun _ => True) h.n w := fun l J Jx W hW _ _ hY h0 => by
  refine (back_in n hn l Bs gd cp h hz J Jx hY W ((hW.cell (p := ⟨Bs, 0, none⟩) hl).trans hBs) (hD.keep (hW.block gd hg)) h0).mono ?_
  rintro e W' ⟨he, ⟨ys, rfl, hj⟩ | hj⟩
  · exact ⟨he, .inl ⟨_, downto_all _, hj⟩⟩
  · exact ⟨he, .inr hj⟩
theorem slices_Backward (a : Option Addr) (len cap : Nat) (w : World) :
    Calls Tryz.prog 99 #[.slice a len cap] w fun e w' => e = .returned (.func (.func 114) #[] #[.pointer (some ⟨w.heap.size, 0, none⟩)]) ∧ w' = w.alloc (.cells #[.slice a len cap] 39) := by
  go_enter Tryz.func99, Tryz.ntmps99
  go_wp2
  go_ret
  exact ⟨rfl, rfl⟩
end Go.Proofs.YteheolefemlcgaaGreat
/- A table: the builtin copy of values; the state of a rehash. -/
namespace Go.Proofs.YteheolefemlcgaaGreat
open Go.RowKit
set_option linter.unusedVariables false
set_option linter.unusedSimpArgs false

theorem run_copy3 {P : Program} (w : World) (dT sT ty elem : TypeId) (b o dLen dCap : Nat) (a : Addr) (sLen sCap n : Nat) (cs : List Value)
    (hu : P.underlying dT = some (.slice elem)) (hs : (P.info? elem).map (·.size) = some 3) (hm : Nat.min sLen dLen = n) (hn : cs.length = n * 3)
    (hsrc : ∀ j v, cs[j]? = some v → w.cell? (a.add j) = some v) (hc : ∀ j, j < cs.length → (w.cell? ⟨b, o + j, none⟩).isSome = true) (hf : ∀ j, j < cs.length → w.frozen? ⟨b, o + j, none⟩ = false) (h1 : ∀ v ∈ cs, v.oneCell' = true) :
    (Builtin.copy_ #[dT, sT] ty #[.slice (some ⟨b, o, none⟩) dLen dCap, .slice (some a) sLen sCap]).run P w = .ok (goInt n) (w.setCells b o cs) := by
  have hl := run_loadCells_list (P := P) w a cs hsrc
  have hst := run_storeCells_cells (P := P) b o cs 0 w (by simpa using hc) (by simpa using hf) h1
  rw [hn] at hl
  cases hq : P.info? elem with
  | none => simp [hq] at hs
  | some i =>
    have hi : i.size = 3 := by simpa [hq] using hs
    simp [Builtin.copy_, run_underlying hu, Builtin.lenOf, Builtin.firstCells, sizeOf, typeInfo, hq, hi, hm, hl, hst]
theorem wpList_copy3 {P : Program} {w : World} {ops : Array Oper} {rest : List Oper} {o : Oper} {a : Act} {Q : Exit → Act → World → Prop} (hgd : o.guard = none) (d s : Operand) (dT sT : TypeId)
    (ho : o.op = .call { callee := .builtin .copy, args := #[d, s], argTypes := #[dT, sT] }) (elem : TypeId) (hu : P.underlying dT = some (.slice elem)) (hsz : (P.info? elem).map (·.size) = some 3)
    (b dLen dCap : Nat) (ad : Addr) (sLen sCap n : Nat) (cs : List Value) (hd : a.eval d = .slice (some ⟨b, 0, none⟩) dLen dCap) (hs : a.eval s = .slice (some ad) sLen sCap) (hm : Nat.min sLen dLen = n) (hn : cs.length = n * 3)
    (hsrc : ∀ j v, cs[j]? = some v → w.cell? (ad.add j) = some v) (hc : ∀ j, j < cs.length → (w.cell? ⟨b, 0 + j, none⟩).isSome = true) (hf : ∀ j, j < cs.length → w.frozen? ⟨b, 0 + j, none⟩ = false) (h1 : ∀ v ∈ cs, v.oneCell' = true)
    (h : wpList P ops Q rest (a.put o.dst (goInt n)) (w.setCells b 0 cs)) :
    wpList P ops Q (o :: rest) a w := by
  refine wpList_plain hgd fun K hK => ?_
  have hr := run_copy3 (P := P) w dT sT o.type elem b 0 dLen dCap ad sLen sCap n cs hu hsz hm hn hsrc hc hf h1
  unfold Oper.wp execOp
  simp only [ho, resolve, invoke, builtin, Sem.run_bind, Sem.run_pure, Result.andThen_ok, List.map_toArray, List.map_cons, List.map_nil, hd, hs, hr]
  exact hK _ _ h
/-- The cells of the slots, one behind the other. -/
def PT.scell (p : PT) (j : Nat) : Value := if j % 3 = 0 then .int .i64 (p.sv (j / 3)).k else if j % 3 = 1 then .int .i64 (p.sv (j / 3)).n else .string (p.sv (j / 3)).s
def PT.scells (p : PT) (n : Nat) : List Value := (List.range (n * 3)).map p.scell
theorem scells_length (p : PT) (n : Nat) : (p.scells n).length = n * 3 := by simp [PT.scells]
theorem scells_get (p : PT) (n j : Nat) (u : Value) (hj : (p.scells n)[j]? = some u) : j < n * 3 ∧ u = p.scell j := by
  unfold PT.scells at hj
  rw [List.getElem?_map] at hj
  by_cases hl : j < n * 3
  · rw [List.getElem?_range hl] at hj
    exact ⟨hl, by simpa using hj.symm⟩
  · rw [List.getElem?_eq_none (by simp; omega)] at hj
    simp at hj
theorem scells_at (p : PT) (n j : Nat) (hl : j < n * 3) : (p.scells n)[j]? = some (p.scell j) := by
  unfold PT.scells
  rw [List.getElem?_map, List.getElem?_range hl]; rfl
theorem scell_one (p : PT) (j : Nat) : (p.scell j).oneCell' = true := by unfold PT.scell; (repeat' split) <;> rfl
theorem PartIn.scell {w : World} {a s b g : Nat} {p : PT} (H : PartIn w a s b g p) (j : Nat) (hj : j < p.sn * 3) : w.cell? ⟨s, j, none⟩ = some (p.scell j) := by
  have hc := H.sl (j / 3) (by omega)
  unfold PT.scell
  rcases (show j % 3 = 0 ∨ j % 3 = 1 ∨ j % 3 = 2 by omega) with e | e | e <;> simp only [e, if_true, if_false, Nat.reduceEqDiff]
  · rw [show j = j / 3 * 3 by omega]; rw [show j / 3 * 3 / 3 = j / 3 by omega]; exact hc.c0
  · rw [show j = j / 3 * 3 + 1 by omega]; rw [show (j / 3 * 3 + 1) / 3 = j / 3 by omega]; exact hc.c1
  · rw [show j = j / 3 * 3 + 2 by omega]; rw [show (j / 3 * 3 + 2) / 3 = j / 3 by omega]; exact hc.c2
theorem kp_setCells (g : Nat) : ∀ (vs : List Value) (o : Nat) (w : World), Kp (fun q => q = g) w (w.setCells g o vs)
  | [], _, w => Kp.refl _ _
  | v :: r, o, w => ((Kp.refl (fun q => q = g) w).set ⟨g, o, none⟩ (.inl rfl) v).trans (kp_setCells g r (o + 1) _) (fun q hq => .inl hq)
/-- Slots that are copied in. -/
theorem C3.copied {w : World} {s' a n : Nat} (p : PT) (hna : n ≤ a) (hm : ∀ i, i < a → C3 w s' (i * 3) nilV) (hf : ∀ i, w.frozen? ⟨s', i, none⟩ = false) (hl : s' < w.heap.size) (i : Nat) (hi : i < a) :
    C3 (w.setCells s' 0 (p.scells n)) s' (i * 3) (if i < n then p.sv i else nilV) := by
  have hsome : ∀ j, j < (p.scells n).length → (w.cell? ⟨s', 0 + j, none⟩).isSome = true := fun j hj => by
    rw [scells_length] at hj
    rw [Nat.zero_add]
    have hc := hm (j / 3) (by omega)
    rcases (show j % 3 = 0 ∨ j % 3 = 1 ∨ j % 3 = 2 by omega) with e | e | e
    · rw [show j = j / 3 * 3 by omega]; exact Option.isSome_iff_exists.2 ⟨_, hc.c0⟩
    · rw [show j = j / 3 * 3 + 1 by omega]; exact Option.isSome_iff_exists.2 ⟨_, hc.c1⟩
    · rw [show j = j / 3 * 3 + 2 by omega]; exact Option.isSome_iff_exists.2 ⟨_, hc.c2⟩
  have hin : ∀ j, j < n * 3 → (w.setCells s' 0 (p.scells n)).cell? ⟨s', j, none⟩ = some (p.scell j) := fun j hj => by
    have := World.cell?_setCells_in s' (p.scells n) 0 w hsome j (by rw [scells_length]; exact hj)
    rw [Nat.zero_add] at this
    rw [this]
    have h2 := scells_at p n j hj
    rw [List.getElem?_eq_getElem (by rw [scells_length]; exact hj)] at h2
    exact h2
  have hout : ∀ j, n * 3 ≤ j → (w.setCells s' 0 (p.scells n)).cell? ⟨s', j, none⟩ = w.cell? ⟨s', j, none⟩ := fun j hj => World.cell?_setCells_out s' _ _ _ ⟨s', j, none⟩ (fun _ _ => .inr (by rw [scells_length]; show 0 + n * 3 ≤ j; omega))
  have hfr : ∀ j, (w.setCells s' 0 (p.scells n)).frozen? ⟨s', j, none⟩ = false := fun j => by rw [World.frozen?_setCells]; exact hf j
  have hlt := Nat.lt_of_lt_of_le hl (kp_setCells s' (p.scells n) 0 w).size
  by_cases hin' : i < n
  · rw [if_pos hin']
    have e : ∀ j, j < 3 → (i * 3 + j) % 3 = j ∧ (i * 3 + j) / 3 = i := fun j hj => by omega
    have g0 := hin (i * 3 + 0) (by omega); have g1 := hin (i * 3 + 1) (by omega); have g2 := hin (i * 3 + 2) (by omega)
    unfold PT.scell at g0 g1 g2
    rw [(e 0 (by omega)).1, (e 0 (by omega)).2] at g0
    rw [(e 1 (by omega)).1, (e 1 (by omega)).2] at g1
    rw [(e 2 (by omega)).1, (e 2 (by omega)).2] at g2
    exact ⟨g0, g1, g2, hfr, hlt⟩
  · rw [if_neg hin']
    have hc := hm i hi
    exact ⟨(hout _ (by omega)).trans hc.c0, (hout _ (by omega)).trans hc.c1, (hout _ (by omega)).trans hc.c2, hfr, hlt⟩
/-- The state of a rehash: the table as it was, the heap, the new parts. -/
structure RH (w0 : World) (a s b g hp : Nat) (t : Tbl) (F F' : Nat → Prop) (hs : HS) (f s' b' g' : Nat) (p : PT) (W : World) : Prop where
  tb : TabIn W a s b g hp t
  hq : Hp F w0 hp F' hs W
  pt : PartIn W f s' b' g' p
  new : ∀ q, PB f s' b' g' q → w0.heap.size ≤ q ∧ ¬ F' q
  old : ∀ q, PB a s b g q → q < w0.heap.size ∧ ¬ F' q
section
variable {w0 W W' : World} {a s b g hp f s' b' g' : Nat} {t : Tbl} {F F' : Nat → Prop} {hs : HS} {p p' : PT}
theorem RH.below (H : RH w0 a s b g hp t F F' hs f s' b' g' p W) (hb : Below W.heap.size W W') : RH w0 a s b g hp t F F' hs f s' b' g' p W' := ⟨H.tb.below hb, H.hq.below hb, H.pt.below hb, H.new, H.old⟩
theorem RH.put (H : RH w0 a s b g hp t F F' hs f s' b' g' p W) (hp' : PartIn W' f s' b' g' p') (hk : Kp (PB f s' b' g') W W') : RH w0 a s b g hp t F F' hs f s' b' g' p' W' :=
  ⟨H.tb.kp hk (fun q hq hn => by have := (H.old q hq).1; have := (H.new q hn).1; omega), H.hq.side hk (fun q hq => ⟨(H.new q hq).2, .inr (H.new q hq).1⟩), hp', H.new, H.old⟩
end
end Go.Proofs.YteheolefemlcgaaGreat
/- A table: rehash, where it is refused. -/
namespace Go.Proofs.YteheolefemlcgaaGreat
open Go.RowKit
set_option linter.unusedVariables false
set_option linter.unusedSimpArgs false

/-- A table and its heap have turned. -/
def TG (F : Nat → Prop) (a s b g : Nat) (w : World) (hp : Nat) (t' : Tbl) (hs' : HS) (w' : World) : Prop :=
  ∃ s' b' g' F', TabIn w' a s' b' g' hp t' ∧ HeapAt F' w' hp hs' ∧ Kp (fun q => PB a s b g q ∨ F q) w w' ∧ (∀ q, PB a s' b' g' q → PB a s b g q ∨ w.heap.size ≤ q) ∧ (∀ q, F' q → F q ∨ w.heap.size ≤ q) ∧ ∀ q, PB a s' b' g' q → ¬ F' q
section
variable (F : Nat → Prop) (a s b g hp : Nat) (t : Tbl) (hs : HS) (kk kn : Int) (ks : ByteArray)
set_option maxHeartbeats 800000 in
theorem rehash_no1 (hok : t.p.ok) (h64 : In64 kn) (er : Int) (he : t.p.reE ⟨kk, kn, ks⟩ = er) (h0 : er ≠ 0) (w : World) (H : TabIn w a s b g hp t) :
    Calls Tryz.prog 54 #[.pointer (some ⟨a, 0, none⟩), .agg #[.int .i64 kk, .int .i64 kn, .string ks]] w fun e w' => e = .returned (.int .i64 er) ∧ Below w.heap.size w w' := by
  have HI := Lib.hid H; have HOK := Lib.hid hok; have H64 := Lib.hid h64; have HE := Lib.hid he
  unfold PT.reE at HE
  have HBa := Lib.hid ((Below.refl _ w).alloc (Nat.le_refl _) (.cells #[.int .i64 kk, .int .i64 kn, .string ks] 35))
  have e0 : (er == 0) = false := by simpa using h0
  have e0' : (er != 0) = true := by simpa using h0
  clear H hok h64 he h0
  go_enter Tryz.func54, Tryz.ntmps54
  go_wp2_with fail
  (with_reducible refine (tab_sizes a s b g hp t kk kn ks HOK.out H64.out _ _ er rfl rfl HE.out _ (HI.out.below HBa.out)).mono ?_)
  rintro e w1 ⟨rfl, hb1⟩
  have HB1 := Lib.hid (HBa.out.trans (hb1.mono HBa.out.size))
  clear hb1
  go_wp2
  go_ret
  exact ⟨rfl, HB1.out⟩
set_option maxHeartbeats 800000 in
theorem rehash_no2 (hok : t.p.ok) (h64 : In64 kn) (he : t.p.reE ⟨kk, kn, ks⟩ = 0) (m n : Nat) (hm : Cs.sizesA (t.p.ints ⟨kk, kn, ks⟩) (t.p.oth ⟨kk, kn, ks⟩) = (m : Nat)) (hn : Cs.sizesH (t.p.ints ⟨kk, kn, ks⟩) (t.p.oth ⟨kk, kn, ks⟩) = (n : Nat)) (hn6 : n ≤ 65536)
    (hsz : hs.sizes.length ≤ 800000) (er : Int) (hl : layE hs m n = er) (h0 : er ≠ 0) (w : World) (H : TabIn w a s b g hp t) (HH : HeapAt F w hp hs) :
    Calls Tryz.prog 54 #[.pointer (some ⟨a, 0, none⟩), .agg #[.int .i64 kk, .int .i64 kn, .string ks]] w fun e w' => e = .returned (.int .i64 er) ∧ Goes F w hp (layH hs m n) w' := by
  have HI := Lib.hid H; have HOK := Lib.hid hok; have H64 := Lib.hid h64; have HE := Lib.hid he; unfold PT.reE at HE; have HHH := Lib.hid HH; have HM := Lib.hid hm; have HN := Lib.hid hn
  have HBa := Lib.hid ((Below.refl _ w).alloc (Nat.le_refl _) (.cells #[.int .i64 kk, .int .i64 kn, .string ks] 35))
  have HLAY : Hid (∀ W, HeapAt F W hp hs → Calls Tryz.prog 89 #[.pointer (some ⟨hp, 0, none⟩), .int .i64 m, .int .i64 n] W fun e w' => e = .returned (.tuple #[noPart, .int .i64 er]) ∧ Goes F W hp (layH hs m n) w') := Lib.hid (fun W hW => by
    unfold layE at hl
    unfold layH
    by_cases h1 : hs.roomE m ≠ 0
    · rw [if_pos h1] at hl ⊢
      rw [(HS.take_no h1).1]
      exact lay_no1 F hp hs m n (by omega) er hl h0 W hW
    · rw [if_neg h1] at hl ⊢
      rw [if_pos (by rw [hl]; exact h0)]
      exact lay_no2 F hp hs m n (by omega) hn6 er (by simpa using h1) hl h0 W hW)
  have e0 : (er == 0) = false := by simpa using h0
  have e0' : (er != 0) = true := by simpa using h0
  clear H hok h64 he h0 HH hm hn hl hn6 hsz
  go_enter Tryz.func54, Tryz.ntmps54
  go_wp2_with fail
  (with_reducible refine (tab_sizes a s b g hp t kk kn ks HOK.out H64.out m n 0 HM.out HN.out HE.out _ (HI.out.below HBa.out)).mono ?_)
  rintro e w1 ⟨rfl, hb1⟩
  have HB1 := Lib.hid (HBa.out.trans (hb1.mono HBa.out.size))
  have c4 := (HI.out.below HB1.out).c4
  have HP1 := Lib.hid ((Hp.start HHH.out).below HB1.out)
  clear hb1
  go_wp2_with fail
  (with_reducible refine (HLAY.out _ HP1.out.at_).mono ?_)
  rintro e w2 ⟨rfl, hg⟩
  obtain ⟨F2, hP2, -, -⟩ := HP1.out.call hg
  have HP2 := Lib.hid hP2
  clear hg hP2 c4
  unfold noPart
  go_wp2
  go_ret
  exact ⟨rfl, (HP2.out.below ((Below.refl _ w2).alloc (Nat.le_refl _) _)).goes⟩
end
end Go.Proofs.YteheolefemlcgaaGreat
/- A rehash: what its parts keep; the table's new parts. -/
namespace Go.Proofs.YteheolefemlcgaaGreat
open Go.RowKit
set_option linter.unusedVariables false
set_option linter.unusedSimpArgs false

theorem below_kpB {B : Nat} {W W' : World} (hb : Below B W W') : Kp (fun q => B ≤ q) W W' := ⟨hb.os, hb.tape, hb.output, hb.size, fun q _ hn => hb.block q (by omega)⟩
theorem grown_belowB {B : Nat} {W W' : World} {row : Option Nat} (hB : B ≤ W.heap.size) (hg : W.grownBy W' row) (hr : ∀ r, row = some r → B ≤ r) : Below B W W' := ⟨hg.os, hg.tape, hg.output, hg.size, fun q hq => hg.block q (by omega) (fun e => by have := hr q e.symm; omega)⟩
theorem C4.keepB {B : Nat} {w w' : World} {a : Nat} {v0 v1 v2 v3 : Value} (H : C4 w a v0 v1 v2 v3) (hb : Below B w w') (hB : a < B) : C4 w' a v0 v1 v2 v3 := H.keep (hb.block a hB)
/-- All blocks of a rehash lie below B. -/
structure RB (B : Nat) (w0 : World) (a s b g : Nat) (F' : Nat → Prop) (f s' b' g' : Nat) : Prop where
  n : ∀ q, PB f s' b' g' q → q < B
  o : ∀ q, PB a s b g q → q < B
  F : ∀ q, F' q → q < B
  w : w0.heap.size ≤ B
section
variable {B : Nat} {w0 W W' : World} {a s b g hp f s' b' g' : Nat} {t : Tbl} {F F' : Nat → Prop} {hs : HS} {p : PT}
theorem RH.belowB (H : RH w0 a s b g hp t F F' hs f s' b' g' p W) (R : RB B w0 a s b g F' f s' b' g') (hb : Below B W W') : RH w0 a s b g hp t F F' hs f s' b' g' p W' :=
  ⟨H.tb.keep (fun q hq => hb.block q (R.o q hq)), ⟨H.hq.at_.kp (below_kpB hb) (fun q hq h => by have := R.F q hq; omega), H.hq.kp.trans (below_kpB hb) (fun q hq => .inr (Nat.le_trans R.w hq)), H.hq.sub⟩, H.pt.keep (fun q hq => hb.block q (R.n q hq)), H.new, H.old⟩
theorem RH.rb (H : RH w0 a s b g hp t F F' hs f s' b' g' p W) : RB W.heap.size w0 a s b g F' f s' b' g' := ⟨fun q hq => H.pt.lt hq, fun q hq => H.tb.pt.lt hq, H.hq.at_.lt, H.hq.kp.size⟩
theorem RB.mono {B' : Nat} (R : RB B w0 a s b g F' f s' b' g') (h : B ≤ B') : RB B' w0 a s b g F' f s' b' g' := ⟨fun q hq => Nat.lt_of_lt_of_le (R.n q hq) h, fun q hq => Nat.lt_of_lt_of_le (R.o q hq) h, fun q hq => Nat.lt_of_lt_of_le (R.F q hq) h, Nat.le_trans R.w h⟩
end
theorem Hp.wide {F0 G F' : Nat → Prop} {w0 W : World} {hp : Nat} {hs : HS} (H : Hp F0 w0 hp F' hs W) (h : ∀ q, F0 q → G q) : Hp G w0 hp F' hs W := ⟨H.at_, H.kp.mono (fun q hq => .inl (h q hq)), fun q hq => (H.sub q hq).imp (h q) id⟩
theorem grown_kp {W W' : World} {D : Nat} (hg : W.grownBy W' (some D)) : Kp (fun q => q = D) W W' := ⟨hg.os, hg.tape, hg.output, hg.size, fun q hq hn => hg.block q hq (fun e => hn (by cases e; rfl))⟩
/-- The table takes the new parts. -/
theorem TabIn.repart {W : World} {a s b g hp f s' b' g' : Nat} {t : Tbl} {p : PT} (H : TabIn W a s b g hp t) (P : PartIn W f s' b' g' p) (hn : ¬ PB f s' b' g' a) :
    TabIn (((((W.setCell ⟨a, 0, none⟩ (.slice (some ⟨s', 0, none⟩) p.sn p.sn)).setCell ⟨a, 1, none⟩ (.pointer (some ⟨b', 0, none⟩))).setCell ⟨a, 2, none⟩ (.int .i64 p.sAt)).setCell ⟨a, 3, none⟩ (.int .i64 p.nAt)).setCell ⟨a, 5, none⟩ (.int .i64 0)) a s' b' g' hp { p := p, hint := 0, pr := t.pr }
    ∧ Kp (fun q => q = a) W (((((W.setCell ⟨a, 0, none⟩ (.slice (some ⟨s', 0, none⟩) p.sn p.sn)).setCell ⟨a, 1, none⟩ (.pointer (some ⟨b', 0, none⟩))).setCell ⟨a, 2, none⟩ (.int .i64 p.sAt)).setCell ⟨a, 3, none⟩ (.int .i64 p.nAt)).setCell ⟨a, 5, none⟩ (.int .i64 0)) := by
  have hK : Kp (fun q => q = a) W (((((W.setCell ⟨a, 0, none⟩ (.slice (some ⟨s', 0, none⟩) p.sn p.sn)).setCell ⟨a, 1, none⟩ (.pointer (some ⟨b', 0, none⟩))).setCell ⟨a, 2, none⟩ (.int .i64 p.sAt)).setCell ⟨a, 3, none⟩ (.int .i64 p.nAt)).setCell ⟨a, 5, none⟩ (.int .i64 0)) :=
    (((((Kp.refl (fun q => q = a) W).set ⟨a, 0, none⟩ (.inl rfl) _).set ⟨a, 1, none⟩ (.inl rfl) _).set ⟨a, 2, none⟩ (.inl rfl) _).set ⟨a, 3, none⟩ (.inl rfl) _).set ⟨a, 5, none⟩ (.inl rfl) _
  refine ⟨?_, hK⟩
  have sa : s' ≠ a := fun e => hn (.inr (.inl e.symm))
  have ba : b' ≠ a := fun e => hn (.inr (.inr (.inl e.symm)))
  have ga : g' ≠ a := fun e => hn (.inr (.inr (.inr e.symm)))
  have hs := hK.block s' P.ls sa
  have hb := hK.block b' P.nd.lb ba
  have hg := hK.block g' P.nd.lg ga
  have c0 := H.pt.c0; have c1 := H.pt.c1; have c2 := H.pt.c2; have c3 := H.pt.c3
  refine ⟨⟨?_, ?_, ?_, ?_, fun i => ?_, fun i hi => (P.sl i hi).keep hs, fun i => (World.frozen?_of_block (a := ⟨s', i, none⟩) hs).trans (P.fs i), lt_of_block hs P.ls, P.nd.keep hb hg, ⟨Ne.symm sa, Ne.symm ba, Ne.symm ga, P.ne.2.2.2.1, P.ne.2.2.2.2⟩⟩, ?_, ?_, ?_⟩
  · rw [cell_other _ _ _ _ _ (by omega), cell_other _ _ _ _ _ (by omega), cell_other _ _ _ _ _ (by omega), cell_other _ _ _ _ _ (by omega), cell_set_self, c0]; rfl
  · rw [cell_other _ _ _ _ _ (by omega), cell_other _ _ _ _ _ (by omega), cell_other _ _ _ _ _ (by omega), cell_set_self, cell_other _ _ _ _ _ (by omega), c1]; rfl
  · rw [cell_other _ _ _ _ _ (by omega), cell_other _ _ _ _ _ (by omega), cell_set_self, cell_other _ _ _ _ _ (by omega), cell_other _ _ _ _ _ (by omega), c2]; rfl
  · rw [cell_other _ _ _ _ _ (by omega), cell_set_self, cell_other _ _ _ _ _ (by omega), cell_other _ _ _ _ _ (by omega), cell_other _ _ _ _ _ (by omega), c3]; rfl
  · rw [frozen_set, frozen_set, frozen_set, frozen_set, frozen_set]; exact H.pt.fa i
  · rw [cell_other _ _ _ _ _ (by omega), cell_other _ _ _ _ _ (by omega), cell_other _ _ _ _ _ (by omega), cell_other _ _ _ _ _ (by omega), cell_other _ _ _ _ _ (by omega)]; exact H.c4
  · rw [cell_set_self, cell_other _ _ _ _ _ (by omega), cell_other _ _ _ _ _ (by omega), cell_other _ _ _ _ _ (by omega), cell_other _ _ _ _ _ (by omega), H.c5]; rfl
  · rw [cell_other _ _ _ _ _ (by omega), cell_other _ _ _ _ _ (by omega), cell_other _ _ _ _ _ (by omega), cell_other _ _ _ _ _ (by omega), cell_other _ _ _ _ _ (by omega)]; exact H.c6
namespace PT
/-- What is put of the nodes in a list. -/
def ndMj (p : PT) (l : List Nat) : List (V × V) := (l.filter fun i => decide ((p.h.val i).k ≠ 0)).map fun i => (p.h.key i, p.h.val i)
theorem ndMj_yes (p : PT) (l : List Nat) (i : Nat) (h : (p.h.val i).k ≠ 0) : p.ndMj (l ++ [i]) = p.ndMj l ++ [(p.h.key i, p.h.val i)] := by
  unfold ndMj; rw [List.filter_append, List.map_append, List.filter_cons_of_pos (by simpa using h)]; rfl
theorem ndMj_no (p : PT) (l : List Nat) (i : Nat) (h : (p.h.val i).k = 0) : p.ndMj (l ++ [i]) = p.ndMj l := by
  unfold ndMj; rw [List.filter_append, List.map_append, List.filter_cons_of_neg (by simpa using h)]; simp
theorem ndMj_all (p : PT) : p.ndMj (List.range p.h.n).reverse = p.ndM := by
  unfold ndMj ndM ndL; rw [List.filter_reverse]
end PT
/-- The act and the world at the head of a round over the nodes: the node lies in a block of its own. -/
def NodeBox (h : PH) (B : Nat) (i q : Nat) (W : World) : Prop := B ≤ q ∧ W.heap[q]? = some (.cells #[.int .i64 (h.key i).k, .int .i64 (h.key i).n, .string (h.key i).s, .int .i64 (h.val i).k, .int .i64 (h.val i).n, .string (h.val i).s, .int .i64 (h.nxt (mpos h.n) i)] 44 (0, 0))
theorem NodeBox.c7 {h : PH} {B i q : Nat} {W : World} (H : NodeBox h B i q W) : C7 W q 0 (h.key i) (h.val i) (h.nxt (mpos h.n) i) := by
  obtain ⟨-, H⟩ := H
  refine ⟨?_, ?_, ?_, ?_, ?_, ?_, ?_, fun j => ?_, (Array.getElem?_eq_some_iff.1 H).1⟩ <;> simp [World.cell?, World.frozen?, H, go_sem]
theorem NodeBox.own (h : PH) (B i q : Nat) {B' : Nat} : OwnFrom B' (fun (_ : Unit) W => NodeBox h B i q W) := fun _ X Y row hs hg hr => by
  refine ⟨hs.1, (hg.block q (Array.getElem?_eq_some_iff.1 hs.2).1 (fun e => ?_)).trans hs.2⟩
  obtain ⟨-, o, ho, hc⟩ := hr q e.symm
  rw [hs.2] at ho; cases ho; cases hc
theorem keepsFrom_kp {B : Nat} {G : Nat → Prop} {W W' : World} (hk : Kp G W W') (hG : ∀ q, G q → q < B) : KeepsFrom B W W' := ⟨hk.size, fun k o hB hk' _ => (hk.block k (Array.getElem?_eq_some_iff.1 hk').1 (fun h => by have := hG k h; omega)).trans hk'⟩
theorem keepsFrom_below {B : Nat} {W W' : World} (hb : Below W.heap.size W W') : KeepsFrom B W W' := ⟨hb.size, fun k o _ hk' _ => (hb.block k (Array.getElem?_eq_some_iff.1 hk').1).trans hk'⟩
/-- The state at the head of a round over the nodes: pre has been put. -/
structure RI (B : Nat) (w0 : World) (a s b g hp : Nat) (t : Tbl) (F F' : Nat → Prop) (hs : HS) (f s' b' g' : Nat) (q0 : PT) (L : List (V × V)) (pre : List Nat) (W : World) : Prop where
  rh : RH w0 a s b g hp t F F' hs f s' b' g' (q0.putL (L ++ t.p.ndMj pre)) W
  ok : (q0.putL (L ++ t.p.ndMj pre)).ok
  c4 : C4 W (f + 1) (.slice (some ⟨s, 0, none⟩) t.p.sn t.p.sn) (.pointer (some ⟨b, 0, none⟩)) (.int .i64 t.p.sAt) (.int .i64 t.p.nAt)
  sz : B ≤ W.heap.size
section
variable {B : Nat} {w0 W W' : World} {a s b g hp f s' b' g' : Nat} {t : Tbl} {F F' : Nat → Prop} {hs : HS} {q0 : PT} {L : List (V × V)} {pre : List Nat}
theorem RI.belowB (H : RI B w0 a s b g hp t F F' hs f s' b' g' q0 L pre W) (R : RB B w0 a s b g F' f s' b' g') (hf : f + 1 < B) (hb : Below B W W') : RI B w0 a s b g hp t F F' hs f s' b' g' q0 L pre W' :=
  ⟨H.rh.belowB R hb, H.ok, H.c4.keepB hb hf, Nat.le_trans H.sz hb.size⟩
theorem RI.own (R : RB B w0 a s b g F' f s' b' g') (hf : f + 1 < B) : OwnFrom B (fun pre W => RI B w0 a s b g hp t F F' hs f s' b' g' q0 L pre W) :=
  fun pre X Y row h hg hr => h.belowB R hf (grown_belowB h.sz hg (fun r e => (hr r e).1))
end
/-- The act at the head of a round. -/
def AxOf (a : Act) (h : PH) (B : Nat) (x : Nat) (a' : Act) (W : World) : Prop :=
  ∃ q, NodeBox h B x q W ∧ a' = { tmps := ((a.tmps.setIfInBounds 71 (.int .i64 (x : Nat))).setIfInBounds 72 (nodeX h x)).setIfInBounds 14 (.pointer (some ⟨q, 0, none⟩)), defers := [] }
theorem AxOf.own (a : Act) (h : PH) (B x : Nat) (a' : Act) {B' : Nat} : OwnFrom B' (fun (_ : Unit) W => AxOf a h B x a' W) := fun u X Y row ⟨q, hq, e⟩ hg hr => ⟨q, NodeBox.own h B x q u X Y row hq hg hr, e⟩
/-- A range over nodes, the last one first, each in a block of its own. -/
theorem range_nodes {g : Operand} {assign body : Code} {Q : Exit → Act → World → Prop} {a : Act} {w : World} {gf : Nat} {lb : Array Value} (hg : a.eval g = .func (.func gf) #[] lb) (eg : ∀ args w, (callFunc gf args).run Tryz.prog w = .ok (.enter gf args) w) {h : PH} {Bs gd : Nat} (B : Nat)
    (hseq : SeqStopsK Fence.wide 4 Tryz.prog gf lb (fun x : Nat => #[.int .i64 (x : Nat), nodeX h x]) (Keep2 Bs gd) (fun ys => ys = (List.range h.n).reverse) (fun _ => True) h.n w) (hBs : Bs < w.heap.size) (hgd : gd < w.heap.size) (hB : w.heap.size = B)
    (I : List Nat → World → Prop) (hI : OwnFrom B I) (h0 : I [] w)
    (hassign : ∀ (l : Nat) (pre : List Nat) (x : Nat) (W : World) (K : Act → World → Prop), I pre W → (∀ a' W', KeepsFrom B W W' → Keep2 Bs gd W W' → I pre W' → AxOf a h B x a' W' → K a' W') →
      assign.wpIn (Fence.wide.inRound l) 3 Tryz.prog (Exit.then K (fun _ _ _ => False)) { tmps := (a.tmps.setIfInBounds 71 (.int .i64 (x : Nat))).setIfInBounds 72 (nodeX h x), defers := [] } W)
    (hbody : ∀ (l : Nat) (pre : List Nat) (x : Nat) (a' : Act) (W : World), I pre W → AxOf a h B x a' W → pre.length < h.n → body.wpIn (Fence.wide.inRound l) 3 Tryz.prog (ownPostG B (Keep2 Bs gd) I (fun _ _ _ => False) (pre ++ [x]) W) a' W)
    (hdone : ∀ (D : Nat) (W : World), B ≤ D → I (List.range h.n).reverse W → W.heap[D]? = some (.deferred (some [])) → Q .normal { a with defers := { target := .collected D, args := #[] } :: a.defers } W) :
    (Code.rangeFunc g #[71, 72] assign body).wp Tryz.prog Q a w := by
  subst hB
  refine (wpIn_wide (n := 5)).1 ?_
  refine wpIn_rangeFunc_ownH rfl (by decide) hg trivial eg hseq (fun h k => h.trans k) (keep2_b hBs hgd) (Below.refl _ _) (fun _ => rfl) I (fun _ _ _ => False) hI (fun _ _ _ _ _ h _ _ => h) h0 (AxOf a h w.heap.size) (fun x a' => AxOf.own _ _ _ _ _) ?_ ?_ ?_ ?_
  · intro l pre x W K hi hk
    have e : ∀ v1 v2 : Value, Array.foldl (fun (t : Array Value) (x : Tmp × Value) => match x with | (p, v) => t.setIfInBounds p v) a.tmps ((#[71, 72] : Array Tmp).zip #[v1, v2]) = (a.tmps.setIfInBounds 71 v1).setIfInBounds 72 v2 := fun v1 v2 => by simp
    rw [e]
    exact hassign l pre x W K hi hk
  · intro l pre x a' W _ _ hi hax hl
    exact hbody l pre x a' W hi hax hl
  · intro D xs W hD hS hi hd
    subst hS
    exact hdone D W hD hi hd
  · intro D c pre W _ _ h _; exact h.elim
end Go.Proofs.YteheolefemlcgaaGreat
