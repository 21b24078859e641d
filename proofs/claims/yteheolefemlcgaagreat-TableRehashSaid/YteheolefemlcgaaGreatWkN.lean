/- walk.List and walk.Next. -/
import Derived.Test.YteheolefemlcgaaGreatWkR
import Derived.BigFrameIn
namespace Go.Proofs.YteheolefemlcgaaGreat
open Go.RowKit Go.Maps
set_option linter.unusedVariables false
set_option linter.unusedSimpArgs false

attribute [local go_sem] Oper.semAt_some
/-- The parts of no table. -/
def pt0 : PT := ⟨0, fun _ => nilV, PH.new 0, 0, 0⟩
theorem pt0_tot : pt0.tot = 0 := rfl
/-- A table behind a pointer, or none. -/
def Tb (w : World) (P : Option Addr) (p : PT) : Prop := (P = none ∧ p = pt0) ∨ ∃ (a s b g hp : Nat) (t : Tbl), P = some ⟨a, 0, none⟩ ∧ t.p = p ∧ t.p.ok ∧ TabIn w a s b g hp t
theorem tab_Places_nil (w : World) : Calls Tryz.prog 75 #[.pointer none] w fun e w' => e = .returned (.int .i64 0) ∧ w = w' := by
  go_enter Tryz.func75, Tryz.ntmps75
  go_wp2
  go_ret
  exact ⟨rfl, rfl⟩
set_option maxRecDepth 100000 in
theorem behind_nil_in (n : Nat) (hn : 1 ≤ n) (l Bp Bt : Nat) (J : List Nat → World → Prop) (W : World) (hBp : W.cell? ⟨Bp, 0, none⟩ = some (.int .i64 0)) (hBt : W.cell? ⟨Bt, 0, none⟩ = some (.pointer none)) (h0 : J [] W) :
    CallsIn Fence.wide n Tryz.prog 104 #[.func (.yield l) #[] #[], .pointer (some ⟨Bp, 0, none⟩), .pointer (some ⟨Bt, 0, none⟩)] W fun e W' => (∃ v, e = .returned v) ∧ J [] W' := by
  refine callsIn_of_wp Tryz.func104 rfl trivial ?_ rfl
  simp only [Tryz.ntmps104, List.size_toArray, List.length_cons, List.length_nil, Nat.reduceAdd, Nat.reduceSub, Array.replicate_succ, Array.replicate_zero, List.push_toArray, List.append_toArray, List.nil_append, List.cons_append]
  gi_wp2
  gi_loopw [4] (fun i wr => i = .int .i64 1 ∧ W = wr) (fun _ _ => 0)
  case atStart => exact ⟨rfl, rfl⟩
  case round =>
    obtain ⟨rfl, rfl⟩ := hrel
    gi_wp2_with fail
    refine ⟨trivial, ?_⟩
    (refine (callsIn_wide.2 (tab_Places_nil W)).mono ?_)
    rintro e w1 ⟨rfl, rfl⟩
    gi_wp2
    go_end0
    exact ⟨⟨_, rfl⟩, h0⟩
/-- The iterator over the places of a table, or of none. -/
theorem Tb.stops {w0 w : World} {P : Option Addr} {p : PT} (H : Tb w0 P p) (hb : Below w0.heap.size w0 w) (n : Nat) (hn : 1 ≤ n) (Bp Bt : Nat) (lo tot : Nat) (hlo : lo + tot = p.tot) (hBp : w.cell? ⟨Bp, 0, none⟩ = some (.int .i64 lo)) (hBt : w.cell? ⟨Bt, 0, none⟩ = some (.pointer P)) (hlp : Bp < w.heap.size) (hlt : Bt < w.heap.size) :
    ∃ G : Nat → Prop, (∀ q, G q → q < w0.heap.size ∨ q = Bp ∨ q = Bt) ∧ SeqStopsK Fence.wide n Tryz.prog 104 #[.pointer (some ⟨Bp, 0, none⟩), .pointer (some ⟨Bt, 0, none⟩)] (fun x : Nat => #[pairX (p.pair (x : Nat))]) (KeepG G) (fun ys => ys = p.pos lo tot) (fun pre => ∃ k, k < tot ∧ p.full (lo + 1 + k) ∧ pre = p.pos lo k ++ [lo + 1 + k]) tot w := by
  rcases H with ⟨rfl, rfl⟩ | ⟨a, s, b, g, hp, t, rfl, rfl, hok, hT⟩
  · rw [pt0_tot] at hlo
    obtain rfl : lo = 0 := by omega
    obtain rfl : tot = 0 := by omega
    refine ⟨fun _ => False, fun _ h => h.elim, fun l J Jx W hW hJ _ hY h0 => ?_⟩
    refine (behind_nil_in n hn l Bp Bt J W ((hW.cell (p := ⟨Bp, 0, none⟩) hlp).trans hBp) ((hW.cell (p := ⟨Bt, 0, none⟩) hlt).trans hBt) h0).mono ?_
    rintro e W' ⟨he, hj⟩
    exact ⟨he, .inl ⟨_, rfl, hj⟩⟩
  · refine ⟨fun q => PB a s b g q ∨ q = Bp ∨ q = Bt, fun q hq => ?_, behind_stops n hn Bp Bt a s b g hp t hok lo tot hlo w hBp hBt hlp hlt (hT.below hb)⟩
    rcases hq with h | rfl | rfl
    · exact .inl (hT.pt.lt h)
    · exact .inr (.inl rfl)
    · exact .inr (.inr rfl)
theorem Tb.small {w : World} {P : Option Addr} {p : PT} (H : Tb w P p) : p.tot ≤ 131072 := by
  rcases H with ⟨-, rfl⟩ | ⟨a, s, b, g, hp, t, -, rfl, hok, -⟩
  · rw [pt0_tot]; omega
  · have h2 := hok.sz
    have h3 := hok.hg.sz
    unfold PT.tot; omega
theorem own_size {β : Type} (B N : Nat) : OwnFrom B (fun (_ : β) (W : World) => N ≤ W.heap.size) := fun _ X Y row hs hg _ => Nat.le_trans hs hg.size
theorem own_pure {β : Type} (B : Nat) (p : β → Prop) : OwnFrom B (fun s (_ : World) => p s) := fun _ _ _ _ hs _ _ => hs
theorem ownsRow_mono {w : World} {B B' : Nat} {e : TypeId} {size : Nat} {v : Value} {n : Nat} {xs : List Value} (h : w.ownsRow B e size v n xs) (hb : B' ≤ B) : w.ownsRow B' e size v n xs := by
  refine ⟨h.1, h.2.imp id ?_⟩
  rintro ⟨g, cap, cur, e1, h1, h2⟩
  exact ⟨g, cap, cur, e1, Nat.le_trans hb h1, h2⟩
theorem six_new (W : World) (x : V × V) (ty : TypeId) (j : Nat) (u : Value) (h : (pcells x)[j]? = some u) : (W.alloc (.cells #[.int .i64 x.1.k, .int .i64 x.1.n, .string x.1.s, .int .i64 x.2.k, .int .i64 x.2.n, .string x.2.s] ty)).cell? ((⟨W.heap.size, 0, none⟩ : Addr).add j) = some u := by
  match j, h with
  | 0, h => simp [pcells] at h; subst h; simp [go_sem, Addr.add]
  | 1, h => simp [pcells] at h; subst h; simp [go_sem, Addr.add]
  | 2, h => simp [pcells] at h; subst h; simp [go_sem, Addr.add]
  | 3, h => simp [pcells] at h; subst h; simp [go_sem, Addr.add]
  | 4, h => simp [pcells] at h; subst h; simp [go_sem, Addr.add]
  | 5, h => simp [pcells] at h; subst h; simp [go_sem, Addr.add]
theorem six_one (x : V × V) : ∀ u ∈ pcells x, u.oneCell' = true := by
  intro u hu
  simp only [pcells, List.mem_cons, List.not_mem_nil, or_false] at hu
  rcases hu with rfl | rfl | rfl | rfl | rfl | rfl <;> rfl
theorem Tb.below {w w' : World} {P : Option Addr} {p : PT} (H : Tb w P p) (hb : Below w.heap.size w w') : Tb w' P p := by
  rcases H with h | ⟨a, s, b, g, hp, t, h1, h2, h3, hT⟩
  · exact .inl h
  · exact .inr ⟨a, s, b, g, hp, t, h1, h2, h3, hT.below hb⟩
theorem own_cells {β : Type} (B r : Nat) (cs : Array Value) (ty : TypeId) : OwnFrom B (fun (_ : β) W => W.heap[r]? = some (.cells cs ty (0, 0))) := fun _ X Y row hs hg hr => by
  refine (hg.block r (Array.getElem?_eq_some_iff.1 hs).1 (fun e => ?_)).trans hs
  obtain ⟨-, o, ho, hc⟩ := hr r e.symm
  rw [hs] at ho; cases ho; cases hc
theorem own_cell {β : Type} (B r i : Nat) (v : Value) : OwnFrom B (fun (_ : β) W => W.cell? ⟨r, i, none⟩ = some v) := fun _ X Y row hs hg hr => by
  refine (World.cell?_of_block (a := ⟨r, i, none⟩) (hg.block r (lt_cell hs) (fun e => ?_))).trans hs
  obtain ⟨-, o, ho, hc⟩ := hr r e.symm
  simp only [World.cell?, ho] at hs
  cases o <;> simp_all [Obj.isCells]
/-- The loop's variable in a block of its own. -/
def PairBox (B : Nat) (x : V × V) (q : Nat) (W : World) : Prop := B ≤ q ∧ W.heap[q]? = some (.cells #[.int .i64 x.1.k, .int .i64 x.1.n, .string x.1.s, .int .i64 x.2.k, .int .i64 x.2.n, .string x.2.s] 135 (0, 0))
theorem PairBox.c6 {B q : Nat} {x : V × V} {W : World} (H : PairBox B x q W) : C6 W q 0 x := by
  obtain ⟨-, H⟩ := H
  constructor <;> simp [World.cell?, H, go_sem]
theorem PairBox.own (B : Nat) (x : V × V) (q : Nat) {B' : Nat} : OwnFrom B' (fun (_ : Unit) W => PairBox B x q W) := fun u X Y row hs hg hr => ⟨hs.1, own_cells B' q _ _ u X Y row hs.2 hg hr⟩
/-- The act at the head of a round. -/
def AxP (a : Act) (s1 s2 : Nat) (p : PT) (B : Nat) (x : Nat) (a' : Act) (W : World) : Prop :=
  ∃ q, PairBox B (p.pair (x : Nat)) q W ∧ a' = { tmps := (a.tmps.setIfInBounds s1 (pairX (p.pair (x : Nat)))).setIfInBounds s2 (.pointer (some ⟨q, 0, none⟩)), defers := [] }
theorem AxP.own (a : Act) (s1 s2 : Nat) (p : PT) (B x : Nat) (a' : Act) {B' : Nat} : OwnFrom B' (fun (_ : Unit) W => AxP a s1 s2 p B x a' W) := fun u X Y row ⟨q, hq, e⟩ hg hr => ⟨q, PairBox.own B _ q u X Y row hq hg hr, e⟩
/-- A range over the pairs behind a place, each in a block of its own. -/
theorem range_pairs {g : Operand} {assign body : Code} {Q : Exit → Act → World → Prop} {a : Act} {w : World} {gf : Nat} {lb : Array Value} (s1 s2 : Nat) (p : PT) (hg : a.eval g = .func (.func gf) #[] lb) (eg : ∀ args w, (callFunc gf args).run Tryz.prog w = .ok (.enter gf args) w) {G : Nat → Prop} (B lo tot : Nat)
    (hseq : SeqStopsK Fence.wide 3 Tryz.prog gf lb (fun x : Nat => #[pairX (p.pair (x : Nat))]) (KeepG G) (fun ys => ys = p.pos lo tot) (fun pre => ∃ k, k < tot ∧ p.full (lo + 1 + k) ∧ pre = p.pos lo k ++ [lo + 1 + k]) tot w) (hG : ∀ q, G q → q < w.heap.size) (hB : w.heap.size = B)
    (I : List Nat → World → Prop) (Ix : Code → List Nat → World → Prop) (hI : OwnFrom B I) (hIx : ∀ c, OwnFrom B (Ix c)) (h0 : I [] w)
    (hassign : ∀ (l : Nat) (pre : List Nat) (x : Nat) (W : World) (K : Act → World → Prop), I pre W → (∀ a' W', KeepsFrom B W W' → KeepG G W W' → I pre W' → AxP a s1 s2 p B x a' W' → K a' W') →
      assign.wpIn (Fence.wide.inRound l) 2 Tryz.prog (Exit.then K (fun _ _ _ => False)) { tmps := a.tmps.setIfInBounds s1 (pairX (p.pair (x : Nat))), defers := [] } W)
    (hbody : ∀ (l : Nat) (pre : List Nat) (x : Nat) (a' : Act) (W : World), I pre W → AxP a s1 s2 p B x a' W → pre.length < tot → body.wpIn (Fence.wide.inRound l) 2 Tryz.prog (ownPostG B (KeepG G) I Ix (pre ++ [x]) W) a' W)
    (hdone : ∀ (D : Nat) (W : World), B ≤ D → I (p.pos lo tot) W → W.heap[D]? = some (.deferred (some [])) → Q .normal { a with defers := { target := .collected D, args := #[] } :: a.defers } W)
    (hstop : ∀ (D : Nat) (c : Code) (pre : List Nat) (W : World), B ≤ D → (∃ k, k < tot ∧ p.full (lo + 1 + k) ∧ pre = p.pos lo k ++ [lo + 1 + k]) → Ix c pre W → W.heap[D]? = some (.deferred (some [])) → c.wpIn Fence.wide 4 Tryz.prog Q { a with defers := { target := .collected D, args := #[] } :: a.defers } W) :
    (Code.rangeFunc g #[s1] assign body).wpIn Fence.wide 4 Tryz.prog Q a w := by
  subst hB
  refine wpIn_rangeFunc_ownH rfl (by decide) hg trivial eg hseq (fun h k => h.trans k) (keepG_b hG) (Below.refl _ _) (fun _ => rfl) I Ix hI hIx h0 (AxP a s1 s2 p w.heap.size) (fun x a' => AxP.own _ _ _ _ _ _ _) ?_ ?_ ?_ ?_
  · intro l pre x W K hi hk
    have e : ∀ v : Value, Array.foldl (fun (t : Array Value) (x : Tmp × Value) => match x with | (p, v) => t.setIfInBounds p v) a.tmps ((#[s1] : Array Tmp).zip #[v]) = a.tmps.setIfInBounds s1 v := fun v => by simp
    rw [e]
    exact hassign l pre x W K hi hk
  · intro l pre x a' W _ _ hi hax hl
    exact hbody l pre x a' W hi hax hl
  · intro D xs W hD hS hi hd
    subst hS
    exact hdone D W hD hi hd
  · intro D c pre W hD hS h hd
    exact hstop D c pre W hD hS h hd
set_option maxRecDepth 100000 in
set_option maxHeartbeats 2000000 in
/-- walk.List: all pairs, in new memory. -/
theorem walk_List (P : Option Addr) (p : PT) (w : World) (H : Tb w P p) :
    Calls Tryz.prog 27 #[.pointer P] w fun e W' => ∃ v, e = .returned v ∧ PRow w.heap.size W' v p.prs ∧ Below w.heap.size w W' := by
  refine (callsIn_wide (n := 4)).1 ?_
  have hro : Fence.wide.round = none := rfl
  obtain ⟨i0, hi, hz0, hz1, hz2⟩ := info_parts Tryz.infoPair
  have HI0 := Lib.hid hi; have HZ0 := Lib.hid hz0; have HZ1 := Lib.hid hz1; have HZ2 := Lib.hid hz2
  clear hi hz0 hz1 hz2
  have HH := Lib.hid H
  clear H
  refine callsIn_of_wp_marks Tryz.func27 rfl trivial ?_ hro
  simp only [Tryz.ntmps27, List.size_toArray, List.length_cons, List.length_nil, Nat.reduceAdd, Nat.reduceSub, Array.replicate_succ, Array.replicate_zero, List.push_toArray, List.append_toArray, List.nil_append, List.cons_append]
  gi_wp2_with fail
  refine ⟨trivial, ?_⟩
  (refine (callsIn_wide.2 (walk_behind P 0 _)).mono ?_)
  rintro e w' ⟨rfl, rfl⟩
  gi_wp2_with fail
  have bO := Boxed.new w 72 (.slice none 0 0)
  have hB0 : Below w.heap.size w (((w.alloc (.cells #[.slice none 0 0] 72)).alloc (.cells #[.pointer P] 27)).alloc (.cells #[.int .i64 0] 3)) := (((Below.refl _ w).alloc (Nat.le_refl _) _).alloc (by simp) _).alloc (by simp; omega) _
  have HB0 := Lib.hid hB0
  have HT0 := Lib.hid (HH.out.below hB0)
  have c1 : (((w.alloc (.cells #[.slice none 0 0] 72)).alloc (.cells #[.pointer P] 27)).alloc (.cells #[.int .i64 0] 3)).cell? ⟨(w.alloc (.cells #[.slice none 0 0] 72)).heap.size, 0, none⟩ = some (.pointer P) := by simp [go_sem]
  have c2 : (((w.alloc (.cells #[.slice none 0 0] 72)).alloc (.cells #[.pointer P] 27)).alloc (.cells #[.int .i64 0] 3)).cell? ⟨(w.alloc (.cells #[.slice none 0 0] 72)).heap.size + 1, 0, none⟩ = some (.int .i64 0) := by simp [go_sem]
  have bO1 := (bO.alloc (.cells #[.pointer P] 27)).alloc (.cells #[.int .i64 0] 3)
  have hsz : (((w.alloc (.cells #[.slice none 0 0] 72)).alloc (.cells #[.pointer P] 27)).alloc (.cells #[.int .i64 0] 3)).heap.size = w.heap.size + 3 := by simp
  have hs1 : (w.alloc (.cells #[.slice none 0 0] 72)).heap.size = w.heap.size + 1 := by simp
  rw [hs1] at c1 c2
  generalize (((w.alloc (.cells #[.slice none 0 0] 72)).alloc (.cells #[.pointer P] 27)).alloc (.cells #[.int .i64 0] 3)) = W1 at *
  have hsm := HH.out.small
  obtain ⟨G, hG, hseq⟩ := HH.out.stops HB0.out 3 (by decide) (w.heap.size + 1 + 1) (w.heap.size + 1) 0 p.tot (by omega) c2 c1 (by omega) (by omega)
  have HG : Hid (∀ q, G q → q < w.heap.size ∨ q = w.heap.size + 1 + 1 ∨ q = w.heap.size + 1) := Lib.hid hG
  have HSZ := Lib.hid hsz
  have HSM := Lib.hid hsm
  have hGl : ∀ q, G q → q < W1.heap.size := fun q hq => by rcases HG.out q hq with h | h | h <;> omega
  clear hG hsm c1 c2 hs1
  refine range_pairs 7 4 p (gf := 104) (lb := #[.pointer (some ⟨w.heap.size + 1 + 1, 0, none⟩), .pointer (some ⟨w.heap.size + 1, 0, none⟩)]) rfl (enters_of Tryz.func104 (by kernel_rfl) rfl) W1.heap.size 0 p.tot hseq hGl rfl
    (fun pre W => (∃ v, Boxed W w.heap.size 72 v ∧ W.ownsRow W1.heap.size 135 6 v pre.length (pCells (pre.map fun j => p.pair ((j : Nat) : Int))) ∧ True) ∧ Below w.heap.size w W ∧ W1.heap.size ≤ W.heap.size)
    (fun _ _ _ => False)
    (OwnFrom.and (Own.from (holdsRow_own (β := List Nat) W1.heap.size w.heap.size 72 135 6 (fun pre => pre.length) (fun pre => pCells (pre.map fun j => p.pair ((j : Nat) : Int))) (fun _ _ => True)) _) (OwnFrom.and (ownFrom_below (Nat.le_refl _) (by omega)) (own_size _ _)))
    (fun _ _ _ _ _ h _ _ => h)
    ⟨⟨_, bO1, World.ownsRow_nil _ _ _ _, trivial⟩, HB0.out, Nat.le_refl _⟩ ?_ ?_ ?_ ?_
  · rintro l pre x W K ⟨⟨v, hv, hrow, -⟩, hB, hsz'⟩ hK
    have HK := Lib.hid hK; have HV := Lib.hid hv; have HRW := Lib.hid hrow; have HB := Lib.hid hB; have HS := Lib.hid hsz'
    clear hK hv hrow hB hsz'
    unfold pairX
    gi_wp2
    have hb := (Below.refl W.heap.size W).alloc (Nat.le_refl _) (.cells #[.int .i64 (p.pair (x : Nat)).1.k, .int .i64 (p.pair (x : Nat)).1.n, .string (p.pair (x : Nat)).1.s, .int .i64 (p.pair (x : Nat)).2.k, .int .i64 (p.pair (x : Nat)).2.n, .string (p.pair (x : Nat)).2.s] 135)
    refine HK.out _ _ (keepsFrom_below hb) (keepG_below hb (fun q hq => Nat.lt_of_lt_of_le (hGl q hq) HS.out)) ⟨⟨v, HV.out.alloc _, HRW.out.alloc _, trivial⟩, HB.out.trans (hb.mono HB.out.size), Nat.le_trans HS.out hb.size⟩ ⟨W.heap.size, ⟨HS.out, heap_alloc_new W _⟩, by rfl⟩
  · rintro l pre x a' W ⟨⟨v, hv, hrow, -⟩, hB, hsz'⟩ ⟨q, hq, rfl⟩ hlt
    have hc := hv.cell
    obtain ⟨c0, c1, c2, c3, c4, c5⟩ := hq.c6
    simp only [Nat.zero_add] at c1 c2 c3 c4 c5
    have HSN := Lib.hid (six_new W (p.pair (x : Nat)) 135)
    have HON := Lib.hid (six_one (p.pair (x : Nat)))
    have HBS : Hid (w.heap.size ≤ W1.heap.size) := Lib.hid (by omega)
    unfold pairX
    gi_wp2_with (gi_at_builtin; refine wpListIn_append_own _ rfl _ _ 72 rfl W1.heap.size 135 i0 (.agg #[.int .i64 0, .int .i64 0, .string ⟨#[]⟩, .int .i64 0, .int .i64 0, .string ⟨#[]⟩]) 6 64 Tryz.underlying72 HI0.out HZ0.out HZ1.out HZ2.out rfl (by decide) _ _ _ rfl (hrow.alloc _) ⟨W.heap.size, 0, none⟩ 1 1 (pcells (p.pair (x : Nat))) rfl rfl HSN.out HON.out (by have := HSM.out; unfold maxLen; omega) (by have := HSM.out; omega) (by rw [World.size_alloc]; omega) ?_; intro v' w1 hown' hgrow _; obtain ⟨g', cap', rfl⟩ := ownsRow_succ hown'; obtain ⟨hv1, hv2, -, hk2, hb2⟩ := hv.appended (by decide) (ownsRow_mono hrow HBS.out) hB.size (Nat.le_refl _) (ownsRow_mono hown' HBS.out) hgrow; have hc1 := hv1.cell; have hf1 := hv1.frozen)
    have hr2 := hown'.kept (grownBy_setCell' w1 w.heap.size (.slice (some ⟨g', 0, none⟩) (pre.length + 1) cap')) (.inr (hv1.not_row (by decide) hown').symm)
    refine ⟨hk2.from _, fun z hz => ?_, ⟨_, hv2, ?_, trivial⟩, hB.trans hb2, ?_⟩
    · have h1 := HG.out z hz
      have h2 := hGl z hz
      have h3 := hgrow.size
      rw [World.size_alloc] at h3
      have h4 : some z ≠ v.ownBlock := fun e => by
        rcases hrow.2 with ⟨e1, -⟩ | ⟨g, cap, cur, e1, hb, -⟩
        · rw [e1] at e; simp [Value.ownBlock] at e
        · rw [e1] at e
          have e2 : z = g := by simpa [Value.ownBlock] using e
          omega
      exact ((grownBy_setCell' w1 w.heap.size _).block z (by omega) (fun e => by have e2 : z = w.heap.size := Option.some.inj e; omega)).trans ((hgrow.block z (by rw [World.size_alloc]; omega) h4).trans (Below.heap_alloc _ _ _ (by omega)))
    · rw [List.length_append, List.map_append]
      show World.ownsRow _ _ _ _ _ (pre.length + 1) (pCells (pre.map _ ++ [_]))
      rw [pCells_app]
      exact hr2
    · have h3 := hgrow.size
      rw [World.size_alloc] at h3
      exact Nat.le_trans (by omega) (grownBy_setCell' w1 w.heap.size (.slice (some ⟨g', 0, none⟩) (pre.length + 1) cap')).size
  · rintro D W hD ⟨⟨v, hv, hrow, -⟩, hB, hsz'⟩ hK
    have hc := hv.cell
    gi_wp2
    refine ⟨by simp, .inl ⟨_, _, rfl, run_takeDeferred hK, ?_⟩⟩
    refine ⟨_, results_tmp rfl _ _ _, v, rfl, ?_, hB.trans (belowK_b (w := w) (Nat.le_refl _) W D _ _ (by omega) hK rfl rfl)⟩
    have h := ownsRow_putObj (ownsRow_mono hrow (show w.heap.size ≤ W1.heap.size by omega)) (.deferred none) hK rfl
    unfold PRow
    rw [prs_len]
    exact h
  · rintro D c pre W _ _ h _
    exact h.elim
end Go.Proofs.YteheolefemlcgaaGreat
