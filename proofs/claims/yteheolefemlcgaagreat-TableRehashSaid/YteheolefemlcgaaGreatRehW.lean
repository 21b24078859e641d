/- TableRehash: opener, state, walk. -/
import Derived.Test.YteheolefemlcgaaGreatTabV
import Derived.Test.YteheolefemlcgaaGreatClrF
import Derived.Test.YteheolefemlcgaaGreatBeg2
import Derived.Test.YteheolefemlcgaaGreatWkB
import Derived.Test.YteheolefemlcgaaGreatRefC
import Derived.Deep.RegionHeld3
/- A case of the table's laws that came in, its whole operations. -/
namespace Go.Proofs.YteheolefemlcgaaGreat
open Go.RowKit Go.Joins Go.ChangeShapes Go.WideShapes Go.Deep Go.ChangeAt
set_option linter.unusedVariables false
set_option linter.unusedSimpArgs false

/-- A case, its operations' first and last numbers too. -/
structure CSR (W : World) (v : Value) (x : CX) : Prop where
  a : CSA W v x
  r : ∀ b o, x.A = some ⟨b, o, none⟩ → ∀ j, j < x.l.length → ∃ kd n : Int, W.cell? ⟨b, o + j * 8 + 0, none⟩ = some (.int .i64 kd) ∧ W.cell? ⟨b, o + j * 8 + 7, none⟩ = some (.int .i64 n)
set_option maxRecDepth 100000 in
theorem opens_caseR {H : Type} {enc : TypeId × Value → H} {W : World} {base : Nat} {spare : Nat → Bool} {held : Bool} {r : Reach} {b0 : Nat} {v : Value} {d : DataW H} {p : List MemPlace} {ts : List TypeId} {ds : List (DataW H)} {j : Nat}
    (hv : Value.okWide Tryz.prog W r b0 24 v) (h : DataW.Trod enc Tryz.prog W base spare held 24 v d p) (hsz : (DataW.weightsEach Tryz.prog ts ds).all (· ≤ reachBytes) = true) (ht : ts[j]? = some 24) (hd : ds[j]? = some d) : ∃ x : CX, CSR W v x := by
  obtain ⟨v0, v1, v2, v3, y0, y1, y2, y3, n, rfl, -, -, h0, h1, h2, hf⟩ := open_agg4 Tryz.underlying24 (by kernel_rfl) (by kernel_rfl) hv h
  obtain ⟨k0, rfl, i0⟩ := trod_i64 h0
  obtain ⟨k1, rfl, i1⟩ := trod_i64 h1
  obtain ⟨k2, rfl, i2⟩ := trod_i64 h2
  have hf' : DataW.trod enc Tryz.prog W base spare held n 22 [v3] = some y3 := hf
  rcases open_slice Tryz.underlying22 hf' with ⟨hcs, _⟩ | ⟨ad, len, cap, m, n, D, Pl, hcs, hb, hl, hm, hmm, hx, hi⟩
  · simp only [List.cons.injEq, and_true] at hcs
    subst hcs
    exact ⟨⟨k0, k1, k2, none, 0, []⟩, ⟨rfl, i0, i1, i2, Nat.le_refl _, by simp, fun h => by simp at h, fun y hy => by simp at hy⟩, fun b o h => by simp at h⟩
  · simp only [List.cons.injEq, and_true] at hcs
    subst hcs
    have hC : Tryz.prog.cellsOf 37 = 8 := by kernel_rfl
    have hI : Tryz.prog.cellsOf 3 = 1 := by kernel_rfl
    have hV : Tryz.prog.cellsOf 35 = 3 := by kernel_rfl
    have key : ∀ i, i < len → ∃ x : (V × V) × (Int × Int), (In64V x.1.1 ∧ In64V x.1.2) ∧ W.cell? ((ad.add (i * 8)).add 0) = some (.int .i64 x.2.1) ∧ W.cell? ((ad.add (i * 8)).add 1) = some (.int .i64 x.1.1.k) ∧ W.cell? ((ad.add (i * 8)).add 2) = some (.int .i64 x.1.1.n) ∧ W.cell? ((ad.add (i * 8)).add 3) = some (.string x.1.1.s) ∧ W.cell? ((ad.add (i * 8)).add 4) = some (.int .i64 x.1.2.k) ∧ W.cell? ((ad.add (i * 8)).add 5) = some (.int .i64 x.1.2.n) ∧ W.cell? ((ad.add (i * 8)).add 6) = some (.string x.1.2.s) ∧ W.cell? ((ad.add (i * 8)).add 7) = some (.int .i64 x.2.2) := by
      intro i h
      obtain ⟨cs', hc, ht'⟩ := hi i (by rw [hmm]; split <;> omega)
      rw [hC] at hc
      obtain ⟨_, hcl, hat⟩ := World.cells?_some hc
      obtain ⟨ys, n', -, -, -, hyl, hfl⟩ := DataW.trod_struct Tryz.underlying37 ht'
      match cs', hcl with
      | [c0, c1, c2, c3, c4, c5, c6, c7], _ =>
        match ys, hyl with
        | [y0, y1, y2, y3], _ =>
          have g0 := hfl 0 _ rfl
          have g1 := hfl 1 _ rfl
          have g3 := hfl 3 _ rfl
          have g2 := hfl 2 _ rfl
          have f1 : DataW.trod enc Tryz.prog W base spare held n' 35 (List.take (Tryz.prog.cellsOf 35) [c1, c2, c3, c4, c5, c6, c7]) = some y1 := g1
          have f2 : DataW.trod enc Tryz.prog W base spare held n' 35 (List.take (Tryz.prog.cellsOf 35) [c4, c5, c6, c7]) = some y2 := g2
          have f0 : DataW.trod enc Tryz.prog W base spare held n' 3 (List.take (Tryz.prog.cellsOf 3) [c0, c1, c2, c3, c4, c5, c6, c7]) = some y0 := g0
          have f3 : DataW.trod enc Tryz.prog W base spare held n' 3 (List.take (Tryz.prog.cellsOf 3) [c7]) = some y3 := g3
          rw [hV] at f1 f2
          rw [hI] at f0 f3
          simp only [List.take_succ_cons, List.take_zero] at f0 f1 f2 f3
          obtain ⟨e0, rfl, -⟩ := trod_i64 f0
          obtain ⟨e7, rfl, -⟩ := trod_i64 f3
          obtain ⟨x, hx, rfl, rfl, rfl⟩ := trod_val f1
          obtain ⟨z, hz, rfl, rfl, rfl⟩ := trod_val f2
          exact ⟨((x, z), (e0, e7)), ⟨hx, hz⟩, by rw [hat 0 (by omega)]; rfl, by rw [hat 1 (by omega)]; rfl, by rw [hat 2 (by omega)]; rfl, by rw [hat 3 (by omega)]; rfl, by rw [hat 4 (by omega)]; rfl, by rw [hat 5 (by omega)]; rfl, by rw [hat 6 (by omega)]; rfl, by rw [hat 7 (by omega)]; rfl⟩
    obtain ⟨g, hg⟩ : ∃ g : Nat → (V × V) × (Int × Int), ∀ i, i < len → (In64V (g i).1.1 ∧ In64V (g i).1.2) ∧ W.cell? ((ad.add (i * 8)).add 0) = some (.int .i64 (g i).2.1) ∧ W.cell? ((ad.add (i * 8)).add 1) = some (.int .i64 (g i).1.1.k) ∧ W.cell? ((ad.add (i * 8)).add 2) = some (.int .i64 (g i).1.1.n) ∧ W.cell? ((ad.add (i * 8)).add 3) = some (.string (g i).1.1.s) ∧ W.cell? ((ad.add (i * 8)).add 4) = some (.int .i64 (g i).1.2.k) ∧ W.cell? ((ad.add (i * 8)).add 5) = some (.int .i64 (g i).1.2.n) ∧ W.cell? ((ad.add (i * 8)).add 6) = some (.string (g i).1.2.s) ∧ W.cell? ((ad.add (i * 8)).add 7) = some (.int .i64 (g i).2.2) :=
      ⟨fun i => if h : i < len then Classical.choose (key i h) else ((nilV, nilV), (0, 0)), fun i h => by simp only [dif_pos h]; exact Classical.choose_spec (key i h)⟩
    have hll : ((List.range len).map fun i => (g i).1).length = len := by simp
    refine ⟨⟨k0, k1, k2, some ad, cap, (List.range len).map fun i => (g i).1⟩, ⟨by unfold CX.val; rw [hll], i0, i1, i2, by rw [hll]; exact hl, hm, fun h0 => ?_, fun x hx' => ?_⟩, fun b o hbo i hi' => ?_⟩
    · rw [hll] at h0
      have h1 := (hg 0 h0).2.1
      rw [show (ad.add (0 * 8)).add 0 = ad by simp [Addr.add]] at h1
      obtain ⟨b, o, rfl, hbl⟩ := spot_of_cell h1
      refine ⟨b, o, rfl, hbl, fun i hi' => ?_⟩
      have hil : i < len := by simpa using hi'
      obtain ⟨-, -, c1, c2, c3, c4, c5, c6, -⟩ := hg i hil
      simp only [addr_add] at c1 c2 c3 c4 c5 c6
      have e : opAt ((List.range len).map fun i => (g i).1) i = (g i).1 := by unfold opAt; simp [List.getD_eq_getElem?_getD, hil]
      rw [e]
      exact ⟨c1, c2, c3, c4, c5, c6⟩
    · obtain ⟨i, hi', rfl⟩ := List.mem_map.1 hx'
      exact (hg i (List.mem_range.1 hi')).1
    · obtain rfl : ad = ⟨b, o, none⟩ := Option.some.inj hbo
      have hil : i < len := by simpa using hi'
      obtain ⟨-, c0, -, -, -, -, -, -, c7⟩ := hg i hil
      simp only [addr_add] at c0 c7
      exact ⟨_, _, c0, c7⟩
end Go.Proofs.YteheolefemlcgaaGreat
/- TableRehash: what a Set comes to, by the table and its heap. -/
namespace Go.Proofs.YteheolefemlcgaaGreat
open Go.RowKit Go.Maps
set_option linter.unusedVariables false
set_option linter.unusedSimpArgs false

/-- Is a rehash due? -/
def dueP (t : Tbl) (k v : V) : Prop := okV k = true ∧ okV v = true ∧ k.k ≠ 0 ∧ v.k ≠ 0 ∧ t.p.fullC = true ∧ ¬ 0 < t.p.place k
theorem kys_small {p : PT} (H : p.ok) : p.kys.length ≤ 200000 := by
  have h1 := pos_len p 0 p.tot
  have h2 := H.sz
  have h3 := H.hg.sz
  unfold PT.kys
  rw [List.length_map]
  unfold PT.tot at h1 ⊢
  omega
section
variable {w0 w w' : World} {S : Nat → Prop} {hp a n : Nat} {t : Tbl} {hs : HS}
theorem BS.live (H : BS w0 S hp a t hs n w) : hs.live = 4 + t.p.cells := by have := H.k.live; rw [this]; exact Int.add_zero _
theorem BS.livec (H : BS w0 S hp a t hs n w) (x : Int) (hx : hs.live = x) : Calls Tryz.prog 29 #[.pointer (some ⟨hp, 0, none⟩)] w fun e w' => e = .returned (.int .i64 x) ∧ w = w' := Live_t x hx H.tt
theorem BS.stt (H : BS w0 S hp a t hs n w) (q1 q2 q3 q4 : Int) (e1 : (t.p.sn : Int) = q1) (e2 : (t.p.h.n : Int) = q2) (e3 : (t.p.h.free : Int) = q3) (e4 : t.hint = q4) : Calls Tryz.prog 20 #[.pointer (some ⟨a, 0, none⟩)] w fun e w' => e = .returned (.agg #[.int .i64 q1, .int .i64 q2, .int .i64 q3, .int .i64 q4]) ∧ Below w.heap.size w w' := by
  obtain ⟨s, b, g, hT⟩ := H.tab
  exact tab_Stats a s b g hp t q1 q2 q3 q4 e1 e2 e3 e4 w hT
theorem BS.prs (H : BS w0 S hp a t hs n w) : Calls Tryz.prog 34 #[.pointer (some ⟨a, 0, none⟩)] w fun e w' => ∃ v, e = .returned v ∧ VRow w.heap.size w' v t.p.kys ∧ Below w.heap.size w w' := by
  obtain ⟨s, b, g, hT⟩ := H.tab
  exact law08_present a s b g hp t H.ok w hT
theorem BS.full (H : BS w0 S hp a t hs n w) (B : Bool) (h : t.p.fullC = B) : Calls Tryz.prog 30 #[.pointer (some ⟨a, 0, none⟩)] w fun e w' => e = .returned (.bool B) ∧ Below w.heap.size w w' := by
  obtain ⟨s, b, g, hT⟩ := H.tab
  rw [← h]
  exact law08_full a s b g hp t H.ok w hT
theorem BS.reh (H : BS w0 S hp a t hs n w) (hn : n ≤ 800000) (kk kn : Int) (ks : ByteArray) (vk vn : Int) (vs : ByteArray) (h64 : In64 kn) :
    Calls Tryz.prog 12 #[.pointer (some ⟨a, 0, none⟩), .agg #[.int .i64 kk, .int .i64 kn, .string ks], .agg #[.int .i64 vk, .int .i64 vn, .string vs]] w fun e w' => ∃ t' hs' er, e = .returned (.int .i64 er) ∧ BS w0 S hp a t' hs' (n + 2) w' ∧
      ((er = 0 ∧ dueP t ⟨kk, kn, ks⟩ ⟨vk, vn, vs⟩ ∧ FIT t'.p.sn t'.p.h.n t'.p.kys ∧ t'.hint = 0 ∧ t'.get ⟨kk, kn, ks⟩ = ⟨vk, vn, vs⟩ ∧ hs'.live - hs.live = (t'.p.sn : Int) - t.p.sn + 3 * ((t'.p.h.n : Int) - t.p.h.n))
      ∨ ((er ≠ 0 ∨ ¬ dueP t ⟨kk, kn, ks⟩ ⟨vk, vn, vs⟩) ∧ t'.p.sn = t.p.sn ∧ t'.p.h.n = t.p.h.n ∧ hs'.live = hs.live)) ∧ ∀ q, S q → w'.heap[q]? = w.heap[q]? := by
  obtain ⟨s1, s2, -⟩ := Tbl.set_is (hs := hs) (k := ⟨kk, kn, ks⟩) (v := ⟨vk, vn, vs⟩) H.ok h64
  have hss := set_sizes (hs := hs) (k := ⟨kk, kn, ks⟩) (v := ⟨vk, vn, vs⟩) H.ok h64
  have hd : (okV (⟨kk, kn, ks⟩ : V) = true ∧ okV (⟨vk, vn, vs⟩ : V) = true ∧ kk ≠ 0 ∧ vk ≠ 0 ∧ t.p.fullB ∧ t.p.place ⟨kk, kn, ks⟩ = 0) ↔ dueP t ⟨kk, kn, ks⟩ ⟨vk, vn, vs⟩ := by
    unfold dueP
    have h1 := place_nonneg t.p ⟨kk, kn, ks⟩
    rw [← fullC_iff]
    exact ⟨fun ⟨a1, a2, a3, a4, a5, a6⟩ => ⟨a1, a2, a3, a4, a5, by omega⟩, fun ⟨a1, a2, a3, a4, a5, a6⟩ => ⟨a1, a2, a3, a4, a5, by omega⟩⟩
  refine (BS.set H hn kk kn ks vk vn vs h64).mono ?_
  rintro e w' ⟨he, hx, hk⟩
  have l1 := H.live
  have l2 := hx.live
  refine ⟨_, _, _, he, hx, ?_, hk⟩
  rcases hss with ⟨h1, h2, h3, h4⟩ | ⟨h1, h2, h3, -⟩
  · left
    refine ⟨h1, hd.1 h2, h3, h4, by rw [s2 h1, if_pos rfl], ?_⟩
    unfold PT.cells at l1 l2
    omega
  · right
    refine ⟨h1.imp id (fun h c => h (hd.2 c)), h2, h3, ?_⟩
    unfold PT.cells at l1 l2
    rw [h2, h3] at l2
    omega
end
end Go.Proofs.YteheolefemlcgaaGreat
/- TableRehash: the walk. -/
namespace Go.Proofs.YteheolefemlcgaaGreat
open Go.RowKit Go.Maps
set_option linter.unusedVariables false
set_option linter.unusedSimpArgs false

def ownB (b : Nat) (q : Nat) : Prop := q = b
def ownB2 (b c : Nat) (q : Nat) : Prop := q = b ∨ q = c
def ownB3 (b c d : Nat) (q : Nat) : Prop := q = b ∨ q = c ∨ q = d
def ownB4 (b c d e : Nat) (q : Nat) : Prop := q = b ∨ q = c ∨ q = d ∨ q = e
/-- An operation in a block of its own. -/
structure OB (w : World) (b : Nat) (k v : V) : Prop where
  c : COp w b 0 (k, v)
  fz : ∀ i, w.frozen? ⟨b, i, none⟩ = false
  lt : b < w.heap.size
theorem OB.keep {w w' : World} {b : Nat} {k v : V} (H : OB w b k v) (hb : w'.heap[b]? = w.heap[b]?) : OB w' b k v := by
  have hc : ∀ i, w'.cell? ⟨b, i, none⟩ = w.cell? ⟨b, i, none⟩ := fun i => World.cell?_of_block (a := ⟨b, i, none⟩) hb
  refine ⟨⟨(hc _).trans H.c.k0, (hc _).trans H.c.k1, (hc _).trans H.c.k2, (hc _).trans H.c.v0, (hc _).trans H.c.v1, (hc _).trans H.c.v2⟩, fun i => (World.frozen?_of_block (a := ⟨b, i, none⟩) hb).trans (H.fz i), lt_cell ((hc _).trans H.c.k0)⟩
theorem OB.below {w w' : World} {b : Nat} {k v : V} (H : OB w b k v) (hb : Below w.heap.size w w') : OB w' b k v := H.keep (hb.block b H.lt)
theorem OB.new (w : World) (kd n kk kn : Int) (ks : ByteArray) (vk vn : Int) (vs : ByteArray) : OB (w.alloc (.cells #[.int .i64 kd, .int .i64 kk, .int .i64 kn, .string ks, .int .i64 vk, .int .i64 vn, .string vs, .int .i64 n] 37)) w.heap.size ⟨kk, kn, ks⟩ ⟨vk, vn, vs⟩ :=
  ⟨⟨by simp [go_sem], by simp [go_sem], by simp [go_sem], by simp [go_sem], by simp [go_sem], by simp [go_sem]⟩, fun i => by simp [go_sem], by simp [go_sem]⟩
theorem C4.kept {w w' : World} {a : Nat} {v0 v1 v2 v3 : Value} (H : C4 w a v0 v1 v2 v3) (hb : w'.heap[a]? = w.heap[a]?) : C4 w' a v0 v1 v2 v3 := H.keep hb
theorem bs_new {w0 w w' : World} {S : Nat → Prop} {hp a n c : Nat} {t : Tbl} {hs : HS} (H : BS w0 S hp a t hs n w) (hb : Below w.heap.size w w') (hc : w.heap.size ≤ c ∧ c < w'.heap.size) : BS w0 (fun q => S q ∨ q = c) hp a t hs n w' :=
  H.reserve hb (fun q hq => hq.elim (fun h => ⟨Nat.lt_of_lt_of_le (H.keepS q h) hb.size, .inl h⟩) (fun h => ⟨by rw [h]; exact hc.2, .inr (by rw [h]; exact hc.1)⟩))
theorem meas4 (n j : Nat) (h : j < n) : n - ((j : Int) + 1).toNat < n - ((j : Int)).toNat := by omega
theorem ok_of {v : V} (h : errForm (okV v) = 0) : okV v = true := by
  cases e : okV v
  · rw [e] at h; exact absurd h (by decide)
  · rfl
theorem no_of {v : V} (h : okV v = true) : errForm (okV v) = 0 := by rw [h]; rfl
theorem chk_z (k n : Int) (s : ByteArray) (z : Int) (hz : errForm (okV ⟨k, n, s⟩) = z) (w : World) : Calls Tryz.prog 32 #[.agg #[.int .i64 k, .int .i64 n, .string s]] w fun e w' => e = .returned (.int .i64 z) ∧ Below w.heap.size w w' := by
  rw [← hz]; exact ref_Check ⟨k, n, s⟩ w
theorem arith_re {l1 l2 a1 a2 n1 n2 : Int} (h : l2 - l1 = a2 - a1 + 3 * (n2 - n1)) (h1 : 0 ≤ a1 ∧ a1 ≤ 65536) (h2 : 0 ≤ a2 ∧ a2 ≤ 65536) (h3 : 0 ≤ n1 ∧ n1 ≤ 65536) (h4 : 0 ≤ n2 ∧ n2 ≤ 65536) :
    wrap64 (l2 - l1) = l2 - l1 ∧ wrap64 (a2 - a1) = a2 - a1 ∧ wrap64 (n2 - n1) = n2 - n1 ∧ wrap64 (3 * (n2 - n1)) = 3 * (n2 - n1) ∧ wrap64 (a2 - a1 + 3 * (n2 - n1)) = l2 - l1 :=
  ⟨wrap64_id (by unfold In64; omega), wrap64_id (by unfold In64; omega), wrap64_id (by unfold In64; omega), wrap64_id (by unfold In64; omega), by rw [wrap64_id (by unfold In64; omega), h]⟩
theorem arith_re2 {l1 l2 a1 a2 n1 n2 : Int} (h : l2 - l1 = a2 - a1 + 3 * (n2 - n1)) (h1 : 0 ≤ a1 ∧ a1 ≤ 65536) (h2 : 0 ≤ a2 ∧ a2 ≤ 65536) (h3 : 0 ≤ n1 ∧ n1 ≤ 65536) (h4 : 0 ≤ n2 ∧ n2 ≤ 65536) :
    IntKind.i64.wrap (l2 - l1) = l2 - l1 ∧ IntKind.i64.wrap (a2 - a1) = a2 - a1 ∧ IntKind.i64.wrap (n2 - n1) = n2 - n1 ∧ IntKind.i64.wrap (3 * (n2 - n1)) = 3 * (n2 - n1) ∧ IntKind.i64.wrap (a2 - a1 + 3 * (n2 - n1)) = l2 - l1 :=
  ⟨Go.IntWalk.i64_in _ (by omega), Go.IntWalk.i64_in _ (by omega), Go.IntWalk.i64_in _ (by omega), Go.IntWalk.i64_in _ (by omega), by rw [Go.IntWalk.i64_in _ (by omega), h]⟩
set_option maxRecDepth 100000 in
set_option maxHeartbeats 6400000 in
theorem rowTableRehash {vx : Value} {W : World} (x : CX) (f : CSR W vx x) (w : World) : Calls Tryz.prog 6 #[vx] W fun e w' => e = .returned (.bool true) ∧ Below W.heap.size W w' := by
  have hcx := fun w => law08_cut f.a w
  have fc := f.a.cut
  have hx3 : x.cut.l.length ≤ 300 := by show (x.l.take 300).length ≤ 300; rw [List.length_take]; omega
  have hrr : ∀ b o, x.cut.A = some ⟨b, o, none⟩ → ∀ j, j < x.cut.l.length → ∃ kd n : Int, W.cell? ⟨b, o + j * 8 + 0, none⟩ = some (.int .i64 kd) ∧ W.cell? ⟨b, o + j * 8 + 7, none⟩ = some (.int .i64 n) := fun b o h j hj => f.r b o h j (Nat.lt_of_lt_of_le hj (by show (x.l.take 300).length ≤ x.l.length; rw [List.length_take]; omega))
  obtain rfl := f.a.e
  generalize x.cut = x2 at hcx fc hx3 hrr
  unfold CX.val at hcx
  have FC := Lib.hid fc; have HCX := Lib.hid hcx; have HL3 := Lib.hid hx3; have HRR := Lib.hid hrr
  have HBX := Lib.hid (show CB (W.alloc (.cells #[.int .i64 x.lim, .int .i64 x.arr, .int .i64 x.hsh, .slice x.A x.l.length x.c] 24)) W.heap.size x from C4.new W _ _ _ _ _)
  have HB0 := Lib.hid (((Below.refl _ W).alloc (Nat.le_refl _) (.cells #[.int .i64 x.lim, .int .i64 x.arr, .int .i64 x.hsh, .slice x.A x.l.length x.c] 24)))
  clear f fc hcx hx3 hrr
  unfold CX.val
  go_enter Tryz.func6, Tryz.ntmps6
  go_wp2_with fail
  (with_reducible refine (law08_fixed _).mono ?_)
  rintro e w1 ⟨rfl, hb⟩
  have HBX1 := Lib.hid (show CB w1 W.heap.size x from HBX.out.below hb)
  have HB1 := Lib.hid (below_step HB0.out hb)
  clear hb
  obtain ⟨p0, p1, p2, p3, pf, -⟩ := HBX1.out
  have pf0 := pf 0; have pf1 := pf 1; have pf2 := pf 2; have pf3 := pf 3
  go_wp2_with fail
  (with_reducible refine (HCX.out _).mono ?_)
  rintro e w2 ⟨rfl, hb⟩
  have HBX2 := Lib.hid (show CB w2 W.heap.size x from HBX1.out.below hb)
  have HB2 := Lib.hid (below_step HB1.out hb)
  clear hb p0 p1 p2 p3 pf pf0 pf1 pf2 pf3
  obtain ⟨p0, p1, p2, p3, pf, -⟩ := HBX2.out
  have pf0 := pf 0; have pf1 := pf 1; have pf2 := pf 2; have pf3 := pf 3
  go_wp2_with fail
  have HXC := Lib.hid (show CB ((((w2.setCell ⟨W.heap.size, 0, none⟩ (.int .i64 x2.lim)).setCell ⟨W.heap.size, 1, none⟩ (.int .i64 x2.arr)).setCell ⟨W.heap.size, 2, none⟩ (.int .i64 x2.hsh)).setCell ⟨W.heap.size, 3, none⟩ (.slice x2.A x2.l.length x2.c)) W.heap.size x2 from C4.over HBX2.out _ _ _ _)
  have HBC := Lib.hid ((((HB2.out.setCell (p := ⟨W.heap.size, 0, none⟩) (Nat.le_refl _) (.int .i64 x2.lim)).setCell (p := ⟨W.heap.size, 1, none⟩) (Nat.le_refl _) (.int .i64 x2.arr)).setCell (p := ⟨W.heap.size, 2, none⟩) (Nat.le_refl _) (.int .i64 x2.hsh)).setCell (p := ⟨W.heap.size, 3, none⟩) (Nat.le_refl _) (.slice x2.A x2.l.length x2.c))
  clear p0 p1 p2 p3 pf pf0 pf1 pf2 pf3
  by_cases hlim : x2.lim < 0 ∨ 400000 < x2.lim
  · (with_reducible refine (law08_begin_no FC.out hlim _).mono ?_)
    rintro e w3 ⟨rfl, hb⟩
    have HB3 := Lib.hid (below_step HBC.out hb)
    clear hb
    go_wp2
    go_ret
    exact ⟨rfl, HB3.out⟩
  · have hl2 : 0 ≤ x2.lim ∧ x2.lim ≤ 400000 := by omega
    (with_reducible refine (law08_begin_is FC.out hl2.1 hl2.2 W _ (ownB W.heap.size) (fun q hq => by have := HXC.out.lt; unfold ownB at hq; omega) HBC.out).mono ?_)
    rintro e w3 ⟨A, hs0, hp, P, Q, rfl, hP, hN, -, hT, hA, hk⟩
    have HX3 := Lib.hid (HXC.out.keep (hk _ rfl))
    have HT := Lib.hid hT
    cases A with
    | none =>
      obtain rfl : none = P := by simpa [OT.ptr] using hP
      clear hP hT hA hk hN
      go_wp2
      go_ret
      exact ⟨rfl, HT.out.bel⟩
    | some y =>
      obtain ⟨a, t0⟩ := y
      obtain rfl : some ⟨a, 0, none⟩ = P := by simpa [OT.ptr] using hP
      have hh : t0.hint = 0 := by
        rcases hN with ⟨h, -⟩ | ⟨a', h, -⟩
        · simp at h
        · simp only [Option.some.injEq, Prod.mk.injEq] at h; rw [h.2]; rfl
      have HM0 : Hid (BS W (ownB W.heap.size) hp a t0 hs0 3 w3) := Lib.hid ⟨hT, hA, by rw [hh]; exact Int.le_refl _, by rw [hh]; omega⟩
      clear hP hT hA hk hN hh HT HXC HBC HBX HBX1 HBX2 HB0 HB1 HB2 HCX hlim hl2
      go_wp2_with fail
      go_loopw [7] (fun i wr => ∃ (j : Nat) (t : Tbl) (hs : HS), j ≤ x2.l.length ∧ i = .int .i64 j ∧ Hid (BS W (ownB W.heap.size) hp a t hs (3 + 2 * j) wr) ∧ Hid (CB wr W.heap.size x2)) (fun i _ => x2.l.length - (intOf i).toNat)
      case atStart => exact ⟨0, t0, hs0, Nat.zero_le _, rfl, HM0, HX3⟩
      case round =>
        clear HM0 HX3
        obtain ⟨j, t, hs, hj, rfl, HM, HX⟩ := hrel
        obtain ⟨-, -, -, a3, -, -⟩ := HX.out
        by_cases h1 : j < x2.l.length
        · have d1 : decide ((j : Int) < (x2.l.length : Int)) = true := by simp; omega
          have j1 : (j : Int) < (x2.l.length : Int) := by omega
          have lx : (x2.l.length : Int) ≤ 300 := by have := HL3.out; omega
          obtain ⟨bx, ox, eA, hbx, hcx⟩ := FC.out.ops (by omega)
          obtain ⟨kd, on, hkd, hon⟩ := HRR.out bx ox eA j h1
          rw [eA] at a3
          have HCX := Lib.hid (hcx j h1)
          have HIX := Lib.hid (FC.out.in64 j)
          have hkd' := (HM.out.bel.cell (p := ⟨bx, _, none⟩) hbx).trans hkd
          have hon' := (HM.out.bel.cell (p := ⟨bx, _, none⟩) hbx).trans hon
          clear hcx hkd hon
          generalize opAt x2.l j = zx at HCX HIX
          obtain ⟨⟨kk, kn, ks⟩, vk, vn, vs⟩ := zx
          have HJ := Lib.hid (show j < 300 by have := HL3.out; omega)
          have mj : wrap64 ((j : Int) + 1) = (j : Int) + 1 := wrap64_id (by unfold In64; omega)
          obtain ⟨c0, c1, c2, c3, c4, c5⟩ := HCX.out.bel HM.out.bel hbx
          have HJL := Lib.hid h1
          have HTO := Lib.hid (show t.p.sn ≤ 65536 ∧ t.p.h.n ≤ 65536 from ⟨HM.out.ok.sz, HM.out.ok.hg.sz⟩)
          have hb1 := (Below.refl wr.heap.size wr).alloc (Nat.le_refl _) (.cells #[.int .i64 kd, .int .i64 kk, .int .i64 kn, .string ks, .int .i64 vk, .int .i64 vn, .string vs, .int .i64 on] 37)
          have HO1 := Lib.hid (OB.new wr kd on kk kn ks vk vn vs)
          have HM1 := Lib.hid (bs_new HM.out hb1 ⟨Nat.le_refl _, HO1.out.lt⟩)
          have HX1 := Lib.hid (HX.out.below hb1)
          clear eA hbx hb1
          simp only [Nat.add_zero] at hkd'
          go_upto_region 11 with fail
          clear c0 c1 c2 c3 c4 c5 a3 hkd' hon' HM HX d1 j1 h1
          generalize wr.alloc (.cells #[.int .i64 kd, .int .i64 kk, .int .i64 kn, .string ks, .int .i64 vk, .int .i64 vn, .string vs, .int .i64 on] 37) = w4 at HO1 HM1 HX1 ⊢
          generalize wr.heap.size = ob at HO1 HM1 ⊢
          obtain ⟨N1, hN1⟩ : ∃ N1 : Int, (t.p.sn : Int) = N1 := ⟨_, rfl⟩
          obtain ⟨m1, hm1⟩ : ∃ m1 : Int, (t.p.h.n : Int) = m1 := ⟨_, rfl⟩
          obtain ⟨f1, hf1⟩ : ∃ f1 : Int, (t.p.h.free : Int) = f1 := ⟨_, rfl⟩
          obtain ⟨x1, hx1⟩ : ∃ x1 : Int, t.hint = x1 := ⟨_, rfl⟩
          obtain ⟨l1, hl1⟩ : ∃ l1 : Int, hs.live = l1 := ⟨_, rfl⟩
          obtain ⟨B, hB⟩ : ∃ B, t.p.fullC = B := ⟨_, rfl⟩
          have HS1 := Lib.hid (show (t.p.sn : Int) = N1 ∧ (t.p.h.n : Int) = m1 ∧ (t.p.h.free : Int) = f1 ∧ t.hint = x1 ∧ hs.live = l1 ∧ t.p.fullC = B from ⟨hN1, hm1, hf1, hx1, hl1, hB⟩)
          clear hN1 hm1 hf1 hx1 hl1 hB
          go_wp2_with fail
          (with_reducible refine (HM1.out.stt _ _ _ _ HS1.out.1 HS1.out.2.1 HS1.out.2.2.1 HS1.out.2.2.2.1).mono ?_)
          rintro e w5 ⟨rfl, hb⟩
          have HM5 := Lib.hid (HM1.out.below hb)
          have HBa := Lib.hid hb
          clear hb
          go_wp2_with fail
          (with_reducible refine (HM5.out.livec _ HS1.out.2.2.2.2.1).mono ?_)
          rintro e w6 ⟨rfl, rfl⟩
          go_wp2_with fail
          (with_reducible refine (HM5.out.full _ HS1.out.2.2.2.2.2).mono ?_)
          rintro e w6 ⟨rfl, hb⟩
          have hb6 := (below_step HBa.out hb)
          have hb7 := hb6.alloc hb6.size (.cells #[.int .i64 N1, .int .i64 m1, .int .i64 f1, .int .i64 x1] 56)
          have HS7 := Lib.hid (C4.new w6 (.int .i64 N1) (.int .i64 m1) (.int .i64 f1) (.int .i64 x1) 56)
          have HM7 := Lib.hid (bs_new HM1.out hb7 ⟨hb6.size, HS7.out.lt⟩)
          have HX7 := Lib.hid (HX1.out.below hb7)
          have HO7 := Lib.hid (HO1.out.below hb7)
          clear hb hb6 hb7 HM5 HBa HM1 HX1 HO1
          go_upto_region 12 with fail
          generalize w6.alloc (.cells #[.int .i64 N1, .int .i64 m1, .int .i64 f1, .int .i64 x1] 56) = w7 at HS7 HM7 HX7 HO7 ⊢
          generalize w6.heap.size = sb at HS7 HM7 ⊢
          obtain ⟨⟨k0, k1, k2, u0, u1, u2⟩, kf, -⟩ := HO7.out
          dsimp only at k0 k1 k2 u0 u1 u2
          simp only [Nat.zero_add] at k0 k1 k2 u0 u1 u2
          obtain ⟨pl, hpl⟩ : ∃ pl, t.p.place ⟨kk, kn, ks⟩ = pl := ⟨_, rfl⟩
          have HPL := Lib.hid hpl
          clear hpl
          go_wp2_with fail
          (with_reducible refine (BS.place HM7.out kk kn ks).mono ?_)
          rintro e w8 ⟨t8, ⟨rfl, -⟩, hp8, hx, hk⟩
          have HM8 := Lib.hid hx
          have HP8 := Lib.hid hp8
          have HS8 := Lib.hid (HS7.out.keep (hk _ (.inr rfl)))
          have HX8 := Lib.hid (HX7.out.keep (hk _ (.inl (.inl rfl))))
          have HO8 := Lib.hid (HO7.out.keep (hk _ (.inl (.inr rfl))))
          rw [HPL.out]
          clear hx hk hp8 k0 k1 k2 u0 u1 u2 kf HM7 HS7 HX7 HO7
          obtain ⟨H8, hH8⟩ : ∃ b, decide (0 < pl) = b := ⟨_, rfl⟩
          have HH8 := Lib.hid hH8
          go_upto_region 13 with fail
          clear hH8
          obtain ⟨⟨k0, k1, k2, u0, u1, u2⟩, kf, -⟩ := HO8.out
          dsimp only at k0 k1 k2 u0 u1 u2
          simp only [Nat.zero_add] at k0 k1 k2 u0 u1 u2
          go_wp2_with fail
          (with_reducible refine (BS.reh HM8.out (by have := HJ.out; omega) kk kn ks vk vn vs HIX.out).mono ?_)
          rintro e w9 ⟨t9, hs9, er, rfl, hx, hcs, hk⟩
          have HM9 := Lib.hid hx
          have HS9 := Lib.hid (HS8.out.keep (hk _ (.inr rfl)))
          have HX9 := Lib.hid (HX8.out.keep (hk _ (.inl (.inl rfl))))
          have HO9 := Lib.hid (HO8.out.keep (hk _ (.inl (.inr rfl))))
          obtain ⟨N2, hN2⟩ : ∃ N2 : Int, (t9.p.sn : Int) = N2 := ⟨_, rfl⟩
          obtain ⟨m2, hm2⟩ : ∃ m2 : Int, (t9.p.h.n : Int) = m2 := ⟨_, rfl⟩
          obtain ⟨f2, hf2⟩ : ∃ f2 : Int, (t9.p.h.free : Int) = f2 := ⟨_, rfl⟩
          obtain ⟨x9, hx9⟩ : ∃ x9 : Int, t9.hint = x9 := ⟨_, rfl⟩
          obtain ⟨l2, hl2⟩ : ∃ l2 : Int, hs9.live = l2 := ⟨_, rfl⟩
          have HS2 := Lib.hid (show (t9.p.sn : Int) = N2 ∧ (t9.p.h.n : Int) = m2 ∧ (t9.p.h.free : Int) = f2 ∧ t9.hint = x9 ∧ hs9.live = l2 from ⟨hN2, hm2, hf2, hx9, hl2⟩)
          have HCS := Lib.hid hcs
          clear hx hcs hk k0 k1 k2 u0 u1 u2 kf HM8 HS8 HX8 HO8 hN2 hm2 hf2 hx9 hl2
          go_wp2_with fail
          (with_reducible refine (HM9.out.stt _ _ _ _ HS2.out.1 HS2.out.2.1 HS2.out.2.2.1 HS2.out.2.2.2.1).mono ?_)
          rintro e wA ⟨rfl, hb⟩
          have hbA := hb.alloc hb.size (.cells #[.int .i64 N2, .int .i64 m2, .int .i64 f2, .int .i64 x9] 56)
          have HZA := Lib.hid (C4.new wA (.int .i64 N2) (.int .i64 m2) (.int .i64 f2) (.int .i64 x9) 56)
          have HMA := Lib.hid (bs_new HM9.out hbA ⟨hb.size, HZA.out.lt⟩)
          have HXA := Lib.hid (HX9.out.below hbA)
          have HOA := Lib.hid (HO9.out.below hbA)
          have HSA := Lib.hid (HS9.out.below hbA HS9.out.lt)
          clear hb hbA HM9 HX9 HO9 HS9
          go_upto_region 15 with fail
          generalize wA.alloc (.cells #[.int .i64 N2, .int .i64 m2, .int .i64 f2, .int .i64 x9] 56) = wB at HZA HMA HXA HOA HSA ⊢
          generalize wA.heap.size = zb at HZA HMA ⊢
          obtain ⟨⟨k0, k1, k2, u0, u1, u2⟩, kf, -⟩ := HOA.out
          dsimp only at k0 k1 k2 u0 u1 u2
          simp only [Nat.zero_add] at k0 k1 k2 u0 u1 u2
          obtain ⟨z0, z1, z2, z3, -, -⟩ := HZA.out
          obtain ⟨s0, s1, s2, s3, -, -⟩ := HSA.out
          have HD : Hid (dueP t8 ⟨kk, kn, ks⟩ ⟨vk, vn, vs⟩ ↔ (okV (⟨kk, kn, ks⟩ : V) = true ∧ okV (⟨vk, vn, vs⟩ : V) = true ∧ kk ≠ 0 ∧ vk ≠ 0 ∧ B = true ∧ H8 = false)) := Lib.hid (by
            unfold dueP
            rw [HP8.out, HS1.out.2.2.2.2.2, HPL.out]
            have h9 := HH8.out
            by_cases h0 : 0 < pl
            · rw [decide_eq_true h0] at h9
              subst h9
              simp [h0]
            · rw [decide_eq_false h0] at h9
              subst h9
              simp [h0])
          have HQ1 : Hid ((t8.p.sn : Int) = N1 ∧ (t8.p.h.n : Int) = m1) := Lib.hid (by rw [HP8.out]; exact ⟨HS1.out.1, HS1.out.2.1⟩)
          have HOK8 := Lib.hid (show t8.p.sn ≤ 65536 ∧ t8.p.h.n ≤ 65536 by rw [HP8.out]; exact HTO.out)
          have HKS := Lib.hid (kys_small HMA.out.ok)
          cases H8 with
          | true =>
            have HNG : Hid (¬ dueP t8 ⟨kk, kn, ks⟩ ⟨vk, vn, vs⟩) := Lib.hid (fun h => by have := (HD.out.1 h).2.2.2.2.2; simp at this)
            have HNX := HNG
            have HSM : Hid (N2 = N1 ∧ m2 = m1 ∧ l2 = l1) := Lib.hid (by
              rcases HCS.out with ⟨g1, g2, -⟩ | ⟨-, g1, g2, g3⟩
              · exact absurd g2 HNG.out
              · exact ⟨by rw [← HS2.out.1, g1]; exact HQ1.out.1, by rw [← HS2.out.2.1, g2]; exact HQ1.out.2, by rw [← HS2.out.2.2.2.2, g3]; exact HS1.out.2.2.2.2.1⟩)
            obtain ⟨rfl, rfl, rfl⟩ := HSM.out
            clear k0 k1 k2 u0 u1 u2 kf
            go_wp2_with fail
            (with_reducible refine (BS.livec (HMA.out.below (Below.refl wB.heap.size wB)) _ HS2.out.2.2.2.2).mono ?_)
            rintro e wX ⟨rfl, rfl⟩
            have HME := Lib.hid (BS.reserve (S' := ownB W.heap.size) (HMA.out.below (Below.refl wB.heap.size wB)) (Below.refl _ _) (fun q hq => ⟨by rw [hq]; exact (HXA.out.below (Below.refl wB.heap.size wB)).lt, .inl (.inl (.inl (.inl hq)))⟩))
            have HXE := Lib.hid (show CB _ W.heap.size x2 from HXA.out.below (Below.refl wB.heap.size wB))
            go_wp2_with fail
            go_roundw
            case rel => exact ⟨j + 1, t9, hs9, HJL.out, by go_num, Lib.hid (HME.out.mono (by omega)), HXE⟩
            case measure => first | exact meas4 _ _ HJL.out | (rw [mj]; exact meas4 _ _ HJL.out)
          | false =>
            cases B with
            | false =>
              have HNG : Hid (¬ dueP t8 ⟨kk, kn, ks⟩ ⟨vk, vn, vs⟩) := Lib.hid (fun h => by have := (HD.out.1 h).2.2.2.2.1; simp at this)
              have HSM : Hid (N2 = N1 ∧ m2 = m1 ∧ l2 = l1) := Lib.hid (by
                rcases HCS.out with ⟨g1, g2, -⟩ | ⟨-, g1, g2, g3⟩
                · exact absurd g2 HNG.out
                · exact ⟨by rw [← HS2.out.1, g1]; exact HQ1.out.1, by rw [← HS2.out.2.1, g2]; exact HQ1.out.2, by rw [← HS2.out.2.2.2.2, g3]; exact HS1.out.2.2.2.2.1⟩)
              obtain ⟨rfl, rfl, rfl⟩ := HSM.out
              clear k0 k1 k2 u0 u1 u2 kf
              go_wp2_with fail
              (with_reducible refine (BS.livec (HMA.out.below (Below.refl wB.heap.size wB)) _ HS2.out.2.2.2.2).mono ?_)
              rintro e wX ⟨rfl, rfl⟩
              have HME := Lib.hid (BS.reserve (S' := ownB W.heap.size) (HMA.out.below (Below.refl wB.heap.size wB)) (Below.refl _ _) (fun q hq => ⟨by rw [hq]; exact (HXA.out.below (Below.refl wB.heap.size wB)).lt, .inl (.inl (.inl (.inl hq)))⟩))
              have HXE := Lib.hid (show CB _ W.heap.size x2 from HXA.out.below (Below.refl wB.heap.size wB))
              go_wp2_with fail
              go_roundw
              case rel => exact ⟨j + 1, t9, hs9, HJL.out, by go_num, Lib.hid (HME.out.mono (by omega)), HXE⟩
              case measure => first | exact meas4 _ _ HJL.out | (rw [mj]; exact meas4 _ _ HJL.out)
            | true =>
              by_cases ev : vk = 0
              · have d4 : (vk != 0) = false := by simpa using ev
                have HNG : Hid (¬ dueP t8 ⟨kk, kn, ks⟩ ⟨vk, vn, vs⟩) := Lib.hid (fun h => (HD.out.1 h).2.2.2.1 ev)
                clear ev
                have HSM : Hid (N2 = N1 ∧ m2 = m1 ∧ l2 = l1) := Lib.hid (by
                  rcases HCS.out with ⟨g1, g2, -⟩ | ⟨-, g1, g2, g3⟩
                  · exact absurd g2 HNG.out
                  · exact ⟨by rw [← HS2.out.1, g1]; exact HQ1.out.1, by rw [← HS2.out.2.1, g2]; exact HQ1.out.2, by rw [← HS2.out.2.2.2.2, g3]; exact HS1.out.2.2.2.2.1⟩)
                obtain ⟨rfl, rfl, rfl⟩ := HSM.out
                go_wp2_with fail
                (with_reducible refine (BS.livec (HMA.out.below (Below.refl wB.heap.size wB)) _ HS2.out.2.2.2.2).mono ?_)
                rintro e wX ⟨rfl, rfl⟩
                have HME := Lib.hid (BS.reserve (S' := ownB W.heap.size) (HMA.out.below (Below.refl wB.heap.size wB)) (Below.refl _ _) (fun q hq => ⟨by rw [hq]; exact (HXA.out.below (Below.refl wB.heap.size wB)).lt, .inl (.inl (.inl (.inl hq)))⟩))
                have HXE := Lib.hid (show CB _ W.heap.size x2 from HXA.out.below (Below.refl wB.heap.size wB))
                go_wp2_with fail
                go_roundw
                case rel => exact ⟨j + 1, t9, hs9, HJL.out, by go_num, Lib.hid (HME.out.mono (by omega)), HXE⟩
                case measure => first | exact meas4 _ _ HJL.out | (rw [mj]; exact meas4 _ _ HJL.out)
              · have d4 : (vk != 0) = true := by simpa using ev
                have HEV := Lib.hid ev
                obtain ⟨c1, hc1⟩ : ∃ c1, errForm (okV (⟨kk, kn, ks⟩ : V)) = c1 := ⟨_, rfl⟩
                have HC1 := Lib.hid hc1
                clear ev hc1
                go_wp2_with fail
                (with_reducible refine (chk_z kk kn ks c1 HC1.out _).mono ?_)
                rintro e wC ⟨rfl, hb⟩
                have HBC := Lib.hid hb
                clear hb k0 k1 k2 u0 u1 u2 kf z0 z1 z2 z3 s0 s1 s2 s3
                obtain ⟨⟨k0, k1, k2, u0, u1, u2⟩, kf, -⟩ := (HOA.out.below HBC.out)
                dsimp only at k0 k1 k2 u0 u1 u2
                simp only [Nat.zero_add] at k0 k1 k2 u0 u1 u2
                obtain ⟨z0, z1, z2, z3, -, -⟩ := (HZA.out.below HBC.out HZA.out.lt)
                obtain ⟨s0, s1, s2, s3, -, -⟩ := (HSA.out.below HBC.out HSA.out.lt)
                by_cases e1 : c1 = 0
                · have d5 : (c1 == 0) = true := by simpa using e1
                  have HOK : Hid (okV (⟨kk, kn, ks⟩ : V) = true) := Lib.hid (ok_of (HC1.out.trans e1))
                  obtain ⟨c2, hc2⟩ : ∃ c2, errForm (okV (⟨vk, vn, vs⟩ : V)) = c2 := ⟨_, rfl⟩
                  have HC2 := Lib.hid hc2
                  clear e1 hc2
                  go_wp2_with fail
                  (with_reducible refine (chk_z vk vn vs c2 HC2.out _).mono ?_)
                  rintro e wD ⟨rfl, hb⟩
                  have HBD := Lib.hid (below_step HBC.out hb)
                  clear hb k0 k1 k2 u0 u1 u2 kf z0 z1 z2 z3 s0 s1 s2 s3
                  obtain ⟨⟨k0, k1, k2, u0, u1, u2⟩, kf, -⟩ := (HOA.out.below HBD.out)
                  dsimp only at k0 k1 k2 u0 u1 u2
                  simp only [Nat.zero_add] at k0 k1 k2 u0 u1 u2
                  obtain ⟨z0, z1, z2, z3, -, -⟩ := (HZA.out.below HBD.out HZA.out.lt)
                  obtain ⟨s0, s1, s2, s3, -, -⟩ := (HSA.out.below HBD.out HSA.out.lt)
                  by_cases e2 : c2 = 0
                  · have d6 : (c2 == 0) = true := by simpa using e2
                    have HOV : Hid (okV (⟨vk, vn, vs⟩ : V) = true) := Lib.hid (ok_of (HC2.out.trans e2))
                    clear e2
                    by_cases ek : kk = 0
                    · have d7 : (kk != 0) = false := by simpa using ek
                      have HNG : Hid (¬ dueP t8 ⟨kk, kn, ks⟩ ⟨vk, vn, vs⟩) := Lib.hid (fun h => (HD.out.1 h).2.2.1 ek)
                      clear ek
                      have HSM : Hid (N2 = N1 ∧ m2 = m1 ∧ l2 = l1) := Lib.hid (by
                        rcases HCS.out with ⟨g1, g2, -⟩ | ⟨-, g1, g2, g3⟩
                        · exact absurd g2 HNG.out
                        · exact ⟨by rw [← HS2.out.1, g1]; exact HQ1.out.1, by rw [← HS2.out.2.1, g2]; exact HQ1.out.2, by rw [← HS2.out.2.2.2.2, g3]; exact HS1.out.2.2.2.2.1⟩)
                      obtain ⟨rfl, rfl, rfl⟩ := HSM.out
                      go_wp2_with fail
                      (with_reducible refine (BS.livec (HMA.out.below HBD.out) _ HS2.out.2.2.2.2).mono ?_)
                      rintro e wX ⟨rfl, rfl⟩
                      have HME := Lib.hid (BS.reserve (S' := ownB W.heap.size) (HMA.out.below HBD.out) (Below.refl _ _) (fun q hq => ⟨by rw [hq]; exact (HXA.out.below HBD.out).lt, .inl (.inl (.inl (.inl hq)))⟩))
                      have HXE := Lib.hid (show CB _ W.heap.size x2 from HXA.out.below HBD.out)
                      go_wp2_with fail
                      go_roundw
                      case rel => exact ⟨j + 1, t9, hs9, HJL.out, by go_num, Lib.hid (HME.out.mono (by omega)), HXE⟩
                      case measure => first | exact meas4 _ _ HJL.out | (rw [mj]; exact meas4 _ _ HJL.out)
                    · have d7 : (kk != 0) = true := by simpa using ek
                      have HDU : Hid (dueP t8 ⟨kk, kn, ks⟩ ⟨vk, vn, vs⟩) := Lib.hid (HD.out.2 ⟨HOK.out, HOV.out, ek, HEV.out, by first | rfl | trivial, by first | rfl | trivial⟩)
                      clear ek
                      by_cases ee : er = 0
                      · have d8 : (er != 0) = false := by simpa using ee
                        have HRE : Hid (FIT t9.p.sn t9.p.h.n t9.p.kys ∧ x9 = 0 ∧ t9.get ⟨kk, kn, ks⟩ = ⟨vk, vn, vs⟩ ∧ l2 - l1 = N2 - N1 + 3 * (m2 - m1)) := Lib.hid (by
                          rcases HCS.out with ⟨-, -, g1, g2, g3, g4⟩ | ⟨g1, -⟩
                          · obtain ⟨q1, q2, q3, q4, q5⟩ := HS2.out
                            rw [HS1.out.2.2.2.2.1, q1, q2, q5, HQ1.out.1, HQ1.out.2] at g4
                            exact ⟨g1, by rw [← q4]; exact g2, g3, g4⟩
                          · exact absurd HDU.out (g1.resolve_left (fun h => h ee)))
                        clear ee
                        obtain ⟨r1, r2, r3, r4⟩ := HRE.out
                        obtain rfl := r2
                        have HFT := Lib.hid r1; have HGT := Lib.hid r3
                        have hz9 := HMA.out.ok.sz; have hy9 := HMA.out.ok.hg.sz
                        have hz8 : t8.p.sn ≤ 65536 ∧ t8.p.h.n ≤ 65536 := HOK8.out
                        have hq1 := HQ1.out; have hq2 := HS2.out
                        obtain ⟨y1, y2, y3, y4, y5⟩ := arith_re r4 (by omega) (by omega) (by omega) (by omega)
                        obtain ⟨Y1, Y2, Y3, Y4, Y5⟩ := arith_re2 r4 (by omega) (by omega) (by omega) (by omega)
                        have HSS : Hid (∀ w', Below wD.heap.size wD w' → (fun w' => w'.cell? ⟨zb, 0, none⟩ = some (.int .i64 N2) ∧ w'.cell? ⟨zb, 1, none⟩ = some (.int .i64 m2) ∧ w'.cell? ⟨zb, 2, none⟩ = some (.int .i64 f2) ∧ w'.cell? ⟨zb, 3, none⟩ = some (.int .i64 0) ∧ w'.cell? ⟨sb, 0, none⟩ = some (.int .i64 N1) ∧ w'.cell? ⟨sb, 1, none⟩ = some (.int .i64 m1) ∧ w'.cell? ⟨ob, 1, none⟩ = some (.int .i64 kk) ∧ w'.cell? ⟨ob, 2, none⟩ = some (.int .i64 kn) ∧ w'.cell? ⟨ob, 3, none⟩ = some (.string ks) ∧ w'.cell? ⟨ob, 4, none⟩ = some (.int .i64 vk) ∧ w'.cell? ⟨ob, 5, none⟩ = some (.int .i64 vn) ∧ w'.cell? ⟨ob, 6, none⟩ = some (.string vs)) w') := Lib.hid (fun w' hb => by
                          have hbb := HBD.out.trans (hb.mono HBD.out.size)
                          obtain ⟨z0, z1, z2, z3, -, -⟩ := (HZA.out.below hbb HZA.out.lt)
                          obtain ⟨s0, s1, s2, s3, -, -⟩ := (HSA.out.below hbb HSA.out.lt)
                          obtain ⟨⟨k0, k1, k2, u0, u1, u2⟩, -, -⟩ := (HOA.out.below hbb)
                          simp only [Nat.zero_add] at k0 k1 k2 u0 u1 u2
                          exact ⟨z0, z1, z2, z3, s0, s1, k0, k1, k2, u0, u1, u2⟩)
                        clear r1 r3 r4 hz9 hy9 hz8 hq1 hq2
                        go_wp2_with fail
                        clear k0 k1 k2 u0 u1 u2 kf z0 z1 z2 z3 s0 s1 s2 s3
                        refine wp_region_held_drew (S := (fun w' => w'.cell? ⟨zb, 0, none⟩ = some (.int .i64 N2) ∧ w'.cell? ⟨zb, 1, none⟩ = some (.int .i64 m2) ∧ w'.cell? ⟨zb, 2, none⟩ = some (.int .i64 f2) ∧ w'.cell? ⟨zb, 3, none⟩ = some (.int .i64 0) ∧ w'.cell? ⟨sb, 0, none⟩ = some (.int .i64 N1) ∧ w'.cell? ⟨sb, 1, none⟩ = some (.int .i64 m1) ∧ w'.cell? ⟨ob, 1, none⟩ = some (.int .i64 kk) ∧ w'.cell? ⟨ob, 2, none⟩ = some (.int .i64 kn) ∧ w'.cell? ⟨ob, 3, none⟩ = some (.string ks) ∧ w'.cell? ⟨ob, 4, none⟩ = some (.int .i64 vk) ∧ w'.cell? ⟨ob, 5, none⟩ = some (.int .i64 vn) ∧ w'.cell? ⟨ob, 6, none⟩ = some (.string vs))) (by kernel_rfl) ?_ (fun hH0g => ?_)
                        · with_reducible exact HSS.out _ (Below.refl _ wD).drew
                        refine wpAnyH_take (i := 0) (oi := ?oig0) (v := ?vg0) ?hig0 (by kernel_rfl) (by kernel_rfl) (by kernel_rfl) ?hQg0 ?hyg0 (by assumption) ?_; (case hig0 => (simp only [List.getElem?_toArray, List.getElem?_cons_succ, List.getElem?_cons_zero]; try rfl)); (case hQg0 => exact fun _ _ _ h => h)
                        case hyg0 => (refine Or.inl ⟨by rfl, ?_⟩; intro w' hSw; (try dsimp only at hSw); go_simp; try with_reducible rfl)
                        try simp only [Act.put, List.setIfInBounds_toArray, List.set_cons_zero, List.set_cons_succ]
                        refine wpAnyH_take (i := 1) (oi := ?oig1) (v := ?vg1) ?hig1 (by kernel_rfl) (by kernel_rfl) (by kernel_rfl) ?hQg1 ?hyg1 (by assumption) ?_; (case hig1 => (simp only [List.getElem?_toArray, List.getElem?_cons_succ, List.getElem?_cons_zero]; try rfl)); (case hQg1 => exact fun _ _ _ h => h)
                        case hyg1 => (refine Or.inl ⟨by rfl, ?_⟩; intro w' hSw; (try dsimp only at hSw); go_simp; try with_reducible rfl)
                        try simp only [Act.put, List.setIfInBounds_toArray, List.set_cons_zero, List.set_cons_succ]
                        refine wpAnyH_ready (rs := [2]) (by kernel_rfl) (by simp) ?_
                        refine AllReadyH.cons (o := ?og2) ?hog2 (fun K hK => ?_) AllReadyH.nil
                        case hog2 =>
                          simp only [List.getElem?_toArray, List.getElem?_cons_succ, List.getElem?_cons_zero]
                          try rfl
                        go_simp
                        (with_reducible refine (BS.prs (HMA.out.below (HBD.out.drew))).mono ?_)
                        rintro e wE ⟨rv, rfl, hr, hb⟩
                        have HRV := Lib.hid hr
                        have HBE := Lib.hid (below_step (Below.refl wD.heap.size wD).drew hb)
                        clear hb hr
                        go_wp2_with fail
                        refine hK.out _ _ ?_ (fun hH1g => ?_)
                        · with_reducible exact HSS.out _ HBE.out
                        clear hK K hH0g
                        try simp only [Act.put, List.setIfInBounds_toArray, List.set_cons_zero, List.set_cons_succ]
                        refine wpAnyH_ready (rs := [3]) (by kernel_rfl) (by simp) ?_
                        refine AllReadyH.cons (o := ?og3) ?hog3 (fun K hK => ?_) AllReadyH.nil
                        case hog3 =>
                          simp only [List.getElem?_toArray, List.getElem?_cons_succ, List.getElem?_cons_zero]
                          try rfl
                        go_simp
                        (with_reducible refine (law08_fits _ rv t9.p.kys HKS.out t9.p.sn t9.p.h.n N2 m2 f2 0 HS2.out.1 HS2.out.2.1 HFT.out _ HRV.out).mono ?_)
                        rintro e wF ⟨rfl, hb⟩
                        have HBF := Lib.hid (below_step HBE.out hb)
                        clear hb
                        go_wp2_with fail
                        refine hK.out _ _ ?_ (fun hH2g => ?_)
                        · with_reducible exact HSS.out _ HBF.out
                        clear hK K hH1g
                        try simp only [Act.put, List.setIfInBounds_toArray, List.set_cons_zero, List.set_cons_succ]
                        refine wpAnyH_take (i := 4) (oi := ?oig4) (v := ?vg4) ?hig4 (by kernel_rfl) (by kernel_rfl) (by kernel_rfl) ?hQg4 ?hyg4 (by assumption) ?_; (case hig4 => (simp only [List.getElem?_toArray, List.getElem?_cons_succ, List.getElem?_cons_zero]; try rfl)); (case hQg4 => exact fun _ _ _ h => h)
                        case hyg4 => (refine Or.inl ⟨by rfl, ?_⟩; intro w' hSw; (try dsimp only at hSw); go_simp; try with_reducible rfl)
                        try simp only [Act.put, List.setIfInBounds_toArray, List.set_cons_zero, List.set_cons_succ]
                        refine wpAnyH_take (i := 5) (oi := ?oig5) (v := ?vg5) ?hig5 (by kernel_rfl) (by kernel_rfl) (by kernel_rfl) ?hQg5 ?hyg5 (by assumption) ?_; (case hig5 => (simp only [List.getElem?_toArray, List.getElem?_cons_succ, List.getElem?_cons_zero]; try rfl)); (case hQg5 => exact fun _ _ _ h => h)
                        case hyg5 => (refine Or.inl ⟨by rfl, ?_⟩; intro w' hSw; (try dsimp only at hSw); go_simp; try with_reducible rfl)
                        try simp only [Act.put, List.setIfInBounds_toArray, List.set_cons_zero, List.set_cons_succ]
                        refine wpAnyH_take (i := 6) (oi := ?oig6) (v := ?vg6) ?hig6 (by kernel_rfl) (by kernel_rfl) (by kernel_rfl) ?hQg6 ?hyg6 (by assumption) ?_; (case hig6 => (simp only [List.getElem?_toArray, List.getElem?_cons_succ, List.getElem?_cons_zero]; try rfl)); (case hQg6 => exact fun _ _ _ h => h)
                        case hyg6 => (refine Or.inl ⟨by rfl, ?_⟩; intro w' hSw; (try dsimp only at hSw); go_simp; try with_reducible rfl)
                        try simp only [Act.put, List.setIfInBounds_toArray, List.set_cons_zero, List.set_cons_succ]
                        refine wpAnyH_take (i := 7) (oi := ?oig7) (v := ?vg7) ?hig7 (by kernel_rfl) (by kernel_rfl) (by kernel_rfl) ?hQg7 ?hyg7 (by assumption) ?_; (case hig7 => (simp only [List.getElem?_toArray, List.getElem?_cons_succ, List.getElem?_cons_zero]; try rfl)); (case hQg7 => exact fun _ _ _ h => h)
                        case hyg7 => (refine Or.inl ⟨by rfl, ?_⟩; intro w' hSw; (try dsimp only at hSw); go_simp; try with_reducible rfl)
                        try simp only [Act.put, List.setIfInBounds_toArray, List.set_cons_zero, List.set_cons_succ]
                        refine wpAnyH_take (i := 8) (oi := ?oig8) (v := ?vg8) ?hig8 (by kernel_rfl) (by kernel_rfl) (by kernel_rfl) ?hQg8 ?hyg8 (by assumption) ?_; (case hig8 => (simp only [List.getElem?_toArray, List.getElem?_cons_succ, List.getElem?_cons_zero]; try rfl)); (case hQg8 => exact fun _ _ _ h => h)
                        case hyg8 => (refine Or.inl ⟨by rfl, ?_⟩; intro w' hSw; (try dsimp only at hSw); go_simp; try with_reducible rfl)
                        try simp only [Act.put, List.setIfInBounds_toArray, List.set_cons_zero, List.set_cons_succ]
                        refine wpAnyH_take (i := 9) (oi := ?oig9) (v := ?vg9) ?hig9 (by kernel_rfl) (by kernel_rfl) (by kernel_rfl) ?hQg9 ?hyg9 (by assumption) ?_; (case hig9 => (simp only [List.getElem?_toArray, List.getElem?_cons_succ, List.getElem?_cons_zero]; try rfl)); (case hQg9 => exact fun _ _ _ h => h)
                        case hyg9 => (refine Or.inl ⟨by rfl, ?_⟩; intro w' hSw; (try dsimp only at hSw); go_simp; try with_reducible rfl)
                        try simp only [Act.put, List.setIfInBounds_toArray, List.set_cons_zero, List.set_cons_succ]
                        refine wpAnyH_take (i := 10) (oi := ?oig10) (v := ?vg10) ?hig10 (by kernel_rfl) (by kernel_rfl) (by kernel_rfl) ?hQg10 ?hyg10 (by assumption) ?_; (case hig10 => (simp only [List.getElem?_toArray, List.getElem?_cons_succ, List.getElem?_cons_zero]; try rfl)); (case hQg10 => exact fun _ _ _ h => h)
                        case hyg10 => (refine Or.inl ⟨by rfl, ?_⟩; intro w' hSw; (try dsimp only at hSw); go_simp; try with_reducible rfl)
                        try simp only [Act.put, List.setIfInBounds_toArray, List.set_cons_zero, List.set_cons_succ]
                        refine wpAnyH_take (i := 11) (oi := ?oig11) (v := ?vg11) ?hig11 (by kernel_rfl) (by kernel_rfl) (by kernel_rfl) ?hQg11 ?hyg11 (by assumption) ?_; (case hig11 => (simp only [List.getElem?_toArray, List.getElem?_cons_succ, List.getElem?_cons_zero]; try rfl)); (case hQg11 => exact fun _ _ _ h => h)
                        case hyg11 => (refine Or.inl ⟨by rfl, ?_⟩; intro w' hSw; (try dsimp only at hSw); go_simp; try with_reducible rfl)
                        try simp only [Act.put, List.setIfInBounds_toArray, List.set_cons_zero, List.set_cons_succ]
                        refine wpAnyH_take (i := 13) (oi := ?oig13) (v := ?vg13) ?hig13 (by kernel_rfl) (by kernel_rfl) (by kernel_rfl) ?hQg13 ?hyg13 (by assumption) ?_; (case hig13 => (simp only [List.getElem?_toArray, List.getElem?_cons_succ, List.getElem?_cons_zero]; try rfl)); (case hQg13 => exact fun _ _ _ h => h)
                        case hyg13 => (refine Or.inl ⟨by rfl, ?_⟩; intro w' hSw; (try dsimp only at hSw); go_simp; try with_reducible rfl)
                        try simp only [Act.put, List.setIfInBounds_toArray, List.set_cons_zero, List.set_cons_succ]
                        refine wpAnyH_take (i := 15) (oi := ?oig15) (v := ?vg15) ?hig15 (by kernel_rfl) (by kernel_rfl) (by kernel_rfl) ?hQg15 ?hyg15 (by assumption) ?_; (case hig15 => (simp only [List.getElem?_toArray, List.getElem?_cons_succ, List.getElem?_cons_zero]; try rfl)); (case hQg15 => exact fun _ _ _ h => h)
                        case hyg15 => (refine Or.inl ⟨by rfl, ?_⟩; intro w' hSw; (try dsimp only at hSw); go_simp; try with_reducible rfl)
                        try simp only [Act.put, List.setIfInBounds_toArray, List.set_cons_zero, List.set_cons_succ]
                        refine wpAnyH_take (i := 17) (oi := ?oig17) (v := ?vg17) ?hig17 (by kernel_rfl) (by kernel_rfl) (by kernel_rfl) ?hQg17 ?hyg17 (by assumption) ?_; (case hig17 => (simp only [List.getElem?_toArray, List.getElem?_cons_succ, List.getElem?_cons_zero]; try rfl)); (case hQg17 => exact fun _ _ _ h => h)
                        case hyg17 => (refine Or.inl ⟨by rfl, ?_⟩; intro w' hSw; (try dsimp only at hSw); go_simp; try with_reducible rfl)
                        try simp only [Act.put, List.setIfInBounds_toArray, List.set_cons_zero, List.set_cons_succ]
                        refine wpAnyH_take (i := 20) (oi := ?oig20) (v := ?vg20) ?hig20 (by kernel_rfl) (by kernel_rfl) (by kernel_rfl) ?hQg20 ?hyg20 (by assumption) ?_; (case hig20 => (simp only [List.getElem?_toArray, List.getElem?_cons_succ, List.getElem?_cons_zero]; try rfl)); (case hQg20 => exact fun _ _ _ h => h)
                        case hyg20 => (refine Or.inl ⟨by rfl, ?_⟩; intro w' hSw; (try dsimp only at hSw); go_simp; try with_reducible rfl)
                        try simp only [Act.put, List.setIfInBounds_toArray, List.set_cons_zero, List.set_cons_succ]
                        refine wpAnyH_take (i := 22) (oi := ?oig22) (v := ?vg22) ?hig22 (by kernel_rfl) (by kernel_rfl) (by kernel_rfl) ?hQg22 ?hyg22 (by assumption) ?_; (case hig22 => (simp only [List.getElem?_toArray, List.getElem?_cons_succ, List.getElem?_cons_zero]; try rfl)); (case hQg22 => exact fun _ _ _ h => h)
                        case hyg22 => (refine Or.inl ⟨by rfl, ?_⟩; intro w' hSw; (try dsimp only at hSw); go_simp; try with_reducible rfl)
                        try simp only [Act.put, List.setIfInBounds_toArray, List.set_cons_zero, List.set_cons_succ]
                        refine wpAnyH_take (i := 16) (oi := ?oig16) (v := ?vg16) ?hig16 (by kernel_rfl) (by kernel_rfl) (by kernel_rfl) ?hQg16 ?hyg16 (by assumption) ?_; (case hig16 => (simp only [List.getElem?_toArray, List.getElem?_cons_succ, List.getElem?_cons_zero]; try rfl)); (case hQg16 => exact fun _ _ _ h => h)
                        case hyg16 => (refine Or.inl ⟨by rfl, ?_⟩; intro w' hSw; (try dsimp only at hSw); go_simp; try with_reducible rfl)
                        try simp only [Act.put, List.setIfInBounds_toArray, List.set_cons_zero, List.set_cons_succ]
                        refine wpAnyH_take (i := 18) (oi := ?oig18) (v := ?vg18) ?hig18 (by kernel_rfl) (by kernel_rfl) (by kernel_rfl) ?hQg18 ?hyg18 (by assumption) ?_; (case hig18 => (simp only [List.getElem?_toArray, List.getElem?_cons_succ, List.getElem?_cons_zero]; try rfl)); (case hQg18 => exact fun _ _ _ h => h)
                        case hyg18 => (refine Or.inl ⟨by rfl, ?_⟩; intro w' hSw; (try dsimp only at hSw); go_simp; try with_reducible rfl)
                        try simp only [Act.put, List.setIfInBounds_toArray, List.set_cons_zero, List.set_cons_succ]
                        refine wpAnyH_take (i := 21) (oi := ?oig21) (v := ?vg21) ?hig21 (by kernel_rfl) (by kernel_rfl) (by kernel_rfl) ?hQg21 ?hyg21 (by assumption) ?_; (case hig21 => (simp only [List.getElem?_toArray, List.getElem?_cons_succ, List.getElem?_cons_zero]; try rfl)); (case hQg21 => exact fun _ _ _ h => h)
                        case hyg21 => (refine Or.inl ⟨by rfl, ?_⟩; intro w' hSw; (try dsimp only at hSw); go_simp; try with_reducible rfl)
                        try simp only [Act.put, List.setIfInBounds_toArray, List.set_cons_zero, List.set_cons_succ]
                        refine wpAnyH_take (i := 23) (oi := ?oig23) (v := ?vg23) ?hig23 (by kernel_rfl) (by kernel_rfl) (by kernel_rfl) ?hQg23 ?hyg23 (by assumption) ?_; (case hig23 => (simp only [List.getElem?_toArray, List.getElem?_cons_succ, List.getElem?_cons_zero]; try rfl)); (case hQg23 => exact fun _ _ _ h => h)
                        case hyg23 => (refine Or.inl ⟨by rfl, ?_⟩; intro w' hSw; (try dsimp only at hSw); go_simp; try with_reducible rfl)
                        try simp only [Act.put, List.setIfInBounds_toArray, List.set_cons_zero, List.set_cons_succ]
                        refine wpAnyH_take (i := 19) (oi := ?oig19) (v := ?vg19) ?hig19 (by kernel_rfl) (by kernel_rfl) (by kernel_rfl) ?hQg19 ?hyg19 (by assumption) ?_; (case hig19 => (simp only [List.getElem?_toArray, List.getElem?_cons_succ, List.getElem?_cons_zero]; try rfl)); (case hQg19 => exact fun _ _ _ h => h)
                        case hyg19 => (refine Or.inl ⟨by rfl, ?_⟩; intro w' hSw; (try dsimp only at hSw); go_simp; try with_reducible rfl)
                        try simp only [Act.put, List.setIfInBounds_toArray, List.set_cons_zero, List.set_cons_succ]
                        refine wpAnyH_take (i := 24) (oi := ?oig24) (v := ?vg24) ?hig24 (by kernel_rfl) (by kernel_rfl) (by kernel_rfl) ?hQg24 ?hyg24 (by assumption) ?_; (case hig24 => (simp only [List.getElem?_toArray, List.getElem?_cons_succ, List.getElem?_cons_zero]; try rfl)); (case hQg24 => exact fun _ _ _ h => h)
                        case hyg24 => (refine Or.inl ⟨by rfl, ?_⟩; intro w' hSw; (try dsimp only at hSw); go_simp; try with_reducible rfl)
                        try simp only [Act.put, List.setIfInBounds_toArray, List.set_cons_zero, List.set_cons_succ]
                        refine wpAnyH_take (i := 25) (oi := ?oig25) (v := ?vg25) ?hig25 (by kernel_rfl) (by kernel_rfl) (by kernel_rfl) ?hQg25 ?hyg25 (by assumption) ?_; (case hig25 => (simp only [List.getElem?_toArray, List.getElem?_cons_succ, List.getElem?_cons_zero]; try rfl)); (case hQg25 => exact fun _ _ _ h => h)
                        case hyg25 => (refine Or.inl ⟨by rfl, ?_⟩; intro w' hSw; (try dsimp only at hSw); go_simp; try with_reducible rfl)
                        try simp only [Act.put, List.setIfInBounds_toArray, List.set_cons_zero, List.set_cons_succ]
                        refine wpAnyH_take (i := 26) (oi := ?oig26) (v := ?vg26) ?hig26 (by kernel_rfl) (by kernel_rfl) (by kernel_rfl) ?hQg26 ?hyg26 (by assumption) ?_; (case hig26 => (simp only [List.getElem?_toArray, List.getElem?_cons_succ, List.getElem?_cons_zero]; try rfl)); (case hQg26 => exact fun _ _ _ h => h)
                        case hyg26 => (refine Or.inl ⟨by rfl, ?_⟩; intro w' hSw; (try dsimp only at hSw); go_simp; try with_reducible rfl)
                        try simp only [Act.put, List.setIfInBounds_toArray, List.set_cons_zero, List.set_cons_succ]
                        refine wpAnyH_ready (rs := [12]) (by kernel_rfl) (by simp) ?_
                        refine AllReadyH.cons (o := ?og12) ?hog12 (fun K hK => ?_) AllReadyH.nil
                        case hog12 =>
                          simp only [List.getElem?_toArray, List.getElem?_cons_succ, List.getElem?_cons_zero]
                          try rfl
                        go_simp
                        (with_reducible refine (BS.livec (HMA.out.below (HBD.out.trans (HBF.out.mono HBD.out.size))) _ HS2.out.2.2.2.2).mono ?_)
                        rintro e wG ⟨rfl, rfl⟩
                        go_wp2_with fail
                        refine hK.out _ _ ?_ (fun hH3g => ?_)
                        · with_reducible exact HSS.out _ HBF.out
                        clear hK K hH2g
                        try simp only [Act.put, List.setIfInBounds_toArray, List.set_cons_zero, List.set_cons_succ]
                        refine wpAnyH_take (i := 14) (oi := ?oig14) (v := ?vg14) ?hig14 (by kernel_rfl) (by kernel_rfl) (by kernel_rfl) ?hQg14 ?hyg14 (by assumption) ?_; (case hig14 => (simp only [List.getElem?_toArray, List.getElem?_cons_succ, List.getElem?_cons_zero]; try rfl)); (case hQg14 => exact fun _ _ _ h => h)
                        case hyg14 => (refine Or.inl ⟨by rfl, ?_⟩; intro w' hSw; (try dsimp only at hSw); go_simp; try with_reducible rfl)
                        try simp only [Act.put, List.setIfInBounds_toArray, List.set_cons_zero, List.set_cons_succ]
                        refine wpAnyH_take (i := 27) (oi := ?oig27) (v := ?vg27) ?hig27 (by kernel_rfl) (by kernel_rfl) (by kernel_rfl) ?hQg27 ?hyg27 (by assumption) ?_; (case hig27 => (simp only [List.getElem?_toArray, List.getElem?_cons_succ, List.getElem?_cons_zero]; try rfl)); (case hQg27 => exact fun _ _ _ h => h)
                        case hyg27 => (refine Or.inl ⟨by rfl, ?_⟩; intro w' hSw; (try dsimp only at hSw); go_simp; try with_reducible rfl)
                        try simp only [Act.put, List.setIfInBounds_toArray, List.set_cons_zero, List.set_cons_succ]
                        refine wpAnyH_take (i := 28) (oi := ?oig28) (v := ?vg28) ?hig28 (by kernel_rfl) (by kernel_rfl) (by kernel_rfl) ?hQg28 ?hyg28 (by assumption) ?_; (case hig28 => (simp only [List.getElem?_toArray, List.getElem?_cons_succ, List.getElem?_cons_zero]; try rfl)); (case hQg28 => exact fun _ _ _ h => h)
                        case hyg28 => (refine Or.inl ⟨by rfl, ?_⟩; intro w' hSw; (try dsimp only at hSw); go_simp; try with_reducible rfl)
                        try simp only [Act.put, List.setIfInBounds_toArray, List.set_cons_zero, List.set_cons_succ]
                        refine wpAnyH_take (i := 29) (oi := ?oig29) (v := ?vg29) ?hig29 (by kernel_rfl) (by kernel_rfl) (by kernel_rfl) ?hQg29 ?hyg29 (by assumption) ?_; (case hig29 => (simp only [List.getElem?_toArray, List.getElem?_cons_succ, List.getElem?_cons_zero]; try rfl)); (case hQg29 => exact fun _ _ _ h => h)
                        case hyg29 => (refine Or.inl ⟨by rfl, ?_⟩; intro w' hSw; (try dsimp only at hSw); go_simp; try with_reducible rfl)
                        try simp only [Act.put, List.setIfInBounds_toArray, List.set_cons_zero, List.set_cons_succ]
                        refine wpAnyH_take (i := 30) (oi := ?oig30) (v := ?vg30) ?hig30 (by kernel_rfl) (by kernel_rfl) (by kernel_rfl) ?hQg30 ?hyg30 (by assumption) ?_; (case hig30 => (simp only [List.getElem?_toArray, List.getElem?_cons_succ, List.getElem?_cons_zero]; try rfl)); (case hQg30 => exact fun _ _ _ h => h)
                        case hyg30 => (refine Or.inl ⟨by rfl, ?_⟩; intro w' hSw; (try dsimp only at hSw); go_simp; try with_reducible rfl)
                        try simp only [Act.put, List.setIfInBounds_toArray, List.set_cons_zero, List.set_cons_succ]
                        refine wpAnyH_take (i := 31) (oi := ?oig31) (v := ?vg31) ?hig31 (by kernel_rfl) (by kernel_rfl) (by kernel_rfl) ?hQg31 ?hyg31 (by assumption) ?_; (case hig31 => (simp only [List.getElem?_toArray, List.getElem?_cons_succ, List.getElem?_cons_zero]; try rfl)); (case hQg31 => exact fun _ _ _ h => h)
                        case hyg31 => (refine Or.inl ⟨by rfl, ?_⟩; intro w' hSw; (try dsimp only at hSw); go_simp; try with_reducible rfl)
                        try simp only [Act.put, List.setIfInBounds_toArray, List.set_cons_zero, List.set_cons_succ]
                        refine wpAnyH_take (i := 34) (oi := ?oig34) (v := ?vg34) ?hig34 (by kernel_rfl) (by kernel_rfl) (by kernel_rfl) ?hQg34 ?hyg34 (by assumption) ?_; (case hig34 => (simp only [List.getElem?_toArray, List.getElem?_cons_succ, List.getElem?_cons_zero]; try rfl)); (case hQg34 => exact fun _ _ _ h => h)
                        case hyg34 => (refine Or.inl ⟨by rfl, ?_⟩; intro w' hSw; (try dsimp only at hSw); go_simp; try with_reducible rfl)
                        try simp only [Act.put, List.setIfInBounds_toArray, List.set_cons_zero, List.set_cons_succ]
                        refine wpAnyH_take (i := 32) (oi := ?oig32) (v := ?vg32) ?hig32 (by kernel_rfl) (by kernel_rfl) (by kernel_rfl) ?hQg32 ?hyg32 (by assumption) ?_; (case hig32 => (simp only [List.getElem?_toArray, List.getElem?_cons_succ, List.getElem?_cons_zero]; try rfl)); (case hQg32 => exact fun _ _ _ h => h)
                        case hyg32 => (refine Or.inl ⟨by rfl, ?_⟩; intro w' hSw; (try dsimp only at hSw); go_simp; try with_reducible rfl)
                        try simp only [Act.put, List.setIfInBounds_toArray, List.set_cons_zero, List.set_cons_succ]
                        refine wpAnyH_take (i := 35) (oi := ?oig35) (v := ?vg35) ?hig35 (by kernel_rfl) (by kernel_rfl) (by kernel_rfl) ?hQg35 ?hyg35 (by assumption) ?_; (case hig35 => (simp only [List.getElem?_toArray, List.getElem?_cons_succ, List.getElem?_cons_zero]; try rfl)); (case hQg35 => exact fun _ _ _ h => h)
                        case hyg35 => (refine Or.inl ⟨by rfl, ?_⟩; intro w' hSw; (try dsimp only at hSw); go_simp; try with_reducible rfl)
                        try simp only [Act.put, List.setIfInBounds_toArray, List.set_cons_zero, List.set_cons_succ]
                        refine wpAnyH_ready (rs := [33]) (by kernel_rfl) (by simp) ?_
                        refine AllReadyH.cons (o := ?og33) ?hog33 (fun K hK => ?_) AllReadyH.nil
                        case hog33 =>
                          simp only [List.getElem?_toArray, List.getElem?_cons_succ, List.getElem?_cons_zero]
                          try rfl
                        go_simp
                        (with_reducible refine (BS.get (HMA.out.below (HBD.out.trans (HBF.out.mono HBD.out.size))) kk kn ks ⟨vk, vn, vs⟩ HGT.out).mono ?_)
                        rintro e wH ⟨tH, ⟨rfl, -⟩, hpH, hx, hk⟩
                        have HMH := Lib.hid hx
                        have HHK := Lib.hid hk
                        clear hx hk hpH
                        dsimp only
                        go_wp2_with fail
                        refine hK.out _ _ ?_ (fun hH4g => ?_)
                        · (have hbb := HBD.out.trans (HBF.out.mono HBD.out.size); obtain ⟨z0, z1, z2, z3, -, -⟩ := ((HZA.out.below hbb HZA.out.lt).keep (HHK.out _ (.inr rfl))); obtain ⟨s0, s1, s2, s3, -, -⟩ := ((HSA.out.below hbb HSA.out.lt).keep (HHK.out _ (.inl (.inr rfl)))); obtain ⟨⟨k0, k1, k2, u0, u1, u2⟩, -, -⟩ := ((HOA.out.below hbb).keep (HHK.out _ (.inl (.inl (.inr rfl))))); simp only [Nat.zero_add] at k0 k1 k2 u0 u1 u2; exact ⟨z0, z1, z2, z3, s0, s1, k0, k1, k2, u0, u1, u2⟩)
                        clear hK K hH3g
                        try simp only [Act.put, List.setIfInBounds_toArray, List.set_cons_zero, List.set_cons_succ]
                        refine wpAnyH_take (i := 36) (oi := ?oig36) (v := ?vg36) ?hig36 (by kernel_rfl) (by kernel_rfl) (by kernel_rfl) ?hQg36 ?hyg36 (by assumption) ?_; (case hig36 => (simp only [List.getElem?_toArray, List.getElem?_cons_succ, List.getElem?_cons_zero]; try rfl)); (case hQg36 => exact fun _ _ _ h => h)
                        case hyg36 => (refine Or.inl ⟨by rfl, ?_⟩; intro w' hSw; (try dsimp only at hSw); go_simp; try with_reducible rfl)
                        try simp only [Act.put, List.setIfInBounds_toArray, List.set_cons_zero, List.set_cons_succ]
                        refine wpAnyH_take (i := 37) (oi := ?oig37) (v := ?vg37) ?hig37 (by kernel_rfl) (by kernel_rfl) (by kernel_rfl) ?hQg37 ?hyg37 (by assumption) ?_; (case hig37 => (simp only [List.getElem?_toArray, List.getElem?_cons_succ, List.getElem?_cons_zero]; try rfl)); (case hQg37 => exact fun _ _ _ h => h)
                        case hyg37 => (refine Or.inl ⟨by rfl, ?_⟩; intro w' hSw; (try dsimp only at hSw); go_simp; try with_reducible rfl)
                        try simp only [Act.put, List.setIfInBounds_toArray, List.set_cons_zero, List.set_cons_succ]
                        refine wpAnyH_done (by kernel_rfl) ?_ _
                        have HME := Lib.hid (BS.reserve (S' := ownB W.heap.size) HMH.out (Below.refl _ _) (fun q hq => ⟨by rw [hq]; exact (((HXA.out.below (HBD.out.trans (HBF.out.mono HBD.out.size)))).keep (HHK.out _ (.inl (.inl (.inl rfl))))).lt, .inl (.inl (.inl (.inl hq)))⟩))
                        have HXE := Lib.hid (show CB _ W.heap.size x2 from (HXA.out.below (HBD.out.trans (HBF.out.mono HBD.out.size))).keep (HHK.out _ (.inl (.inl (.inl rfl)))))
                        go_wp2_with fail
                        go_roundw
                        case rel => exact ⟨j + 1, tH, hs9, HJL.out, by go_num, Lib.hid (HME.out.mono (by omega)), HXE⟩
                        case measure => first | exact meas4 _ _ HJL.out | (rw [mj]; exact meas4 _ _ HJL.out)
                      · have d8 : (er != 0) = true := by simpa using ee
                        have d9 : (er == 0) = false := by simpa using ee
                        have HSM : Hid (N2 = N1 ∧ m2 = m1 ∧ l2 = l1) := Lib.hid (by
                          rcases HCS.out with ⟨g1, -⟩ | ⟨-, g1, g2, g3⟩
                          · exact absurd g1 ee
                          · exact ⟨by rw [← HS2.out.1, g1]; exact HQ1.out.1, by rw [← HS2.out.2.1, g2]; exact HQ1.out.2, by rw [← HS2.out.2.2.2.2, g3]; exact HS1.out.2.2.2.2.1⟩)
                        obtain ⟨rfl, rfl, rfl⟩ := HSM.out
                        clear ee
                        go_wp2_with fail
                        (with_reducible refine (BS.livec (HMA.out.below HBD.out) _ HS2.out.2.2.2.2).mono ?_)
                        rintro e wX ⟨rfl, rfl⟩
                        have HME := Lib.hid (BS.reserve (S' := ownB W.heap.size) (HMA.out.below HBD.out) (Below.refl _ _) (fun q hq => ⟨by rw [hq]; exact (HXA.out.below HBD.out).lt, .inl (.inl (.inl (.inl hq)))⟩))
                        have HXE := Lib.hid (show CB _ W.heap.size x2 from HXA.out.below HBD.out)
                        go_wp2_with fail
                        go_roundw
                        case rel => exact ⟨j + 1, t9, hs9, HJL.out, by go_num, Lib.hid (HME.out.mono (by omega)), HXE⟩
                        case measure => first | exact meas4 _ _ HJL.out | (rw [mj]; exact meas4 _ _ HJL.out)
                  · have d6 : (c2 == 0) = false := by simpa using e2
                    have HNG : Hid (¬ dueP t8 ⟨kk, kn, ks⟩ ⟨vk, vn, vs⟩) := Lib.hid (fun h => e2 (HC2.out.symm.trans (no_of (HD.out.1 h).2.1)))
                    clear e2
                    have HSM : Hid (N2 = N1 ∧ m2 = m1 ∧ l2 = l1) := Lib.hid (by
                      rcases HCS.out with ⟨g1, g2, -⟩ | ⟨-, g1, g2, g3⟩
                      · exact absurd g2 HNG.out
                      · exact ⟨by rw [← HS2.out.1, g1]; exact HQ1.out.1, by rw [← HS2.out.2.1, g2]; exact HQ1.out.2, by rw [← HS2.out.2.2.2.2, g3]; exact HS1.out.2.2.2.2.1⟩)
                    obtain ⟨rfl, rfl, rfl⟩ := HSM.out
                    go_wp2_with fail
                    (with_reducible refine (BS.livec (HMA.out.below HBD.out) _ HS2.out.2.2.2.2).mono ?_)
                    rintro e wX ⟨rfl, rfl⟩
                    have HME := Lib.hid (BS.reserve (S' := ownB W.heap.size) (HMA.out.below HBD.out) (Below.refl _ _) (fun q hq => ⟨by rw [hq]; exact (HXA.out.below HBD.out).lt, .inl (.inl (.inl (.inl hq)))⟩))
                    have HXE := Lib.hid (show CB _ W.heap.size x2 from HXA.out.below HBD.out)
                    go_wp2_with fail
                    go_roundw
                    case rel => exact ⟨j + 1, t9, hs9, HJL.out, by go_num, Lib.hid (HME.out.mono (by omega)), HXE⟩
                    case measure => first | exact meas4 _ _ HJL.out | (rw [mj]; exact meas4 _ _ HJL.out)
                · have d5 : (c1 == 0) = false := by simpa using e1
                  have HNG : Hid (¬ dueP t8 ⟨kk, kn, ks⟩ ⟨vk, vn, vs⟩) := Lib.hid (fun h => e1 (HC1.out.symm.trans (no_of (HD.out.1 h).1)))
                  clear e1
                  have HSM : Hid (N2 = N1 ∧ m2 = m1 ∧ l2 = l1) := Lib.hid (by
                    rcases HCS.out with ⟨g1, g2, -⟩ | ⟨-, g1, g2, g3⟩
                    · exact absurd g2 HNG.out
                    · exact ⟨by rw [← HS2.out.1, g1]; exact HQ1.out.1, by rw [← HS2.out.2.1, g2]; exact HQ1.out.2, by rw [← HS2.out.2.2.2.2, g3]; exact HS1.out.2.2.2.2.1⟩)
                  obtain ⟨rfl, rfl, rfl⟩ := HSM.out
                  go_wp2_with fail
                  (with_reducible refine (BS.livec (HMA.out.below HBC.out) _ HS2.out.2.2.2.2).mono ?_)
                  rintro e wX ⟨rfl, rfl⟩
                  have HME := Lib.hid (BS.reserve (S' := ownB W.heap.size) (HMA.out.below HBC.out) (Below.refl _ _) (fun q hq => ⟨by rw [hq]; exact (HXA.out.below HBC.out).lt, .inl (.inl (.inl (.inl hq)))⟩))
                  have HXE := Lib.hid (show CB _ W.heap.size x2 from HXA.out.below HBC.out)
                  go_wp2_with fail
                  go_roundw
                  case rel => exact ⟨j + 1, t9, hs9, HJL.out, by go_num, Lib.hid (HME.out.mono (by omega)), HXE⟩
                  case measure => first | exact meas4 _ _ HJL.out | (rw [mj]; exact meas4 _ _ HJL.out)
        · have d1 : decide ((j : Int) < (x2.l.length : Int)) = false := by simp; omega
          have HB9 := Lib.hid HM.out.bel
          go_wp2
          go_ret
          exact ⟨rfl, HB9.out⟩
end Go.Proofs.YteheolefemlcgaaGreat
