/- The statements of layer 3, walked: kinds. -/
import Derived.Test.YtpppcoobibmlhaaDoorLaw03W
import Derived.Test.YtpppcoobibmlhaaDoorKinds
import Derived.Deep.RegionHeld3
namespace Go.Proofs.YtpppcoobibmlhaaDoor
open Go.RowKit
set_option linter.unusedVariables false
set_option linter.unusedSimpArgs false

theorem box_As_t (v : V) (k : Int) (h : fits v k = true) (w : World) : Calls Tryd.prog 46 #[.agg #[.int .i64 v.k, .int .i64 v.n, .string v.s], .int .i64 k] w fun e w' => e = .returned (.tuple #[.agg #[.int .i64 v.k, .int .i64 v.n, .string v.s], .bool true, .int .i64 0]) ∧ Below w.heap.size w w' := by
  obtain ⟨a, b⟩ := fits_yes h
  obtain ⟨p, q, r⟩ := as_yes a b
  have := box_As v k w
  rw [p, q, r] at this; exact this
theorem box_As_f (v : V) (k z : Int) (h : fits v k = false) (hz : asE v k = z) (w : World) : Calls Tryd.prog 46 #[.agg #[.int .i64 v.k, .int .i64 v.n, .string v.s], .int .i64 k] w fun e w' => e = .returned (.tuple #[.agg #[.int .i64 0, .int .i64 0, .string ⟨#[]⟩], .bool false, .int .i64 z]) ∧ Below w.heap.size w w' := by
  have := box_As v k w
  have e : asV v k = nilV := by unfold asV; rw [h]; rfl
  rw [e, h, hz] at this; exact this
theorem ref_As_t (v : V) (k : Int) (h : fits v k = true) (w : World) : Calls Tryd.prog 47 #[.agg #[.int .i64 v.k, .int .i64 v.n, .string v.s], .int .i64 k] w fun e w' => e = .returned (.tuple #[.agg #[.int .i64 v.k, .int .i64 v.n, .string v.s], .bool true, .int .i64 0]) ∧ Below w.heap.size w w' := by
  obtain ⟨a, b⟩ := fits_yes h
  obtain ⟨p, q, r⟩ := as_yes a b
  have := ref_As v k w
  rw [p, q, r] at this; exact this
theorem ref_As_f (v : V) (k z : Int) (h : fits v k = false) (hz : asE v k = z) (w : World) : Calls Tryd.prog 47 #[.agg #[.int .i64 v.k, .int .i64 v.n, .string v.s], .int .i64 k] w fun e w' => e = .returned (.tuple #[.agg #[.int .i64 0, .int .i64 0, .string ⟨#[]⟩], .bool false, .int .i64 z]) ∧ Below w.heap.size w w' := by
  have := ref_As v k w
  have e : asV v k = nilV := by unfold asV; rw [h]; rfl
  rw [e, h, hz] at this; exact this
theorem Fits_c (v : V) (k : Int) (f : Bool) (h : fits v k = f) (w : World) : Calls Tryd.prog 48 #[.agg #[.int .i64 v.k, .int .i64 v.n, .string v.s], .int .i64 k] w fun e w' => e = .returned (.bool f) ∧ Below w.heap.size w w' := by
  rw [← h]; exact ref_Fits v k w
theorem Must_c (v : V) (k : Int) (h : fits v k = true) (w : World) : Calls Tryd.prog 49 #[.agg #[.int .i64 v.k, .int .i64 v.n, .string v.s], .int .i64 k] w fun e w' => e = .returned (.agg #[.int .i64 v.k, .int .i64 v.n, .string v.s]) ∧ Below w.heap.size w w' := box_Must_yes v k (fits_yes h).1 (fits_yes h).2 w
/-- What a round's last comparisons read. -/
def KS (w0 : World) (b x g j p q : Nat) (f : Bool) (yk yn : Int) (ys : ByteArray) (k n : Int) (t : ByteArray) (wr : World) : Prop :=
  wr.cell? ⟨b, x, none⟩ = some (.int .i64 yk) ∧ wr.cell? ⟨b, x + 1, none⟩ = some (.int .i64 yn) ∧ wr.cell? ⟨b, x + 2, none⟩ = some (.string ys) ∧ wr.cell? ⟨g, j, none⟩ = some (.bool f) ∧
  wr.cell? ⟨p, 0, none⟩ = some (.int .i64 k) ∧ wr.cell? ⟨p, 1, none⟩ = some (.int .i64 n) ∧ wr.cell? ⟨p, 2, none⟩ = some (.string t) ∧
  wr.cell? ⟨q, 0, none⟩ = some (.int .i64 k) ∧ wr.cell? ⟨q, 1, none⟩ = some (.int .i64 n) ∧ wr.cell? ⟨q, 2, none⟩ = some (.string t) ∧ Below w0.heap.size w0 wr ∧ b < wr.heap.size ∧ g < wr.heap.size ∧ p < wr.heap.size ∧ q < wr.heap.size
theorem KS_drew {w0 : World} {b x g j p q : Nat} {f : Bool} {yk yn : Int} {ys : ByteArray} {k n : Int} {t : ByteArray} {wr : World} (h : KS w0 b x g j p q f yk yn ys k n t wr) : KS w0 b x g j p q f yk yn ys k n t wr.drew := by
  obtain ⟨a1, a2, a3, a4, a5, a6, a7, a8, a9, a10, d, e1, e2, e3, e4⟩ := h
  exact ⟨a1, a2, a3, a4, a5, a6, a7, a8, a9, a10, d.drew, e1, e2, e3, e4⟩
theorem KS_step {w0 : World} {b x g j p q : Nat} {f : Bool} {yk yn : Int} {ys : ByteArray} {k n : Int} {t : ByteArray} {wr w2 : World} (h : KS w0 b x g j p q f yk yn ys k n t wr) (hb : Below wr.heap.size wr w2) : KS w0 b x g j p q f yk yn ys k n t w2 := by
  obtain ⟨a1, a2, a3, a4, a5, a6, a7, a8, a9, a10, d, e1, e2, e3, e4⟩ := h
  exact ⟨by rw [hb.cell e1]; exact a1, by rw [hb.cell e1]; exact a2, by rw [hb.cell e1]; exact a3, by rw [hb.cell e2]; exact a4, by rw [hb.cell e3]; exact a5, by rw [hb.cell e3]; exact a6, by rw [hb.cell e3]; exact a7, by rw [hb.cell e4]; exact a8, by rw [hb.cell e4]; exact a9, by rw [hb.cell e4]; exact a10, below_step d hb, Nat.lt_of_lt_of_le e1 hb.size, Nat.lt_of_lt_of_le e2 hb.size, Nat.lt_of_lt_of_le e3 hb.size, Nat.lt_of_lt_of_le e4 hb.size⟩
set_option maxRecDepth 100000 in
set_option maxHeartbeats 1600000 in
theorem walk_BoxKinds_none (k : Int) (nk : In64 k) (w : World) (hE : Env w) :
    Calls Tryd.prog 12 #[.slice none 0 0, .int .i64 k] w fun e w' => e = .returned (.bool true) ∧ Below w.heap.size w w' := by
  have hu := Tryd.underlying33
  obtain ⟨i0, hi, hz0, hz1, hz2⟩ := info_parts Tryd.infoVal
  go_enter Tryd.func12, Tryd.ntmps12
  go_wp2_with (first | (at_builtin; refine wpList_append_own_none rfl _ _ 49 rfl w.heap.size 33 i0 3 Tryd.underlying49 hi _ 0 _ rfl (World.ownsRow_lit w #[] 0 (Nat.le_refl _) (by decide) rfl) rfl ?_))
  have hB2 : Below w.heap.size w (w.alloc (Obj.cells #[] 33)) := (Below.refl _ _).alloc (Nat.le_refl _) _
  have hv2 : Vals (w.alloc (Obj.cells #[] 33)) (.slice (some ⟨w.heap.size, 0, none⟩) 0 0) [] := .inr ⟨w.heap.size, 0, 0, rfl, by simp, fun i h => by simp at h⟩
  go_wp2_with (first | (go_at_call 45; refine (box_Try [] k _ _ (by simp) hv2).mono ?_; rintro e w3 ⟨v3, rfl, hown3, hb3⟩))
  have hB3 : Below w.heap.size w w3 := below_step hB2 hb3
  rcases Go.Joins.ownsRow_forms hown3 with ⟨rfl, -⟩ | ⟨g, cap3, rfl⟩
  · go_wp2_with (first | (go_at_call 26; (with_reducible refine (law03_fixed _ (hE.of_below hB3)).mono ?_); rintro e w4 ⟨rfl, hb4⟩))
    have hB4 : Below w.heap.size w w4 := below_step hB3 hb4
    go_loopw [6, 7, 8, 9, 10, 11, 12] (fun i _ _ _ _ _ _ wr => i = .int .i64 0 ∧ Below w.heap.size w wr) (fun _ _ _ _ _ _ _ _ => 0)
    case atStart => exact ⟨rfl, hB4⟩
    case round =>
      obtain ⟨rfl, hBr⟩ := hrel
      go_wp2
      go_ret
      exact ⟨rfl, hBr⟩
  · go_wp2_with (first | (go_at_call 26; (with_reducible refine (law03_fixed _ (hE.of_below hB3)).mono ?_); rintro e w4 ⟨rfl, hb4⟩))
    have hB4 : Below w.heap.size w w4 := below_step hB3 hb4
    go_loopw [6, 7, 8, 9, 10, 11, 12] (fun i _ _ _ _ _ _ wr => i = .int .i64 0 ∧ Below w.heap.size w wr) (fun _ _ _ _ _ _ _ _ => 0)
    case atStart => exact ⟨rfl, hB4⟩
    case round =>
      obtain ⟨rfl, hBr⟩ := hrel
      go_wp2
      go_ret
      exact ⟨rfl, hBr⟩
set_option maxRecDepth 100000 in
set_option maxHeartbeats 1600000 in
theorem walk_BoxKinds_zero (ad : Addr) (cap : Nat) (k : Int) (nk : In64 k) (w : World) (hE : Env w) :
    Calls Tryd.prog 12 #[.slice (some ad) 0 cap, .int .i64 k] w fun e w' => e = .returned (.bool true) ∧ Below w.heap.size w w' := by
  have hu := Tryd.underlying33
  obtain ⟨i0, hi, hz0, hz1, hz2⟩ := info_parts Tryd.infoVal
  go_enter Tryd.func12, Tryd.ntmps12
  go_wp2_with (first | (at_builtin; refine wpList_append_own _ rfl _ _ 49 rfl w.heap.size 33 i0 (.agg #[.int .i64 0, .int .i64 0, .string ⟨#[]⟩]) 3 32 Tryd.underlying49 hi hz0 hz1 hz2 rfl (by decide) _ _ _ rfl (World.ownsRow_lit w #[] 0 (Nat.le_refl _) (by decide) rfl) ad 0 cap [] rfl rfl (fun j u h => by simp at h) (fun u h => by simp at h) (by decide) (by decide) (by simp) ?_))
  intro v2 w2 hown2 hg2 hn2
  have hv2 : Vals w2 v2 [] := vals_of_row (l := []) hown2
  have hB2 : Below w.heap.size w w2 := Below.grown ((Below.refl _ _).alloc (Nat.le_refl _) _) hg2 (by simp) (fun q hq => by simp [Value.ownBlock] at hq; omega)
  clear hown2 hg2 hn2
  go_wp2_with (first | (go_at_call 45; refine (box_Try [] k _ _ (by simp) hv2).mono ?_; rintro e w3 ⟨v3, rfl, hown3, hb3⟩))
  have hB3 : Below w.heap.size w w3 := below_step hB2 hb3
  rcases Go.Joins.ownsRow_forms hown3 with ⟨rfl, -⟩ | ⟨g, cap3, rfl⟩
  · go_wp2_with (first | (go_at_call 26; (with_reducible refine (law03_fixed _ (hE.of_below hB3)).mono ?_); rintro e w4 ⟨rfl, hb4⟩))
    have hB4 : Below w.heap.size w w4 := below_step hB3 hb4
    go_loopw [6, 7, 8, 9, 10, 11, 12] (fun i _ _ _ _ _ _ wr => i = .int .i64 0 ∧ Below w.heap.size w wr) (fun _ _ _ _ _ _ _ _ => 0)
    case atStart => exact ⟨rfl, hB4⟩
    case round =>
      obtain ⟨rfl, hBr⟩ := hrel
      go_wp2
      go_ret
      exact ⟨rfl, hBr⟩
  · go_wp2_with (first | (go_at_call 26; (with_reducible refine (law03_fixed _ (hE.of_below hB3)).mono ?_); rintro e w4 ⟨rfl, hb4⟩))
    have hB4 : Below w.heap.size w w4 := below_step hB3 hb4
    go_loopw [6, 7, 8, 9, 10, 11, 12] (fun i _ _ _ _ _ _ wr => i = .int .i64 0 ∧ Below w.heap.size w wr) (fun _ _ _ _ _ _ _ _ => 0)
    case atStart => exact ⟨rfl, hB4⟩
    case round =>
      obtain ⟨rfl, hBr⟩ := hrel
      go_wp2
      go_ret
      exact ⟨rfl, hBr⟩
set_option maxRecDepth 100000 in
set_option maxHeartbeats 12000000 in
theorem walk_BoxKinds_more (l : List V) (hl1 : 0 < l.length) (b o cap : Nat) (hl48 : l.length * 32 ≤ 140737488351232) (k : Int) (nk : In64 k) (w : World) (hE : Env w) (hlt : b < w.heap.size) (hc : ∀ i (h : i < l.length), w.cell? ⟨b, o + i * 3, none⟩ = some (.int .i64 l[i].k) ∧ w.cell? ⟨b, o + i * 3 + 1, none⟩ = some (.int .i64 l[i].n) ∧ w.cell? ⟨b, o + i * 3 + 2, none⟩ = some (.string l[i].s)) :
    Calls Tryd.prog 12 #[.slice (some ⟨b, o, none⟩) l.length cap, .int .i64 k] w fun e w' => e = .returned (.bool true) ∧ Below w.heap.size w w' := by
  have hu := Tryd.underlying33
  obtain ⟨i0, hi, hz0, hz1, hz2⟩ := info_parts Tryd.infoVal
  go_enter Tryd.func12, Tryd.ntmps12
  have hl43 : l.length ≤ 4398046511104 := by omega
  have hl63 : (l.length : Int) ≤ 9223372036854775807 := by omega
  go_wp2_with (first | (at_builtin; refine wpList_append_own _ rfl _ _ 49 rfl w.heap.size 33 i0 (.agg #[.int .i64 0, .int .i64 0, .string ⟨#[]⟩]) 3 32 Tryd.underlying49 hi hz0 hz1 hz2 rfl (by decide) _ _ _ rfl (World.ownsRow_lit w #[] 0 (Nat.le_refl _) (by decide) rfl) ⟨b, o, none⟩ l.length cap (l.flatMap cells3) rfl (news_length l) ?c1 (news_one l) ?c3 ?c4 ?c5 ?_))
  case c1 =>
    intro j u h
    obtain ⟨i, hi, hh⟩ := news_at l j u h
    obtain ⟨c0, c1, c2⟩ := hc i hi
    have hbel := below_one w (Obj.cells #[] 33)
    rcases hh with ⟨rfl, rfl⟩ | ⟨rfl, rfl⟩ | ⟨rfl, rfl⟩
    · have := (hbel.cell (p := ⟨b, _, none⟩) hlt).trans c0
      rw [addr_add]; simpa [Nat.add_assoc] using this
    · have := (hbel.cell (p := ⟨b, _, none⟩) hlt).trans c1
      rw [addr_add]; simpa [Nat.add_assoc] using this
    · have := (hbel.cell (p := ⟨b, _, none⟩) hlt).trans c2
      rw [addr_add]; simpa [Nat.add_assoc] using this
  case c3 => unfold maxLen; omega
  case c4 => omega
  case c5 => simp
  intro v2 w2 hown2 hg2 hn2
  have hv2 : Vals w2 v2 l := vals_of_row hown2
  have hB2 : Below w.heap.size w w2 := Below.grown ((Below.refl _ _).alloc (Nat.le_refl _) _) hg2 (by simp) (fun q hq => by simp [Value.ownBlock] at hq; omega)
  clear hown2 hg2 hn2
  go_wp2_with (first | (go_at_call 45; refine (box_Try l k _ _ hl43 hv2).mono ?_; rintro e w3 ⟨v3, rfl, hown3, hb3⟩))
  have hB3 : Below w.heap.size w w3 := below_step hB2 hb3
  obtain ⟨g, cap3, rfl, hg3, hgl, hcells⟩ := row_cells l (fun x => Value.bool (!fits x k)) hown3 hl1
  go_wp2_with (first | (go_at_call 26; (with_reducible refine (law03_fixed _ (hE.of_below hB3)).mono ?_); rintro e w4 ⟨rfl, hb4⟩))
  have hB4 : Below w.heap.size w w4 := below_step hB3 hb4
  have HC := Lib.hid hc
  have HR : Hid (∀ i (h : i < l.length), w4.cell? ⟨g, i, none⟩ = some (.bool (!fits l[i] k))) := Lib.hid (fun i h => (hb4.cell (p := ⟨g, i, none⟩) hgl).trans (hcells i h))
  have hg4 : g < w4.heap.size := Nat.lt_of_lt_of_le hgl hb4.size
  have hlt4 : b < w4.heap.size := Nat.lt_of_lt_of_le hlt hB4.size
  replace HC : Hid (∀ i (h : i < l.length), w4.cell? ⟨b, o + i * 3, none⟩ = some (.int .i64 l[i].k) ∧ w4.cell? ⟨b, o + i * 3 + 1, none⟩ = some (.int .i64 l[i].n) ∧ w4.cell? ⟨b, o + i * 3 + 2, none⟩ = some (.string l[i].s)) := Lib.hid (fun i h => ⟨(hB4.cell (p := ⟨b, _, none⟩) hlt).trans (HC.out i h).1, (hB4.cell (p := ⟨b, _, none⟩) hlt).trans (HC.out i h).2.1, (hB4.cell (p := ⟨b, _, none⟩) hlt).trans (HC.out i h).2.2⟩)
  clear hc hown3 hv2 hB2 hB3 hb3 hb4 hcells hgl
  go_loopw [6, 7, 8, 9, 10, 11, 12] (fun i _ _ _ _ _ _ wr => ∃ j : Nat, j ≤ l.length ∧ i = .int .i64 j ∧ Below w4.heap.size w4 wr) (fun i _ _ _ _ _ _ _ => l.length - (intOf i).toNat)
  case atStart => exact ⟨0, by omega, rfl, Below.refl _ _⟩
  case round =>
    obtain ⟨j, hj, rfl, hBr⟩ := hrel
    by_cases hjl : j < l.length
    · have dj : decide ((j : Int) < (l.length : Int)) = true := by simp; omega
      obtain ⟨c0, c1, c2⟩ := HC.out j hjl
      have cr := HR.out j hjl
      replace c0 := (hBr.cell (p := ⟨b, _, none⟩) hlt4).trans c0
      replace c1 := (hBr.cell (p := ⟨b, _, none⟩) hlt4).trans c1
      replace c2 := (hBr.cell (p := ⟨b, _, none⟩) hlt4).trans c2
      replace cr := (hBr.cell (p := ⟨g, _, none⟩) hg4).trans cr
      have hbl : b < wr.heap.size := Nat.lt_of_lt_of_le hlt4 hBr.size
      have hgl : g < wr.heap.size := Nat.lt_of_lt_of_le hg4 hBr.size
      obtain ⟨y, hy⟩ : ∃ y, l[j] = y := ⟨_, rfl⟩
      rw [hy] at c0 c1 c2 cr
      clear hy
      cases ft : fits y k with
      | true =>
        rw [ft] at cr
        have FT := Lib.hid ft
        clear ft
        go_wp2_with (first | (go_at_call 46; (with_reducible refine (box_As_t y k FT.out _).mono ?_); rintro e w5 ⟨rfl, hb5⟩; have hB5 : Below w4.heap.size w4 w5 := below_step (by first | assumption | exact Below.refl _ _ | (repeat (first | exact Below.refl _ _ | assumption | refine below_drewN ?_ _ | refine Below.drew ?_ | refine Below.alloc ?_ (by first | exact Nat.le_refl _ | exact Below.size (by assumption) | (simp; done) | (simp; omega) | omega) _))) hb5; replace c0 := (hb5.cell (p := ⟨b, _, none⟩) (by first | exact hbl | (simp only [sz_alloc]; omega))).trans (by first | exact c0 | exact ((below_one _ _).cell (p := ⟨b, _, none⟩) hbl).trans c0); replace c1 := (hb5.cell (p := ⟨b, _, none⟩) (by first | exact hbl | (simp only [sz_alloc]; omega))).trans (by first | exact c1 | exact ((below_one _ _).cell (p := ⟨b, _, none⟩) hbl).trans c1); replace c2 := (hb5.cell (p := ⟨b, _, none⟩) (by first | exact hbl | (simp only [sz_alloc]; omega))).trans (by first | exact c2 | exact ((below_one _ _).cell (p := ⟨b, _, none⟩) hbl).trans c2); replace cr := (hb5.cell (p := ⟨g, _, none⟩) (by first | exact hgl | (simp only [sz_alloc]; omega))).trans (by first | exact cr | exact ((below_one _ _).cell (p := ⟨g, _, none⟩) hgl).trans cr); replace hbl : b < w5.heap.size := Nat.lt_of_lt_of_le (by first | exact hbl | (simp only [sz_alloc]; omega)) hb5.size; replace hgl : g < w5.heap.size := Nat.lt_of_lt_of_le (by first | exact hgl | (simp only [sz_alloc]; omega)) hb5.size) | (go_at_call 47; (with_reducible refine (ref_As_t y k FT.out _).mono ?_); rintro e w6 ⟨rfl, hb6⟩; have hB6 : Below w4.heap.size w4 w6 := below_step (by first | assumption | exact Below.refl _ _ | (repeat (first | exact Below.refl _ _ | assumption | refine below_drewN ?_ _ | refine Below.drew ?_ | refine Below.alloc ?_ (by first | exact Nat.le_refl _ | exact Below.size (by assumption) | (simp; done) | (simp; omega) | omega) _))) hb6; replace c0 := (hb6.cell (p := ⟨b, _, none⟩) (by first | exact hbl | (simp only [sz_alloc]; omega))).trans (by first | exact c0 | exact ((below_one _ _).cell (p := ⟨b, _, none⟩) hbl).trans c0); replace c1 := (hb6.cell (p := ⟨b, _, none⟩) (by first | exact hbl | (simp only [sz_alloc]; omega))).trans (by first | exact c1 | exact ((below_one _ _).cell (p := ⟨b, _, none⟩) hbl).trans c1); replace c2 := (hb6.cell (p := ⟨b, _, none⟩) (by first | exact hbl | (simp only [sz_alloc]; omega))).trans (by first | exact c2 | exact ((below_one _ _).cell (p := ⟨b, _, none⟩) hbl).trans c2); replace cr := (hb6.cell (p := ⟨g, _, none⟩) (by first | exact hgl | (simp only [sz_alloc]; omega))).trans (by first | exact cr | exact ((below_one _ _).cell (p := ⟨g, _, none⟩) hgl).trans cr); replace hbl : b < w6.heap.size := Nat.lt_of_lt_of_le (by first | exact hbl | (simp only [sz_alloc]; omega)) hb6.size; replace hgl : g < w6.heap.size := Nat.lt_of_lt_of_le (by first | exact hgl | (simp only [sz_alloc]; omega)) hb6.size))
        have S0 : KS w4 b (o + j * 3) g j w5.heap.size w6.heap.size (!true) y.k y.n y.s y.k y.n y.s (w6.alloc (Obj.cells #[.int .i64 y.k, .int .i64 y.n, .string y.s] 33)) := by
          have hx := below_one w6 (Obj.cells #[.int .i64 y.k, .int .i64 y.n, .string y.s] 33)
          have h56 : w5.heap.size < w6.heap.size := Nat.lt_of_lt_of_le (by simp) hb6.size
          refine ⟨(hx.cell (p := ⟨b, _, none⟩) hbl).trans c0, (hx.cell (p := ⟨b, _, none⟩) hbl).trans c1, (hx.cell (p := ⟨b, _, none⟩) hbl).trans c2, (hx.cell (p := ⟨g, _, none⟩) hgl).trans cr, ?_, ?_, ?_, ?_, ?_, ?_, hB6.alloc hB6.size _, ?_, ?_, ?_, ?_⟩
          · exact ((hx.cell (p := ⟨w5.heap.size, 0, none⟩) h56).trans (hb6.cell (p := ⟨w5.heap.size, 0, none⟩) (by simp))).trans (by simp [go_sem])
          · exact ((hx.cell (p := ⟨w5.heap.size, 1, none⟩) h56).trans (hb6.cell (p := ⟨w5.heap.size, 1, none⟩) (by simp))).trans (by simp [go_sem])
          · exact ((hx.cell (p := ⟨w5.heap.size, 2, none⟩) h56).trans (hb6.cell (p := ⟨w5.heap.size, 2, none⟩) (by simp))).trans (by simp [go_sem])
          · simp [go_sem]
          · simp [go_sem]
          · simp [go_sem]
          · simp; omega
          · simp; omega
          · simp; omega
          · simp
        clear c0 c1 c2 cr hbl hgl hb5 hb6 hB5 hB6 hBr
        generalize w5.heap.size = p at S0 ⊢
        generalize w6.heap.size = q at S0 ⊢
        generalize w6.alloc (Obj.cells #[.int .i64 y.k, .int .i64 y.n, .string y.s] 33) = W at S0 ⊢
        clear w5 w6
        go_region_held3 (fun wr => wr.cell? ⟨b, o + j * 3, none⟩ = some (.int .i64 y.k) ∧ wr.cell? ⟨b, o + j * 3 + 1, none⟩ = some (.int .i64 y.n) ∧ wr.cell? ⟨b, o + j * 3 + 2, none⟩ = some (.string y.s) ∧ wr.cell? ⟨g, j, none⟩ = some (.bool (!true)) ∧
              wr.cell? ⟨p, 0, none⟩ = some (.int .i64 y.k) ∧ wr.cell? ⟨p, 1, none⟩ = some (.int .i64 y.n) ∧ wr.cell? ⟨p, 2, none⟩ = some (.string y.s) ∧
              wr.cell? ⟨q, 0, none⟩ = some (.int .i64 y.k) ∧ wr.cell? ⟨q, 1, none⟩ = some (.int .i64 y.n) ∧ wr.cell? ⟨q, 2, none⟩ = some (.string y.s) ∧ Below w4.heap.size w4 wr ∧ b < wr.heap.size ∧ g < wr.heap.size ∧ p < wr.heap.size ∧ q < wr.heap.size)
          (first | exact KS_drew S0 | assumption | (refine KS_step (wr := _) ?_ (by assumption); first | assumption | (go_split_ands; refine ⟨?_, ?_, ?_, ?_, ?_, ?_, ?_, ?_, ?_, ?_, ?_, ?_, ?_, ?_, ?_⟩ <;> assumption)))
          (first | (go_at_call 48; (with_reducible refine (Fits_c y k true FT.out _).mono ?_); rintro e w7 ⟨rfl, hb7⟩))
        rename_i hH
        go_wp2
        go_region_held3 (fun wr => wr.cell? ⟨b, o + j * 3, none⟩ = some (.int .i64 y.k) ∧ wr.cell? ⟨b, o + j * 3 + 1, none⟩ = some (.int .i64 y.n) ∧ wr.cell? ⟨b, o + j * 3 + 2, none⟩ = some (.string y.s) ∧ wr.cell? ⟨g, j, none⟩ = some (.bool (!true)) ∧
              wr.cell? ⟨p, 0, none⟩ = some (.int .i64 y.k) ∧ wr.cell? ⟨p, 1, none⟩ = some (.int .i64 y.n) ∧ wr.cell? ⟨p, 2, none⟩ = some (.string y.s) ∧
              wr.cell? ⟨q, 0, none⟩ = some (.int .i64 y.k) ∧ wr.cell? ⟨q, 1, none⟩ = some (.int .i64 y.n) ∧ wr.cell? ⟨q, 2, none⟩ = some (.string y.s) ∧ Below w4.heap.size w4 wr ∧ b < wr.heap.size ∧ g < wr.heap.size ∧ p < wr.heap.size ∧ q < wr.heap.size)
          (first | exact KS_drew hH | assumption | (refine KS_step (wr := _) ?_ (by assumption); first | assumption | (go_split_ands; refine ⟨?_, ?_, ?_, ?_, ?_, ?_, ?_, ?_, ?_, ?_, ?_, ?_, ?_, ?_, ?_⟩ <;> assumption)))
          (first | (go_at_call 48; (with_reducible refine (Fits_c y k true FT.out _).mono ?_); rintro e w8 ⟨rfl, hb8⟩) | (go_at_call 49; (with_reducible refine (Must_c y k FT.out _).mono ?_); rintro e w9 ⟨rfl, hb9⟩))
        rename_i hJ
        obtain ⟨-, -, -, -, -, -, -, -, -, -, hBz, hbz, hgz, -, -⟩ := hJ
        go_wp2
        go_roundw
        case rel => exact ⟨j + 1, by omega, by go_num, hBz⟩
        case measure => simp [intOf]; omega
      | false =>
        rw [ft] at cr
        obtain ⟨z, hz⟩ : ∃ z, asE y k = z := ⟨_, rfl⟩
        have FT := Lib.hid ft; have ZE := Lib.hid hz
        clear ft hz
        go_wp2_with (first | (go_at_call 46; (with_reducible refine (box_As_f y k z FT.out ZE.out _).mono ?_); rintro e w5 ⟨rfl, hb5⟩; have hB5 : Below w4.heap.size w4 w5 := below_step (by first | assumption | exact Below.refl _ _ | (repeat (first | exact Below.refl _ _ | assumption | refine below_drewN ?_ _ | refine Below.drew ?_ | refine Below.alloc ?_ (by first | exact Nat.le_refl _ | exact Below.size (by assumption) | (simp; done) | (simp; omega) | omega) _))) hb5; replace c0 := (hb5.cell (p := ⟨b, _, none⟩) (by first | exact hbl | (simp only [sz_alloc]; omega))).trans (by first | exact c0 | exact ((below_one _ _).cell (p := ⟨b, _, none⟩) hbl).trans c0); replace c1 := (hb5.cell (p := ⟨b, _, none⟩) (by first | exact hbl | (simp only [sz_alloc]; omega))).trans (by first | exact c1 | exact ((below_one _ _).cell (p := ⟨b, _, none⟩) hbl).trans c1); replace c2 := (hb5.cell (p := ⟨b, _, none⟩) (by first | exact hbl | (simp only [sz_alloc]; omega))).trans (by first | exact c2 | exact ((below_one _ _).cell (p := ⟨b, _, none⟩) hbl).trans c2); replace cr := (hb5.cell (p := ⟨g, _, none⟩) (by first | exact hgl | (simp only [sz_alloc]; omega))).trans (by first | exact cr | exact ((below_one _ _).cell (p := ⟨g, _, none⟩) hgl).trans cr); replace hbl : b < w5.heap.size := Nat.lt_of_lt_of_le (by first | exact hbl | (simp only [sz_alloc]; omega)) hb5.size; replace hgl : g < w5.heap.size := Nat.lt_of_lt_of_le (by first | exact hgl | (simp only [sz_alloc]; omega)) hb5.size) | (go_at_call 47; (with_reducible refine (ref_As_f y k z FT.out ZE.out _).mono ?_); rintro e w6 ⟨rfl, hb6⟩; have hB6 : Below w4.heap.size w4 w6 := below_step (by first | assumption | exact Below.refl _ _ | (repeat (first | exact Below.refl _ _ | assumption | refine below_drewN ?_ _ | refine Below.drew ?_ | refine Below.alloc ?_ (by first | exact Nat.le_refl _ | exact Below.size (by assumption) | (simp; done) | (simp; omega) | omega) _))) hb6; replace c0 := (hb6.cell (p := ⟨b, _, none⟩) (by first | exact hbl | (simp only [sz_alloc]; omega))).trans (by first | exact c0 | exact ((below_one _ _).cell (p := ⟨b, _, none⟩) hbl).trans c0); replace c1 := (hb6.cell (p := ⟨b, _, none⟩) (by first | exact hbl | (simp only [sz_alloc]; omega))).trans (by first | exact c1 | exact ((below_one _ _).cell (p := ⟨b, _, none⟩) hbl).trans c1); replace c2 := (hb6.cell (p := ⟨b, _, none⟩) (by first | exact hbl | (simp only [sz_alloc]; omega))).trans (by first | exact c2 | exact ((below_one _ _).cell (p := ⟨b, _, none⟩) hbl).trans c2); replace cr := (hb6.cell (p := ⟨g, _, none⟩) (by first | exact hgl | (simp only [sz_alloc]; omega))).trans (by first | exact cr | exact ((below_one _ _).cell (p := ⟨g, _, none⟩) hgl).trans cr); replace hbl : b < w6.heap.size := Nat.lt_of_lt_of_le (by first | exact hbl | (simp only [sz_alloc]; omega)) hb6.size; replace hgl : g < w6.heap.size := Nat.lt_of_lt_of_le (by first | exact hgl | (simp only [sz_alloc]; omega)) hb6.size))
        have S0 : KS w4 b (o + j * 3) g j w5.heap.size w6.heap.size (!false) y.k y.n y.s 0 0 ⟨#[]⟩ (w6.alloc (Obj.cells #[.int .i64 0, .int .i64 0, .string ⟨#[]⟩] 33)) := by
          have hx := below_one w6 (Obj.cells #[.int .i64 0, .int .i64 0, .string ⟨#[]⟩] 33)
          have h56 : w5.heap.size < w6.heap.size := Nat.lt_of_lt_of_le (by simp) hb6.size
          refine ⟨(hx.cell (p := ⟨b, _, none⟩) hbl).trans c0, (hx.cell (p := ⟨b, _, none⟩) hbl).trans c1, (hx.cell (p := ⟨b, _, none⟩) hbl).trans c2, (hx.cell (p := ⟨g, _, none⟩) hgl).trans cr, ?_, ?_, ?_, ?_, ?_, ?_, hB6.alloc hB6.size _, ?_, ?_, ?_, ?_⟩
          · exact ((hx.cell (p := ⟨w5.heap.size, 0, none⟩) h56).trans (hb6.cell (p := ⟨w5.heap.size, 0, none⟩) (by simp))).trans (by simp [go_sem])
          · exact ((hx.cell (p := ⟨w5.heap.size, 1, none⟩) h56).trans (hb6.cell (p := ⟨w5.heap.size, 1, none⟩) (by simp))).trans (by simp [go_sem])
          · exact ((hx.cell (p := ⟨w5.heap.size, 2, none⟩) h56).trans (hb6.cell (p := ⟨w5.heap.size, 2, none⟩) (by simp))).trans (by simp [go_sem])
          · simp [go_sem]
          · simp [go_sem]
          · simp [go_sem]
          · simp; omega
          · simp; omega
          · simp; omega
          · simp
        clear c0 c1 c2 cr hbl hgl hb5 hb6 hB5 hB6 hBr
        generalize w5.heap.size = p at S0 ⊢
        generalize w6.heap.size = q at S0 ⊢
        generalize w6.alloc (Obj.cells #[.int .i64 0, .int .i64 0, .string ⟨#[]⟩] 33) = W at S0 ⊢
        clear w5 w6
        go_region_held3 (fun wr => wr.cell? ⟨b, o + j * 3, none⟩ = some (.int .i64 y.k) ∧ wr.cell? ⟨b, o + j * 3 + 1, none⟩ = some (.int .i64 y.n) ∧ wr.cell? ⟨b, o + j * 3 + 2, none⟩ = some (.string y.s) ∧ wr.cell? ⟨g, j, none⟩ = some (.bool (!false)) ∧
              wr.cell? ⟨p, 0, none⟩ = some (.int .i64 0) ∧ wr.cell? ⟨p, 1, none⟩ = some (.int .i64 0) ∧ wr.cell? ⟨p, 2, none⟩ = some (.string ⟨#[]⟩) ∧
              wr.cell? ⟨q, 0, none⟩ = some (.int .i64 0) ∧ wr.cell? ⟨q, 1, none⟩ = some (.int .i64 0) ∧ wr.cell? ⟨q, 2, none⟩ = some (.string ⟨#[]⟩) ∧ Below w4.heap.size w4 wr ∧ b < wr.heap.size ∧ g < wr.heap.size ∧ p < wr.heap.size ∧ q < wr.heap.size)
          (first | exact KS_drew S0 | assumption | (refine KS_step (wr := _) ?_ (by assumption); first | assumption | (go_split_ands; refine ⟨?_, ?_, ?_, ?_, ?_, ?_, ?_, ?_, ?_, ?_, ?_, ?_, ?_, ?_, ?_⟩ <;> assumption)))
          (first | (go_at_call 48; (with_reducible refine (Fits_c y k false FT.out _).mono ?_); rintro e w7 ⟨rfl, hb7⟩))
        rename_i hH
        go_wp2
        refine wp_region_held_drew (S := (fun wr => wr.cell? ⟨b, o + j * 3, none⟩ = some (.int .i64 y.k) ∧ wr.cell? ⟨b, o + j * 3 + 1, none⟩ = some (.int .i64 y.n) ∧ wr.cell? ⟨b, o + j * 3 + 2, none⟩ = some (.string y.s) ∧ wr.cell? ⟨g, j, none⟩ = some (.bool (!false)) ∧
              wr.cell? ⟨p, 0, none⟩ = some (.int .i64 0) ∧ wr.cell? ⟨p, 1, none⟩ = some (.int .i64 0) ∧ wr.cell? ⟨p, 2, none⟩ = some (.string ⟨#[]⟩) ∧
              wr.cell? ⟨q, 0, none⟩ = some (.int .i64 0) ∧ wr.cell? ⟨q, 1, none⟩ = some (.int .i64 0) ∧ wr.cell? ⟨q, 2, none⟩ = some (.string ⟨#[]⟩) ∧ Below w4.heap.size w4 wr ∧ b < wr.heap.size ∧ g < wr.heap.size ∧ p < wr.heap.size ∧ q < wr.heap.size)) (by kernel_rfl) (KS_drew hH) (fun hHeld => ?_)
        refine wpAnyH_take (i := 0) (oi := ?oi0) (v := ?v0) ?hi0 (by kernel_rfl) (by kernel_rfl) (by kernel_rfl) ?hQ0 ?hy0 (by assumption) ?rest0
        case hi0 =>
          simp only [List.getElem?_toArray, List.getElem?_cons_succ, List.getElem?_cons_zero]
          rfl
        case hQ0 => exact fun _ _ _ h => h
        case hy0 =>
          refine Or.inl ⟨by rfl, ?_⟩
          intro w' hSw
          try dsimp only at hSw
          go_simp
          try with_reducible rfl
        try simp only [Act.put, List.setIfInBounds_toArray, List.set_cons_zero, List.set_cons_succ]
        refine wpAnyH_take (i := 1) (oi := ?oi1) (v := ?v1) ?hi1 (by kernel_rfl) (by kernel_rfl) (by kernel_rfl) ?hQ1 ?hy1 (by assumption) ?rest1
        case hi1 =>
          simp only [List.getElem?_toArray, List.getElem?_cons_succ, List.getElem?_cons_zero]
          rfl
        case hQ1 => exact fun _ _ _ h => h
        case hy1 =>
          refine Or.inl ⟨by rfl, ?_⟩
          intro w' hSw
          try dsimp only at hSw
          go_simp
          try with_reducible rfl
        try simp only [Act.put, List.setIfInBounds_toArray, List.set_cons_zero, List.set_cons_succ]
        refine wpAnyH_take (i := 2) (oi := ?oi2) (v := ?v2) ?hi2 (by kernel_rfl) (by kernel_rfl) (by kernel_rfl) ?hQ2 ?hy2 (by assumption) ?rest2
        case hi2 =>
          simp only [List.getElem?_toArray, List.getElem?_cons_succ, List.getElem?_cons_zero]
          rfl
        case hQ2 => exact fun _ _ _ h => h
        case hy2 =>
          refine Or.inl ⟨by rfl, ?_⟩
          intro w' hSw
          try dsimp only at hSw
          go_simp
          try with_reducible rfl
        try simp only [Act.put, List.setIfInBounds_toArray, List.set_cons_zero, List.set_cons_succ]
        refine wpAnyH_take (i := 3) (oi := ?oi3) (v := ?v3) ?hi3 (by kernel_rfl) (by kernel_rfl) (by kernel_rfl) ?hQ3 ?hy3 (by assumption) ?rest3
        case hi3 =>
          simp only [List.getElem?_toArray, List.getElem?_cons_succ, List.getElem?_cons_zero]
          rfl
        case hQ3 => exact fun _ _ _ h => h
        case hy3 =>
          refine Or.inl ⟨by rfl, ?_⟩
          intro w' hSw
          try dsimp only at hSw
          go_simp
          try with_reducible rfl
        try simp only [Act.put, List.setIfInBounds_toArray, List.set_cons_zero, List.set_cons_succ]
        refine wpAnyH_take (i := 4) (oi := ?oi4) (v := ?v4) ?hi4 (by kernel_rfl) (by kernel_rfl) (by kernel_rfl) ?hQ4 ?hy4 (by assumption) ?rest4
        case hi4 =>
          simp only [List.getElem?_toArray, List.getElem?_cons_succ, List.getElem?_cons_zero]
          rfl
        case hQ4 => exact fun _ _ _ h => h
        case hy4 =>
          refine Or.inl ⟨by rfl, ?_⟩
          intro w' hSw
          try dsimp only at hSw
          go_simp
          try with_reducible rfl
        try simp only [Act.put, List.setIfInBounds_toArray, List.set_cons_zero, List.set_cons_succ]
        refine wpAnyH_ready (rs := [5]) (by kernel_rfl) (by simp) ?_
        refine AllReadyH.cons rfl (fun K hK => ?_) AllReadyH.nil
        go_simp
        with_reducible refine (Fits_c y k false FT.out _).mono ?_
        rintro e w8 ⟨rfl, hb8⟩
        go_wp2_with fail
        refine hK.out _ _ (KS_step hHeld hb8) (fun hHeld2 => ?_)
        clear hK K
        try simp only [Act.put, List.setIfInBounds_toArray, List.set_cons_zero, List.set_cons_succ]
        refine wpAnyH_take (i := 6) (oi := ?oi6) (v := ?v6) ?hi6 (by kernel_rfl) (by kernel_rfl) (by kernel_rfl) ?hQ6 ?hy6 (by assumption) ?rest6
        case hi6 =>
          simp only [List.getElem?_toArray, List.getElem?_cons_succ, List.getElem?_cons_zero]
          rfl
        case hQ6 => exact fun _ _ _ h => h
        case hy6 =>
          refine Or.inl ⟨by rfl, ?_⟩
          intro w' hSw
          try dsimp only at hSw
          go_simp
          try with_reducible rfl
        try simp only [Act.put, List.setIfInBounds_toArray, List.set_cons_zero, List.set_cons_succ]
        refine wpAnyH_take (i := 7) (oi := ?oi7) (v := undef) ?hi7 (by kernel_rfl) (by kernel_rfl) (by kernel_rfl) ?hQ7 ?hy7 (by assumption) ?rest7
        case hi7 =>
          simp only [List.getElem?_toArray, List.getElem?_cons_succ, List.getElem?_cons_zero]
          rfl
        case hQ7 => exact fun _ _ _ h => h
        case hy7 => exact Or.inr ⟨by rfl, rfl⟩
        try simp only [Act.put, List.setIfInBounds_toArray, List.set_cons_zero, List.set_cons_succ]
        refine wpAnyH_take (i := 8) (oi := ?oi8) (v := undef) ?hi8 (by kernel_rfl) (by kernel_rfl) (by kernel_rfl) ?hQ8 ?hy8 (by assumption) ?rest8
        case hi8 =>
          simp only [List.getElem?_toArray, List.getElem?_cons_succ, List.getElem?_cons_zero]
          rfl
        case hQ8 => exact fun _ _ _ h => h
        case hy8 => exact Or.inr ⟨by rfl, rfl⟩
        try simp only [Act.put, List.setIfInBounds_toArray, List.set_cons_zero, List.set_cons_succ]
        refine wpAnyH_take (i := 9) (oi := ?oi9) (v := undef) ?hi9 (by kernel_rfl) (by kernel_rfl) (by kernel_rfl) ?hQ9 ?hy9 (by assumption) ?rest9
        case hi9 =>
          simp only [List.getElem?_toArray, List.getElem?_cons_succ, List.getElem?_cons_zero]
          rfl
        case hQ9 => exact fun _ _ _ h => h
        case hy9 => exact Or.inr ⟨by rfl, rfl⟩
        try simp only [Act.put, List.setIfInBounds_toArray, List.set_cons_zero, List.set_cons_succ]
        refine wpAnyH_take (i := 10) (oi := ?oi10) (v := undef) ?hi10 (by kernel_rfl) (by kernel_rfl) (by kernel_rfl) ?hQ10 ?hy10 (by assumption) ?rest10
        case hi10 =>
          simp only [List.getElem?_toArray, List.getElem?_cons_succ, List.getElem?_cons_zero]
          rfl
        case hQ10 => exact fun _ _ _ h => h
        case hy10 => exact Or.inr ⟨by rfl, rfl⟩
        try simp only [Act.put, List.setIfInBounds_toArray, List.set_cons_zero, List.set_cons_succ]
        refine wpAnyH_take (i := 11) (oi := ?oi11) (v := undef) ?hi11 (by kernel_rfl) (by kernel_rfl) (by kernel_rfl) ?hQ11 ?hy11 (by assumption) ?rest11
        case hi11 =>
          simp only [List.getElem?_toArray, List.getElem?_cons_succ, List.getElem?_cons_zero]
          rfl
        case hQ11 => exact fun _ _ _ h => h
        case hy11 => exact Or.inr ⟨by rfl, rfl⟩
        try simp only [Act.put, List.setIfInBounds_toArray, List.set_cons_zero, List.set_cons_succ]
        refine wpAnyH_take (i := 12) (oi := ?oi12) (v := undef) ?hi12 (by kernel_rfl) (by kernel_rfl) (by kernel_rfl) ?hQ12 ?hy12 (by assumption) ?rest12
        case hi12 =>
          simp only [List.getElem?_toArray, List.getElem?_cons_succ, List.getElem?_cons_zero]
          rfl
        case hQ12 => exact fun _ _ _ h => h
        case hy12 => exact Or.inr ⟨by rfl, rfl⟩
        try simp only [Act.put, List.setIfInBounds_toArray, List.set_cons_zero, List.set_cons_succ]
        refine wpAnyH_take (i := 13) (oi := ?oi13) (v := undef) ?hi13 (by kernel_rfl) (by kernel_rfl) (by kernel_rfl) ?hQ13 ?hy13 (by assumption) ?rest13
        case hi13 =>
          simp only [List.getElem?_toArray, List.getElem?_cons_succ, List.getElem?_cons_zero]
          rfl
        case hQ13 => exact fun _ _ _ h => h
        case hy13 => exact Or.inr ⟨by rfl, rfl⟩
        try simp only [Act.put, List.setIfInBounds_toArray, List.set_cons_zero, List.set_cons_succ]
        refine wpAnyH_take (i := 14) (oi := ?oi14) (v := undef) ?hi14 (by kernel_rfl) (by kernel_rfl) (by kernel_rfl) ?hQ14 ?hy14 (by assumption) ?rest14
        case hi14 =>
          simp only [List.getElem?_toArray, List.getElem?_cons_succ, List.getElem?_cons_zero]
          rfl
        case hQ14 => exact fun _ _ _ h => h
        case hy14 => exact Or.inr ⟨by rfl, rfl⟩
        try simp only [Act.put, List.setIfInBounds_toArray, List.set_cons_zero, List.set_cons_succ]
        refine wpAnyH_take (i := 15) (oi := ?oi15) (v := undef) ?hi15 (by kernel_rfl) (by kernel_rfl) (by kernel_rfl) ?hQ15 ?hy15 (by assumption) ?rest15
        case hi15 =>
          simp only [List.getElem?_toArray, List.getElem?_cons_succ, List.getElem?_cons_zero]
          rfl
        case hQ15 => exact fun _ _ _ h => h
        case hy15 => exact Or.inr ⟨by rfl, rfl⟩
        try simp only [Act.put, List.setIfInBounds_toArray, List.set_cons_zero, List.set_cons_succ]
        refine wpAnyH_take (i := 16) (oi := ?oi16) (v := undef) ?hi16 (by kernel_rfl) (by kernel_rfl) (by kernel_rfl) ?hQ16 ?hy16 (by assumption) ?rest16
        case hi16 =>
          simp only [List.getElem?_toArray, List.getElem?_cons_succ, List.getElem?_cons_zero]
          rfl
        case hQ16 => exact fun _ _ _ h => h
        case hy16 => exact Or.inr ⟨by rfl, rfl⟩
        try simp only [Act.put, List.setIfInBounds_toArray, List.set_cons_zero, List.set_cons_succ]
        refine wpAnyH_take (i := 17) (oi := ?oi17) (v := undef) ?hi17 (by kernel_rfl) (by kernel_rfl) (by kernel_rfl) ?hQ17 ?hy17 (by assumption) ?rest17
        case hi17 =>
          simp only [List.getElem?_toArray, List.getElem?_cons_succ, List.getElem?_cons_zero]
          rfl
        case hQ17 => exact fun _ _ _ h => h
        case hy17 => exact Or.inr ⟨by rfl, rfl⟩
        try simp only [Act.put, List.setIfInBounds_toArray, List.set_cons_zero, List.set_cons_succ]
        refine wpAnyH_take (i := 18) (oi := ?oi18) (v := ?v18) ?hi18 (by kernel_rfl) (by kernel_rfl) (by kernel_rfl) ?hQ18 ?hy18 (by assumption) ?rest18
        case hi18 =>
          simp only [List.getElem?_toArray, List.getElem?_cons_succ, List.getElem?_cons_zero]
          rfl
        case hQ18 => exact fun _ _ _ h => h
        case hy18 =>
          refine Or.inl ⟨by rfl, ?_⟩
          intro w' hSw
          try dsimp only at hSw
          go_simp
          try with_reducible rfl
        try simp only [Act.put, List.setIfInBounds_toArray, List.set_cons_zero, List.set_cons_succ]
        refine wpAnyH_done (by kernel_rfl) ?_ _
        have hJ := hHeld2
        obtain ⟨-, -, -, -, -, -, -, -, -, -, hBz, hbz, hgz, -, -⟩ := hJ
        go_wp2
        go_roundw
        case rel => exact ⟨j + 1, by omega, by go_num, hBz⟩
        case measure => simp [intOf]; omega
    · obtain rfl : j = l.length := by omega
      go_wp2
      go_ret
      exact ⟨rfl, below_step hB4 hBr⟩
end Go.Proofs.YtpppcoobibmlhaaDoor
