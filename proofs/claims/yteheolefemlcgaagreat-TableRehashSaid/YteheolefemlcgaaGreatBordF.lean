/- A table of the border's laws: its calls beside what a call holds. -/
import Derived.Test.YteheolefemlcgaaGreatBordE
import Derived.Test.YteheolefemlcgaaGreatTabM
namespace Go.Proofs.YteheolefemlcgaaGreat
open Go.RowKit Go.Maps
set_option linter.unusedVariables false
set_option linter.unusedSimpArgs false

structure BS (w0 : World) (S : Nat → Prop) (hp a : Nat) (t : Tbl) (hs : HS) (n : Nat) (w : World) : Prop where
  tt : TT w0 S hp (some (a, t)) none hs w
  k : Acc (some (a, t)) none hs n
  h0 : 0 ≤ t.hint
  h1 : t.hint ≤ t.p.sn
section
variable {w0 w w' : World} {S : Nat → Prop} {hp a n : Nat} {t : Tbl} {hs : HS}
theorem BS.ok (H : BS w0 S hp a t hs n w) : t.p.ok := (H.k.a _ rfl).1
theorem BS.below (H : BS w0 S hp a t hs n w) (hb : Below w.heap.size w w') : BS w0 S hp a t hs n w' := ⟨H.tt.below hb, H.k, H.h0, H.h1⟩
theorem BS.mono {m : Nat} (H : BS w0 S hp a t hs n w) (h : n ≤ m) : BS w0 S hp a t hs m w := ⟨H.tt, H.k.mono h, H.h0, H.h1⟩
theorem BS.bel (H : BS w0 S hp a t hs n w) : Below w0.heap.size w0 w := H.tt.bel
theorem BS.keepS (H : BS w0 S hp a t hs n w) : ∀ q, S q → q < w.heap.size := H.tt.res
theorem BS.kpS {G : Nat → Prop} (H : BS w0 S hp a t hs n w) (hk : Kp G w w') (hG : ∀ q, G q → S q ∧ w0.heap.size ≤ q) : BS w0 S hp a t hs n w' := ⟨H.tt.kpS hk hG, H.k, H.h0, H.h1⟩
theorem BS.reserve {S' : Nat → Prop} (H : BS w0 S hp a t hs n w) (hb : Below w.heap.size w w') (hS' : ∀ q, S' q → q < w'.heap.size ∧ (S q ∨ w.heap.size ≤ q)) : BS w0 S' hp a t hs n w' := ⟨H.tt.reserve hb hS', H.k, H.h0, H.h1⟩
/-- A call that turns the table's own block alone. -/
theorem BS.call {f : FuncId} {args : Array Value} {R : Ending → Tbl → Prop} (H : BS w0 S hp a t hs n w) (hcall : ∀ s b g, TabIn w a s b g hp t → Calls Tryz.prog f args w fun e w' => ∃ t', R e t' ∧ t'.p = t.p ∧ (0 ≤ t'.hint ∧ t'.hint ≤ t.p.sn) ∧ TabIn w' a s b g hp t' ∧ Kp (fun q => q = a) w w') :
    Calls Tryz.prog f args w fun e w' => ∃ t', R e t' ∧ t'.p = t.p ∧ BS w0 S hp a t' hs n w' ∧ ∀ q, S q → w'.heap[q]? = w.heap[q]? := by
  obtain ⟨⟨F, D, E, h1, ⟨s, bb, g, hT, hD⟩, h3, h4, h5, h6, h7, h8, h9⟩, h10, h11⟩ := H.tt
  refine (hcall s bb g hT).mono ?_
  rintro e w' ⟨t', hR, hpe, hh, hT', hkp⟩
  obtain ⟨hT2, hS⟩ := TT.turn (A' := some (a, t')) (D' := PB a s bb g) h3 h4 h5 h6 h8 h9 h10 h11 hkp (fun q hq => .inr (hD q (.inl hq))) ⟨s, bb, g, hT', fun _ h => h⟩ (h1.kp hkp (fun q hq e => h7 q (hD q (.inl e)) hq)) (fun q hq => .inl (hD q hq)) (fun q hq => .inl hq) (fun q hq => h7 q (hD q hq)) (fun q hq => hT'.pt.lt hq)
  refine ⟨t', hR, hpe, ⟨hT2, ?_, hh.1, by rw [hpe]; exact hh.2⟩, hS⟩
  obtain ⟨t1, t2, t3⟩ := H.k.a _ rfl
  refine ⟨H.k.hok, H.k.sz, fun x hx => by obtain rfl := Option.some.inj hx; dsimp only; rw [hpe]; exact ⟨t1, t2, t3⟩, fun y hy => by simp at hy, fun x y hx hy => by simp at hy, ?_⟩
  have := H.k.live
  show hs.live = 4 + t'.p.cells + 0
  rw [hpe]; exact this
theorem Tbl.set_hint {t : Tbl} {hs : HS} {k v : V} (h0 : 0 ≤ t.hint) (h1 : t.hint ≤ t.p.sn) : 0 ≤ (t.set hs k v).1.hint ∧ (t.set hs k v).1.hint ≤ (t.set hs k v).1.p.sn := by
  have hput : ∀ p : PT, (p.put k v).1.sn = p.sn := fun p => by
    by_cases hb : p.inB k
    · rw [PT.put_in hb]
    · rw [PT.put_out hb]
  have hT : 0 ≤ (t.tried k v).hint ∧ (t.tried k v).hint ≤ (t.tried k v).p.sn := ⟨h0, by show t.hint ≤ ((t.p.put k v).1.sn : Int); rw [hput]; exact h1⟩
  have hR : 0 ≤ ((t.tried k v).reh hs k).1.hint ∧ ((t.tried k v).reh hs k).1.hint ≤ ((t.tried k v).reh hs k).1.p.sn := by
    unfold Tbl.reh
    split
    · exact hT
    · split
      · exact hT
      · exact ⟨Int.le_refl _, by show (0 : Int) ≤ _; omega⟩
  unfold Tbl.set
  split
  · exact ⟨h0, h1⟩
  · split
    · exact hT
    · split
      · exact hR
      · exact ⟨hR.1, by show _ ≤ (((((t.tried k v).reh hs k).1.p.put k v).1.sn : Nat) : Int); rw [hput]; exact hR.2⟩
theorem BS.set (H : BS w0 S hp a t hs n w) (hn : n ≤ 800000) (kk kn : Int) (ks : ByteArray) (vk vn : Int) (vs : ByteArray) (h64 : In64 kn) :
    Calls Tryz.prog 12 #[.pointer (some ⟨a, 0, none⟩), .agg #[.int .i64 kk, .int .i64 kn, .string ks], .agg #[.int .i64 vk, .int .i64 vn, .string vs]] w fun e w' => e = .returned (.int .i64 (t.set hs ⟨kk, kn, ks⟩ ⟨vk, vn, vs⟩).2.2) ∧ BS w0 S hp a (t.set hs ⟨kk, kn, ks⟩ ⟨vk, vn, vs⟩).1 (t.set hs ⟨kk, kn, ks⟩ ⟨vk, vn, vs⟩).2.1 (n + 2) w' ∧ ∀ q, S q → w'.heap[q]? = w.heap[q]? := by
  obtain ⟨x1, x2⟩ := Tbl.set_hint (hs := hs) (k := ⟨kk, kn, ks⟩) (v := ⟨vk, vn, vs⟩) H.h0 H.h1
  refine (Set_t H.tt H.k.fit (by have := H.k.sz; omega) kk kn ks vk vn vs h64 _ rfl).mono ?_
  rintro e w' ⟨he, hT, hk⟩
  exact ⟨he, ⟨hT, H.k.set hn ⟨kk, kn, ks⟩ ⟨vk, vn, vs⟩ h64, x1, x2⟩, hk⟩
theorem BS.get (H : BS w0 S hp a t hs n w) (kk kn : Int) (ks : ByteArray) (v : V) (hv : t.get ⟨kk, kn, ks⟩ = v) :
    Calls Tryz.prog 18 #[.pointer (some ⟨a, 0, none⟩), .agg #[.int .i64 kk, .int .i64 kn, .string ks]] w fun e w' => ∃ t', (e = .returned (.agg #[.int .i64 v.k, .int .i64 v.n, .string v.s]) ∧ t'.hint = t.hint) ∧ t'.p = t.p ∧ BS w0 S hp a t' hs n w' ∧ ∀ q, S q → w'.heap[q]? = w.heap[q]? := by
  refine BS.call (R := fun e t' => e = .returned (.agg #[.int .i64 v.k, .int .i64 v.n, .string v.s]) ∧ t'.hint = t.hint) H (fun s b g hT => ?_)
  refine (tab_Get a s b g hp t kk kn ks H.ok v.k v.n v.s hv w hT).mono ?_
  rintro e w' ⟨he, hT', hk⟩
  have e1 : (t.read ⟨kk, kn, ks⟩).p = t.p ∧ (t.read ⟨kk, kn, ks⟩).hint = t.hint := by unfold Tbl.read; split <;> exact ⟨rfl, rfl⟩
  exact ⟨_, ⟨he, e1.2⟩, e1.1, ⟨by rw [e1.2]; exact H.h0, by rw [e1.2]; exact H.h1⟩, hT', hk⟩
theorem slot_hint {t : Tbl} (h0 : 0 ≤ t.hint) (h1 : t.hint ≤ t.p.sn) (hf : ¬ farT t) : 0 ≤ lenP t ∧ lenP t ≤ t.p.sn := by
  have hN : (t.p.sn : Int) ≠ 0 := fun e => hf (.inl (by omega))
  unfold lenP lenA
  rw [if_neg hf]
  split
  · rename_i h
    have hne : t.hint ≠ 0 := fun e => h (.inl e)
    obtain ⟨p, q, -, -⟩ := Bd.halve_is (slotT t) t.hint.toNat 0 t.hint (by omega) (by omega)
    omega
  · split
    · rename_i h
      obtain ⟨p, q, -, -⟩ := Bd.halve_is (slotT t) ((t.p.sn : Int) - t.hint).toNat t.hint t.p.sn h.1 (by omega)
      omega
    · exact ⟨h0, h1⟩
theorem lenT_p (t : Tbl) (pr : Int) : (t.lenT pr).p = t.p := by unfold Tbl.lenT; split <;> rfl
theorem BS.len (H : BS w0 S hp a t hs n w) : Calls Tryz.prog 37 #[.pointer (some ⟨a, 0, none⟩)] w fun e w' => ∃ t', (e = .returned (.int .i64 (lenP t)) ∧ ∃ pr, t' = t.lenT pr) ∧ t'.p = t.p ∧ BS w0 S hp a t' hs n w' ∧ ∀ q, S q → w'.heap[q]? = w.heap[q]? := by
  refine BS.call (R := fun e t' => e = .returned (.int .i64 (lenP t)) ∧ ∃ pr, t' = t.lenT pr) H (fun s b g hT => ?_)
  refine (bord_Len a s b g hp t H.ok H.h0 H.h1 w hT).mono ?_
  rintro e w' ⟨he, ⟨pr, hT'⟩, hk⟩
  refine ⟨_, ⟨he, pr, rfl⟩, lenT_p t pr, ?_, hT', hk⟩
  unfold Tbl.lenT
  split
  · exact ⟨H.h0, H.h1⟩
  · rename_i hf; exact slot_hint H.h0 H.h1 hf
theorem BS.hint (H : BS w0 S hp a t hs n w) (x : Int) : Calls Tryz.prog 42 #[.pointer (some ⟨a, 0, none⟩), .int .i64 x] w fun e w' => ∃ t', (e = .returned (.tuple #[]) ∧ t' = t.hinted x) ∧ t'.p = t.p ∧ BS w0 S hp a t' hs n w' ∧ ∀ q, S q → w'.heap[q]? = w.heap[q]? := by
  refine BS.call (R := fun e t' => e = .returned (.tuple #[]) ∧ t' = t.hinted x) H (fun s b g hT => ?_)
  refine (tab_Hint a s b g hp t x w hT).mono ?_
  rintro e w' ⟨he, hT', hk⟩
  refine ⟨_, ⟨he, rfl⟩, by unfold Tbl.hinted; split <;> rfl, ?_, hT', hk⟩
  unfold Tbl.hinted
  split
  · rename_i h; exact h
  · exact ⟨H.h0, H.h1⟩
end
/-- Is, in plain terms. -/
def isP (t : Tbl) (n : Int) : Bool := if n < 0 then false else if 0 < n ∧ hasT t n = false then false else if n = 9223372036854775807 then true else !(hasT t (n + 1))
set_option maxRecDepth 100000 in
set_option maxHeartbeats 800000 in
theorem bord_Is (a s b g hp : Nat) (t : Tbl) (hok : t.p.ok) (n : Int) (h64 : In64 n) (w : World) (H : TabIn w a s b g hp t) :
    Calls Tryz.prog 39 #[.pointer (some ⟨a, 0, none⟩), .int .i64 n] w fun e w' => e = .returned (.bool (isP t n)) ∧ BJ w a s b g hp t w' := by
  have HJ := Lib.hid (BJ.start H)
  have HPRE := Lib.hid (fun (i : Int) (W : World) (h : BJ w a s b g hp t W) => bord_present w a s b g hp t hok i W h)
  have H64 := Lib.hid h64
  clear H hok h64
  by_cases c1 : n < 0
  · have d1 : decide (n < 0) = true := by simpa using c1
    have HR : Hid (isP t n = false) := Lib.hid (by unfold isP; rw [if_pos c1])
    go_enter Tryz.func39, Tryz.ntmps39
    go_wp2
    go_ret
    exact ⟨by rw [HR.out]; rfl, HJ.out⟩
  · have d1 : decide (n < 0) = false := by simpa using c1
    have HC1 := Lib.hid c1
    clear c1
    by_cases c2 : 0 < n
    · have d2 : decide (0 < n) = true := by simpa using c2
      have HC2 := Lib.hid c2
      clear c2
      go_enter Tryz.func39, Tryz.ntmps39
      go_wp2_with fail
      (with_reducible refine (HPRE.out n _ HJ.out).mono ?_)
      rintro e w2 ⟨rfl, hj⟩
      have HJ2 := Lib.hid hj
      clear hj
      by_cases hq : hasT t n = true
      · rw [hq]
        have HQ := Lib.hid hq
        clear hq
        by_cases c3 : n = 9223372036854775807
        · have d3 : (n == 9223372036854775807) = true := by simpa using c3
          have HR : Hid (isP t n = true) := Lib.hid (by unfold isP; rw [if_neg (show ¬ n < 0 by have := HC1.out; omega), if_neg (fun h => by rw [HQ.out] at h; simp at h), if_pos c3])
          clear c3
          go_wp2
          go_ret
          exact ⟨by rw [HR.out]; rfl, HJ2.out⟩
        · have d3 : (n == 9223372036854775807) = false := by simpa using c3
          have HR : Hid (isP t n = !(hasT t (n + 1))) := Lib.hid (by unfold isP; rw [if_neg (show ¬ n < 0 by have := HC1.out; omega), if_neg (fun h => by rw [HQ.out] at h; simp at h), if_neg c3])
          have m1 : wrap64 (n + 1) = n + 1 := wrap64_id (by have := H64.out; unfold In64 at *; omega)
          clear c3
          go_wp2_with fail
          (with_reducible refine (HPRE.out (n + 1) _ HJ2.out).mono ?_)
          rintro e w3 ⟨rfl, hj⟩
          have HJ3 := Lib.hid hj
          clear hj
          go_wp2
          go_ret
          exact ⟨by rw [HR.out]; rfl, HJ3.out⟩
      · have hq' : hasT t n = false := by simpa using hq
        rw [hq']
        have HR : Hid (isP t n = false) := Lib.hid (by unfold isP; rw [if_neg (show ¬ n < 0 by have := HC1.out; omega), if_pos ⟨by have := HC2.out; omega, hq'⟩])
        clear hq hq'
        go_wp2
        go_ret
        exact ⟨by rw [HR.out]; rfl, HJ2.out⟩
    · have d2 : decide (0 < n) = false := by simpa using c2
      have HC2 := Lib.hid c2
      clear c2
      go_enter Tryz.func39, Tryz.ntmps39
      by_cases c3 : n = 9223372036854775807
      · have d3 : (n == 9223372036854775807) = true := by simpa using c3
        have HR : Hid (isP t n = true) := Lib.hid (by unfold isP; rw [if_neg (show ¬ n < 0 by have := HC1.out; omega), if_neg (fun h => by have := HC2.out; have := h.1; omega), if_pos c3])
        clear c3
        go_wp2
        go_ret
        exact ⟨by rw [HR.out]; rfl, HJ.out⟩
      · have d3 : (n == 9223372036854775807) = false := by simpa using c3
        have HR : Hid (isP t n = !(hasT t (n + 1))) := Lib.hid (by unfold isP; rw [if_neg (show ¬ n < 0 by have := HC1.out; omega), if_neg (fun h => by have := HC2.out; have := h.1; omega), if_neg c3])
        have m1 : wrap64 (n + 1) = n + 1 := wrap64_id (by have := H64.out; unfold In64 at *; omega)
        clear c3
        go_wp2_with fail
        (with_reducible refine (HPRE.out (n + 1) _ HJ.out).mono ?_)
        rintro e w3 ⟨rfl, hj⟩
        have HJ3 := Lib.hid hj
        clear hj
        go_wp2
        go_ret
        exact ⟨by rw [HR.out]; rfl, HJ3.out⟩
section
variable {w0 w : World} {S : Nat → Prop} {hp a n : Nat} {t : Tbl} {hs : HS}
theorem BS.is (H : BS w0 S hp a t hs n w) (x : Int) (h64 : In64 x) : Calls Tryz.prog 39 #[.pointer (some ⟨a, 0, none⟩), .int .i64 x] w fun e w' => ∃ t', (e = .returned (.bool (isP t x)) ∧ t'.hint = t.hint) ∧ t'.p = t.p ∧ BS w0 S hp a t' hs n w' ∧ ∀ q, S q → w'.heap[q]? = w.heap[q]? := by
  refine BS.call (R := fun e t' => e = .returned (.bool (isP t x)) ∧ t'.hint = t.hint) H (fun s b g hT => ?_)
  refine (bord_Is a s b g hp t H.ok x h64 w hT).mono ?_
  rintro e w' ⟨he, ⟨pr, hT'⟩, hk⟩
  exact ⟨{ t with pr := pr }, ⟨he, rfl⟩, rfl, ⟨H.h0, H.h1⟩, hT', hk⟩
end
end Go.Proofs.YteheolefemlcgaaGreat
