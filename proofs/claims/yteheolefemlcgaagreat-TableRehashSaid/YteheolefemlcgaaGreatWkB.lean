/- A table of the walk's laws: Place, Places, List, Next beside what a call holds. -/
import Derived.Test.YteheolefemlcgaaGreatWkE
import Derived.Test.YteheolefemlcgaaGreatLawX
namespace Go.Proofs.YteheolefemlcgaaGreat
open Go.RowKit Go.Maps
set_option linter.unusedVariables false
set_option linter.unusedSimpArgs false

theorem nread_ph (t : Tbl) (k : V) : (t.nread k).p = t.p ∧ (t.nread k).hint = t.hint := by
  unfold Tbl.nread; split
  · exact read_ph t k
  · exact ⟨rfl, rfl⟩
section
variable {w0 w w' : World} {S : Nat → Prop} {hp a n : Nat} {t : Tbl} {hs : HS}
theorem BS.tab (H : BS w0 S hp a t hs n w) : ∃ s b g, TabIn w a s b g hp t := by
  obtain ⟨⟨F, D, E, h1, ⟨s, b, g, hT, hD⟩, -⟩, -, -⟩ := H.tt
  exact ⟨s, b, g, hT⟩
theorem BS.tb (H : BS w0 S hp a t hs n w) : Tb w (some ⟨a, 0, none⟩) t.p := by
  obtain ⟨s, b, g, hT⟩ := H.tab
  exact .inr ⟨a, s, b, g, hp, t, rfl, rfl, H.ok, hT⟩
theorem BS.place (H : BS w0 S hp a t hs n w) (kk kn : Int) (ks : ByteArray) :
    Calls Tryz.prog 31 #[.pointer (some ⟨a, 0, none⟩), .agg #[.int .i64 kk, .int .i64 kn, .string ks]] w fun e w' => ∃ t', (e = .returned (.int .i64 (t.p.place ⟨kk, kn, ks⟩)) ∧ t' = t.read ⟨kk, kn, ks⟩) ∧ t'.p = t.p ∧ BS w0 S hp a t' hs n w' ∧ ∀ q, S q → w'.heap[q]? = w.heap[q]? := by
  refine BS.call (R := fun e t' => e = .returned (.int .i64 (t.p.place ⟨kk, kn, ks⟩)) ∧ t' = t.read ⟨kk, kn, ks⟩) H (fun s b g hT => ?_)
  refine (tab_Place a s b g hp t kk kn ks H.ok w hT).mono ?_
  rintro e w' ⟨he, hT', hk⟩
  obtain ⟨e1, e2⟩ := read_ph t ⟨kk, kn, ks⟩
  exact ⟨_, ⟨he, rfl⟩, e1, ⟨by rw [e2]; exact H.h0, by rw [e2]; exact H.h1⟩, hT', hk⟩
theorem BS.next (H : BS w0 S hp a t hs n w) (kk kn : Int) (ks : ByteArray) (x : V × V) (er : Int) (hx : t.p.nextP ⟨kk, kn, ks⟩ = x) (he : t.p.nextE ⟨kk, kn, ks⟩ = er) :
    Calls Tryz.prog 24 #[.pointer (some ⟨a, 0, none⟩), .agg #[.int .i64 kk, .int .i64 kn, .string ks]] w fun e w' => ∃ t', (e = .returned (.tuple #[.agg #[.int .i64 x.1.k, .int .i64 x.1.n, .string x.1.s], .agg #[.int .i64 x.2.k, .int .i64 x.2.n, .string x.2.s], .int .i64 er]) ∧ t' = t.nread ⟨kk, kn, ks⟩) ∧ t'.p = t.p ∧ BS w0 S hp a t' hs n w' ∧ ∀ q, S q → w'.heap[q]? = w.heap[q]? := by
  subst hx he
  refine BS.call (R := fun e t' => e = .returned (.tuple #[vagg (t.p.nextP ⟨kk, kn, ks⟩).1, vagg (t.p.nextP ⟨kk, kn, ks⟩).2, .int .i64 (t.p.nextE ⟨kk, kn, ks⟩)]) ∧ t' = t.nread ⟨kk, kn, ks⟩) H (fun s b g hT => ?_)
  refine (walk_Next a s b g hp t kk kn ks H.ok w hT).mono ?_
  rintro e w' ⟨he, hT', hk⟩
  obtain ⟨e1, e2⟩ := nread_ph t ⟨kk, kn, ks⟩
  exact ⟨_, ⟨he, rfl⟩, e1, ⟨by rw [e2]; exact H.h0, by rw [e2]; exact H.h1⟩, hT', hk⟩
theorem BS.places (H : BS w0 S hp a t hs n w) (q : Int) (hq : ((t.p.tot : Nat) : Int) = q) :
    Calls Tryz.prog 75 #[.pointer (some ⟨a, 0, none⟩)] w fun e w' => e = .returned (.int .i64 q) ∧ Below w.heap.size w w' := by
  subst hq
  obtain ⟨s, b, g, hT⟩ := H.tab
  exact tab_Places a s b g hp t _ _ rfl rfl H.ok.sz H.ok.hg.sz w hT
theorem BS.list (H : BS w0 S hp a t hs n w) (l : List (V × V)) (hl : t.p.prs = l) :
    Calls Tryz.prog 27 #[.pointer (some ⟨a, 0, none⟩)] w fun e w' => ∃ v, e = .returned v ∧ PRow w.heap.size w' v l ∧ Below w.heap.size w w' := by
  subst hl
  exact walk_List _ _ w H.tb
end
end Go.Proofs.YteheolefemlcgaaGreat
