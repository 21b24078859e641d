/- Merged of Val, Box1, Box2, Box3, Box4. -/
import Derived.Test.YteheolefemlcgaaGreatNum
import Derived.Test.YteheolefemlcgaaGreatWords3
/- Values as plain data: in form, boxed, unboxed. -/
namespace Go.Proofs.YteheolefemlcgaaGreat
open Go.RowKit

/-- A value as plain data (api.Val). -/
structure V where
  k : Int
  n : Int
  s : ByteArray

def vv (v : V) : Value := .agg #[.int .i64 v.k, .int .i64 v.n, .string v.s]
def nilV : V := ⟨0, 0, ⟨#[]⟩⟩

/-- A value in its box. -/
inductive Bx where
  | nil
  | b (x : Bool)
  | i (n : Int)
  | s (t : ByteArray)
  | t (n : Int)
  | f (n : Int)
  | l (n : Int)

def bxv : Bx → Value
  | .nil => .nilIface
  | .b x => .iface 4 (.bool x)
  | .i n => .iface 3 (.int .i64 n)
  | .s t => .iface 9 (.string t)
  | .t n => .iface 173 (.int .i64 n)
  | .f n => .iface 174 (.int .i64 n)
  | .l n => .iface 175 (.int .i64 n)

def toBx (v : V) : Bx :=
  if v.k = 1 then .b (v.n == 1) else if v.k = 2 then .i v.n else if v.k = 3 then .s v.s else if v.k = 4 then .t v.n else if v.k = 5 then .f v.n else if v.k = 6 then .l v.n else .nil
def ofBx : Bx → V
  | .nil => nilV
  | .b x => ⟨1, if x then 1 else 0, ⟨#[]⟩⟩
  | .i n => ⟨2, n, ⟨#[]⟩⟩
  | .s t => ⟨3, 0, t⟩
  | .t n => ⟨4, n, ⟨#[]⟩⟩
  | .f n => ⟨5, n, ⟨#[]⟩⟩
  | .l n => ⟨6, n, ⟨#[]⟩⟩
def okV (v : V) : Bool :=
  if v.k = 0 then v.n == 0 && v.s.toList.isEmpty
  else if v.k = 1 then (v.n == 0 || v.n == 1) && v.s.toList.isEmpty
  else if v.k = 2 then v.s.toList.isEmpty
  else if v.k = 3 then v.n == 0 && decide ((v.s.size : Int) ≤ 10000)
  else if v.k = 4 ∨ v.k = 5 ∨ v.k = 6 then decide (1 ≤ v.n) && v.s.toList.isEmpty
  else false
theorem empty_of {s : ByteArray} (h : s.toList.isEmpty = true) : s = ⟨#[]⟩ := by
  rw [Lib.toList_data] at h
  have : s.data.toList = [] := by simpa using h
  cases s with
  | mk d => simp at this; rw [this]
theorem ofBx_toBx (v : V) (h : okV v = true) : ofBx (toBx v) = v := by
  obtain ⟨k, n, s⟩ := v
  unfold okV at h
  unfold toBx
  simp only at h ⊢
  by_cases h0 : k = 0
  · rw [if_pos h0] at h
    simp only [Bool.and_eq_true, beq_iff_eq] at h
    rw [if_neg (by omega), if_neg (by omega), if_neg (by omega), if_neg (by omega), if_neg (by omega), if_neg (by omega), empty_of h.2, h0, h.1]; rfl
  rw [if_neg h0] at h
  by_cases h1 : k = 1
  · rw [if_pos h1] at h
    simp only [Bool.and_eq_true, Bool.or_eq_true, beq_iff_eq] at h
    rw [if_pos h1, empty_of h.2, h1]
    rcases h.1 with e | e <;> rw [e] <;> rfl
  rw [if_neg h1] at h
  by_cases h2 : k = 2
  · rw [if_pos h2] at h
    rw [if_neg h1, if_pos h2, empty_of h, h2]; rfl
  rw [if_neg h2] at h
  by_cases h3 : k = 3
  · rw [if_pos h3] at h
    simp only [Bool.and_eq_true, beq_iff_eq] at h
    rw [if_neg h1, if_neg h2, if_pos h3, h3, h.1]; rfl
  rw [if_neg h3] at h
  by_cases h4 : k = 4 ∨ k = 5 ∨ k = 6
  · rw [if_pos h4] at h
    simp only [Bool.and_eq_true] at h
    rw [if_neg h1, if_neg h2, if_neg h3, empty_of h.2]
    rcases h4 with e | e | e <;> subst e <;> rfl
  · rw [if_neg h4] at h
    exact absurd h (by decide)
end Go.Proofs.YteheolefemlcgaaGreat
/- Contracts of the package box: a value put into its box. -/
namespace Go.Proofs.YteheolefemlcgaaGreat
open Go.RowKit
set_option linter.unusedVariables false
set_option linter.unusedSimpArgs false

theorem ret_vb {v v' : Value} {a b : Bool} (h1 : v = v') (h2 : a = b) : Ending.returned (.tuple #[v, .bool a]) = .returned (.tuple #[v', .bool b]) := by rw [h1, h2]
theorem below_one (w : World) (o : Obj) : Below w.heap.size w (w.alloc o) := (Below.refl _ _).alloc (Nat.le_refl _) _
set_option maxRecDepth 100000 in
theorem box_0 (n : Int) (s : ByteArray) (w : World) : Calls Tryz.prog 95 #[.agg #[.int .i64 0, .int .i64 n, .string s]] w fun e w' => e = .returned (.tuple #[Value.nilIface, .bool (n == 0 && s.toList.isEmpty)]) ∧ Below w.heap.size w w' := by
  have hu := Tryz.underlying35
  by_cases h0 : n = 0
  · have h1 : (n == 0) = true := by simpa using h0
    clear h0
    go_enter Tryz.func95, Tryz.ntmps95
    go_wp2
    go_ret2
    exact ⟨ret_vb rfl (by rw [h1]; rfl), (below_one _ _)⟩
  · have h1 : (n == 0) = false := by simpa using h0
    clear h0
    go_enter Tryz.func95, Tryz.ntmps95
    go_wp2
    go_ret2
    exact ⟨ret_vb rfl (by rw [h1]; rfl), (below_one _ _)⟩
set_option maxRecDepth 100000 in
theorem box_1 (n : Int) (s : ByteArray) (w : World) : Calls Tryz.prog 95 #[.agg #[.int .i64 1, .int .i64 n, .string s]] w fun e w' => e = .returned (.tuple #[Value.iface 4 (.bool (n == 1)), .bool ((n == 0 || n == 1) && s.toList.isEmpty)]) ∧ Below w.heap.size w w' := by
  have hu := Tryz.underlying35
  by_cases h0 : n = 0
  · have h1 : (n == 0) = true := by simpa using h0
    clear h0
    go_enter Tryz.func95, Tryz.ntmps95
    go_wp2
    go_quiet (fail)
    go_wp2
    go_ret2
    exact ⟨ret_vb rfl (by rw [h1]; rfl), (below_drewN (below_one _ _) _)⟩
  · have h1 : (n == 0) = false := by simpa using h0
    clear h0
    by_cases h2 : n = 1
    · have h3 : (n == 1) = true := by simpa using h2
      clear h2
      go_enter Tryz.func95, Tryz.ntmps95
      go_wp2
      go_quiet (fail)
      go_wp2
      go_ret2
      exact ⟨ret_vb (by rw [h3]; rfl) (by rw [h1, h3]; rfl), (below_drewN (below_one _ _) _)⟩
    · have h3 : (n == 1) = false := by simpa using h2
      clear h2
      go_enter Tryz.func95, Tryz.ntmps95
      go_wp2
      go_quiet (fail)
      go_wp2
      go_ret2
      exact ⟨ret_vb (by rw [h3]; rfl) (by rw [h1, h3]; rfl), (below_drewN (below_one _ _) _)⟩
set_option maxRecDepth 100000 in
theorem box_2 (n : Int) (s : ByteArray) (w : World) : Calls Tryz.prog 95 #[.agg #[.int .i64 2, .int .i64 n, .string s]] w fun e w' => e = .returned (.tuple #[Value.iface 3 (.int .i64 n), .bool s.toList.isEmpty]) ∧ Below w.heap.size w w' := by
  have hu := Tryz.underlying35
  by_cases h0 : n = 0
  · have h1 : (n == 0) = true := by simpa using h0
    clear h0
    go_enter Tryz.func95, Tryz.ntmps95
    go_wp2
    go_quiet (fail)
    go_wp2
    go_ret2
    exact ⟨ret_vb rfl rfl, (below_drewN (below_one _ _) _)⟩
  · have h1 : (n == 0) = false := by simpa using h0
    clear h0
    go_enter Tryz.func95, Tryz.ntmps95
    go_wp2
    go_quiet (fail)
    go_wp2
    go_ret2
    exact ⟨ret_vb rfl rfl, (below_drewN (below_one _ _) _)⟩
set_option maxRecDepth 100000 in
theorem box_3 (n : Int) (s : ByteArray) (w : World) : Calls Tryz.prog 95 #[.agg #[.int .i64 3, .int .i64 n, .string s]] w fun e w' => e = .returned (.tuple #[Value.iface 9 (.string s), .bool (n == 0 && decide ((s.size : Int) ≤ 10000))]) ∧ Below w.heap.size w w' := by
  have hu := Tryz.underlying35
  by_cases h0 : n = 0
  · have h1 : (n == 0) = true := by simpa using h0
    clear h0
    go_enter Tryz.func95, Tryz.ntmps95
    go_wp2
    go_quiet (fail)
    go_wp2
    go_ret2
    exact ⟨ret_vb rfl (by rw [h1]; rfl), (below_drewN (below_one _ _) _)⟩
  · have h1 : (n == 0) = false := by simpa using h0
    clear h0
    go_enter Tryz.func95, Tryz.ntmps95
    go_wp2
    go_quiet (fail)
    go_wp2
    go_ret2
    exact ⟨ret_vb rfl (by rw [h1]; rfl), (below_drewN (below_one _ _) _)⟩
set_option maxRecDepth 100000 in
theorem box_4 (n : Int) (s : ByteArray) (w : World) : Calls Tryz.prog 95 #[.agg #[.int .i64 4, .int .i64 n, .string s]] w fun e w' => e = .returned (.tuple #[Value.iface 173 (.int .i64 n), .bool (decide (1 ≤ n) && s.toList.isEmpty)]) ∧ Below w.heap.size w w' := by
  have hu := Tryz.underlying35
  by_cases h2 : 1 ≤ n
  · have h3 : decide (1 ≤ n) = true := by simpa using h2
    have h1 : (n == 0) = false := by simp; omega
    go_enter Tryz.func95, Tryz.ntmps95
    go_wp2
    go_quiet (fail)
    go_wp2
    go_ret2
    exact ⟨ret_vb rfl (by rw [h3]; rfl), (below_drewN (below_one _ _) _)⟩
  · have h3 : decide (1 ≤ n) = false := by simpa using h2
    obtain ⟨t0, h1⟩ : ∃ t, (n == 0) = t := ⟨_, rfl⟩
    cases t0
    · go_enter Tryz.func95, Tryz.ntmps95
      go_wp2
      go_quiet (fail)
      go_wp2
      go_ret2
      exact ⟨ret_vb rfl (by rw [h3]; rfl), (below_drewN (below_one _ _) _)⟩
    · go_enter Tryz.func95, Tryz.ntmps95
      go_wp2
      go_quiet (fail)
      go_wp2
      go_ret2
      exact ⟨ret_vb rfl (by rw [h3]; rfl), (below_drewN (below_one _ _) _)⟩
set_option maxRecDepth 100000 in
theorem box_5 (n : Int) (s : ByteArray) (w : World) : Calls Tryz.prog 95 #[.agg #[.int .i64 5, .int .i64 n, .string s]] w fun e w' => e = .returned (.tuple #[Value.iface 174 (.int .i64 n), .bool (decide (1 ≤ n) && s.toList.isEmpty)]) ∧ Below w.heap.size w w' := by
  have hu := Tryz.underlying35
  by_cases h2 : 1 ≤ n
  · have h3 : decide (1 ≤ n) = true := by simpa using h2
    have h1 : (n == 0) = false := by simp; omega
    go_enter Tryz.func95, Tryz.ntmps95
    go_wp2
    go_quiet (fail)
    go_wp2
    go_ret2
    exact ⟨ret_vb rfl (by rw [h3]; rfl), (below_drewN (below_one _ _) _)⟩
  · have h3 : decide (1 ≤ n) = false := by simpa using h2
    obtain ⟨t0, h1⟩ : ∃ t, (n == 0) = t := ⟨_, rfl⟩
    cases t0
    · go_enter Tryz.func95, Tryz.ntmps95
      go_wp2
      go_quiet (fail)
      go_wp2
      go_ret2
      exact ⟨ret_vb rfl (by rw [h3]; rfl), (below_drewN (below_one _ _) _)⟩
    · go_enter Tryz.func95, Tryz.ntmps95
      go_wp2
      go_quiet (fail)
      go_wp2
      go_ret2
      exact ⟨ret_vb rfl (by rw [h3]; rfl), (below_drewN (below_one _ _) _)⟩
set_option maxRecDepth 100000 in
theorem box_6 (n : Int) (s : ByteArray) (w : World) : Calls Tryz.prog 95 #[.agg #[.int .i64 6, .int .i64 n, .string s]] w fun e w' => e = .returned (.tuple #[Value.iface 175 (.int .i64 n), .bool (decide (1 ≤ n) && s.toList.isEmpty)]) ∧ Below w.heap.size w w' := by
  have hu := Tryz.underlying35
  by_cases h2 : 1 ≤ n
  · have h3 : decide (1 ≤ n) = true := by simpa using h2
    have h1 : (n == 0) = false := by simp; omega
    go_enter Tryz.func95, Tryz.ntmps95
    go_wp2
    go_quiet (fail)
    go_wp2
    go_ret2
    exact ⟨ret_vb rfl (by rw [h3]; rfl), (below_drewN (below_one _ _) _)⟩
  · have h3 : decide (1 ≤ n) = false := by simpa using h2
    obtain ⟨t0, h1⟩ : ∃ t, (n == 0) = t := ⟨_, rfl⟩
    cases t0
    · go_enter Tryz.func95, Tryz.ntmps95
      go_wp2
      go_quiet (fail)
      go_wp2
      go_ret2
      exact ⟨ret_vb rfl (by rw [h3]; rfl), (below_drewN (below_one _ _) _)⟩
    · go_enter Tryz.func95, Tryz.ntmps95
      go_wp2
      go_quiet (fail)
      go_wp2
      go_ret2
      exact ⟨ret_vb rfl (by rw [h3]; rfl), (below_drewN (below_one _ _) _)⟩
set_option maxRecDepth 100000 in
theorem box_else (k n : Int) (s : ByteArray) (w : World) (e0 : k ≠ 0) (e1 : k ≠ 1) (e2 : k ≠ 2) (e3 : k ≠ 3) (e4 : k ≠ 4) (e5 : k ≠ 5) (e6 : k ≠ 6) :
    Calls Tryz.prog 95 #[.agg #[.int .i64 k, .int .i64 n, .string s]] w fun e w' => e = .returned (.tuple #[.nilIface, .bool false]) ∧ Below w.heap.size w w' := by
  have hu := Tryz.underlying35
  have f0 : (k == 0) = false := by simpa using e0
  have f1 : (k == 1) = false := by simpa using e1
  have f2 : (k == 2) = false := by simpa using e2
  have f3 : (k == 3) = false := by simpa using e3
  have f4 : (k == 4) = false := by simpa using e4
  have f5 : (k == 5) = false := by simpa using e5
  have f6 : (k == 6) = false := by simpa using e6
  obtain ⟨t0, h1⟩ : ∃ t, (n == 0) = t := ⟨_, rfl⟩
  clear e0 e1 e2 e3 e4 e5 e6
  cases t0
  all_goals go_enter Tryz.func95, Tryz.ntmps95
  all_goals go_wp2
  all_goals go_ret2
  all_goals exact ⟨ret_vb rfl rfl, below_one _ _⟩
/-- Whatever value: its box, and whether it is in form. -/
theorem box_any (v : V) (w : World) : Calls Tryz.prog 95 #[vv v] w fun e w' => e = .returned (.tuple #[bxv (toBx v), .bool (okV v)]) ∧ Below w.heap.size w w' := by
  obtain ⟨k, n, s⟩ := v
  unfold vv toBx okV
  simp only
  by_cases h1 : k = 1
  · subst h1; exact box_1 n s w
  by_cases h2 : k = 2
  · subst h2; exact box_2 n s w
  by_cases h3 : k = 3
  · subst h3; exact box_3 n s w
  by_cases h4 : k = 4
  · subst h4; exact box_4 n s w
  by_cases h5 : k = 5
  · subst h5; exact box_5 n s w
  by_cases h6 : k = 6
  · subst h6; exact box_6 n s w
  by_cases h0 : k = 0
  · subst h0; exact box_0 n s w
  rw [if_neg h1, if_neg h2, if_neg h3, if_neg h4, if_neg h5, if_neg h6, if_neg h0, if_neg h1, if_neg h2, if_neg h3, if_neg (by omega)]
  exact box_else k n s w h0 h1 h2 h3 h4 h5 h6
end Go.Proofs.YteheolefemlcgaaGreat
/- Contracts of the package box: taken out of its box; of which kind it is. -/
namespace Go.Proofs.YteheolefemlcgaaGreat
open Go.RowKit
set_option linter.unusedVariables false
set_option linter.unusedSimpArgs false

/-! Type assertions with 'ok'. -/
set_option maxRecDepth 100000 in
theorem ta_nil_b (W : World) : (Instr.typeAssert .nilIface 20 4 true).run Tryz.prog W = .ok (.tuple #[.bool false, .bool false]) W := by kernel_rfl
set_option maxRecDepth 100000 in
theorem ta_b_b (x : Bool) (W : World) : (Instr.typeAssert (.iface 4 (.bool x)) 20 4 true).run Tryz.prog W = .ok (.tuple #[.bool x, .bool true]) W := by kernel_rfl
set_option maxRecDepth 100000 in
theorem ta_i_b (n : Int) (W : World) : (Instr.typeAssert (.iface 3 (.int .i64 n)) 20 4 true).run Tryz.prog W = .ok (.tuple #[.bool false, .bool false]) W := by kernel_rfl
set_option maxRecDepth 100000 in
theorem ta_s_b (t : ByteArray) (W : World) : (Instr.typeAssert (.iface 9 (.string t)) 20 4 true).run Tryz.prog W = .ok (.tuple #[.bool false, .bool false]) W := by kernel_rfl
set_option maxRecDepth 100000 in
theorem ta_t_b (n : Int) (W : World) : (Instr.typeAssert (.iface 173 (.int .i64 n)) 20 4 true).run Tryz.prog W = .ok (.tuple #[.bool false, .bool false]) W := by kernel_rfl
set_option maxRecDepth 100000 in
theorem ta_f_b (n : Int) (W : World) : (Instr.typeAssert (.iface 174 (.int .i64 n)) 20 4 true).run Tryz.prog W = .ok (.tuple #[.bool false, .bool false]) W := by kernel_rfl
set_option maxRecDepth 100000 in
theorem ta_l_b (n : Int) (W : World) : (Instr.typeAssert (.iface 175 (.int .i64 n)) 20 4 true).run Tryz.prog W = .ok (.tuple #[.bool false, .bool false]) W := by kernel_rfl
set_option maxRecDepth 100000 in
theorem ta_nil_i (W : World) : (Instr.typeAssert .nilIface 20 3 true).run Tryz.prog W = .ok (.tuple #[.int .i64 0, .bool false]) W := by kernel_rfl
set_option maxRecDepth 100000 in
theorem ta_b_i (x : Bool) (W : World) : (Instr.typeAssert (.iface 4 (.bool x)) 20 3 true).run Tryz.prog W = .ok (.tuple #[.int .i64 0, .bool false]) W := by kernel_rfl
set_option maxRecDepth 100000 in
theorem ta_i_i (n : Int) (W : World) : (Instr.typeAssert (.iface 3 (.int .i64 n)) 20 3 true).run Tryz.prog W = .ok (.tuple #[.int .i64 n, .bool true]) W := by kernel_rfl
set_option maxRecDepth 100000 in
theorem ta_s_i (t : ByteArray) (W : World) : (Instr.typeAssert (.iface 9 (.string t)) 20 3 true).run Tryz.prog W = .ok (.tuple #[.int .i64 0, .bool false]) W := by kernel_rfl
set_option maxRecDepth 100000 in
theorem ta_t_i (n : Int) (W : World) : (Instr.typeAssert (.iface 173 (.int .i64 n)) 20 3 true).run Tryz.prog W = .ok (.tuple #[.int .i64 0, .bool false]) W := by kernel_rfl
set_option maxRecDepth 100000 in
theorem ta_f_i (n : Int) (W : World) : (Instr.typeAssert (.iface 174 (.int .i64 n)) 20 3 true).run Tryz.prog W = .ok (.tuple #[.int .i64 0, .bool false]) W := by kernel_rfl
set_option maxRecDepth 100000 in
theorem ta_l_i (n : Int) (W : World) : (Instr.typeAssert (.iface 175 (.int .i64 n)) 20 3 true).run Tryz.prog W = .ok (.tuple #[.int .i64 0, .bool false]) W := by kernel_rfl
set_option maxRecDepth 100000 in
theorem ta_nil_s (W : World) : (Instr.typeAssert .nilIface 20 9 true).run Tryz.prog W = .ok (.tuple #[.string ⟨#[]⟩, .bool false]) W := by kernel_rfl
set_option maxRecDepth 100000 in
theorem ta_b_s (x : Bool) (W : World) : (Instr.typeAssert (.iface 4 (.bool x)) 20 9 true).run Tryz.prog W = .ok (.tuple #[.string ⟨#[]⟩, .bool false]) W := by kernel_rfl
set_option maxRecDepth 100000 in
theorem ta_i_s (n : Int) (W : World) : (Instr.typeAssert (.iface 3 (.int .i64 n)) 20 9 true).run Tryz.prog W = .ok (.tuple #[.string ⟨#[]⟩, .bool false]) W := by kernel_rfl
set_option maxRecDepth 100000 in
theorem ta_s_s (t : ByteArray) (W : World) : (Instr.typeAssert (.iface 9 (.string t)) 20 9 true).run Tryz.prog W = .ok (.tuple #[.string t, .bool true]) W := by kernel_rfl
set_option maxRecDepth 100000 in
theorem ta_t_s (n : Int) (W : World) : (Instr.typeAssert (.iface 173 (.int .i64 n)) 20 9 true).run Tryz.prog W = .ok (.tuple #[.string ⟨#[]⟩, .bool false]) W := by kernel_rfl
set_option maxRecDepth 100000 in
theorem ta_f_s (n : Int) (W : World) : (Instr.typeAssert (.iface 174 (.int .i64 n)) 20 9 true).run Tryz.prog W = .ok (.tuple #[.string ⟨#[]⟩, .bool false]) W := by kernel_rfl
set_option maxRecDepth 100000 in
theorem ta_l_s (n : Int) (W : World) : (Instr.typeAssert (.iface 175 (.int .i64 n)) 20 9 true).run Tryz.prog W = .ok (.tuple #[.string ⟨#[]⟩, .bool false]) W := by kernel_rfl
set_option maxRecDepth 100000 in
theorem ta_nil_t (W : World) : (Instr.typeAssert .nilIface 20 173 true).run Tryz.prog W = .ok (.tuple #[.int .i64 0, .bool false]) W := by kernel_rfl
set_option maxRecDepth 100000 in
theorem ta_b_t (x : Bool) (W : World) : (Instr.typeAssert (.iface 4 (.bool x)) 20 173 true).run Tryz.prog W = .ok (.tuple #[.int .i64 0, .bool false]) W := by kernel_rfl
set_option maxRecDepth 100000 in
theorem ta_i_t (n : Int) (W : World) : (Instr.typeAssert (.iface 3 (.int .i64 n)) 20 173 true).run Tryz.prog W = .ok (.tuple #[.int .i64 0, .bool false]) W := by kernel_rfl
set_option maxRecDepth 100000 in
theorem ta_s_t (t : ByteArray) (W : World) : (Instr.typeAssert (.iface 9 (.string t)) 20 173 true).run Tryz.prog W = .ok (.tuple #[.int .i64 0, .bool false]) W := by kernel_rfl
set_option maxRecDepth 100000 in
theorem ta_t_t (n : Int) (W : World) : (Instr.typeAssert (.iface 173 (.int .i64 n)) 20 173 true).run Tryz.prog W = .ok (.tuple #[.int .i64 n, .bool true]) W := by kernel_rfl
set_option maxRecDepth 100000 in
theorem ta_f_t (n : Int) (W : World) : (Instr.typeAssert (.iface 174 (.int .i64 n)) 20 173 true).run Tryz.prog W = .ok (.tuple #[.int .i64 0, .bool false]) W := by kernel_rfl
set_option maxRecDepth 100000 in
theorem ta_l_t (n : Int) (W : World) : (Instr.typeAssert (.iface 175 (.int .i64 n)) 20 173 true).run Tryz.prog W = .ok (.tuple #[.int .i64 0, .bool false]) W := by kernel_rfl
set_option maxRecDepth 100000 in
theorem ta_nil_f (W : World) : (Instr.typeAssert .nilIface 20 174 true).run Tryz.prog W = .ok (.tuple #[.int .i64 0, .bool false]) W := by kernel_rfl
set_option maxRecDepth 100000 in
theorem ta_b_f (x : Bool) (W : World) : (Instr.typeAssert (.iface 4 (.bool x)) 20 174 true).run Tryz.prog W = .ok (.tuple #[.int .i64 0, .bool false]) W := by kernel_rfl
set_option maxRecDepth 100000 in
theorem ta_i_f (n : Int) (W : World) : (Instr.typeAssert (.iface 3 (.int .i64 n)) 20 174 true).run Tryz.prog W = .ok (.tuple #[.int .i64 0, .bool false]) W := by kernel_rfl
set_option maxRecDepth 100000 in
theorem ta_s_f (t : ByteArray) (W : World) : (Instr.typeAssert (.iface 9 (.string t)) 20 174 true).run Tryz.prog W = .ok (.tuple #[.int .i64 0, .bool false]) W := by kernel_rfl
set_option maxRecDepth 100000 in
theorem ta_t_f (n : Int) (W : World) : (Instr.typeAssert (.iface 173 (.int .i64 n)) 20 174 true).run Tryz.prog W = .ok (.tuple #[.int .i64 0, .bool false]) W := by kernel_rfl
set_option maxRecDepth 100000 in
theorem ta_f_f (n : Int) (W : World) : (Instr.typeAssert (.iface 174 (.int .i64 n)) 20 174 true).run Tryz.prog W = .ok (.tuple #[.int .i64 n, .bool true]) W := by kernel_rfl
set_option maxRecDepth 100000 in
theorem ta_l_f (n : Int) (W : World) : (Instr.typeAssert (.iface 175 (.int .i64 n)) 20 174 true).run Tryz.prog W = .ok (.tuple #[.int .i64 0, .bool false]) W := by kernel_rfl
set_option maxRecDepth 100000 in
theorem ta_nil_l (W : World) : (Instr.typeAssert .nilIface 20 175 true).run Tryz.prog W = .ok (.tuple #[.int .i64 0, .bool false]) W := by kernel_rfl
set_option maxRecDepth 100000 in
theorem ta_b_l (x : Bool) (W : World) : (Instr.typeAssert (.iface 4 (.bool x)) 20 175 true).run Tryz.prog W = .ok (.tuple #[.int .i64 0, .bool false]) W := by kernel_rfl
set_option maxRecDepth 100000 in
theorem ta_i_l (n : Int) (W : World) : (Instr.typeAssert (.iface 3 (.int .i64 n)) 20 175 true).run Tryz.prog W = .ok (.tuple #[.int .i64 0, .bool false]) W := by kernel_rfl
set_option maxRecDepth 100000 in
theorem ta_s_l (t : ByteArray) (W : World) : (Instr.typeAssert (.iface 9 (.string t)) 20 175 true).run Tryz.prog W = .ok (.tuple #[.int .i64 0, .bool false]) W := by kernel_rfl
set_option maxRecDepth 100000 in
theorem ta_t_l (n : Int) (W : World) : (Instr.typeAssert (.iface 173 (.int .i64 n)) 20 175 true).run Tryz.prog W = .ok (.tuple #[.int .i64 0, .bool false]) W := by kernel_rfl
set_option maxRecDepth 100000 in
theorem ta_f_l (n : Int) (W : World) : (Instr.typeAssert (.iface 174 (.int .i64 n)) 20 175 true).run Tryz.prog W = .ok (.tuple #[.int .i64 0, .bool false]) W := by kernel_rfl
set_option maxRecDepth 100000 in
theorem ta_l_l (n : Int) (W : World) : (Instr.typeAssert (.iface 175 (.int .i64 n)) 20 175 true).run Tryz.prog W = .ok (.tuple #[.int .i64 n, .bool true]) W := by kernel_rfl
/-- Is the box of that kind? -/
def Bx.kind : Bx → Int
  | .nil => 0 | .b _ => 1 | .i _ => 2 | .s _ => 3 | .t _ => 4 | .f _ => 5 | .l _ => 6
def kindIn (k : Int) : Prop := 0 ≤ k ∧ k ≤ 6
end Go.Proofs.YteheolefemlcgaaGreat
/- Contracts of the package box: what has to be of a kind. -/
namespace Go.Proofs.YteheolefemlcgaaGreat
open Go.RowKit
set_option linter.unusedVariables false
set_option linter.unusedSimpArgs false

/-! Type assertions without 'ok'. -/
set_option maxRecDepth 100000 in
theorem tv_nil_b (W : World) : (Instr.typeAssert (.nilIface) 20 4 false).run Tryz.prog W = .halt (.panic (.iface 15 (.pointer (some ⟨W.heap.size, 0, none⟩)))) (W.alloc (.cells #[typeHandle Tryz.prog 20, Value.pointer none, typeHandle Tryz.prog 4, strVal ""] 218)) := by kernel_rfl
set_option maxRecDepth 100000 in
theorem tv_nil_i (W : World) : (Instr.typeAssert (.nilIface) 20 3 false).run Tryz.prog W = .halt (.panic (.iface 15 (.pointer (some ⟨W.heap.size, 0, none⟩)))) (W.alloc (.cells #[typeHandle Tryz.prog 20, Value.pointer none, typeHandle Tryz.prog 3, strVal ""] 218)) := by kernel_rfl
set_option maxRecDepth 100000 in
theorem tv_nil_s (W : World) : (Instr.typeAssert (.nilIface) 20 9 false).run Tryz.prog W = .halt (.panic (.iface 15 (.pointer (some ⟨W.heap.size, 0, none⟩)))) (W.alloc (.cells #[typeHandle Tryz.prog 20, Value.pointer none, typeHandle Tryz.prog 9, strVal ""] 218)) := by kernel_rfl
set_option maxRecDepth 100000 in
theorem tv_nil_t (W : World) : (Instr.typeAssert (.nilIface) 20 173 false).run Tryz.prog W = .halt (.panic (.iface 15 (.pointer (some ⟨W.heap.size, 0, none⟩)))) (W.alloc (.cells #[typeHandle Tryz.prog 20, Value.pointer none, typeHandle Tryz.prog 173, strVal ""] 218)) := by kernel_rfl
set_option maxRecDepth 100000 in
theorem tv_nil_f (W : World) : (Instr.typeAssert (.nilIface) 20 174 false).run Tryz.prog W = .halt (.panic (.iface 15 (.pointer (some ⟨W.heap.size, 0, none⟩)))) (W.alloc (.cells #[typeHandle Tryz.prog 20, Value.pointer none, typeHandle Tryz.prog 174, strVal ""] 218)) := by kernel_rfl
set_option maxRecDepth 100000 in
theorem tv_nil_l (W : World) : (Instr.typeAssert (.nilIface) 20 175 false).run Tryz.prog W = .halt (.panic (.iface 15 (.pointer (some ⟨W.heap.size, 0, none⟩)))) (W.alloc (.cells #[typeHandle Tryz.prog 20, Value.pointer none, typeHandle Tryz.prog 175, strVal ""] 218)) := by kernel_rfl
set_option maxRecDepth 100000 in
theorem tv_b_b (x : Bool) (W : World) : (Instr.typeAssert (.iface 4 (.bool x)) 20 4 false).run Tryz.prog W = .ok (.bool x) W := by kernel_rfl
set_option maxRecDepth 100000 in
theorem tv_b_i (x : Bool) (W : World) : (Instr.typeAssert (.iface 4 (.bool x)) 20 3 false).run Tryz.prog W = .halt (.panic (.iface 15 (.pointer (some ⟨W.heap.size, 0, none⟩)))) (W.alloc (.cells #[typeHandle Tryz.prog 20, typeHandle Tryz.prog 4, typeHandle Tryz.prog 3, strVal ""] 218)) := by kernel_rfl
set_option maxRecDepth 100000 in
theorem tv_b_s (x : Bool) (W : World) : (Instr.typeAssert (.iface 4 (.bool x)) 20 9 false).run Tryz.prog W = .halt (.panic (.iface 15 (.pointer (some ⟨W.heap.size, 0, none⟩)))) (W.alloc (.cells #[typeHandle Tryz.prog 20, typeHandle Tryz.prog 4, typeHandle Tryz.prog 9, strVal ""] 218)) := by kernel_rfl
set_option maxRecDepth 100000 in
theorem tv_b_t (x : Bool) (W : World) : (Instr.typeAssert (.iface 4 (.bool x)) 20 173 false).run Tryz.prog W = .halt (.panic (.iface 15 (.pointer (some ⟨W.heap.size, 0, none⟩)))) (W.alloc (.cells #[typeHandle Tryz.prog 20, typeHandle Tryz.prog 4, typeHandle Tryz.prog 173, strVal ""] 218)) := by kernel_rfl
set_option maxRecDepth 100000 in
theorem tv_b_f (x : Bool) (W : World) : (Instr.typeAssert (.iface 4 (.bool x)) 20 174 false).run Tryz.prog W = .halt (.panic (.iface 15 (.pointer (some ⟨W.heap.size, 0, none⟩)))) (W.alloc (.cells #[typeHandle Tryz.prog 20, typeHandle Tryz.prog 4, typeHandle Tryz.prog 174, strVal ""] 218)) := by kernel_rfl
set_option maxRecDepth 100000 in
theorem tv_b_l (x : Bool) (W : World) : (Instr.typeAssert (.iface 4 (.bool x)) 20 175 false).run Tryz.prog W = .halt (.panic (.iface 15 (.pointer (some ⟨W.heap.size, 0, none⟩)))) (W.alloc (.cells #[typeHandle Tryz.prog 20, typeHandle Tryz.prog 4, typeHandle Tryz.prog 175, strVal ""] 218)) := by kernel_rfl
set_option maxRecDepth 100000 in
theorem tv_i_b (n : Int) (W : World) : (Instr.typeAssert (.iface 3 (.int .i64 n)) 20 4 false).run Tryz.prog W = .halt (.panic (.iface 15 (.pointer (some ⟨W.heap.size, 0, none⟩)))) (W.alloc (.cells #[typeHandle Tryz.prog 20, typeHandle Tryz.prog 3, typeHandle Tryz.prog 4, strVal ""] 218)) := by kernel_rfl
set_option maxRecDepth 100000 in
theorem tv_i_i (n : Int) (W : World) : (Instr.typeAssert (.iface 3 (.int .i64 n)) 20 3 false).run Tryz.prog W = .ok (.int .i64 n) W := by kernel_rfl
set_option maxRecDepth 100000 in
theorem tv_i_s (n : Int) (W : World) : (Instr.typeAssert (.iface 3 (.int .i64 n)) 20 9 false).run Tryz.prog W = .halt (.panic (.iface 15 (.pointer (some ⟨W.heap.size, 0, none⟩)))) (W.alloc (.cells #[typeHandle Tryz.prog 20, typeHandle Tryz.prog 3, typeHandle Tryz.prog 9, strVal ""] 218)) := by kernel_rfl
set_option maxRecDepth 100000 in
theorem tv_i_t (n : Int) (W : World) : (Instr.typeAssert (.iface 3 (.int .i64 n)) 20 173 false).run Tryz.prog W = .halt (.panic (.iface 15 (.pointer (some ⟨W.heap.size, 0, none⟩)))) (W.alloc (.cells #[typeHandle Tryz.prog 20, typeHandle Tryz.prog 3, typeHandle Tryz.prog 173, strVal ""] 218)) := by kernel_rfl
set_option maxRecDepth 100000 in
theorem tv_i_f (n : Int) (W : World) : (Instr.typeAssert (.iface 3 (.int .i64 n)) 20 174 false).run Tryz.prog W = .halt (.panic (.iface 15 (.pointer (some ⟨W.heap.size, 0, none⟩)))) (W.alloc (.cells #[typeHandle Tryz.prog 20, typeHandle Tryz.prog 3, typeHandle Tryz.prog 174, strVal ""] 218)) := by kernel_rfl
set_option maxRecDepth 100000 in
theorem tv_i_l (n : Int) (W : World) : (Instr.typeAssert (.iface 3 (.int .i64 n)) 20 175 false).run Tryz.prog W = .halt (.panic (.iface 15 (.pointer (some ⟨W.heap.size, 0, none⟩)))) (W.alloc (.cells #[typeHandle Tryz.prog 20, typeHandle Tryz.prog 3, typeHandle Tryz.prog 175, strVal ""] 218)) := by kernel_rfl
set_option maxRecDepth 100000 in
theorem tv_s_b (t : ByteArray) (W : World) : (Instr.typeAssert (.iface 9 (.string t)) 20 4 false).run Tryz.prog W = .halt (.panic (.iface 15 (.pointer (some ⟨W.heap.size, 0, none⟩)))) (W.alloc (.cells #[typeHandle Tryz.prog 20, typeHandle Tryz.prog 9, typeHandle Tryz.prog 4, strVal ""] 218)) := by kernel_rfl
set_option maxRecDepth 100000 in
theorem tv_s_i (t : ByteArray) (W : World) : (Instr.typeAssert (.iface 9 (.string t)) 20 3 false).run Tryz.prog W = .halt (.panic (.iface 15 (.pointer (some ⟨W.heap.size, 0, none⟩)))) (W.alloc (.cells #[typeHandle Tryz.prog 20, typeHandle Tryz.prog 9, typeHandle Tryz.prog 3, strVal ""] 218)) := by kernel_rfl
set_option maxRecDepth 100000 in
theorem tv_s_s (t : ByteArray) (W : World) : (Instr.typeAssert (.iface 9 (.string t)) 20 9 false).run Tryz.prog W = .ok (.string t) W := by kernel_rfl
set_option maxRecDepth 100000 in
theorem tv_s_t (t : ByteArray) (W : World) : (Instr.typeAssert (.iface 9 (.string t)) 20 173 false).run Tryz.prog W = .halt (.panic (.iface 15 (.pointer (some ⟨W.heap.size, 0, none⟩)))) (W.alloc (.cells #[typeHandle Tryz.prog 20, typeHandle Tryz.prog 9, typeHandle Tryz.prog 173, strVal ""] 218)) := by kernel_rfl
set_option maxRecDepth 100000 in
theorem tv_s_f (t : ByteArray) (W : World) : (Instr.typeAssert (.iface 9 (.string t)) 20 174 false).run Tryz.prog W = .halt (.panic (.iface 15 (.pointer (some ⟨W.heap.size, 0, none⟩)))) (W.alloc (.cells #[typeHandle Tryz.prog 20, typeHandle Tryz.prog 9, typeHandle Tryz.prog 174, strVal ""] 218)) := by kernel_rfl
set_option maxRecDepth 100000 in
theorem tv_s_l (t : ByteArray) (W : World) : (Instr.typeAssert (.iface 9 (.string t)) 20 175 false).run Tryz.prog W = .halt (.panic (.iface 15 (.pointer (some ⟨W.heap.size, 0, none⟩)))) (W.alloc (.cells #[typeHandle Tryz.prog 20, typeHandle Tryz.prog 9, typeHandle Tryz.prog 175, strVal ""] 218)) := by kernel_rfl
set_option maxRecDepth 100000 in
theorem tv_t_b (n : Int) (W : World) : (Instr.typeAssert (.iface 173 (.int .i64 n)) 20 4 false).run Tryz.prog W = .halt (.panic (.iface 15 (.pointer (some ⟨W.heap.size, 0, none⟩)))) (W.alloc (.cells #[typeHandle Tryz.prog 20, typeHandle Tryz.prog 173, typeHandle Tryz.prog 4, strVal ""] 218)) := by kernel_rfl
set_option maxRecDepth 100000 in
theorem tv_t_i (n : Int) (W : World) : (Instr.typeAssert (.iface 173 (.int .i64 n)) 20 3 false).run Tryz.prog W = .halt (.panic (.iface 15 (.pointer (some ⟨W.heap.size, 0, none⟩)))) (W.alloc (.cells #[typeHandle Tryz.prog 20, typeHandle Tryz.prog 173, typeHandle Tryz.prog 3, strVal ""] 218)) := by kernel_rfl
set_option maxRecDepth 100000 in
theorem tv_t_s (n : Int) (W : World) : (Instr.typeAssert (.iface 173 (.int .i64 n)) 20 9 false).run Tryz.prog W = .halt (.panic (.iface 15 (.pointer (some ⟨W.heap.size, 0, none⟩)))) (W.alloc (.cells #[typeHandle Tryz.prog 20, typeHandle Tryz.prog 173, typeHandle Tryz.prog 9, strVal ""] 218)) := by kernel_rfl
set_option maxRecDepth 100000 in
theorem tv_t_t (n : Int) (W : World) : (Instr.typeAssert (.iface 173 (.int .i64 n)) 20 173 false).run Tryz.prog W = .ok (.int .i64 n) W := by kernel_rfl
set_option maxRecDepth 100000 in
theorem tv_t_f (n : Int) (W : World) : (Instr.typeAssert (.iface 173 (.int .i64 n)) 20 174 false).run Tryz.prog W = .halt (.panic (.iface 15 (.pointer (some ⟨W.heap.size, 0, none⟩)))) (W.alloc (.cells #[typeHandle Tryz.prog 20, typeHandle Tryz.prog 173, typeHandle Tryz.prog 174, strVal ""] 218)) := by kernel_rfl
set_option maxRecDepth 100000 in
theorem tv_t_l (n : Int) (W : World) : (Instr.typeAssert (.iface 173 (.int .i64 n)) 20 175 false).run Tryz.prog W = .halt (.panic (.iface 15 (.pointer (some ⟨W.heap.size, 0, none⟩)))) (W.alloc (.cells #[typeHandle Tryz.prog 20, typeHandle Tryz.prog 173, typeHandle Tryz.prog 175, strVal ""] 218)) := by kernel_rfl
set_option maxRecDepth 100000 in
theorem tv_f_b (n : Int) (W : World) : (Instr.typeAssert (.iface 174 (.int .i64 n)) 20 4 false).run Tryz.prog W = .halt (.panic (.iface 15 (.pointer (some ⟨W.heap.size, 0, none⟩)))) (W.alloc (.cells #[typeHandle Tryz.prog 20, typeHandle Tryz.prog 174, typeHandle Tryz.prog 4, strVal ""] 218)) := by kernel_rfl
set_option maxRecDepth 100000 in
theorem tv_f_i (n : Int) (W : World) : (Instr.typeAssert (.iface 174 (.int .i64 n)) 20 3 false).run Tryz.prog W = .halt (.panic (.iface 15 (.pointer (some ⟨W.heap.size, 0, none⟩)))) (W.alloc (.cells #[typeHandle Tryz.prog 20, typeHandle Tryz.prog 174, typeHandle Tryz.prog 3, strVal ""] 218)) := by kernel_rfl
set_option maxRecDepth 100000 in
theorem tv_f_s (n : Int) (W : World) : (Instr.typeAssert (.iface 174 (.int .i64 n)) 20 9 false).run Tryz.prog W = .halt (.panic (.iface 15 (.pointer (some ⟨W.heap.size, 0, none⟩)))) (W.alloc (.cells #[typeHandle Tryz.prog 20, typeHandle Tryz.prog 174, typeHandle Tryz.prog 9, strVal ""] 218)) := by kernel_rfl
set_option maxRecDepth 100000 in
theorem tv_f_t (n : Int) (W : World) : (Instr.typeAssert (.iface 174 (.int .i64 n)) 20 173 false).run Tryz.prog W = .halt (.panic (.iface 15 (.pointer (some ⟨W.heap.size, 0, none⟩)))) (W.alloc (.cells #[typeHandle Tryz.prog 20, typeHandle Tryz.prog 174, typeHandle Tryz.prog 173, strVal ""] 218)) := by kernel_rfl
set_option maxRecDepth 100000 in
theorem tv_f_f (n : Int) (W : World) : (Instr.typeAssert (.iface 174 (.int .i64 n)) 20 174 false).run Tryz.prog W = .ok (.int .i64 n) W := by kernel_rfl
set_option maxRecDepth 100000 in
theorem tv_f_l (n : Int) (W : World) : (Instr.typeAssert (.iface 174 (.int .i64 n)) 20 175 false).run Tryz.prog W = .halt (.panic (.iface 15 (.pointer (some ⟨W.heap.size, 0, none⟩)))) (W.alloc (.cells #[typeHandle Tryz.prog 20, typeHandle Tryz.prog 174, typeHandle Tryz.prog 175, strVal ""] 218)) := by kernel_rfl
set_option maxRecDepth 100000 in
theorem tv_l_b (n : Int) (W : World) : (Instr.typeAssert (.iface 175 (.int .i64 n)) 20 4 false).run Tryz.prog W = .halt (.panic (.iface 15 (.pointer (some ⟨W.heap.size, 0, none⟩)))) (W.alloc (.cells #[typeHandle Tryz.prog 20, typeHandle Tryz.prog 175, typeHandle Tryz.prog 4, strVal ""] 218)) := by kernel_rfl
set_option maxRecDepth 100000 in
theorem tv_l_i (n : Int) (W : World) : (Instr.typeAssert (.iface 175 (.int .i64 n)) 20 3 false).run Tryz.prog W = .halt (.panic (.iface 15 (.pointer (some ⟨W.heap.size, 0, none⟩)))) (W.alloc (.cells #[typeHandle Tryz.prog 20, typeHandle Tryz.prog 175, typeHandle Tryz.prog 3, strVal ""] 218)) := by kernel_rfl
set_option maxRecDepth 100000 in
theorem tv_l_s (n : Int) (W : World) : (Instr.typeAssert (.iface 175 (.int .i64 n)) 20 9 false).run Tryz.prog W = .halt (.panic (.iface 15 (.pointer (some ⟨W.heap.size, 0, none⟩)))) (W.alloc (.cells #[typeHandle Tryz.prog 20, typeHandle Tryz.prog 175, typeHandle Tryz.prog 9, strVal ""] 218)) := by kernel_rfl
set_option maxRecDepth 100000 in
theorem tv_l_t (n : Int) (W : World) : (Instr.typeAssert (.iface 175 (.int .i64 n)) 20 173 false).run Tryz.prog W = .halt (.panic (.iface 15 (.pointer (some ⟨W.heap.size, 0, none⟩)))) (W.alloc (.cells #[typeHandle Tryz.prog 20, typeHandle Tryz.prog 175, typeHandle Tryz.prog 173, strVal ""] 218)) := by kernel_rfl
set_option maxRecDepth 100000 in
theorem tv_l_f (n : Int) (W : World) : (Instr.typeAssert (.iface 175 (.int .i64 n)) 20 174 false).run Tryz.prog W = .halt (.panic (.iface 15 (.pointer (some ⟨W.heap.size, 0, none⟩)))) (W.alloc (.cells #[typeHandle Tryz.prog 20, typeHandle Tryz.prog 175, typeHandle Tryz.prog 174, strVal ""] 218)) := by kernel_rfl
set_option maxRecDepth 100000 in
theorem tv_l_l (n : Int) (W : World) : (Instr.typeAssert (.iface 175 (.int .i64 n)) 20 175 false).run Tryz.prog W = .ok (.int .i64 n) W := by kernel_rfl
/-- The call panics. -/
def Panics (w : World) (e : Ending) (w' : World) : Prop := (∃ T p, e = .panicked [{ v := .iface T p, recovered := false }]) ∧ Below w.heap.size w w'
end Go.Proofs.YteheolefemlcgaaGreat
/- Contracts of the package box: Check, Round, As, Must, panics. -/
namespace Go.Proofs.YteheolefemlcgaaGreat
open Go.RowKit
set_option linter.unusedVariables false
set_option linter.unusedSimpArgs false

theorem box_box_c (v : V) (x : Bx) (ok : Bool) (hx : toBx v = x) (ho : okV v = ok) (w : World) : Calls Tryz.prog 95 #[vv v] w fun e w' => e = .returned (.tuple #[bxv x, .bool ok]) ∧ Below w.heap.size w w' := by
  rw [← hx, ← ho]; exact box_any v w
def errForm (ok : Bool) : Int := if ok = true then 0 else 2
theorem Bx.kind_of (v : V) (h : okV v = true) : (toBx v).kind = v.k := by
  have := ofBx_toBx v h
  conv => rhs; rw [← this]
  cases toBx v <;> rfl
theorem okV_kind (v : V) (h : okV v = true) : 0 ≤ v.k ∧ v.k ≤ 6 := by
  rw [← Bx.kind_of v h]
  cases toBx v <;> simp [Bx.kind]
set_option maxRecDepth 100000 in
theorem box_Check (v : V) (w : World) : Calls Tryz.prog 52 #[vv v] w fun e w' => e = .returned (.int .i64 (errForm (okV v))) ∧ Below w.heap.size w w' := by
  have hu := Tryz.underlying35
  obtain ⟨ok, ho⟩ : ∃ b, okV v = b := ⟨_, rfl⟩
  rw [ho]
  have HO := Lib.hid ho
  have hB := below_one w (.cells #[.int .i64 v.k, .int .i64 v.n, .string v.s] 35)
  clear ho
  unfold vv
  cases ok with
  | true =>
    go_enter Tryz.func52, Tryz.ntmps52
    go_wp2_with (go_at_call 95; refine (box_box_c v _ true rfl HO.out _).mono ?_; rintro e w' ⟨rfl, hb⟩; replace hB := below_step hB hb)
    go_ret
    exact ⟨rfl, hB⟩
  | false =>
    go_enter Tryz.func52, Tryz.ntmps52
    go_wp2_with (go_at_call 95; refine (box_box_c v _ false rfl HO.out _).mono ?_; rintro e w' ⟨rfl, hb⟩; replace hB := below_step hB hb)
    go_ret
    exact ⟨rfl, hB⟩
end Go.Proofs.YteheolefemlcgaaGreat
