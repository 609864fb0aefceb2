/-
  The walks of package vec's distances: differences kept within bounds, squared distance, nearness; package grid's cells of a number.
-/
import Derived.Test.YtnjgkgbgmjoceaaProg
import Derived.Test.YtnjgkgbgmjoceaaBase
set_option linter.unusedSimpArgs false
set_option linter.unusedVariables false
namespace Go.Proofs.Ytnjgkgbgmjoceaa
open Go.RowKit

/-- A difference, kept within an int64. -/
def satd (a b : Int) : Int := max (-9223372036854775808) (min 9223372036854775807 (a - b))
/-- A number kept within 2^31 - 1 either way. -/
def bnd (x : Int) : Int := max (-2147483647) (min 2147483647 x)
def dist2 (ax ay bx cy : Int) : Int := bnd (bx - ax) * bnd (bx - ax) + bnd (cy - ay) * bnd (cy - ay)
def withinB (ax ay bx cy r : Int) : Bool := decide (0 ≤ r) && (decide (3037000500 ≤ r) || decide (dist2 ax ay bx cy ≤ r * r))

theorem bnd_range (x : Int) : -2147483647 ≤ bnd x ∧ bnd x ≤ 2147483647 := by unfold bnd; omega
theorem bnd_satd (a b : Int) : bnd (satd a b) = bnd (a - b) := by unfold bnd satd; omega
theorem sq_range {x : Int} (h : -2147483647 ≤ x ∧ x ≤ 2147483647) : 0 ≤ x * x ∧ x * x ≤ 4611686014132420609 := by
  refine ⟨?_, ?_⟩
  · rcases Int.le_total 0 x with h0 | h0
    · exact Int.mul_nonneg h0 h0
    · have := Int.mul_nonneg (Int.neg_nonneg_of_nonpos h0) (Int.neg_nonneg_of_nonpos h0)
      rwa [Int.neg_mul_neg] at this
  · have h1 : (2147483647 - x) * (2147483647 + x) ≥ 0 := Int.mul_nonneg (by omega) (by omega)
    have e : (2147483647 - x) * (2147483647 + x) = 4611686014132420609 - x * x := by
      rw [Int.sub_mul, Int.mul_add, Int.mul_add, Int.mul_comm x 2147483647]
      omega
    omega
theorem sq_lt {x : Int} (h : 0 ≤ x) (k : x < 3037000500) : 0 ≤ x * x ∧ x * x ≤ 9223372030926249001 := by
  refine ⟨Int.mul_nonneg h h, ?_⟩
  have h1 : (3037000499 - x) * (3037000499 + x) ≥ 0 := Int.mul_nonneg (by omega) (by omega)
  have e : (3037000499 - x) * (3037000499 + x) = 9223372030926249001 - x * x := by
    rw [Int.sub_mul, Int.mul_add, Int.mul_add, Int.mul_comm x 3037000499]
    omega
  omega
theorem dist2_range (ax ay bx cy : Int) : 0 ≤ dist2 ax ay bx cy ∧ dist2 ax ay bx cy ≤ 9223372028264841218 := by
  have h1 := sq_range (bnd_range (bx - ax))
  have h2 := sq_range (bnd_range (cy - ay))
  unfold dist2
  omega

theorem tdiv_cell (a : Int) : a.tdiv 4194304 = if 0 ≤ a ∨ a % 4194304 = 0 then a / 4194304 else a / 4194304 + 1 := by
  by_cases h : 0 ≤ a
  · rw [if_pos (.inl h), Int.tdiv_eq_ediv_of_nonneg h]
  · have h1 : a.tdiv 4194304 = -((-a).tdiv 4194304) := by rw [Int.neg_tdiv]; omega
    rw [h1, Int.tdiv_eq_ediv_of_nonneg (by omega)]
    split <;> omega
theorem tmod_cell (a : Int) : a.tmod 4194304 = if 0 ≤ a ∨ a % 4194304 = 0 then a % 4194304 else a % 4194304 - 4194304 := by
  have h := Int.mul_tdiv_add_tmod a 4194304
  rw [tdiv_cell] at h
  split at h <;> split <;> omega

set_option maxHeartbeats 400000 in
theorem down_any (a : Int) (w : World) (ha : I64 a) :
    Calls Try.prog 71 #[.int .i64 a, .int .i64 4194304] w fun e w' => e = .returned (.int .i64 (a / 4194304)) ∧ w' = w := by
  obtain ⟨ha1, ha2⟩ := ha
  have h1 := tdiv_cell a
  have h2 := tmod_cell a
  have H1 := Lib.hid h1
  have H2 := Lib.hid h2
  clear h1 h2
  go_enter Try.func71, Try.ntmps71
  go_wp2
  all_goals
    go_ret
    refine ⟨ret_int ?_, rfl⟩
    have e1 := H1.out
    have e2 := H2.out
    try simp only [wrap64]
    split at e1 <;> split at e2 <;> omega

set_option maxHeartbeats 400000 in
theorem less_any (a b : Int) (w : World) (ha : I64 a) (hb : I64 b) :
    Calls Try.prog 58 #[.int .i64 a, .int .i64 b] w fun e w' => e = .returned (.int .i64 (satd a b)) ∧ w' = w := by
  obtain ⟨ha1, ha2⟩ := ha
  obtain ⟨hb1, hb2⟩ := hb
  go_enter Try.func58, Try.ntmps58
  go_wp2
  all_goals
    go_ret
    refine ⟨ret_int ?_, rfl⟩
    unfold satd
    simp_all [wrap64]
    try omega

set_option maxHeartbeats 400000 in
theorem within_any (x lo hi : Int) (w : World) :
    Calls Try.prog 57 #[.int .i64 x, .int .i64 lo, .int .i64 hi] w fun e w' => e = .returned (.int .i64 (min (max x lo) hi)) ∧ w' = w := by
  go_enter Try.func57, Try.ntmps57
  go_wp2
  all_goals
    go_ret
    refine ⟨ret_int ?_, rfl⟩
    split at * <;> omega

theorem bnd_eq (a b : Int) : min (max (satd a b) (-2147483647)) 2147483647 = bnd (a - b) := by unfold bnd satd; omega

set_option maxHeartbeats 400000 in
theorem way_any (ax ay bx cy : Int) (w : World) (h1 : I64 ax) (h2 : I64 ay) (h3 : I64 bx) (h4 : I64 cy) :
    Calls Try.prog 40 #[.agg #[.int .i64 ax, .int .i64 ay], .agg #[.int .i64 bx, .int .i64 cy]] w fun e w' => e = .returned (.tuple #[.int .i64 (bnd (bx - ax)), .int .i64 (bnd (cy - ay))]) ∧ Up w w' := by
  go_enter Try.func40, Try.ntmps40
  go_wp2_with fail
  go_quiet (first | (go_at_call 58; exact Calls.quiet_of_same (less_any _ _ _ (by assumption) (by assumption))) | (go_at_call 57; exact Calls.quiet_of_same (within_any _ _ _ _)))
  go_wp2
  go_ret2
  refine ⟨ret_pair ?_ ?_, Up.drewN (Up.alloc (Up.alloc (Up.refl w) _) _) _⟩
  · exact congrArg (Value.int .i64) (bnd_eq _ _)
  · exact congrArg (Value.int .i64) (bnd_eq _ _)

set_option maxHeartbeats 400000 in
theorem dist2_any (ax ay bx cy : Int) (w : World) (h1 : I64 ax) (h2 : I64 ay) (h3 : I64 bx) (h4 : I64 cy) :
    Calls Try.prog 27 #[.agg #[.int .i64 ax, .int .i64 ay], .agg #[.int .i64 bx, .int .i64 cy]] w fun e w' => e = .returned (.int .i64 (dist2 ax ay bx cy)) ∧ Up w w' := by
  have r1 := sq_range (bnd_range (bx - ax))
  have r2 := sq_range (bnd_range (cy - ay))
  unfold dist2
  have hc := fun W => way_any ax ay bx cy W h1 h2 h3 h4
  generalize bnd (bx - ax) = u at *
  generalize bnd (cy - ay) = v at *
  obtain ⟨r3, r4⟩ := r1
  obtain ⟨r5, r6⟩ := r2
  go_enter Try.func27, Try.ntmps27
  go_wp2_with fail
  refine (hc _).mono ?_
  rintro e w1 ⟨rfl, hb⟩
  go_wp2
  go_ret
  refine ⟨ret_int rfl, ?_⟩
  exact Up.trans (Up.alloc (Up.alloc (Up.refl w) _) _) hb

set_option maxHeartbeats 400000 in
theorem Within_any (ax ay bx cy r : Int) (w : World) (h1 : I64 ax) (h2 : I64 ay) (h3 : I64 bx) (h4 : I64 cy) (hr : I64 r) :
    Calls Try.prog 74 #[.agg #[.int .i64 ax, .int .i64 ay], .agg #[.int .i64 bx, .int .i64 cy], .int .i64 r] w fun e w' => e = .returned (.bool (withinB ax ay bx cy r)) ∧ Up w w' := by
  have hc := fun W => dist2_any ax ay bx cy W h1 h2 h3 h4
  unfold withinB
  have hd := dist2_range ax ay bx cy
  generalize dist2 ax ay bx cy = d at *
  obtain ⟨hr1, hr2⟩ := hr
  obtain ⟨hd1, hd2⟩ := hd
  by_cases h0 : r < 0
  · go_enter Try.func74, Try.ntmps74
    go_wp2
    go_ret
    refine ⟨ret_bool ?_, Up.alloc (Up.alloc (Up.refl w) _) _⟩
    simp
    try omega
  · by_cases h5 : 3037000500 ≤ r
    · go_enter Try.func74, Try.ntmps74
      go_wp2
      go_ret
      refine ⟨ret_bool ?_, Up.alloc (Up.alloc (Up.refl w) _) _⟩
      have e1 : decide (0 ≤ r) = true := by simp; omega
      have e2 : decide (3037000500 ≤ r) = true := by simp; omega
      simp only [e1, e2, Bool.true_or, Bool.true_and]
    · have h6 := sq_lt (x := r) (by omega) (by omega)
      obtain ⟨h7, h8⟩ := h6
      go_enter Try.func74, Try.ntmps74
      go_wp2_with fail
      refine (hc _).mono ?_
      rintro e w1 ⟨rfl, hb⟩
      go_wp2
      all_goals
        go_ret
        refine ⟨ret_bool ?_, Up.trans (Up.alloc (Up.alloc (Up.refl w) _) _) hb⟩
        have e1 : decide (0 ≤ r) = true := by simp; omega
        have e2 : decide (3037000500 ≤ r) = false := by simp; omega
        simp only [e1, e2]
        simp

theorem satd_range (a b : Int) : I64 (satd a b) := by unfold I64 satd; omega

/-- The greater of the two ends of a span. -/
def sata (a b : Int) : Int := max (-9223372036854775808) (min 9223372036854775807 (a + b))
theorem sata_range (a b : Int) : I64 (sata a b) := by unfold I64 sata; omega

set_option maxHeartbeats 400000 in
theorem span_any (g : Nat) (part r : Int) (w : World) (hs : w.cell? ⟨g, 0, none⟩ = some (.int .i64 4194304)) (h1 : I64 part) (h2 : 0 ≤ r) (h3 : r < 2147483647) :
    Calls Try.prog 75 #[.pointer (some ⟨g, 0, none⟩), .int .i64 part, .int .i64 r] w fun e w' => e = .returned (.tuple #[.int .i64 (satd part r / 4194304), .int .i64 (sata part r / 4194304)]) ∧ Up w w' := by
  have hw1 : part < wrap64 (part - r) → satd part r = -9223372036854775808 := by unfold I64 at h1; unfold wrap64 satd; omega
  have hw2 : ¬ part < wrap64 (part - r) → satd part r = wrap64 (part - r) := by unfold I64 at h1; unfold wrap64 satd; omega
  have hw3 : wrap64 (part + r) < part → sata part r = 9223372036854775807 := by unfold I64 at h1; unfold wrap64 sata; omega
  have hw4 : ¬ wrap64 (part + r) < part → sata part r = wrap64 (part + r) := by unfold I64 at h1; unfold wrap64 sata; omega
  have hr1 := satd_range part r
  have hr2 := sata_range part r
  generalize satd part r = lo at *
  generalize sata part r = hi at *
  by_cases c1 : part < wrap64 (part - r) <;> by_cases c2 : wrap64 (part + r) < part
  all_goals first | have e1 := hw1 c1 | have e1 := hw2 c1
  all_goals first | have e2 := hw3 c2 | have e2 := hw4 c2
  all_goals
    clear hw1 hw2 hw3 hw4
    have E1 := Lib.hid e1
    have E2 := Lib.hid e2
    clear e1 e2
    go_enter Try.func75, Try.ntmps75
    go_wp2_with fail
    rw [← E1.out, ← E2.out]
    go_quiet ((go_at_call 71; exact Calls.quiet_of_same (down_any _ _ (by assumption))))
    go_wp2
    go_ret2
    exact ⟨rfl, Up.drewN (Up.refl w) _⟩
end Go.Proofs.Ytnjgkgbgmjoceaa
