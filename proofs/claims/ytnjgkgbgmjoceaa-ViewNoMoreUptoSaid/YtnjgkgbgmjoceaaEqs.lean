/-
  '==' of what is seen, of cars.
-/
import Derived.Test.YtnjgkgbgmjoceaaLawFns
import Derived.Lib.SlicesS
set_option linter.unusedSimpArgs false
set_option linter.unusedVariables false
namespace Go.Proofs.Ytnjgkgbgmjoceaa
open Go.RowKit Go.ChangeMaps Go.Sort

theorem toList_eq (x y : ByteArray) : x.toList = y.toList ↔ x = y := by
  constructor
  · intro h
    have := (_root_.Go.Lib.bytes_beq_iff x y).1 (by rw [h]; simp)
    exact this
  · rintro rfl; rfl
theorem vec_eq (d : Nat) (a b : Int) (c e : Int) (w : World) : (Op.equalIn (d + 2) 31 (.agg #[.int .i64 a, .int .i64 b]) (.agg #[.int .i64 c, .int .i64 e])).run Try.prog w = .ok (a == c && (b == e)) w := by
  refine fe_of Try.underlying31 (by kernel_rfl) ?_
  refine fe_cons (by rfl) (by go_simp; rfl) (by go_simp; rfl) (by go_simp) ?_
  exact fe_last (by rfl) (by go_simp; rfl) (by go_simp; rfl) (by go_simp)
theorem seen_eq0 (d : Nat) (a b : Seen) (w : World) : (Op.equalIn (d + 3) 43 a.val b.val).run Try.prog w = .ok (a.kind == b.kind && (a.id == b.id && ((a.x == b.x && (a.y == b.y)) && (a.heading == b.heading)))) w := by
  obtain ⟨k, i, x, y, h⟩ := a
  obtain ⟨k', i', x', y', h'⟩ := b
  unfold Seen.val
  refine fe_of Try.underlying43 (by kernel_rfl) ?_
  refine fe_cons (by rfl) (by go_simp; rfl) (by go_simp; rfl) (by go_simp) ?_
  refine fe_cons (by rfl) (by go_simp; rfl) (by go_simp; rfl) (by go_simp) ?_
  refine fe_cons (by rfl) (by go_simp) (by go_simp) (vec_eq d x y x' y' w) ?_
  exact fe_last (by rfl) (by go_simp; rfl) (by go_simp; rfl) (by go_simp)
theorem seen_eq (a b : Seen) (w : World) : (Op.equal 43 a.val b.val).run Try.prog w = .ok (decide (a = b)) w := by
  have h := seen_eq0 9997 a b w
  have e : (a.kind == b.kind && (a.id == b.id && ((a.x == b.x && (a.y == b.y)) && (a.heading == b.heading)))) = decide (a = b) := by
    rw [Bool.eq_iff_iff]
    obtain ⟨k, i, x, y, h⟩ := a
    obtain ⟨k', i', x', y', h'⟩ := b
    simp [and_assoc]
  rw [e] at h
  exact h
theorem seen_binop (a b : Seen) (w : World) : (binOp .eql 43 a.val b.val).run Try.prog w = .ok (.bool (decide (a = b))) w := by
  have h := seen_eq a b w
  unfold Seen.val at *
  simp only [binOp, Sem.run_bind, h, Result.andThen_ok, Sem.run_pure]
theorem car_eq0 (d : Nat) (a b : Car) (w : World) : (Op.equalIn (d + 3) 33 a.val b.val).run Try.prog w = .ok (a.player == b.player && (a.name.toList == b.name.toList && ((a.x == b.x && (a.y == b.y)) && ((a.sx == b.sx && (a.sy == b.sy)) && (a.heading == b.heading && (a.health == b.health && (a.energy == b.energy && (a.ammo == b.ammo && (a.cool == b.cool && (a.wait == b.wait && (a.spawns == b.spawns && (a.score == b.score)))))))))))) w := by
  obtain ⟨a1, a2, a3, a4, a5, a6, a7, a8, a9, a10, a11, a12, a13, a14⟩ := a
  obtain ⟨b1, b2, b3, b4, b5, b6, b7, b8, b9, b10, b11, b12, b13, b14⟩ := b
  unfold Car.val
  refine fe_of Try.underlying33 (by kernel_rfl) ?_
  refine fe_cons (by rfl) (by go_simp; rfl) (by go_simp; rfl) (by go_simp) ?_
  refine fe_cons (by rfl) (by go_simp; rfl) (by go_simp; rfl) (by go_simp; try rfl) ?_
  refine fe_cons (by rfl) (by go_simp) (by go_simp) (vec_eq d a3 a4 b3 b4 w) ?_
  refine fe_cons (by rfl) (by go_simp) (by go_simp) (vec_eq d a5 a6 b5 b6 w) ?_
  refine fe_cons (by rfl) (by go_simp; rfl) (by go_simp; rfl) (by go_simp) ?_
  refine fe_cons (by rfl) (by go_simp; rfl) (by go_simp; rfl) (by go_simp) ?_
  refine fe_cons (by rfl) (by go_simp; rfl) (by go_simp; rfl) (by go_simp) ?_
  refine fe_cons (by rfl) (by go_simp; rfl) (by go_simp; rfl) (by go_simp) ?_
  refine fe_cons (by rfl) (by go_simp; rfl) (by go_simp; rfl) (by go_simp) ?_
  refine fe_cons (by rfl) (by go_simp; rfl) (by go_simp; rfl) (by go_simp) ?_
  refine fe_cons (by rfl) (by go_simp; rfl) (by go_simp; rfl) (by go_simp) ?_
  exact fe_last (by rfl) (by go_simp; rfl) (by go_simp; rfl) (by go_simp)
theorem car_eq (a b : Car) (w : World) : (Op.equal 33 a.val b.val).run Try.prog w = .ok (decide (a = b)) w := by
  have h := car_eq0 9997 a b w
  have e : (a.player == b.player && (a.name.toList == b.name.toList && ((a.x == b.x && (a.y == b.y)) && ((a.sx == b.sx && (a.sy == b.sy)) && (a.heading == b.heading && (a.health == b.health && (a.energy == b.energy && (a.ammo == b.ammo && (a.cool == b.cool && (a.wait == b.wait && (a.spawns == b.spawns && (a.score == b.score)))))))))))) = decide (a = b) := by
    rw [Bool.eq_iff_iff]
    obtain ⟨a1, a2, a3, a4, a5, a6, a7, a8, a9, a10, a11, a12, a13, a14⟩ := a
    obtain ⟨b1, b2, b3, b4, b5, b6, b7, b8, b9, b10, b11, b12, b13, b14⟩ := b
    simp only [Bool.and_eq_true, beq_iff_eq, toList_eq, decide_eq_true_eq, Car.mk.injEq, and_assoc]
  rw [e] at h
  exact h
theorem car_binop (a b : Car) (w : World) : (binOp .eql 33 a.val b.val).run Try.prog w = .ok (.bool (decide (a = b))) w := by
  have h := car_eq a b w
  unfold Car.val at *
  simp only [binOp, Sem.run_bind, h, Result.andThen_ok, Sem.run_pure]
theorem car_binne (a b : Car) (w : World) : (binOp .neq 33 a.val b.val).run Try.prog w = .ok (.bool (!decide (a = b))) w := by
  have h := car_eq a b w
  unfold Car.val at *
  simp only [binOp, Sem.run_bind, h, Result.andThen_ok, Sem.run_pure]
end Go.Proofs.Ytnjgkgbgmjoceaa
