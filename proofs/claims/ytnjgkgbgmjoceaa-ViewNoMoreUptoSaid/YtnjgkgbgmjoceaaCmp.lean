/-
  The walks of cmp.Compare, cmp.Or at two numbers, and of package view's two orders of what is seen.
-/
import Derived.Test.YtnjgkgbgmjoceaaVec
import Derived.Deep.RegionHeld3
set_option linter.unusedSimpArgs false
set_option linter.unusedVariables false
namespace Go.Proofs.Ytnjgkgbgmjoceaa
open Go.RowKit

/-- cmp.Compare. -/
def cmpI (a b : Int) : Int := if a < b then -1 else if b < a then 1 else 0
/-- cmp.Or of two. -/
def orI (a b : Int) : Int := if a = 0 then b else a

set_option maxHeartbeats 400000 in
theorem compare_any (a b : Int) (w : World) :
    Calls Try.prog 41 #[.int .i64 a, .int .i64 b] w fun e w' => e = .returned (.int .i64 (cmpI a b)) ∧ w' = w := by
  go_enter Try.func41, Try.ntmps41
  go_wp2_with go_in
  all_goals
    go_ret
    refine ⟨ret_int ?_, rfl⟩
    unfold cmpI
    split <;> (try split) <;> omega

set_option maxHeartbeats 400000 in
theorem compare64_any (a b : Int) (w : World) :
    Calls Try.prog 26 #[.int .i64 a, .int .i64 b] w fun e w' => e = .returned (.int .i64 (cmpI a b)) ∧ w' = w := by
  go_enter Try.func26, Try.ntmps26
  go_wp2_with go_in
  all_goals
    go_ret
    refine ⟨ret_int ?_, rfl⟩
    unfold cmpI
    split <;> (try split) <;> omega

set_option maxHeartbeats 400000 in
theorem or_any (b : Nat) (x y : Int) (w : World) (h0 : w.cell? ⟨b, 0, none⟩ = some (.int .i64 x)) (h1 : w.cell? ⟨b, 1, none⟩ = some (.int .i64 y)) :
    Calls Try.prog 25 #[.slice (some ⟨b, 0, none⟩) 2 2] w fun e w' => e = .returned (.int .i64 (orI x y)) ∧ w' = w := by
  unfold orI
  by_cases hx : x = 0
  · subst hx
    by_cases hy : y = 0
    · subst hy
      go_enter Try.func25, Try.ntmps25
      go_wp2
      refine wp_loop_rounds 3 ?_
      rw [rounds_succ]
      go_wp2
      rw [rounds_succ]
      go_wp2
      rw [rounds_succ]
      go_wp2
      go_ret
      exact ⟨rfl, rfl⟩
    · have hy' : (y == 0) = false := by simpa using hy
      have hy2 : (y != 0) = true := by simpa using hy
      go_enter Try.func25, Try.ntmps25
      go_wp2
      refine wp_loop_rounds 3 ?_
      rw [rounds_succ]
      go_wp2
      rw [rounds_succ]
      go_wp2
      go_ret
      exact ⟨rfl, rfl⟩
  · have hx' : (x == 0) = false := by simpa using hx
    have hx2 : (x != 0) = true := by simpa using hx
    rw [if_neg hx]
    go_enter Try.func25, Try.ntmps25
    go_wp2
    refine wp_loop_rounds 3 ?_
    rw [rounds_succ]
    go_wp2
    go_ret
    exact ⟨rfl, rfl⟩

/-- What is seen. -/
structure Seen where
  kind : Int
  id : Int
  x : Int
  y : Int
  heading : Int
deriving DecidableEq, Repr
def Seen.enc (s : Seen) : List Value := [.int .i64 s.kind, .int .i64 s.id, .int .i64 s.x, .int .i64 s.y, .int .i64 s.heading]
def Seen.val (s : Seen) : Value := .agg #[.int .i64 s.kind, .int .i64 s.id, .int .i64 s.x, .int .i64 s.y, .int .i64 s.heading]
def Seen.ok (s : Seen) : Prop := I64 s.kind ∧ I64 s.id ∧ I64 s.x ∧ I64 s.y ∧ I64 s.heading
/-- The order in which they are told. -/
def toldI (a b : Seen) : Int := orI (cmpI a.kind b.kind) (cmpI a.id b.id)

set_option maxHeartbeats 400000 in
theorem told_any (a b : Seen) (w : World) :
    Calls Try.prog 28 #[a.val, b.val] w fun e w' => e = .returned (.int .i64 (toldI a b)) ∧ Up w w' := by
  unfold toldI Seen.val
  obtain ⟨k, i, x, y, h⟩ := a
  obtain ⟨k', i', x', y', h'⟩ := b
  dsimp only
  go_enter Try.func28, Try.ntmps28
  go_wp2_with fail
  go_region_held3 (fun w' => w'.cell? ⟨w.heap.size, 0, none⟩ = some (.int .i64 k) ∧ w'.cell? ⟨w.heap.size, 1, none⟩ = some (.int .i64 i) ∧ w'.cell? ⟨w.heap.size + 1, 0, none⟩ = some (.int .i64 k') ∧ w'.cell? ⟨w.heap.size + 1, 1, none⟩ = some (.int .i64 i')) (go_keep)
    (first | (go_at_call 41; refine (compare_any _ _ _).mono ?_; rintro e w' ⟨rfl, rfl⟩) | (go_at_call 25; refine (or_any _ (cmpI k k') (cmpI i i') _ ?_ ?_).mono ?_; go_simp; go_simp; rintro e w' ⟨rfl, rfl⟩))
  go_wp2
  go_ret
  exact ⟨rfl, (by repeat (first | exact Up.refl _ | apply Up.drewN | apply Up.drew | apply Up.alloc | (refine Up.trans ?_ (by assumption))))⟩

/-- Nearer first, then as told. -/
def nearI (ox oy : Int) (a b : Seen) : Int := orI (cmpI (dist2 a.x a.y ox oy) (dist2 b.x b.y ox oy)) (toldI a b)

set_option maxHeartbeats 1000000 in
theorem near_cmp_any (a b : Seen) (g : Nat) (ox oy : Int) (w : World) (ha : a.ok) (hb : b.ok) (h1 : I64 ox) (h2 : I64 oy)
    (c1 : w.cell? ⟨g, 3, none⟩ = some (.int .i64 ox)) (c2 : w.cell? ⟨g, 4, none⟩ = some (.int .i64 oy)) :
    Calls Try.prog 24 #[a.val, b.val, .pointer (some ⟨g, 0, none⟩)] w fun e w' => e = .returned (.int .i64 (nearI ox oy a b)) ∧ Up w w' := by
  have hg : g < w.heap.size := World.block_lt_of_cell? w _ c1
  have hn : g ≠ w.heap.size := by omega
  have hn' : g ≠ w.heap.size + 1 := by omega
  have ht := fun W => told_any a b W
  unfold nearI
  generalize toldI a b = t at *
  unfold Seen.val at *
  obtain ⟨k, i, x, y, h⟩ := a
  obtain ⟨k', i', x', y', h'⟩ := b
  obtain ⟨-, -, a1, a2, -⟩ := ha
  obtain ⟨-, -, b1, b2, -⟩ := hb
  dsimp only at *
  go_enter Try.func24, Try.ntmps24
  go_wp2_with fail
  go_region_held3 (fun w' => w.heap.size + 1 < w'.heap.size ∧ w'.cell? ⟨w.heap.size, 0, none⟩ = some (.int .i64 k) ∧ w'.cell? ⟨w.heap.size, 1, none⟩ = some (.int .i64 i) ∧ w'.cell? ⟨w.heap.size, 2, none⟩ = some (.int .i64 x) ∧ w'.cell? ⟨w.heap.size, 3, none⟩ = some (.int .i64 y) ∧ w'.cell? ⟨w.heap.size, 4, none⟩ = some (.int .i64 h) ∧ w'.cell? ⟨w.heap.size + 1, 0, none⟩ = some (.int .i64 k') ∧ w'.cell? ⟨w.heap.size + 1, 1, none⟩ = some (.int .i64 i') ∧ w'.cell? ⟨w.heap.size + 1, 2, none⟩ = some (.int .i64 x') ∧ w'.cell? ⟨w.heap.size + 1, 3, none⟩ = some (.int .i64 y') ∧ w'.cell? ⟨w.heap.size + 1, 4, none⟩ = some (.int .i64 h') ∧ w'.cell? ⟨g, 3, none⟩ = some (.int .i64 ox) ∧ w'.cell? ⟨g, 4, none⟩ = some (.int .i64 oy)) (((try dsimp only); (repeat' apply And.intro) <;> (first | assumption | omega | ((try simp only [World.size_alloc, World.size_drew]); omega) | ((try simp only [World.size_alloc, World.size_drew] at hz ⊢); omega) | ((simp only [World.size_alloc, World.size_drew] at *); omega) | (rw [hc _ _ (by (try simp only [World.size_alloc, World.size_drew]); omega)]; go_simp) | ((repeat (first | assumption | (refine hk_alloc ?_ _) | (refine hk_set ?_ (by first | assumption | omega) _) | (refine hk_up (by assumption) ?_))); done) | go_keep)))
    (first | (go_at_call 27; refine (dist2_any _ _ _ _ _ (by assumption) (by assumption) (by assumption) (by assumption)).mono ?_; rintro e w' ⟨rfl, hb1⟩; obtain ⟨hc, hf⟩ := ucell hb1; have hz := hb1.size) | (go_at_call 26; refine (compare64_any _ _ _).mono ?_; rintro e w' ⟨rfl, rfl⟩) | (go_at_call 28; refine (ht _).mono ?_; rintro e w' ⟨rfl, hb1⟩; obtain ⟨hc, hf⟩ := ucell hb1; have hz := hb1.size) | (go_at_call 25; refine (or_any _ (cmpI (dist2 x y ox oy) (dist2 x' y' ox oy)) t _ ?_ ?_).mono ?_; go_simp; go_simp; rintro e w' ⟨rfl, rfl⟩))
  go_wp2
  go_ret
  exact ⟨rfl, (by repeat (first | exact Up.refl _ | apply Up.drewN | apply Up.drew | apply Up.alloc | (refine Up.trans ?_ (by assumption))))⟩
end Go.Proofs.Ytnjgkgbgmjoceaa
