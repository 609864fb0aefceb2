/-
  The walks of package grid, as the views use it: things laid one behind the other, numbered from 0.
-/
import Derived.Test.YtnjgkgbgmjoceaaStructEq
import Derived.Test.YtnjgkgbgmjoceaaSort
set_option linter.unusedSimpArgs false
set_option linter.unusedVariables false
namespace Go.Proofs.Ytnjgkgbgmjoceaa
open Go.RowKit Go.ChangeMaps Go.Sort

/-- A cell of the grid. -/
abbrev Cell := Int × Int
def cellV (c : Cell) : Value := .agg #[.int .i64 c.1, .int .i64 c.2]
theorem cell_eq (d : Nat) (a b : Int) (c e : Int) (w : World) : (Op.equalIn (d + 2) 103 (.agg #[.int .i64 a, .int .i64 b]) (.agg #[.int .i64 c, .int .i64 e])).run Try.prog w = .ok (a == c && (b == e)) w := by
  refine fe_of Try.underlying103 (by kernel_rfl) ?_
  refine fe_cons (by rfl) (by go_simp; rfl) (by go_simp; rfl) (by go_simp) ?_
  exact fe_last (by rfl) (by go_simp; rfl) (by go_simp; rfl) (by go_simp)
def cellA (c : Cell) : Array Value := #[.int .i64 c.1, .int .i64 c.2]
theorem cellKeys : KeysOk Try.prog 103 (fun c : Cell => Value.agg (cellA c)) (fun _ => True) := by
  refine aggKeys Try.underlying103 (fun b k w => ?_) (fun a b w => ?_) (fun k => ?_)
  · obtain ⟨x, y⟩ := k
    have key : ∀ n, (Instr.checkKey b (n + 2) 103 (.agg #[.int .i64 x, .int .i64 y])).run Try.prog w = .ok () w := fun n => by kernel_rfl
    exact key 9998
  · have h := cell_eq 9998 a.1 a.2 b.1 b.2 w
    have e : (a.1 == b.1 && (a.2 == b.2)) = decide (a = b) := by
      obtain ⟨p, q⟩ := a
      obtain ⟨r, s⟩ := b
      rw [Bool.eq_iff_iff]
      simp
    rw [e] at h
    exact h
  · obtain ⟨x, y⟩ := k
    have key : ∀ n, Instr.sameBits (n + 2) (.agg #[.int .i64 x, .int .i64 y]) (.agg #[.int .i64 x, .int .i64 y]) = true := fun n => by simp [Instr.sameBits]
    exact key 9998

/-- The places, as the grid's map has them. -/
def placesE (ps : List (Int × Int)) : List (Ent Int) := ps.mapIdx fun i p => ⟨(i : Int), .agg #[.int .i64 p.1, .int .i64 p.2], i⟩
def intV (n : Int) : Value := .int .i64 n
theorem atE_places_none (ps : List (Int × Int)) (n : Nat) (h : ps.length ≤ n) : atE (n : Int) (placesE ps) = none := by
  have key : ∀ (ps : List (Int × Int)) (s : Nat), s + ps.length ≤ n → atE (n : Int) (ps.mapIdx fun i p => (⟨((i + s : Nat) : Int), .agg #[.int .i64 p.1, .int .i64 p.2], i + s⟩ : Ent Int)) = none := by
    intro ps
    induction ps with
    | nil => intro s _; rfl
    | cons p r ih =>
      intro s hs
      rw [List.mapIdx_cons]
      unfold atE
      rw [if_neg (by simp at hs ⊢; omega)]
      have := ih (s + 1) (by simp at hs; omega)
      simpa [Nat.add_assoc, Nat.add_comm 1 s] using this
  have := key ps 0 (by omega)
  simpa [placesE] using this
theorem placesE_snoc (ps : List (Int × Int)) (p : Int × Int) : placesE (ps ++ [p]) = placesE ps ++ [⟨(ps.length : Int), .agg #[.int .i64 p.1, .int .i64 p.2], ps.length⟩] := by
  simp [placesE, List.mapIdx_append]

theorem zeroVec (w : World) : (zeroValue 31).run Try.prog w = .ok (.agg #[.int .i64 0, .int .i64 0]) w := by kernel_rfl

set_option maxHeartbeats 1000000 in
/-- Delete of what is not there. -/
theorem delete_absent (w : World) (g bp : Nat) (ps : List (Int × Int)) (n : Nat) (h1 : w.cell? ⟨g, 1, none⟩ = some (.map (some bp))) (hp : w.heap[bp]? = some (mapObj intV (placesE ps) ps.length)) (hn : ps.length ≤ n) :
    Calls Try.prog 43 #[.pointer (some ⟨g, 0, none⟩), .int .i64 n] w fun e w' => e = .returned (.bool false) ∧ Up w w' := by
  have hg : g < w.heap.size := World.block_lt_of_cell? w _ h1
  have hlook : ∀ W : World, W.heap[bp]? = some (mapObj intV (placesE ps) ps.length) → (Instr.lookup 97 (.map (some bp)) (.int .i64 n) true).run Try.prog W = .ok (.tuple #[.agg #[.int .i64 0, .int .i64 0], .bool false]) W := by
    intro W hW
    have h := run_lookup_E (intKeys Try.underlying3) Try.underlying97 (zeroVec W) hW (n : Int) true
    rw [atE_places_none ps n hn] at h
    exact h
  go_enter Try.func43, Try.ntmps43
  go_wp2_with fail
  go_region_held3 (fun w' => w.heap.size < w'.heap.size ∧ w'.cell? ⟨g, 1, none⟩ = some (.map (some bp)) ∧ w'.cell? ⟨w.heap.size, 0, none⟩ = some (.int .i64 n) ∧ w'.heap[bp]? = some (mapObj intV (placesE ps) ps.length)) (first | (((try dsimp only); (repeat' apply And.intro) <;> (first | assumption | omega | ((try simp only [World.size_alloc, World.size_drew]); omega) | ((try simp only [World.size_alloc, World.size_drew] at hz ⊢); omega) | ((simp only [World.size_alloc, World.size_drew] at *); omega) | (rw [hc _ _ (by (try simp only [World.size_alloc, World.size_drew]); omega)]; go_simp) | ((repeat (first | assumption | (refine hk_alloc ?_ _) | (refine hk_set ?_ (by first | assumption | omega) _) | (refine hk_up (by assumption) ?_))); done) | go_keep))))
    (fail)
  all_goals
    go_wp2
    go_ret
    exact ⟨rfl, (by repeat (first | exact Up.refl _ | apply Up.drewN | apply Up.drew | apply Up.alloc | (refine Up.trans ?_ (by assumption))))⟩

set_option maxHeartbeats 1000000 in
/-- The cell of a place. -/
theorem of_any (w : World) (g : Nat) (x y : Int) (h0 : w.cell? ⟨g, 0, none⟩ = some (.int .i64 4194304)) (hx : I64 x) (hy : I64 y) :
    Calls Try.prog 44 #[.pointer (some ⟨g, 0, none⟩), .agg #[.int .i64 x, .int .i64 y]] w fun e w' => e = .returned (cellV (x / 4194304, y / 4194304)) ∧ Up w w' := by
  have hg : g < w.heap.size := World.block_lt_of_cell? w _ h0
  have hg1 : g ≠ w.heap.size := by omega
  have hg2 : g ≠ w.heap.size + 1 := by omega
  unfold cellV
  dsimp only
  go_enter Try.func44, Try.ntmps44
  go_wp2_with fail
  go_region_held3 (fun w' => w'.cell? ⟨g, 0, none⟩ = some (.int .i64 4194304) ∧ w'.cell? ⟨w.heap.size, 0, none⟩ = some (.int .i64 x) ∧ w'.cell? ⟨w.heap.size, 1, none⟩ = some (.int .i64 y)) (first | (((try dsimp only); (repeat' apply And.intro) <;> (first | assumption | omega | ((try simp only [World.size_alloc, World.size_drew]); omega) | ((try simp only [World.size_alloc, World.size_drew] at hz ⊢); omega) | ((simp only [World.size_alloc, World.size_drew] at *); omega) | (rw [hc _ _ (by (try simp only [World.size_alloc, World.size_drew]); omega)]; go_simp) | ((repeat (first | assumption | (refine hk_alloc ?_ _) | (refine hk_set ?_ (by first | assumption | omega) _) | (refine hk_up (by assumption) ?_))); done) | go_keep))))
    (first | (go_at_call 71; refine (down_any _ _ (by assumption)).mono ?_; rintro e w' ⟨rfl, rfl⟩))
  go_wp2
  refine bodyPost_ret (v := .agg #[.int .i64 (x / 4194304), .int .i64 (y / 4194304)]) (by simp [results, Try.results44, go_sem]) rfl ⟨rfl, ?_⟩
  exact (by repeat (first | exact Up.refl _ | apply Up.drewN | apply Up.drew | apply Up.alloc | (refine Up.trans ?_ (by assumption))))

/-- sorted. -/
theorem sorted_own (w : World) (v : Value) (base : Nat) (xs : List Int) (h : w.ownsRow base 3 1 v xs.length (xs.map cI)) (hsz : xs.length < 4611686018427387904) :
    Calls Try.prog 45 #[v, .func (.func 41) #[] #[]] w fun e w' => e = .returned v ∧
      w'.ownsRow base 3 1 v xs.length ((isort (ltOf cmpI) xs).map cI) ∧ w.grownBy w' v.ownBlock ∧ w.drawn ≤ w'.drawn := by
  have hs := fun W => sortInt_own W v base xs
  go_enter Try.func45, Try.ntmps45
  go_wp2_with fail
  refine (hs _ (by assumption) hsz).mono ?_
  rintro e w' ⟨rfl, h1, h2, h3⟩
  go_wp2
  go_ret
  exact ⟨rfl, h1, h2, h3⟩

theorem zeroInts (w : World) : (zeroValue 78).run Try.prog w = .ok (.slice none 0 0) w := by kernel_rfl
end Go.Proofs.Ytnjgkgbgmjoceaa
