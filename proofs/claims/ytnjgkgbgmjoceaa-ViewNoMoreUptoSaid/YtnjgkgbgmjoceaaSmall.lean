/-
  The small state, and that the program is alive.
-/
import Derived.Test.YtnjgkgbgmjoceaaAll
set_option linter.unusedSimpArgs false
set_option linter.unusedVariables false
namespace Go.Proofs.Ytnjgkgbgmjoceaa
open Go.RowKit Go.ChangeMaps Go.Sort

def nameless (p x y heading wait : Int) : Car := ⟨p, ⟨#[]⟩, x, y, 0, 0, heading, 0, 0, 0, 0, wait, 0, 0⟩
def smallCars : List Car := [nameless 0 0 0 0 0, nameless 1 65536 0 9 0, nameless 2 0 0 0 1, nameless 3 196608 0 0 0]
def smallShots : List Shot := [⟨4, 0, 131072, 0, 0, 0, 0⟩, ⟨7, 0, 65536, 0, 0, 0, 0⟩]

theorem reads_blk {α : Type} {enc : α → List Value} {k : Nat} (hk : ∀ x, (enc x).length = k) {w : World} {b : Nat} {e : TypeId} {fr : Nat × Nat} (xs : List α) (h : w.heap[b]? = some (.cells (flat enc xs).toArray e fr)) : Reads w enc k (some ⟨b, 0, none⟩) xs.length xs := by
  refine ⟨rfl, fun _ => ⟨b, 0, rfl, hk_lt h, fun i x j v hx hv => ?_⟩⟩
  have hj : j < k := by rw [← hk x]; exact (List.getElem?_eq_some_iff.1 hv).1
  have e1 := flat_get hk xs i j x hx hj
  rw [Nat.zero_add, hk_cell h, List.getElem?_toArray, e1, hv]
set_option maxRecDepth 100000 in
set_option maxHeartbeats 1000000 in
theorem small_any (w : World) :
    Calls Try.prog 18 #[] w fun e w' => ∃ gC gS, e = .returned (.agg #[.int .u64 3, .slice (some ⟨gC, 0, none⟩) 4 4, .slice (some ⟨gS, 0, none⟩) 2 2, .int .i64 8]) ∧
      Reads w' Car.enc 14 (some ⟨gC, 0, none⟩) 4 smallCars ∧ Reads w' Shot.enc 7 (some ⟨gS, 0, none⟩) 2 smallShots ∧ Below w.heap.size w w' := by
  go_enter Try.func18, Try.ntmps18
  go_wp2_with fail
  refine bodyPost_ret (results_cell_row rfl _ _ w.heap.size 26 _ (0, 0) _ rfl (hk_alloc (hk_alloc (heap_alloc_new w _) _) _) Try.underlying26 rfl (by kernel_rfl)) rfl ?_
  refine ⟨w.heap.size + 1, w.heap.size + 1 + 1, rfl, ?_, ?_, ((((Up.refl w).alloc _).alloc _).alloc _).below⟩
  · exact reads_blk (enc := Car.enc) (k := 14) (e := 33) (fr := (0, 0)) (fun _ => rfl) smallCars (hk_alloc (alloc_at (World.size_alloc _ _) _) _)
  · exact reads_blk (enc := Shot.enc) (k := 7) (e := 45) (fr := (0, 0)) (fun _ => rfl) smallShots (alloc_at ((World.size_alloc _ _).trans (congrArg (· + 1) (World.size_alloc _ _))) _)
end Go.Proofs.Ytnjgkgbgmjoceaa
