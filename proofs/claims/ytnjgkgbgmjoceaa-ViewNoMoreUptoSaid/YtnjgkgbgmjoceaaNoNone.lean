/-
  The walk of ViewNoMore.
-/
import Derived.Test.YtnjgkgbgmjoceaaTurn
import Derived.Outline
set_option linter.unusedSimpArgs false
set_option linter.unusedVariables false
namespace Go.Proofs.Ytnjgkgbgmjoceaa
open Go.RowKit Go.ChangeMaps Go.Sort

set_option maxRecDepth 100000 in
set_option maxHeartbeats 4000000 in
theorem noMore_none (w : World) (tick next player radius «show» : Int) (CA SA : Option Addr) (nc cc ns cs : Nat) (cars : List Car) (shots : List Shot)
    (hC : Reads w Car.enc 14 CA nc cars) (hS : Reads w Shot.enc 7 SA ns shots) (hrc : nc ≤ 1073741824) (hrs : ns ≤ 1073741824) (hoc : ∀ c ∈ cars, c.ok) (hos : ∀ c ∈ shots, c.ok) (hfi : cars.findIdx? (fun c => decide (c.player = player)) = none) :
    Calls Try.prog 3 #[.agg #[.int .u64 tick, .slice CA nc cc, .slice SA ns cs, .int .i64 next], .agg #[.int .i64 player, .int .i64 radius, .int .i64 «show»]] w fun e w' => e = .returned (.bool true) ∧ Below w.heap.size w w' := by
  go_enter Try.func3, Try.ntmps3
  go_wp2_with fail
  refine (alive_any _).mono ?_
  rintro e w1 ⟨rfl, hb1⟩
  have hst1 : w1.heap[w.heap.size]? = some (.cells #[.int .u64 tick, .slice CA nc cc, .slice SA ns cs, .int .i64 next] 26 (0, 0)) := (hb1.block _ (by simp <;> omega)).trans (hk_alloc (heap_alloc_new w _) _)
  have has1 : w1.heap[w.heap.size + 1]? = some (.cells #[.int .i64 player, .int .i64 radius, .int .i64 «show»] 28 (0, 0)) := (hb1.block _ (by simp <;> omega)).trans (alloc_at (by simp) _)
  have hbw1 : Below w.heap.size w w1 := (by repeat (first | exact Below.refl _ _ | refine balloc ?_ _ | refine bdrew ?_ | refine bdrewN ?_ _ | (refine bstep ?_ (by assumption)) | (refine bstep ?_ (Up.below (by assumption)))))
  have s0 : w1.cell? ⟨w.heap.size, 0, none⟩ = some (.int .u64 tick) := hk_cell hst1 0
  have s1 : w1.cell? ⟨w.heap.size, 1, none⟩ = some (.slice CA nc cc) := hk_cell hst1 1
  have s2 : w1.cell? ⟨w.heap.size, 2, none⟩ = some (.slice SA ns cs) := hk_cell hst1 2
  have s3 : w1.cell? ⟨w.heap.size, 3, none⟩ = some (.int .i64 next) := hk_cell hst1 3
  have a0 : w1.cell? ⟨w.heap.size + 1, 0, none⟩ = some (.int .i64 player) := hk_cell has1 0
  have a1 : w1.cell? ⟨w.heap.size + 1, 1, none⟩ = some (.int .i64 radius) := hk_cell has1 1
  have a2 : w1.cell? ⟨w.heap.size + 1, 2, none⟩ = some (.int .i64 «show») := hk_cell has1 2
  have hC1 := hC.below hbw1
  have hS1 := hS.below hbw1
  have hof := of_none w1 tick next player radius «show» CA SA nc cc ns cs cars hC1 hrc hfi
  go_wp2_with fail
  refine hof.mono ?_
  rintro e w2 ⟨rfl, hb2⟩
  have hst2 := (hb2.block _ (hk_lt hst1)).trans hst1
  have has2 := (hb2.block _ (hk_lt has1)).trans has1
  clear s0 s1 s2 s3 a0 a1 a2 hof
  have hbw2 : Below w.heap.size w w2 := (by repeat (first | exact Below.refl _ _ | refine balloc ?_ _ | refine bdrew ?_ | refine bdrewN ?_ _ | (refine bstep ?_ (by assumption)) | (refine bstep ?_ (Up.below (by assumption)))))
  have hpl := fun W (hb : Below w.heap.size w W) => own_any W tick next player CA SA nc cc ns cs cars (hC.below hb) hrc
  have hst3 := fun o => hk_alloc hst2 o
  have has3 := fun o => hk_alloc has2 o
  have s0 := fun o => hk_cell (hst3 o) 0
  have s1 := fun o => hk_cell (hst3 o) 1
  have s2 := fun o => hk_cell (hst3 o) 2
  have s3 := fun o => hk_cell (hst3 o) 3
  have a0 := fun o => hk_cell (has3 o) 0
  go_wp2_with fail
  refine (hpl _ (by repeat (first | exact Below.refl _ _ | refine balloc ?_ _ | refine bdrew ?_ | refine bdrewN ?_ _ | (refine bstep ?_ (by assumption)) | (refine bstep ?_ (Up.below (by assumption)))))).mono ?_
  rintro e w3 ⟨he, hb3⟩
  obtain ⟨-, rfl⟩ := he.resolve_left (fun ⟨k, own, h1, _⟩ => by rw [hfi] at h1; cases h1)
  simp only [Car.val]
  have hv3 := fun o => hk_alloc ((hb3.block _ (by simp)).trans (heap_alloc_new w2 (.cells #[.int .u64 0, .int .i64 0, .string { data := #[] }, .int .i64 0, .int .i64 0, .int .i64 0, .int .i64 0, .int .i64 0, .int .i64 0, .int .i64 0, .int .i64 0, .int .i64 0, .int .i64 0, .int .i64 0, .int .i64 0, .slice none 0 0] 36))) o
  have v15 := fun o => hk_cell (hv3 o) 15
  clear s0 s1 s2 s3 a0 hpl
  go_wp2_with fail
  go_ret
  exact ⟨rfl, (by repeat (first | exact Below.refl _ _ | refine balloc ?_ _ | refine bdrew ?_ | refine bdrewN ?_ _ | (refine bstep ?_ (by assumption)) | (refine bstep ?_ (Up.below (by assumption)))))⟩
end Go.Proofs.Ytnjgkgbgmjoceaa
