/-
  The program is alive.
-/
import Derived.Test.YtnjgkgbgmjoceaaSmall
set_option linter.unusedSimpArgs false
set_option linter.unusedVariables false
namespace Go.Proofs.Ytnjgkgbgmjoceaa
open Go.RowKit Go.ChangeMaps Go.Sort

theorem bstep {w a b : World} (h : Below w.heap.size w a) (k : Below a.heap.size a b) : Below w.heap.size w b := h.trans (k.mono h.size)
theorem balloc {w a : World} (h : Below w.heap.size w a) (o : Obj) : Below w.heap.size w (a.alloc o) := bstep h ((Up.refl a).alloc o).below
theorem bdrew {w a : World} (h : Below w.heap.size w a) : Below w.heap.size w a.drew := bstep h ((Up.refl a).drew).below
theorem bdrewN {w a : World} (h : Below w.heap.size w a) (n : Nat) : Below w.heap.size w (a.drewN n) := bstep h ((Up.refl a).drewN n).below
theorem small_seen : seenOf smallCars smallShots (nameless 0 0 0 0 0) 0 5 2 = [⟨1, 1, 65536, 0, 9⟩, ⟨2, 7, 65536, 0, 0⟩] := by decide +kernel
theorem small_players : (playersOf smallCars).length = 4 := by
  have h : sortedL (smallCars.map (·.player)) = [0, 1, 2, 3] := by
    unfold sortedL
    exact List.mergeSort_of_pairwise (by decide)
  unfold playersOf
  rw [h]
  decide +kernel
theorem small_ok : (∀ c ∈ smallCars, c.ok) ∧ (∀ c ∈ smallShots, c.ok) := by
  constructor
  · intro c hc
    simp [smallCars, nameless] at hc
    rcases hc with rfl | rfl | rfl | rfl <;> simp [Car.ok, I64]
  · intro c hc
    simp [smallShots] at hc
    rcases hc with rfl | rfl <;> simp [Shot.ok, I64]

set_option maxRecDepth 100000 in
set_option maxHeartbeats 2000000 in
theorem alive_any (w : World) : Calls Try.prog 6 #[] w fun e w' => e = .returned (.bool true) ∧ Below w.heap.size w w' := by
  go_enter Try.func6, Try.ntmps6
  go_wp2_with fail
  refine (small_any _).mono ?_
  rintro e w1 ⟨gC, gS, rfl, hC, hS, hb1⟩
  have hof := of_some w1 3 8 0 5 2 _ _ 4 4 2 2 smallCars smallShots hC hS (by omega) (by omega) small_ok.1 small_ok.2 0 (nameless 0 0 0 0 0) (by decide +kernel) rfl
  simp only [small_seen] at hof
  simp only [nameless] at hof
  go_wp2_with fail
  refine hof.mono ?_
  rintro e w2 ⟨vN, rfl, hoN, hb2⟩
  obtain ⟨AN, cN, rfl, hN⟩ := own_blk seen_len hoN
  obtain ⟨gN, curN, rfl, -, -, hgN, hcN⟩ := hN (by decide)
  clear hof
  go_wp2_with fail
  refine (small_any _).mono ?_
  rintro e w3 ⟨gC3, gS3, rfl, hC3, hS3, hb3⟩
  have hof := of_none w3 3 8 9 5 2 (some ⟨gC3, 0, none⟩) (some ⟨gS3, 0, none⟩) 4 4 2 2 smallCars hC3 (by omega) (by decide +kernel)
  go_wp2_with fail
  refine hof.mono ?_
  rintro e w4 ⟨rfl, hb4⟩
  have hv4 := (hb4.block w2.heap.size (Nat.lt_of_lt_of_le (by simp) hb3.size)).trans ((hb3.block w2.heap.size (by simp)).trans (heap_alloc_new w2 _))
  have v0 := fun o => hk_cell (hk_alloc hv4 o) 0
  have hgN4 := (hb4.block gN (Nat.lt_of_lt_of_le (Nat.lt_of_lt_of_le (hk_lt hgN) (by simp)) hb3.size)).trans ((hb3.block gN (Nat.lt_of_lt_of_le (hk_lt hgN) (by simp))).trans (hk_alloc hgN _))
  have v15 := fun o => hk_cell (hk_alloc hv4 o) 15
  have q0 : ∀ o, (w4.alloc o).cell? ⟨gN, 0, none⟩ = some (.int .i64 1) := fun o => (hk_cell (hk_alloc hgN4 o) 0).trans (hcN 0 _ 0 _ rfl rfl)
  have q1 : ∀ o, (w4.alloc o).cell? ⟨gN, 1, none⟩ = some (.int .i64 1) := fun o => (hk_cell (hk_alloc hgN4 o) 1).trans (hcN 0 _ 1 _ rfl rfl)
  have q2 : ∀ o, (w4.alloc o).cell? ⟨gN, 2, none⟩ = some (.int .i64 65536) := fun o => (hk_cell (hk_alloc hgN4 o) 2).trans (hcN 0 _ 2 _ rfl rfl)
  have q3 : ∀ o, (w4.alloc o).cell? ⟨gN, 3, none⟩ = some (.int .i64 0) := fun o => (hk_cell (hk_alloc hgN4 o) 3).trans (hcN 0 _ 3 _ rfl rfl)
  have q4 : ∀ o, (w4.alloc o).cell? ⟨gN, 4, none⟩ = some (.int .i64 9) := fun o => (hk_cell (hk_alloc hgN4 o) 4).trans (hcN 0 _ 4 _ rfl rfl)
  have q6 : ∀ o, (w4.alloc o).cell? ⟨gN, 6, none⟩ = some (.int .i64 7) := fun o => (hk_cell (hk_alloc hgN4 o) 6).trans (hcN 1 _ 1 _ rfl rfl)
  have hse := fun W => seen_binop ⟨1, 1, 65536, 0, 9⟩ ⟨1, 1, 65536, 0, 9⟩ W
  simp only [Seen.val, decide_true] at hse
  go_wp2_with fail
  refine (small_any _).mono ?_
  rintro e w5 ⟨gC5, gS5, rfl, hC5, hS5, hb5⟩
  have hall := all_any w5 3 8 5 32 _ _ 4 4 2 2 smallCars smallShots hC5 hS5 (by omega) (by omega) small_ok.1 small_ok.2
  go_wp2_with fail
  refine hall.mono ?_
  rintro e w6 ⟨v, vs, rfl, hvs, hI⟩
  have hvl : vs.length = 4 := by
    have := congrArg List.length hvs
    rw [List.length_map, List.length_map, small_players] at this
    exact this
  obtain ⟨AV, cV, rfl, -⟩ := own_blk (encView_len 3) hI.row
  rw [hvl]
  go_wp2_with fail
  go_ret
  have hb6 := hI.below
  exact ⟨rfl, (by repeat (first | exact Below.refl _ _ | refine balloc ?_ _ | refine bdrew ?_ | refine bdrewN ?_ _ | (refine bstep ?_ (by assumption)) | (refine bstep ?_ (Up.below (by assumption)))))⟩
end Go.Proofs.Ytnjgkgbgmjoceaa
